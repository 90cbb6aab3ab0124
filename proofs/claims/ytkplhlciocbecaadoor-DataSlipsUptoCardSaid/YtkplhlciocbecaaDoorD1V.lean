/- Data: what the comparisons come to. -/
import Derived.Test.YtkplhlciocbecaaDoorD1C
namespace Go.Proofs.YtkplhlciocbecaaDoor.Vf
open Go.Vx Go.Vx.Da Go.RowKit

theorem nanInt_spec (x : Int) (w : World) : Calls Tryd.prog 27 #[.int .i64 x] w fun e w' => e = .returned (.bool false) ∧ w = w' := by
  refine (nanInt.calls (R := fun v w' => v = .bool false ∧ w = w') ?_).mono (fun e w' ⟨v, h1, h2, h3⟩ => ⟨by rw [h1, h2], h3⟩)
  unfold nanInt.W
  exact ⟨by simp, rfl⟩
theorem nanStr_spec (x : ByteArray) (w : World) : Calls Tryd.prog 28 #[.string x] w fun e w' => e = .returned (.bool false) ∧ w = w' := by
  refine (nanStr.calls (R := fun v w' => v = .bool false ∧ w = w') ?_).mono (fun e w' ⟨v, h1, h2, h3⟩ => ⟨by rw [h1, h2], h3⟩)
  unfold nanStr.W
  exact ⟨by simp, rfl⟩
theorem cmpInt_spec (x y : Int) (w : World) : Calls Tryd.prog 21 #[.int .i64 x, .int .i64 y] w fun e w' => e = .returned (.int .i64 (cmpI x y)) ∧ w = w' := by
  refine (cmpInt.calls (R := fun v w' => v = .int .i64 (cmpI x y) ∧ w = w') ?_).mono (fun e w' ⟨v, h1, h2, h3⟩ => ⟨by rw [h1, h2], h3⟩)
  unfold cmpInt.W
  refine (nanInt_spec x w).mono ?_
  rintro e _ ⟨rfl, rfl⟩
  refine ⟨_, rfl, (nanInt_spec y _).mono ?_⟩
  rintro e _ ⟨rfl, rfl⟩
  refine ⟨_, rfl, ?_⟩
  refine ifD (fun h => ⟨by rw [cmpI, if_pos h], rfl⟩) (fun h => ifD (fun h' => ⟨by rw [cmpI, if_neg h, if_pos h'], rfl⟩) (fun h' => ⟨by rw [cmpI, if_neg h, if_neg h'], rfl⟩))
theorem cmpStr_spec (x y : ByteArray) (w : World) : Calls Tryd.prog 23 #[.string x, .string y] w fun e w' => e = .returned (.int .i64 (cmpB x.toList y.toList)) ∧ w = w' := by
  refine (cmpStr.calls (R := fun v w' => v = .int .i64 (cmpB x.toList y.toList) ∧ w = w') ?_).mono (fun e w' ⟨v, h1, h2, h3⟩ => ⟨by rw [h1, h2], h3⟩)
  unfold cmpStr.W
  refine (nanStr_spec x w).mono ?_
  rintro e _ ⟨rfl, rfl⟩
  refine ⟨_, rfl, (nanStr_spec y _).mono ?_⟩
  rintro e _ ⟨rfl, rfl⟩
  refine ⟨_, rfl, ?_⟩
  refine ifB (fun h => nomatch h) fun _ => ifB (fun h => nomatch h) fun _ => ifB (fun h => ⟨by rw [cmpB, if_pos h], rfl⟩) (fun h => ifN (fun h' => ?_) (fun h' => ?_))
  · rw [h, Bool.false_or, beq_eq_false_iff_ne] at h'
    exact ⟨by rw [cmpB, if_neg (by rw [h]; decide), if_neg h'], rfl⟩
  · rw [h, Bool.false_or, beq_iff_eq] at h'
    exact ⟨by rw [cmpB, if_neg (by rw [h]; decide), if_pos h'], rfl⟩
theorem cmpOr_spec (x y : Int) (b : Nat) (w : World) (t : TypeId) (fr : Nat × Nat) (h : w.heap[b]? = some (.cells #[.int .i64 x, .int .i64 y] t fr)) :
    Calls Tryd.prog 22 #[.slice (some ⟨b, 0, none⟩) 2 2] w fun e w' => e = .returned (.int .i64 (lex x y)) ∧ w = w' := by
  refine (cmpOr.calls (R := fun v w' => v = .int .i64 (lex x y) ∧ w = w') ?_).mono (fun e w' ⟨v, h1, h2, h3⟩ => ⟨by rw [h1, h2], h3⟩)
  unfold cmpOr.W
  refine ⟨fun us w2 => w = w2 ∧ (us = [.int .i64 0] ∨ (us = [.int .i64 1] ∧ x = 0) ∨ us = [.int .i64 2] ∧ x = 0 ∧ y = 0), fun us _ => match us with | [.int _ j] => 2 - j.toNat | _ => 0, ⟨rfl, .inl rfl⟩, ?_⟩
  rintro _ us _ ⟨rfl, rfl | ⟨rfl, rfl⟩ | ⟨rfl, rfl, rfl⟩⟩
  · refine ⟨_, rfl, ifD (fun _ => ?_) (fun h => absurd (by decide) h)⟩
    refine ⟨b, 0, rfl, by decide, by decide, _, cell_of_block h rfl, ifNE (fun hx => ⟨by rw [lex, if_pos hx], rfl⟩) (fun hx => ?_)⟩
    exact ⟨⟨rfl, .inr (.inl ⟨rfl, hx⟩)⟩, (show 2 - Int.toNat (IntKind.i64.wrap (0 + 1)) < 2 - Int.toNat 0 by decide)⟩
  · refine ⟨_, rfl, ifD (fun _ => ?_) (fun h => absurd (by decide) h)⟩
    refine ⟨b, 0, rfl, by decide, by decide, _, cell_of_block h rfl, ifNE (fun hx => ⟨rfl, rfl⟩) (fun hx => ?_)⟩
    exact ⟨⟨rfl, .inr (.inr ⟨rfl, rfl, hx⟩)⟩, (show 2 - Int.toNat (IntKind.i64.wrap (1 + 1)) < 2 - Int.toNat 1 by decide)⟩
  · exact ⟨_, rfl, ifD (fun h => absurd h (by decide)) (fun _ => ⟨rfl, rfl⟩)⟩

theorem lex_ne {x y : Int} (h : x ≠ 0) : lex x y = x := by rw [lex, if_pos h]
theorem cmpL_drop {l m : List D} {j : Nat} (h : j < l.length) (h' : j < m.length) : cmpL (l.drop j) (m.drop j) = lex (cmpD l[j] m[j]) (cmpL (l.drop (j + 1)) (m.drop (j + 1))) := by
  rw [List.drop_eq_getElem_cons h, List.drop_eq_getElem_cons h']; rfl

theorem lt_of_block {w : World} {b : Nat} {o : Obj} (h : w.heap[b]? = some o) : b < w.heap.size := by
  rcases Nat.lt_or_ge b w.heap.size with h1 | h1
  · exact h1
  · rw [Array.getElem?_eq_none h1] at h; cases h

/-- the loop over two rows of arguments -/
def LoopInv (w : World) (d e : D) (v v' : Obj) (us : List Value) (w2 : World) : Prop :=
  ∃ j : Nat, j ≤ d.args.length ∧ us = [.int .i64 j] ∧ cmpL d.args e.args = cmpL (d.args.drop j) (e.args.drop j) ∧ Below w.heap.size w w2 ∧ w2.heap[w.heap.size]? = some v ∧ w2.heap[w.heap.size + 1]? = some v'

theorem len_of_ctor {d : D} (hc : d.ctor = true) (hn : nodes d ≤ 4096) : d.args.length ≤ 4096 := by
  have := len_nodesL d.args
  rw [nodes_ctor hc] at hn; omega
theorem nodes_arg {d : D} (hc : d.ctor = true) (hn : nodes d ≤ 4096) {j : Nat} (h : j < d.args.length) : nodes d.args[j] ≤ 4096 := by
  have := nodesL_mem (List.getElem_mem h)
  rw [nodes_ctor hc] at hn; omega

theorem Compare_spec : ∀ (k : Nat) (d : D), SizeOf.sizeOf d < k → ∀ (e : D) (B : Nat) (w : World) (vs us : List Value), Rep B w d vs → Rep B w e us → nodes d ≤ 4096 → B ≤ w.heap.size →
    Calls Tryd.prog 11 #[.agg vs.toArray, .agg us.toArray] w fun x w' => x = .returned (.int .i64 (cmpD d e)) ∧ Below w.heap.size w w' := by
  intro k
  induction k with
  | zero => intro d h; omega
  | succ k ih =>
  intro d hk e B w vs us hr hr' hn hB
  obtain ⟨a, m, cs, rfl, hm, ha, hrs⟩ := hr.form
  obtain ⟨a', m', cs', rfl, hm', ha', hrs'⟩ := hr'.form
  refine (Compare.calls (R := fun v w' => v = .int .i64 (cmpD d e) ∧ Below w.heap.size w w') ?_).mono (fun x w' ⟨v, h1, h2, h3⟩ => ⟨by rw [h1, h2], h3⟩)
  unfold Compare.W
  refine box fun w13 at13 hb13 hs13 => ?_
  refine box fun w14 at14' hb14 hs14 => ?_
  have hb14' : Below w.heap.size w w14 := hb13.trans (hb14.mono (by omega))
  have at14 := block_below hb14 (by omega) at13
  refine ⟨_, cell_of_block at14 rfl, ifN (fun hc => ?_) (fun hc => ?_)⟩
  · refine ⟨_, cell_of_block at14' rfl, ifN (fun hc' => ?_) (fun hc' => ?_)⟩
    · refine ⟨_, cell_of_block at14 rfl, _, cell_of_block at14' rfl, (cmpInt_spec _ _ _).mono ?_⟩
      rintro _ _ ⟨rfl, rfl⟩
      exact ⟨_, rfl, by rw [cmpD_ii hc hc'], hb14'⟩
    · refine ⟨_, cell_of_block at14 rfl, ifN (fun _ => ⟨by rw [cmpD_ic hc hc'], hb14'⟩) (fun h => ?_)⟩
      rw [hc] at h; cases h
  · refine ⟨_, cell_of_block at14 rfl, ifN (fun h => ?_) (fun _ => ?_)⟩
    · rw [hc] at h; cases h
    refine ⟨_, cell_of_block at14' rfl, ifN (fun hc' => ⟨by rw [cmpD_ci hc hc'], hb14'⟩) (fun hc' => ?_)⟩
    refine drewStep fun w24 e24 hb24 => ?_
    have at24 : w24.heap[w.heap.size]? = _ := e24 ▸ at14
    have at24' : w24.heap[w13.heap.size]? = _ := e24 ▸ at14'
    refine ⟨_, cell_of_block at24 rfl, _, cell_of_block at24' rfl, _, _, _, cell_of_block at24 rfl, _, _, _, cell_of_block at24' rfl, (cmpStr_spec _ _ _).mono ?_⟩
    rintro _ _ ⟨rfl, rfl⟩
    refine ⟨_, rfl, cellsAt_of_block at24' [_] 3 rfl, cellsAt_of_block at24 [_] 3 rfl, (cmpInt_spec _ _ _).mono ?_⟩
    rintro _ _ ⟨rfl, rfl⟩
    refine ⟨_, rfl, box fun w39 at39 hb39 hs39 => (cmpOr_spec _ _ _ _ _ _ at39).mono ?_⟩
    rintro _ _ ⟨rfl, rfl⟩
    have hs24 : w24.heap.size = w.heap.size + 2 := by rw [e24]; omega
    have hb39' : Below w.heap.size w w39 := (hb14'.trans (hb24.mono (by omega))).trans (hb39.mono (by omega))
    have a39 := block_below hb39 (by omega) at24
    have a39' := block_below hb39 (by omega) at24'
    have hl := len_of_ctor hc hn
    refine ⟨_, rfl, ifNE (fun h => ⟨by rw [cmpD_cc hc hc', lex_ne h], hb39'⟩) (fun h => ?_)⟩
    have he : d.args.length = e.args.length := by
      unfold lex cmpI at h
      split at h
      · contradiction
      · split at h
        · cases h
        · split at h
          · cases h
          · omega
    rw [hs13] at a39' ⊢
    refine ⟨_, _, _, cell_of_block a39 rfl, LoopInv w d e _ _, fun us _ => match us with | [.int _ j] => d.args.length - j.toNat | _ => 0, ⟨0, Nat.zero_le _, rfl, rfl, hb39', a39, a39'⟩, ?_⟩
    rintro _ us w48 ⟨j, hj, rfl, hL, hb48, at48, at48'⟩
    refine ⟨_, rfl, ifD (fun hlt => ?_) (fun hge => ?_)⟩
    · have hlt' : j < d.args.length := by omega
      have hlt'' : j < e.args.length := by omega
      refine drewStep fun w52 e52 hb52 => ?_
      have h48 := hb48.size
      have hb52' : Below w.heap.size w w52 := hb48.trans (hb52.mono h48)
      have at52 : w52.heap[w.heap.size]? = _ := e52 ▸ at48
      have at52' : w52.heap[w.heap.size + 1]? = _ := e52 ▸ at48'
      have hz := lt_of_block at52'
      obtain ⟨b, o, a1, m1, rfl, hc1, hr1⟩ := arg_at hB hb52' ha hrs hlt'
      obtain ⟨b', o', a2, m2, rfl, hc2, hr2⟩ := arg_at hB hb52' ha' hrs' hlt''
      refine ⟨_, _, _, cell_of_block at52 rfl, b, o, rfl, by omega, hlt, _, _, _, _, _, _, hc1, _, _, _, cell_of_block at52' rfl, b', o', rfl, by omega, by omega, _, _, _, _, _, _, hc2, ?_⟩
      refine (ih d.args[j] (by have := sizeOf_arg d j hlt'; omega) e.args[j] B w52 _ _ hr1 hr2 (nodes_arg hc hn hlt') (by omega)).mono ?_
      rintro _ w75 ⟨rfl, hb75⟩
      have hb75' : Below w.heap.size w w75 := hb52'.trans (hb75.mono (by omega))
      rw [cmpL_drop hlt' hlt''] at hL
      refine ⟨_, rfl, ifNE (fun hne => ⟨?_, hb75'⟩) (fun heq => ?_)⟩
      · rw [cmpD_cc hc hc', h, lex_zero, hL, lex, if_pos hne]
      · rw [heq, lex_zero] at hL
        rw [w64 (x := (j : Int) + 1) (by omega) (by omega)]
        refine ⟨⟨j + 1, hlt', rfl, hL, hb75', block_below hb75 (by omega) at52, block_below hb75 (by omega) at52'⟩, ?_⟩
        simp only [Int.toNat_natCast]; omega
    · have : j = d.args.length := by omega
      subst this
      refine ⟨?_, hb48⟩
      rw [cmpD_cc hc hc', h, lex_zero, hL, List.drop_length]
      rfl

theorem refCompare_spec : ∀ (k : Nat) (d : D), SizeOf.sizeOf d < k → ∀ (e : D) (B : Nat) (w : World) (vs us : List Value), Rep B w d vs → Rep B w e us → nodes d ≤ 4096 → B ≤ w.heap.size →
    Calls Tryd.prog 12 #[.agg vs.toArray, .agg us.toArray] w fun x w' => x = .returned (.int .i64 (cmpD d e)) ∧ Below w.heap.size w w' := by
  intro k
  induction k with
  | zero => intro d h; omega
  | succ k ih =>
  intro d hk e B w vs us hr hr' hn hB
  obtain ⟨a, m, cs, rfl, hm, ha, hrs⟩ := hr.form
  obtain ⟨a', m', cs', rfl, hm', ha', hrs'⟩ := hr'.form
  refine (refCompare.calls (R := fun v w' => v = .int .i64 (cmpD d e) ∧ Below w.heap.size w w') ?_).mono (fun x w' ⟨v, h1, h2, h3⟩ => ⟨by rw [h1, h2], h3⟩)
  unfold refCompare.W
  refine box fun w13 at13 hb13 hs13 => ?_
  refine box fun w14 at14' hb14 hs14 => ?_
  have hb14' : Below w.heap.size w w14 := hb13.trans (hb14.mono (by omega))
  have at14 := block_below hb14 (by omega) at13
  refine ⟨_, cell_of_block at14 rfl, ifN (fun hc => ?_) (fun hc => ?_)⟩
  · refine ⟨_, cell_of_block at14 rfl, ifB (fun h => ?_) (fun _ => ?_)⟩
    · rw [hc] at h; cases h
    refine ⟨_, cell_of_block at14' rfl, ifB (fun hc' => ⟨by rw [cmpD_ic hc hc'], hb14'⟩) (fun hc' => ?_)⟩
    refine ⟨_, cell_of_block at14 rfl, _, cell_of_block at14' rfl, ifD (fun h => ⟨by rw [cmpD_ii hc hc', cmpI, if_pos h], hb14'⟩) (fun h => ?_)⟩
    refine ⟨_, cell_of_block at14 rfl, _, cell_of_block at14' rfl, ifD (fun h' => ⟨by rw [cmpD_ii hc hc', cmpI, if_neg h, if_pos h'], hb14'⟩) (fun h' => ⟨by rw [cmpD_ii hc hc', cmpI, if_neg h, if_neg h'], hb14'⟩)⟩
  · refine ⟨_, cell_of_block at14' rfl, ifN (fun hc' => ?_) (fun hc' => ?_)⟩
    · refine ⟨_, cell_of_block at14 rfl, ifB (fun _ => ⟨by rw [cmpD_ci hc hc'], hb14'⟩) (fun h => ?_)⟩
      rw [hc] at h; cases h
    refine ⟨_, cell_of_block at14 rfl, _, cell_of_block at14' rfl, ifB (fun h => ⟨?_, hb14'⟩) (fun hls => ?_)⟩
    · rw [cmpD_cc hc hc', cmpB, if_pos h]; rfl
    refine ⟨_, cell_of_block at14 rfl, _, cell_of_block at14' rfl, ifB (fun heq => ?_) (fun hne => ?_)⟩
    · have hB0 : cmpB d.name.toList e.name.toList = 0 := by rw [cmpB, if_neg (by rw [hls]; decide), if_pos (eq_of_beq heq)]
      have hcc := cmpD_cc hc hc'
      rw [hB0, lex_zero] at hcc
      refine ⟨_, _, _, cell_of_block at14 rfl, _, _, _, cell_of_block at14' rfl, ifD (fun h => ⟨?_, hb14'⟩) (fun hl1 => ?_)⟩
      · rw [hcc, cmpI, if_pos h]; rfl
      refine ⟨_, cell_of_block at14 rfl, _, cell_of_block at14' rfl, ifN (fun h => ?_) (fun _ => ?_)⟩
      · rw [heq, Bool.or_true] at h; cases h
      refine ⟨_, _, _, cell_of_block at14 rfl, _, _, _, cell_of_block at14' rfl, ifD (fun h => ⟨?_, hb14'⟩) (fun hl2 => ?_)⟩
      · rw [hcc, cmpI, if_neg hl1, if_pos h]; rfl
      have hl := len_of_ctor hc hn
      have he : d.args.length = e.args.length := by omega
      rw [cmpI, if_neg hl1, if_neg hl2, lex_zero] at hcc
      rw [hs13] at at14' ⊢
      refine ⟨_, _, _, cell_of_block at14 rfl, LoopInv w d e _ _, fun us _ => match us with | [.int _ j] => d.args.length - j.toNat | _ => 0, ⟨0, Nat.zero_le _, rfl, rfl, hb14', at14, at14'⟩, ?_⟩
      rintro _ us w48 ⟨j, hj, rfl, hL, hb48, at48, at48'⟩
      refine ⟨_, rfl, ifD (fun hlt => ?_) (fun hge => ?_)⟩
      · have hlt' : j < d.args.length := by omega
        have hlt'' : j < e.args.length := by omega
        refine drewStep fun w52 e52 hb52 => ?_
        have h48 := hb48.size
        have hb52' : Below w.heap.size w w52 := hb48.trans (hb52.mono h48)
        have at52 : w52.heap[w.heap.size]? = _ := e52 ▸ at48
        have at52' : w52.heap[w.heap.size + 1]? = _ := e52 ▸ at48'
        have hz := lt_of_block at52'
        obtain ⟨b, o, a1, m1, rfl, hc1, hr1⟩ := arg_at hB hb52' ha hrs hlt'
        obtain ⟨b', o', a2, m2, rfl, hc2, hr2⟩ := arg_at hB hb52' ha' hrs' hlt''
        refine ⟨_, _, _, cell_of_block at52 rfl, b, o, rfl, by omega, hlt, _, _, _, _, _, _, hc1, _, _, _, cell_of_block at52' rfl, b', o', rfl, by omega, by omega, _, _, _, _, _, _, hc2, ?_⟩
        refine (ih d.args[j] (by have := sizeOf_arg d j hlt'; omega) e.args[j] B w52 _ _ hr1 hr2 (nodes_arg hc hn hlt') (by omega)).mono ?_
        rintro _ w75 ⟨rfl, hb75⟩
        have hb75' : Below w.heap.size w w75 := hb52'.trans (hb75.mono (by omega))
        rw [cmpL_drop hlt' hlt''] at hL
        refine ⟨_, rfl, ifNE (fun hne => ⟨?_, hb75'⟩) (fun heq => ?_)⟩
        · rw [hcc, hL, lex, if_pos hne]
        · rw [heq, lex_zero] at hL
          rw [w64 (x := (j : Int) + 1) (by omega) (by omega)]
          refine ⟨⟨j + 1, hlt', rfl, hL, hb75', block_below hb75 (by omega) at52, block_below hb75 (by omega) at52'⟩, ?_⟩
          simp only [Int.toNat_natCast]; omega
      · have : j = d.args.length := by omega
        subst this
        refine ⟨?_, hb48⟩
        rw [hcc, hL, List.drop_length]
        rfl
    · refine ⟨_, cell_of_block at14 rfl, _, cell_of_block at14' rfl, ifN (fun _ => ⟨?_, hb14'⟩) (fun h => ?_)⟩
      · have : cmpB d.name.toList e.name.toList = 1 := by rw [cmpB, if_neg (by rw [hls]; decide), if_neg (by simpa using hne)]
        rw [cmpD_cc hc hc', this]; rfl
      · rw [hls, hne] at h; cases h

theorem DataOrders_spec (tE : Nat) (xL xD : Value) (d e f : D) (B : Nat) (w : World) (vs us ts : List Value) (hr : Rep B w d vs) (hr' : Rep B w e us) (hr'' : Rep B w f ts) (hB : B ≤ w.heap.size) (hg : Glob w tE xL xD) :
    Calls Tryd.prog 4 #[.agg vs.toArray, .agg us.toArray, .agg ts.toArray] w fun x w' => x = .returned (.bool true) ∧ Below w.heap.size w w' := by
  obtain ⟨a, m, cs, rfl, hm, ha, hrs⟩ := hr.form
  obtain ⟨a', m', cs', rfl, hm', ha', hrs'⟩ := hr'.form
  obtain ⟨a'', m'', cs'', rfl, hm'', ha'', hrs''⟩ := hr''.form
  refine (DataOrders.calls (R := fun v w' => v = .bool true ∧ Below w.heap.size w w') ?_).mono (fun e w' ⟨v, h1, h2, h3⟩ => ⟨by rw [h1, h2], h3⟩)
  unfold DataOrders.W
  refine box fun w19 A0 hb19 hs19 => ?_
  refine box fun w20 B0 hb20 hs20 => ?_
  refine box fun w21 C0 hb21 hs21 => ?_
  have b20 : Below w.heap.size w w20 := hb19.trans (hb20.mono (by omega))
  have b21 : Below w.heap.size w w21 := b20.trans (hb21.mono (by omega))
  replace A0 := block_below hb21 (by omega) (block_below hb20 (by omega) A0)
  replace B0 := block_below hb21 (by omega) B0
  refine (alive_spec tE xL xD w21 (hg.kept (b21.mono (by omega)))).mono ?_
  rintro _ w22 ⟨rfl, hb22⟩
  refine ⟨_, rfl, ifN (fun h => nomatch h) (fun _ => ?_)⟩
  have b22 : Below w.heap.size w w22 := b21.trans (hb22.mono (by omega))
  have s22 := hb22.size
  have A1 := block_below hb22 (by omega) A0
  have B1 := block_below hb22 (by omega) B0
  have C1 := block_below hb22 (by omega) C0
  refine ⟨_, _, _, _, _, _, cellsAt_of_block A1 [.bool d.ctor, .int .i64 d.int, .string d.name, .slice a d.args.length m] 0 rfl, ?_⟩
  refine (refGood_spec d B w22 _ (hr.kept b22 hB) (by omega)).mono ?_
  rintro _ w31 ⟨rfl, hb31⟩
  have b31 : Below w.heap.size w w31 := b22.trans (hb31.mono (by omega))
  have s31 := hb31.size
  refine ⟨_, rfl, ifN (fun _ => ⟨rfl, b31⟩) (fun gd => ?_)⟩
  have A2 := block_below hb31 (by omega) A1
  have B2 := block_below hb31 (by omega) B1
  have C2 := block_below hb31 (by omega) C1
  refine ⟨_, _, _, _, _, _, cellsAt_of_block B2 [.bool e.ctor, .int .i64 e.int, .string e.name, .slice a' e.args.length m'] 0 rfl, ?_⟩
  refine (refGood_spec e B w31 _ (hr'.kept b31 hB) (by omega)).mono ?_
  rintro _ w40 ⟨rfl, hb40⟩
  have b40 : Below w.heap.size w w40 := b31.trans (hb40.mono (by omega))
  have s40 := hb40.size
  refine ⟨_, rfl, ifN (fun _ => ⟨rfl, b40⟩) (fun ge => ?_)⟩
  have A3 := block_below hb40 (by omega) A2
  have B3 := block_below hb40 (by omega) B2
  have C3 := block_below hb40 (by omega) C2
  refine ⟨_, _, _, _, _, _, cellsAt_of_block C3 [.bool f.ctor, .int .i64 f.int, .string f.name, .slice a'' f.args.length m''] 0 rfl, ?_⟩
  refine (refGood_spec f B w40 _ (hr''.kept b40 hB) (by omega)).mono ?_
  rintro _ w49 ⟨rfl, hb49⟩
  have b49 : Below w.heap.size w w49 := b40.trans (hb49.mono (by omega))
  have s49 := hb49.size
  refine ⟨_, rfl, ifN (fun _ => ⟨rfl, b49⟩) (fun gf => ?_)⟩
  refine drewStep fun w52 e52 hb52 => ?_
  have b52 : Below w.heap.size w w52 := b49.trans (hb52.mono (by omega))
  have s52 := hb52.size
  have A4 := block_below (hb49.trans (hb52.mono (by omega))) (by omega) A3
  have B4 := block_below (hb49.trans (hb52.mono (by omega))) (by omega) B3
  have C4 := block_below (hb49.trans (hb52.mono (by omega))) (by omega) C3
  have nd : nodes d ≤ 4096 := by simp only [good, decide_eq_true_eq] at gd; exact gd.1
  have ne : nodes e ≤ 4096 := by simp only [good, decide_eq_true_eq] at ge; exact ge.1
  have cA : ∀ w', w'.heap[w.heap.size]? = _ → cellsAt w' w.heap.size 0 [.bool d.ctor, .int .i64 d.int, .string d.name, .slice a d.args.length m] := fun w' (h : _ = some (.cells #[.bool d.ctor, .int .i64 d.int, .string d.name, .slice a d.args.length m] 24 (0, 0))) => cellsAt_of_block h [.bool d.ctor, .int .i64 d.int, .string d.name, .slice a d.args.length m] 0 rfl
  have cB : ∀ w', w'.heap[w19.heap.size]? = _ → cellsAt w' w19.heap.size 0 [.bool e.ctor, .int .i64 e.int, .string e.name, .slice a' e.args.length m'] := fun w' (h : _ = some (.cells #[.bool e.ctor, .int .i64 e.int, .string e.name, .slice a' e.args.length m'] 24 (0, 0))) => cellsAt_of_block h [.bool e.ctor, .int .i64 e.int, .string e.name, .slice a' e.args.length m'] 0 rfl
  have cC : ∀ w', w'.heap[w20.heap.size]? = _ → cellsAt w' w20.heap.size 0 [.bool f.ctor, .int .i64 f.int, .string f.name, .slice a'' f.args.length m''] := fun w' (h : _ = some (.cells #[.bool f.ctor, .int .i64 f.int, .string f.name, .slice a'' f.args.length m''] 24 (0, 0))) => cellsAt_of_block h [.bool f.ctor, .int .i64 f.int, .string f.name, .slice a'' f.args.length m''] 0 rfl
  refine ⟨_, _, _, _, _, _, cA _ A4, _, _, _, _, _, _, cB _ B4, _, _, _, _, _, _, cB _ B4, _, _, _, _, _, _, cC _ C4, _, _, _, _, _, _, cA _ A4, _, _, _, _, _, _, cC _ C4, ?_⟩
  refine (Compare_spec _ d (Nat.lt_succ_self _) e B w52 _ _ (hr.kept b52 hB) (hr'.kept b52 hB) nd (by omega)).mono ?_
  rintro _ w89 ⟨rfl, hb89⟩
  have b89 : Below w.heap.size w w89 := b52.trans (hb89.mono (by omega))
  have s89 := hb89.size
  have A5 := block_below hb89 (by omega) A4
  have B5 := block_below hb89 (by omega) B4
  have C5 := block_below hb89 (by omega) C4
  refine ⟨_, rfl, cC _ C5, cA _ A5, cC _ C5, cB _ B5, ?_⟩
  refine (Compare_spec _ e (Nat.lt_succ_self _) f B w89 _ _ (hr'.kept b89 hB) (hr''.kept b89 hB) ne (by omega)).mono ?_
  rintro _ w92 ⟨rfl, hb92⟩
  have b92 : Below w.heap.size w w92 := b89.trans (hb92.mono (by omega))
  have s92 := hb92.size
  have A6 := block_below hb92 (by omega) A5
  have B6 := block_below hb92 (by omega) B5
  have C6 := block_below hb92 (by omega) C5
  refine ⟨_, rfl, cC _ C6, cA _ A6, ?_⟩
  refine (Compare_spec _ d (Nat.lt_succ_self _) f B w92 _ _ (hr.kept b92 hB) (hr''.kept b92 hB) nd (by omega)).mono ?_
  rintro _ w95 ⟨rfl, hb95⟩
  have b95 : Below w.heap.size w w95 := b92.trans (hb95.mono (by omega))
  have s95 := hb95.size
  have A7 := block_below hb95 (by omega) A6
  have B7 := block_below hb95 (by omega) B6
  refine ⟨_, rfl, _, _, _, _, _, _, cA _ A7, _, _, _, _, _, _, cB _ B7, ?_⟩
  refine (refCompare_spec _ d (Nat.lt_succ_self _) e B w95 _ _ (hr.kept b95 hB) (hr'.kept b95 hB) nd (by omega)).mono ?_
  rintro _ w110 ⟨rfl, hb110⟩
  have b110 : Below w.heap.size w w110 := b95.trans (hb110.mono (by omega))
  have s110 := hb110.size
  have A8 := block_below hb110 (by omega) A7
  have B8 := block_below hb110 (by omega) B7
  refine ⟨_, rfl, ifE (fun _ => ?_) (fun h => absurd rfl h)⟩
  refine ⟨_, _, _, _, _, _, cB _ B8, _, _, _, _, _, _, cA _ A8, ?_⟩
  refine (Compare_spec _ e (Nat.lt_succ_self _) d B w110 _ _ (hr'.kept b110 hB) (hr.kept b110 hB) ne (by omega)).mono ?_
  rintro _ w125 ⟨rfl, hb125⟩
  have b125 : Below w.heap.size w w125 := b110.trans (hb125.mono (by omega))
  have s125 := hb125.size
  have A9 := block_below hb125 (by omega) A8
  have ra := (cmpD_ra _).1 d e (Nat.lt_succ_self _)
  have an := (cmpD_anti _).1 d e (Nat.lt_succ_self _)
  have a0 := (cmpD_anti _).1 d d (Nat.lt_succ_self _)
  have tr := (cmpD_tr _).1 d e f (Nat.lt_succ_self _)
  unfold Ra at ra
  unfold Tr at tr
  refine ⟨_, rfl, ifE (fun _ => ?_) (fun h => absurd (by rw [w64 (by omega) (by omega)]; omega) h)⟩
  refine ⟨_, _, _, _, _, _, cA _ A9, _, _, _, _, _, _, cA _ A9, ?_⟩
  refine (Compare_spec _ d (Nat.lt_succ_self _) d B w125 _ _ (hr.kept b125 hB) (hr.kept b125 hB) nd (by omega)).mono ?_
  rintro _ w140 ⟨rfl, hb140⟩
  have b140 : Below w.heap.size w w140 := b125.trans (hb140.mono (by omega))
  refine ⟨_, rfl, ifE (fun _ => ?_) (fun h => absurd (by omega) h)⟩
  have fin : cond (decide (cmpD d e ≥ -1)) (Value.bool (decide (cmpD d e ≤ 1)) = .bool true ∧ Below w.heap.size w w140) (Value.bool false = .bool true ∧ Below w.heap.size w w140) :=
    ifD (fun _ => ⟨by rw [decide_eq_true ra.2], b140⟩) (fun h => absurd ra.1 h)
  refine ifD (fun h1 => ?_) (fun _ => fin)
  refine ifB (fun h2 => fin) (fun h2 => ?_)
  have h3 : cmpD e f ≤ 0 := by simpa using h2
  exact ifD (fun _ => fin) (fun h => absurd (tr.1 h1 h3) h)

end Go.Proofs.YtkplhlciocbecaaDoor.Vf
