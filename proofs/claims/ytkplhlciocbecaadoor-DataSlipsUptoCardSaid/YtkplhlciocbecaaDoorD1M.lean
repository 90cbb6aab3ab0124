/- Data: the program's reader of bytes, and what it comes to. -/
import Derived.Test.YtkplhlciocbecaaDoorD1K
namespace Go.Proofs.YtkplhlciocbecaaDoor.Vf
open Go.Vx Go.Vx.Da Go.RowKit

set_option maxHeartbeats 2000000 in
theorem rdata_spec : ∀ (k : Nat) (l : List UInt8), l.length < k → ∀ (B r : Nat) (w : World) (p q : Int), Rd B r w l q → r < w.heap.size → l.length ≤ 4194304 → 1 ≤ p → p ≤ 201 → 0 ≤ q → q ≤ 4096 →
    Calls Tryd.prog 24 #[.pointer (some ⟨r, 0, none⟩), .int .i64 p] w fun e w' => ∃ v, e = .returned v ∧ RdPost w B r k l p q v w' := by
  intro k
  induction k with
  | zero => intro l h; omega
  | succ k ih =>
  intro l hl B r w p q hrd hrw hL hp0 hp1 hq0 hq1
  refine Vg.rdata.calls (R := fun v w' => RdPost w B r (k + 1) l p q v w') ?_
  unfold Vg.rdata.W
  refine box fun w2 at2 hb2 hs2 => ?_
  have no : ∀ w' cs, w'.heap[w.heap.size]? = some (.cells cs 24 (0, 0)) → cs.toList.length = 4 → w.grownBy w' (some r) → (∀ d rest, gr (k + 1) l = some (d, rest) → 201 < p + depth d ∨ 4096 < q + nodes d) →
      canSt w' w.heap.size 0 [(.bool false), (.int .i64 0), (.string (⟨#[]⟩ : ByteArray)), (.slice none 0 0)] ∧ withW (setL w' w.heap.size 0 [(.bool false), (.int .i64 0), (.string (⟨#[]⟩ : ByteArray)), (.slice none 0 0)]) fun w7 =>
      (∃ (b8 : Bool) (n9 : Int) (s10 : ByteArray) (a11 : Option Addr) (m12 c13 : Nat), cellsAt w7 w.heap.size 0 [(.bool b8), (.int .i64 n9), (.string s10), (.slice a11 m12 c13)] ∧ RdPost w B r (k + 1) l p q (.tuple #[(.agg #[(.bool b8), (.int .i64 n9), (.string s10), (.slice a11 m12 c13)]), (.bool false)]) w7) := by
    intro w' cs h1 h1' h2 h3
    refine fillStep h1 h1' rfl fun w7 at7 hsame hsz hg => ⟨_, _, _, _, _, _, cellsAt_of_block at7 [.bool false, .int .i64 0, .string (⟨#[]⟩ : ByteArray), .slice none 0 0] 0 rfl, ?_, .inr ⟨h3, _, rfl⟩⟩
    exact gset h2 hg hsame (.inl (Nat.le_refl _))
  have bad : gr (k + 1) l = none → ∀ d rest, gr (k + 1) l = some (d, rest) → 201 < p + depth d ∨ 4096 < q + nodes d := fun h d rest h' => by rw [h] at h'; cases h'
  have hBr := hrd.1
  obtain ⟨_, a, c, hcell, hsl, hcm⟩ := hrd.kept (w' := w2) (hb2.block r hrw) (fun k hk => hb2.block k (by omega))
  refine ⟨_, _, rfl, _, cell_of_block hcell rfl, _, _, rfl, ?_⟩
  rw [w64 (x := q + 1) (by omega) (by omega)]
  refine setStep hcell (by simp) rfl fun w8 at8 same8 hsz8 hg8 => ?_
  have hne : w.heap.size ≠ r := by omega
  have h8 : Rd B r w8 l (q + 1) := ⟨hBr, a, c, at8, hsl.kept fun k hk => same8 k (by omega), hcm⟩
  have g8 : w.grownBy w8 (some r) := gset (grown_below hb2) hg8 same8 (.inr rfl)
  have res8 := (same8 _ hne).trans at2
  refine (take_spec 1 B r w8 l (q + 1) h8 (by omega)).mono ?_
  rintro _ w9 (⟨hlen, rfl, rfl⟩ | ⟨hlen, a1, rfl, hs1, h9, hg9, hsz9, same9⟩)
  · refine ⟨_, _, _, _, rfl, ifN (fun _ => no _ _ res8 rfl g8 (bad ?_)) (fun h => nomatch h)⟩
    have : l = [] := List.eq_nil_of_length_eq_zero (by omega)
    rw [this]; rfl
  refine ⟨_, _, _, _, rfl, ifN (fun h => nomatch h) (fun _ => ?_)⟩
  have g9 : w.grownBy w9 (some r) := gset g8 hg9 same9 (.inr rfl)
  have res9 := (same9 _ hne).trans res8
  have hl0 : l = l[0] :: l.drop 1 := by rw [← List.drop_eq_getElem_cons]; rfl
  obtain ⟨b, o, rfl, hget⟩ := hs1.get (i := 0) (by rw [List.length_take]; omega)
  have he0 : (l.take 1)[0]'(by rw [List.length_take]; omega) = l[0] := List.getElem_take
  rw [he0] at hget
  have hlen1 : (l.drop 1).length = l.length - 1 := List.length_drop
  refine ⟨_, _, rfl, by omega, by decide, _, hget 0 rfl, ifD (fun h => no _ _ res9 rfl g9 (bad ?_)) (fun hle1 => ?_)⟩
  · rw [hl0]; exact gr_2 (by omega) (by omega)
  refine ifD (fun h => no _ _ res9 rfl g9 fun d rest _ => by have := depth_pos d; omega) (fun hp => ?_)
  obtain ⟨_, a9, c9, hcell9, hsl9, hcm9⟩ := h9
  refine ⟨_, _, rfl, _, cell_of_block hcell9 rfl, ifD (fun h => no _ _ res9 rfl g9 fun d rest _ => by have := nodes_pos d; omega) (fun hq => ?_)⟩
  have h9 : Rd B r w9 (l.drop 1) (q + 1) := ⟨hBr, a9, c9, hcell9, hsl9, hcm9⟩
  refine ⟨_, _, rfl, by omega, by decide, _, hget 0 rfl, ifE (fun h0 => ?_) (fun h0 => ?_)⟩
  · have h0' : l[0].toNat = 0 := by omega
    refine (take_spec 8 B r w9 (l.drop 1) (q + 1) h9 (by omega)).mono ?_
    rintro _ w52 (⟨hlen, rfl, rfl⟩ | ⟨hlen, a2, rfl, hs2', h52, hg52, hsz52, same52⟩)
    · refine ⟨_, _, _, _, rfl, fun us w3 => us = [.int .u64 0, .int .i64 0] ∧ w3 = w9, fun _ _ => 0, ⟨rfl, rfl⟩, ?_⟩
      rintro _ us _ ⟨rfl, rfl⟩
      refine ⟨_, _, rfl, ifD (fun h => absurd h (by decide)) (fun _ => ?_)⟩
      refine fillStep res9 rfl rfl fun w68 at68 same68 hsz68 hg68 => ⟨_, _, _, _, _, _, cellsAt_of_block at68 [.bool false, .int .i64 (IntKind.i64.wrap 0), .string (⟨#[]⟩ : ByteArray), .slice none 0 0] 0 rfl, ?_, .inr ⟨bad ?_, _, rfl⟩⟩
      · exact gset g9 hg68 same68 (.inl (Nat.le_refl _))
      · rw [hl0]; exact gr_0 h0' hlen
    · have hg := gr_00 (k := k) h0' (l := l.drop 1) hlen
      rw [← hl0] at hg
      have g52 : w.grownBy w52 (some r) := gset g9 hg52 same52 (.inr rfl)
      have res52 := (same52 _ hne).trans res9
      have ht : ((l.drop 1).take 8).length = 8 := by rw [List.length_take]; omega
      generalize (l.drop 1).take 8 = t at hg ht hs2'
      refine ⟨_, _, _, _, rfl, fun us w3 => ∃ j : Nat, j ≤ 8 ∧ us = [.int .u64 (num8 (t.take j) : Nat), .int .i64 j] ∧ w52 = w3, fun us _ => match us with | [_, .int _ j] => 8 - j.toNat | _ => 0, ⟨0, Nat.zero_le _, rfl, rfl⟩, ?_⟩
      rintro _ us _ ⟨j, hj, rfl, rfl⟩
      refine ⟨_, _, rfl, ifD (fun hlt => ?_) (fun hge => ?_)⟩
      · have hjt : j < t.length := by omega
        obtain ⟨b', o', rfl, hget'⟩ := hs2'.get hjt
        refine ⟨_, _, rfl, by omega, hlt, _, hget' _ rfl, ?_⟩
        have hn := num8_lt (t.take j)
        rw [List.length_take, Nat.min_eq_left (by omega)] at hn
        have hor := or_byte (n := num8 (t.take j)) (b := t[j].toNat) (i := j) (by omega) hn t[j].toNat_lt
        rw [← num8_take t j hjt] at hor
        rw [w64 (x := 8 * (j : Int)) (by omega) (by omega)] at hor ⊢
        rw [hor, w64 (x := (j : Int) + 1) (by omega) (by omega)]
        refine ⟨by omega, ⟨j + 1, by omega, rfl, rfl⟩, ?_⟩
        simp only; omega
      · have hj8 : j = 8 := by omega
        subst hj8
        have htt : t.take 8 = t := List.take_of_length_le (by omega)
        rw [htt]
        refine fillStep res52 rfl rfl fun w68 at68 same68 hsz68 hg68 => ⟨_, _, _, _, _, _, cellsAt_of_block at68 [.bool false, .int .i64 (IntKind.i64.wrap (num8 t : Nat)), .string (⟨#[]⟩ : ByteArray), .slice none 0 0] 0 rfl, ?_, .inl ⟨_, _, _, hg, ?_, ?_, rfl, .mk false _ ⟨#[]⟩ [] none 0 (fun _ => []) (Nat.le_refl _) (fun j hj => by simp at hj) (fun j hj => by simp at hj), ?_⟩⟩
        · exact gset g52 hg68 same68 (.inl (Nat.le_refl _))
        · show p + 1 ≤ 201; omega
        · show q + 1 ≤ 4096; omega
        · exact h52.kept (same68 r (by omega)) (fun k hk => same68 k (by omega))
  · have h1' : l[0].toNat = 1 := by omega
    refine (take_spec 1 B r w9 (l.drop 1) (q + 1) h9 (by omega)).mono ?_
    rintro _ w75 (⟨hlen, rfl, rfl⟩ | ⟨hlen, a2, rfl, hs2', h75, hg75, hsz75, same75⟩)
    · refine ⟨_, _, _, _, rfl, ifN (fun _ => no _ _ res9 rfl g9 (bad ?_)) (fun h => nomatch h)⟩
      rw [hl0, List.eq_nil_of_length_eq_zero (show (l.drop 1).length = 0 by omega)]; exact gr_1 (by omega)
    refine ⟨_, _, _, _, rfl, ifN (fun h => nomatch h) (fun _ => ?_)⟩
    have g75 : w.grownBy w75 (some r) := gset g9 hg75 same75 (.inr rfl)
    have res75 := (same75 _ hne).trans res9
    rw [List.drop_drop] at h75
    have hlt1 : 1 < l.length := by omega
    have hl1 : l = l[0] :: l[1] :: l.drop 2 := by rw [← List.drop_eq_getElem_cons hlt1]; exact hl0
    obtain ⟨b', o', rfl, hget1⟩ := hs2'.get (i := 0) (by rw [List.length_take]; omega)
    have he1 : ((l.drop 1).take 1)[0]'(by rw [List.length_take]; omega) = l[1] := by rw [List.getElem_take, List.getElem_drop]
    rw [he1] at hget1
    have hb32 := l[1].toNat_lt
    refine ⟨_, _, rfl, by omega, by decide, _, hget1 0 rfl, ifD (fun h => no _ _ res75 rfl g75 (bad (by rw [hl1]; exact gr_1s (by omega) (by omega)))) (fun hk1 => ?_)⟩
    refine ⟨_, _, rfl, by omega, by decide, _, hget1 0 rfl, ifD (fun h => no _ _ res75 rfl g75 (bad (by rw [hl1]; exact gr_1s (by omega) (by omega)))) (fun hk2 => ?_)⟩
    refine ⟨_, _, rfl, by omega, by decide, _, hget1 0 rfl, ?_⟩
    rw [w64 (x := (l[1].toNat : Int)) (by omega) (by omega)]
    obtain ⟨s, hs⟩ : ∃ s, s = l[1].toNat := ⟨_, rfl⟩
    rw [← hs] at hk1 hk2 hb32 ⊢
    have hlen2 : (l.drop 2).length = l.length - 2 := List.length_drop
    refine (take_spec s B r w75 (l.drop 2) (q + 1) h75 (by omega)).mono ?_
    rintro _ w111 (⟨hlen', rfl, rfl⟩ | ⟨hlen', a3, rfl, hs3, h111, hg111, hsz111, same111⟩)
    · refine ⟨_, _, _, _, rfl, ifN (fun _ => no _ _ res75 rfl g75 (bad ?_)) (fun h => nomatch h)⟩
      rw [hl1]; exact gr_1s (by omega) (by omega)
    refine ⟨_, _, _, _, rfl, ifN (fun h => nomatch h) (fun _ => ?_)⟩
    have g111 : w.grownBy w111 (some r) := gset g75 hg111 same111 (.inr rfl)
    have res111 := (same111 _ hne).trans res75
    have hlens : ((l.drop 2).drop s).length = l.length - 2 - s := by rw [List.length_drop, hlen2]
    refine (take_spec 1 B r w111 ((l.drop 2).drop s) (q + 1) h111 (by omega)).mono ?_
    rintro _ w124 (⟨hlen4, rfl, rfl⟩ | ⟨hlen4, a4, rfl, hs4, h124, hg124, hsz124, same124⟩)
    · refine ⟨_, _, _, _, rfl, ifN (fun _ => no _ _ res111 rfl g111 (bad ?_)) (fun h => nomatch h)⟩
      rw [hl1]; exact gr_1s (by omega) (by omega)
    refine ⟨_, _, _, _, rfl, ifN (fun h => nomatch h) (fun _ => ?_)⟩
    have g124 : w.grownBy w124 (some r) := gset g111 hg124 same124 (.inr rfl)
    have res124 := (same124 _ hne).trans res111
    have hlts : 2 + s < l.length := by omega
    have hq : (l.drop 2).drop s = l[2 + s] :: (l.drop 2).drop (s + 1) := by rw [List.drop_drop, List.drop_drop, List.drop_eq_getElem_cons hlts]; rfl
    rw [List.drop_drop] at h124
    have hb8 := l[2 + s].toNat_lt
    obtain ⟨b4, o4, rfl, hget4⟩ := hs4.get (i := 0) (by rw [List.length_take]; omega)
    have he4 : (((l.drop 2).drop s).take 1)[0]'(by rw [List.length_take]; omega) = l[2 + s] := by rw [List.getElem_take, List.getElem_drop, List.getElem_drop]; rfl
    rw [he4] at hget4
    refine ⟨_, _, rfl, by omega, by decide, _, hget4 0 rfl, ifD (fun h => no _ _ res124 rfl g124 (bad (by rw [hl1]; exact gr_1c (by omega) (by rw [← hs]; exact hq) (by omega)))) (fun hc8 => ?_)⟩
    obtain ⟨nm, hnm⟩ : ∃ nm, nm = (l.drop 2).take s := ⟨_, rfl⟩
    have hnml : nm.length = s := by rw [hnm, List.length_take]; omega
    obtain ⟨Q, hQ⟩ : ∃ Q, Q = (l.drop 2).drop (s + 1) := ⟨_, rfl⟩
    rw [← hQ] at hq h124
    have hQl : Q.length = l.length - (3 + s) := by rw [hQ, List.length_drop, hlen2]; omega
    have hl2 : l = l[0] :: l[1] :: (nm ++ l[2 + s] :: Q) := by rw [hnm, ← hq, List.take_append_drop]; exact hl1
    have hgr := gr_ctor (k := k) (h := l[0]) (s := l[1]) (c := l[2 + s]) (nm := nm) (r := Q) h1' (by omega) (by omega) (by omega) (by omega)
    rw [← hl2] at hgr
    refine ⟨⟨nm.toArray⟩, ?_, ?_⟩
    · obtain ⟨b3, o3, rfl, h3, h4⟩ := hs3.2 (by rw [List.length_take]; omega)
      rw [← hnm] at h4
      rw [show s = nm.length from hnml.symm]
      exact conv_bytes ty30 rfl ty9 rfl ty5 rfl (cellsAt_same (same124 _ (by omega)) h4)
    have hsz1 : w124.heap.size = w.heap.size + 1 := by omega
    refine box fun w148 at148 hb148 hs148 => ?_
    refine fillStep at148 rfl rfl fun w149 at149 same149 hsz149 hg149 => ?_
    have hb149 : Below w124.heap.size w124 w149 := ⟨hg149.os.trans hb148.os, hg149.tape.trans hb148.tape, hg149.output.trans hb148.output, by omega, fun j hj => (same149 j (by omega)).trans (hb148.block j (by omega))⟩
    have g149 : w.grownBy w149 (some r) := gbelow g124 hb149 (by omega)
    have res149 := block_below hb149 (by omega) res124
    have h149 := h124.kept (w' := w149) (hb149.block r (by omega)) (fun k hk => hb149.block k (by omega))
    have hs149 := hs4.kept (w' := w149) (fun k hk => hb149.block k (by omega))
    obtain ⟨b5, o5, e5, hget5⟩ := hs149.get (i := 0) (by rw [List.length_take]; omega)
    cases e5
    rw [he4] at hget5
    refine ⟨_, _, rfl, by omega, by decide, _, hget5 0 rfl, ?_⟩
    rw [hsz1] at at149 ⊢
    refine ⟨fun us w3 => ∃ (i : Nat) (ds : List D) (rest : List UInt8) (v : Value), i ≤ l[2 + s].toNat ∧ us = [.int .u8 i] ∧ many (gr k) i Q = some (ds, rest) ∧ p + 1 + depthL ds ≤ 201 ∧ q + 1 + nodesL ds ≤ 4096 ∧ Out (w.heap.size + 1) w3 (w.heap.size + 1) ⟨nm.toArray⟩ ds v ∧ w.grownBy w3 (some r) ∧ w3.heap[w.heap.size]? = some (.cells #[.bool false, .int .i64 0, .string ⟨#[]⟩, .slice none 0 0] 24 (0, 0)) ∧ Rd B r w3 rest (q + 1 + nodesL ds),
      fun us _ => match us with | [.int _ j] => l[2 + s].toNat - j.toNat | _ => 0, ⟨0, [], Q, _, Nat.zero_le _, rfl, rfl, by simp [depthL]; omega, by simp [nodesL]; omega, Out.start (Nat.le_refl _) at149, g149, res149, by simpa [nodesL] using h149⟩, ?_⟩
    rintro _ us w155 ⟨i, ds, rest, v, hi, rfl, hm, hdp, hnd, hout, g155, res155, h155⟩
    have hs155 := g155.size
    have hdl := many_len hm
    simp only at hdl
    have hO155 := hout.lt
    refine ⟨_, rfl, ifD (fun hlt9 => ?_) (fun hge9 => ?_)⟩
    · have hle := many_le hm
      simp only at hle
      rw [w64 (x := p + 1) (by omega) (by omega)]
      refine (ih rest (by omega) B r w155 (p + 1) (q + 1 + nodesL ds) h155 (by omega) (by omega) (by omega) (by omega) (by omega) (by omega)).mono ?_
      rintro _ w159 ⟨_, rfl, hg159, hpost⟩
      have g159 : w.grownBy w159 (some r) := by
        refine ⟨hg159.os.trans g155.os, hg159.tape.trans g155.tape, hg159.output.trans g155.output, Nat.le_trans g155.size hg159.size, fun k hk hne' => (hg159.block k (by omega) hne').trans (g155.block k hk hne')⟩
      have hs159 := hg159.size
      have res159 : w159.heap[w.heap.size]? = _ := (hg159.block _ (by omega) (fun e => hne (Option.some.inj e))).trans res155
      rcases hpost with ⟨d, r2, vs, hg2, hdep, hnod, rfl, hrep, hrd2⟩ | ⟨hno, n, rfl⟩
      · obtain ⟨a2, m2, rfl⟩ := hrep.form
        refine ⟨_, _, _, _, _, _, _, rfl, box fun w168 at168 hb168 hs168 => fillStep at168 rfl rfl fun w169 at169 same169 hsz169 hg169 => ?_⟩
        refine ifN (fun h => nomatch h) (fun _ => ?_)
        have hb169 : Below w159.heap.size w159 w169 := ⟨hg169.os.trans hb168.os, hg169.tape.trans hb168.tape, hg169.output.trans hb168.output, by omega, fun j hj => (same169 j (by omega)).trans (hb168.block j (by omega))⟩
        have hout' := hout.kept (w' := w169) (fun k hk1 hk2 => (hb169.block k (by omega)).trans (hg159.block k hk2 (fun e => by have := Option.some.inj e; omega))) (by omega)
        obtain ⟨a5, c5, rfl⟩ := hout'.slice
        have hown4 : ∀ g, (Value.slice a5 ds.length c5).ownBlock = some g → g < w155.heap.size := fun g hg => by
          obtain ⟨_, _, xs, h3, _⟩ := hout; exact (h3.lt g hg).2
        refine ⟨_, _, _, cell_of_block hout'.2.1 rfl, _, _, _, _, _, _, cellsAt_of_block at169 [.bool d.ctor, .int .i64 d.int, .string d.name, .slice a2 d.args.length m2] 0 rfl, ?_⟩
        refine Out.snoc hout' (by omega) ((hrep.kept fun b hb => hb169.block b (by omega)).mono fun b hb => ⟨by omega, by omega, fun e => by have := hown4 b e.symm; omega⟩) fun w191 a6 n6 c6 hout6 hb191 hs191 => ?_
        have e8 : IntKind.u8.wrap ((i : Int) + 1) = ((i + 1 : Nat) : Int) := by rw [Go.Vx.w8 (by omega) (by omega)]; rfl
        rw [e8]
        have g169 : w.grownBy w169 (some r) := gbelow g159 hb169 (by omega)
        refine ⟨⟨i + 1, ds ++ [d], r2, _, by omega, rfl, many_snoc hm hg2, ?_, ?_, hout6, gbelow g169 hb191 (by omega), block_below hb191 (by omega) (block_below hb169 (by omega) res159), ?_⟩, ?_⟩
        · rw [depthL_append]; simp only [depthL]; omega
        · rw [nodesL_append]; simp only [nodesL]; omega
        · have e9 : q + 1 + (nodesL (ds ++ [d]) : Int) = q + 1 + nodesL ds + nodes d := by rw [nodesL_append]; simp only [nodesL]; omega
          rw [e9]
          exact hrd2.kept ((hb191.block r (by omega)).trans (hb169.block r (by omega))) (fun k hk => (hb191.block k (by omega)).trans (hb169.block k (by omega)))
        · simp only; omega
      · refine ⟨_, _, _, _, _, _, _, rfl, box fun w168 at168 hb168 hs168 => fillStep at168 rfl rfl fun w169 at169 same169 hsz169 hg169 => ?_⟩
        refine ifN (fun _ => ?_) (fun h => nomatch h)
        have hb169 : Below w159.heap.size w159 w169 := ⟨hg169.os.trans hb168.os, hg169.tape.trans hb168.tape, hg169.output.trans hb168.output, by omega, fun j hj => (same169 j (by omega)).trans (hb168.block j (by omega))⟩
        refine no _ _ (block_below hb169 (by omega) res159) rfl (gbelow g159 hb169 (by omega)) fun d' r' hd' => ?_
        rw [hgr] at hd'
        obtain ⟨⟨ds', r''⟩, h5, h6⟩ := Option.map_eq_some_iff.1 hd'
        cases h6
        rw [depth_ctor rfl, nodes_ctor rfl]
        cases hg3 : gr k rest with
        | none => rw [many_none hm hg3 (by omega)] at h5; cases h5
        | some x =>
          have h7 := hno x.1 x.2 hg3
          obtain ⟨t, ht⟩ := many_pre (many_snoc hm hg3) (by omega : i + 1 ≤ l[2 + s].toNat) h5
          simp only at ht
          simp only [ht, depthL_append, depthL, nodesL_append, nodesL]
          omega
    · have hi' : i = l[2 + s].toNat := by omega
      rw [← hi', hm] at hgr
      obtain ⟨a6, c6, rfl⟩ := hout.slice
      refine ⟨_, _, _, _, _, _, cellsAt_of_block hout.2.1 [.bool true, .int .i64 0, .string ⟨nm.toArray⟩, .slice a6 ds.length c6] 0 rfl, fillStep res155 rfl rfl fun w198 at198 same198 hsz198 hg198 => ?_⟩
      refine ⟨_, _, _, _, _, _, cellsAt_of_block at198 [.bool true, .int .i64 0, .string ⟨nm.toArray⟩, .slice a6 ds.length c6] 0 rfl, ?_⟩
      refine ⟨gset g155 hg198 same198 (.inl (Nat.le_refl _)), .inl ⟨_, rest, _, hgr, ?_, ?_, rfl, (hout.rep.kept fun b hb => same198 b (by omega)).mono fun b hb => ⟨by omega, by omega⟩, ?_⟩⟩
      · rw [depth_ctor rfl]; simp only; omega
      · rw [nodes_ctor rfl]; simp only; omega
      · rw [nodes_ctor rfl]
        have e9 : q + ((1 + nodesL ds : Nat) : Int) = q + 1 + nodesL ds := by omega
        simp only at e9 ⊢
        rw [e9]
        exact h155.kept (same198 r (by omega)) (fun k hk => same198 k (by omega))

end Go.Proofs.YtkplhlciocbecaaDoor.Vf
