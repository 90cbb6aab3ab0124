/- The heap's small functions. -/
import Derived.Test.YtfenhbjamohdgaaDoorH1A
import Derived.Test.YtfenhbjamohdgaaDoorH1F
namespace Go.Proofs.YtfenhbjamohdgaaDoor.Vf
open Go.Vx Go.Vx.Hp Go.RowKit

theorem New_ok (n : Int) (w : World) (h0 : 0 ≤ n) (h1 : n ≤ 1048576) :
    Calls Tryd.prog 9 #[.int .i64 n] w fun e w' => e = .returned (.tuple #[.pointer (some ⟨w.heap.size, 0, none⟩), .nilIface]) ∧ Below w.heap.size w w' ∧ Is w.heap.size w' [] n (.slice none 0 0) := by
  refine (New.calls (R := fun v w' => v = .tuple #[.pointer (some ⟨w.heap.size, 0, none⟩), .nilIface] ∧ Below w.heap.size w w' ∧ Is w.heap.size w' [] n (.slice none 0 0)) ?_).mono (fun x w' ⟨v, h1, h2, h3⟩ => ⟨by rw [h1, h2], h3⟩)
  unfold New.W
  refine ifD (fun h => absurd h (by omega)) (fun _ => ifD (fun h => absurd h (by omega)) (fun _ => box fun w6 at6 hb6 hs6 => ⟨rfl, hb6, ⟨at6, World.ownsRow_nil _ _ _ _, (fun s hs => nomatch hs), (fun s hs => nomatch hs), h0, h1, by simpa [used_nil] using h0, List.nodup_nil, (fun s hs => nomatch hs)⟩⟩))

theorem New_bad (n : Int) (w : World) (E : Value) (hE : w.cell? ⟨1, 0, none⟩ = some E) (hlt : 1 < w.heap.size) (h : n < 0 ∨ 1048576 < n) :
    Calls Tryd.prog 9 #[.int .i64 n] w fun e w' => e = .returned (.tuple #[.pointer none, E]) ∧ Below w.heap.size w w' := by
  refine (New.calls (R := fun v w' => v = .tuple #[.pointer none, E] ∧ Below w.heap.size w w') ?_).mono (fun x w' ⟨v, h1, h2, h3⟩ => ⟨by rw [h1, h2], h3⟩)
  unfold New.W
  have fin : withW (World.drew w) fun w2 => ∃ (v3 : Value), World.cell? w2 ⟨1, 0, none⟩ = some v3 ∧ (Value.tuple #[.pointer none, v3] = .tuple #[.pointer none, E] ∧ Below w.heap.size w w2) :=
    drewStep fun w2 e2 hb2 => ⟨_, cell_below hb2 hlt hE, rfl, hb2⟩
  refine ifD (fun _ => fin) (fun h0 => ifD (fun _ => fin) (fun h1 => absurd h (by omega)))

variable {hp : Nat} {w : World} {S : List St} {most : Int} {v : Value}

theorem Used_spec (h : Is hp w S most v) : Calls Tryd.prog 12 #[.pointer (some ⟨hp, 0, none⟩)] w fun e w' => e = .returned (.int .i64 (used S : Nat)) ∧ w = w' := by
  refine (Used.calls (R := fun x w' => x = .int .i64 (used S : Nat) ∧ w = w') ?_).mono (fun x w' ⟨v, h1, h2, h3⟩ => ⟨by rw [h1, h2], h3⟩)
  unfold Used.W
  obtain ⟨a, c, rfl, _⟩ := h.slice
  exact ⟨_, _, rfl, _, _, _, cell_of_block h.blk rfl, rfl, rfl⟩
theorem Cells_spec (h : Is hp w S most v) : Calls Tryd.prog 14 #[.pointer (some ⟨hp, 0, none⟩)] w fun e w' => e = .returned (.int .i64 most) ∧ w = w' := by
  refine (Cells.calls (R := fun x w' => x = .int .i64 most ∧ w = w') ?_).mono (fun x w' ⟨v, h1, h2, h3⟩ => ⟨by rw [h1, h2], h3⟩)
  unfold Cells.W
  exact ⟨_, _, rfl, _, cell_of_block h.blk rfl, rfl, rfl⟩

theorem isNone_map (o : Option Nat) : (o.map fun b => (⟨b, 0, none⟩ : Addr)).isNone = o.isNone := by cases o <;> rfl

theorem hgood_spec (h : Is hp w S most v) (r : Bool) (n : Int) : Calls Tryd.prog 25 #[.pointer (some ⟨hp, 0, none⟩), .agg #[.bool r, .int .i64 n]] w fun e w' => e = .returned (.bool (good S ⟨r, n⟩)) ∧ Below w.heap.size w w' := by
  refine (hgood.calls (R := fun x w' => x = .bool (good S ⟨r, n⟩) ∧ Below w.heap.size w w') ?_).mono (fun x w' ⟨v, h1, h2, h3⟩ => ⟨by rw [h1, h2], h3⟩)
  unfold hgood.W
  refine box fun w3 at3 hb3 hs3 => drewStep fun w4 e4 hb4 => ?_
  have at4 : w4.heap[w.heap.size]? = _ := e4 ▸ at3
  have b4 : Below w.heap.size w w4 := hb3.trans (hb4.mono (by omega))
  have h4 := h.below b4
  refine ⟨_, cell_of_block at4 rfl, ifN (fun hr => ⟨by simp [good, hr], b4⟩) (fun hr => ?_)⟩
  refine ⟨_, cell_of_block at4 rfl, ifD (fun h0 => ?_) (fun h0 => ⟨by simp only [good, hr, Bool.not_true, Bool.false_or]; rw [decide_eq_false (by omega)]; rfl, b4⟩)⟩
  obtain ⟨a, c, ev, _⟩ := h4.slice
  subst ev
  refine ⟨_, cell_of_block at4 rfl, _, _, rfl, _, _, _, cell_of_block h4.blk rfl, ifD (fun hlt => ?_) (fun hge => ⟨?_, b4⟩)⟩
  · have hlt' : n.toNat < used S := by omega
    obtain ⟨g, c', e, hc⟩ := h4.cell hlt'
    cases e
    refine ⟨_, _, rfl, _, _, _, cell_of_block h4.blk rfl, _, cell_of_block at4 rfl, g, 0, rfl, by omega, hlt, _, hc.2.2.1, ?_, b4⟩
    have hca := cells_at (S := S) hlt'
    rw [isNone_map, hca]
    simp only [good, hr, Bool.not_true, Bool.false_or]
    rw [decide_eq_true (by omega)]
    cases find S n.toNat <;> rfl
  · simp only [good, hr, Bool.not_true, Bool.false_or]
    have : find S n.toNat = none := by
      cases hf : find S n.toNat with
      | none => rfl
      | some s => have := find_lt hf; have := s.size_pos; omega
    rw [this]; simp

/-- a good reference: the structure there, in memory -/
theorem is_at (h : Is hp w S most v) {n : Int} (hg : good S ⟨true, n⟩ = true) : ∃ s g c, find S n.toNat = some s ∧ s ∈ S ∧ 0 ≤ n ∧ n.toNat + s.size ≤ used S ∧ v = .slice (some ⟨g, 0, none⟩) (used S) c ∧
    w.cell? ⟨g, 0 + n.toNat * 3 + 2, none⟩ = some (.pointer (some ⟨s.blk, 0, none⟩)) ∧ w.heap[s.blk]? = some (hdObj s 0) := by
  simp only [good, Bool.not_true, Bool.false_or, Bool.and_eq_true, decide_eq_true_eq, Option.isSome_iff_exists] at hg
  obtain ⟨h0, s, hs⟩ := hg
  have hl := find_lt hs
  have hlt : n.toNat < used S := by have := s.size_pos; omega
  obtain ⟨g, c, e, hc⟩ := h.cell hlt
  refine ⟨s, g, c, hs, find_mem hs, h0, hl, e, ?_, (h.hd s (find_mem hs)).2.2.2⟩
  have hca := cells_at (S := S) hlt
  have := hc.2.2.1
  rw [hca, hs] at this
  exact this

theorem measure_spec (h : Is hp w S most v) (r : Bool) (n : Int) (hg : good S ⟨r, n⟩ = true) : Calls Tryd.prog 24 #[.pointer (some ⟨hp, 0, none⟩), .agg #[.bool r, .int .i64 n]] w fun e w' => e = .returned (.tuple #[.int .i64 (nodesOf S ⟨r, n⟩), .int .i64 (depthOf S ⟨r, n⟩)]) ∧ Below w.heap.size w w' := by
  refine (measure.calls (R := fun x w' => x = .tuple #[.int .i64 (nodesOf S ⟨r, n⟩), .int .i64 (depthOf S ⟨r, n⟩)] ∧ Below w.heap.size w w') ?_).mono (fun x w' ⟨v, h1, h2, h3⟩ => ⟨by rw [h1, h2], h3⟩)
  unfold measure.W
  refine box fun w3 at3 hb3 hs3 => ?_
  refine ⟨_, cell_of_block at3 rfl, ifN (fun hr => ⟨by simp [nodesOf, depthOf, hr], hb3⟩) (fun hr => drewStep fun w5 e5 hb5 => ?_)⟩
  subst hr
  have at5 : w5.heap[w.heap.size]? = _ := e5 ▸ at3
  have b5 : Below w.heap.size w w5 := hb3.trans (hb5.mono (by omega))
  have h5 := h.below b5
  obtain ⟨s, g, c, hs, hm, h0, hl, rfl, hc, hh⟩ := is_at h5 hg
  have := s.size_pos
  refine ⟨_, _, rfl, _, _, _, cell_of_block h5.blk rfl, _, cell_of_block at5 rfl, g, 0, rfl, h0, by omega, _, hc, drewStep fun w15 e15 hb15 => ?_⟩
  have hh15 : w15.heap[s.blk]? = _ := e15 ▸ hh
  refine ⟨_, _, rfl, _, cell_of_block hh15 rfl, _, _, rfl, _, cell_of_block hh15 rfl, ?_, b5.trans (hb15.mono b5.size)⟩
  simp [nodesOf, depthOf, hs]

theorem hargs_spec (h : Is hp w S most v) (n : Int) (s : St) (hg : good S ⟨true, n⟩ = true) (hs : find S n.toNat = some s) : Calls Tryd.prog 26 #[.pointer (some ⟨hp, 0, none⟩), .int .i64 n] w fun e w' => ∃ a c, e = .returned (.slice a s.args.length c) ∧ w'.heap = w.heap ∧ Below w.heap.size w w' ∧
    (0 < s.args.length → ∃ g, a = some ⟨g, (n.toNat + 1) * 3, none⟩ ∧ some g = v.ownBlock ∧ ∀ j (hj : j < s.args.length), cellsAt w' g ((n.toNat + 1) * 3 + j * 3) (Cell.mk s.args[j] none).cs) := by
  refine (hargs.calls (R := fun x w' => ∃ a c, x = .slice a s.args.length c ∧ w'.heap = w.heap ∧ Below w.heap.size w w' ∧
    (0 < s.args.length → ∃ g, a = some ⟨g, (n.toNat + 1) * 3, none⟩ ∧ some g = v.ownBlock ∧ ∀ j (hj : j < s.args.length), cellsAt w' g ((n.toNat + 1) * 3 + j * 3) (Cell.mk s.args[j] none).cs)) ?_).mono (fun x w' ⟨v, h1, a, c, h2, h3⟩ => ⟨a, c, by rw [h1, h2], h3⟩)
  unfold hargs.W
  refine drewStep fun w2 e2 hb2 => ?_
  have h2 := h.below hb2
  obtain ⟨s', g, c, hs', hm, h0, hl, rfl, hc, hh⟩ := is_at h2 hg
  rw [hs] at hs'; cases hs'
  have hfit := h.fits
  have hmost := h.most1
  have hcap := h.slice
  obtain ⟨a', c', e', hle, hcm⟩ := hcap
  cases e'
  have hsz : s.size = 1 + s.args.length := rfl
  refine ⟨_, _, rfl, _, _, _, cell_of_block h2.blk rfl, _, _, rfl, _, _, _, cell_of_block h2.blk rfl, g, 0, rfl, h0, by omega, _, hc, _, _, rfl, _, cell_of_block hh rfl, ?_⟩
  rw [w64 (x := n + 1) (by omega) (by omega), w64 (x := n + (s.size : Int)) (by omega) (by omega)]
  have e1 : (n + 1).toNat = n.toNat + 1 := by omega
  have e2' : (n + (s.size : Int)).toNat - (n.toNat + 1) = s.args.length := by omega
  rw [e1, e2']
  refine ⟨by omega, by omega, by omega, _, _, rfl, e2, hb2, fun hpos => ⟨g, ?_, rfl, fun j hj => ?_⟩⟩
  · rw [cutA, if_neg (by omega)]; simp [Addr.add]
  · have hlt : n.toNat + 1 + j < used S := by omega
    obtain ⟨g', c'', e'', hc'⟩ := h2.cell hlt
    cases e''
    rw [Nat.zero_add, Nat.add_mul] at hc'
    have hca := cells_args hs
    have hget : (cells S)[n.toNat + 1 + j]'hlt = Cell.mk s.args[j] none := by
      have h3 := congrArg (fun l => l[j]?) hca
      simp only [List.getElem?_take, List.getElem?_drop, List.getElem?_map] at h3
      rw [if_pos hj, List.getElem?_eq_getElem hlt, List.getElem?_eq_getElem hj] at h3
      simpa using h3
    rw [hget] at hc'
    exact hc'

theorem cellsAt_lt {w : World} {b o : Nat} {v : Value} {vs : List Value} (h : cellsAt w b o (v :: vs)) : b < w.heap.size := by
  have h1 := h.1
  rcases Nat.lt_or_ge b w.heap.size with h | h
  · exact h
  · simp only [World.cell?, Array.getElem?_eq_none h] at h1; simp at h1

/-- values in memory, as a slice of the caller's -/
def Vsl (w : World) (a : Option Addr) (V : List Val) : Prop := ∀ j (h : j < V.length), ∃ b o, a = some ⟨b, o, none⟩ ∧ cellsAt w b (o + j * 2) V[j].cs

theorem Vsl.kept {w w' : World} {a : Option Addr} {V : List Val} (h : Vsl w a V) (hb : ∀ b o, b < w.heap.size → a = some ⟨b, o, none⟩ → w'.heap[b]? = w.heap[b]?) : Vsl w' a V := fun j hj => by
  obtain ⟨b, o, e, hc⟩ := h j hj
  exact ⟨b, o, e, cellsAt_same (hb b o (cellsAt_lt hc) e) hc⟩

theorem Vsl.lt {w : World} {a : Option Addr} {V : List Val} (h : Vsl w a V) (hV : 0 < V.length) {b o : Nat} (e : a = some ⟨b, o, none⟩) : b < w.heap.size := by
  obtain ⟨b', o', e', hc⟩ := h 0 hV
  rw [e] at e'; cases e'
  exact cellsAt_lt hc

theorem goodsF_spec (h : Is hp w S most v) (hb : Nat) (hbox : w.heap[hb]? = some (.cells #[.pointer (some ⟨hp, 0, none⟩)] 24 (0, 0))) (r : Bool) (n : Int) : Calls Tryd.prog 38 #[.agg #[.bool r, .int .i64 n], .pointer (some ⟨hb, 0, none⟩)] w fun e w' => e = .returned (.bool (!good S ⟨r, n⟩)) ∧ Below w.heap.size w w' := by
  refine (goodsF.calls (R := fun x w' => x = .bool (!good S ⟨r, n⟩) ∧ Below w.heap.size w w') ?_).mono (fun x w' ⟨v, h1, h2, h3⟩ => ⟨by rw [h1, h2], h3⟩)
  unfold goodsF.W
  refine box fun w3 at3 hb3 hs3 => ?_
  refine ⟨_, cell_of_block (block_below hb3 (lt_of_block hbox) hbox) rfl, _, _, cellsAt_of_block at3 [.bool r, .int .i64 n] 0 rfl, ?_⟩
  refine (hgood_spec (h.below hb3) r n).mono ?_
  rintro _ w7 ⟨rfl, hb7⟩
  exact ⟨_, rfl, rfl, hb3.trans (hb7.mono (by omega))⟩

theorem goods_spec (h : Is hp w S most v) (a : Option Addr) (c : Nat) (V : List Val) (hV : Vsl w a V) (hl : V.length ≤ 1048576) : Calls Tryd.prog 23 #[.pointer (some ⟨hp, 0, none⟩), .slice a V.length c] w fun e w' => e = .returned (.bool (V.all (good S))) ∧ Below w.heap.size w w' := by
  refine (goods.calls (R := fun x w' => x = .bool (V.all (good S)) ∧ Below w.heap.size w w') ?_).mono (fun x w' ⟨v, h1, h2, h3⟩ => ⟨by rw [h1, h2], h3⟩)
  unfold goods.W
  refine box fun w4 at4 hb4 hs4 => ?_
  have h4 := h.below hb4
  have hV4 : Vsl w4 a V := hV.kept fun b o hlt _ => hb4.block b hlt
  have idx : Calls Tryd.prog 39 #[.slice a V.length c, .func (.func 38) #[] #[.pointer (some ⟨w.heap.size, 0, none⟩)]] w4 fun e w' => ∃ z : Int, e = .returned (.int .i64 z) ∧ (decide (z ≥ 0) = !V.all (good S)) ∧ Below w4.heap.size w4 w' := by
    refine (IndexFunc.calls (R := fun x w' => ∃ z : Int, x = .int .i64 z ∧ (decide (z ≥ 0) = !V.all (good S)) ∧ Below w4.heap.size w4 w') ?_).mono (fun x w' ⟨v, h1, z, h2, h3⟩ => ⟨z, by rw [h1, h2], h3⟩)
    unfold IndexFunc.W
    refine ⟨fun us w2 => ∃ j : Nat, j ≤ V.length ∧ us = [.int .i64 j] ∧ (V.take j).all (good S) = true ∧ Below w4.heap.size w4 w2, fun us _ => match us with | [.int _ j] => V.length - j.toNat | _ => 0, ⟨0, Nat.zero_le _, rfl, by simp, Below.refl _ _⟩, ?_⟩
    rintro _ us w6 ⟨j, hj, rfl, hall, hb6⟩
    refine ⟨_, rfl, ifD (fun hlt => ?_) (fun hge => ⟨-1, rfl, ?_, hb6⟩)⟩
    · have hlt' : j < V.length := by omega
      obtain ⟨b, o, rfl, hc⟩ := hV4 j hlt'
      have hc6 := cellsAt_below hb6 (cellsAt_lt hc) hc
      refine ⟨b, o, rfl, by omega, hlt, _, _, hc6, ?_⟩
      refine (goodsF_spec (h4.below hb6) w.heap.size (block_below hb6 (lt_of_block at4) at4) _ _).mono ?_
      rintro _ w14 ⟨rfl, hb14⟩
      have b14 := hb6.trans (hb14.mono hb6.size)
      have ht : V.take (j + 1) = V.take j ++ [V[j]] := by rw [List.take_succ_eq_append_getElem hlt']
      refine ⟨_, rfl, ifB (fun hbad => ⟨j, rfl, ?_, b14⟩) (fun hgd => ?_)⟩
      · rw [decide_eq_true (by omega)]
        have : V.all (good S) = false := by
          rw [List.all_eq_false]
          exact ⟨V[j], List.getElem_mem _, by simpa using hbad⟩
        rw [this]; rfl
      · rw [w64 (x := (j : Int) + 1) (by omega) (by omega)]
        refine ⟨⟨j + 1, hlt', rfl, ?_, b14⟩, by simp only; omega⟩
        rw [ht, List.all_append, hall, Bool.true_and]
        simpa using hgd
    · have : j = V.length := by omega
      subst this
      rw [List.take_length] at hall
      rw [hall]; rfl
  have con : Calls Tryd.prog 37 #[.slice a V.length c, .func (.func 38) #[] #[.pointer (some ⟨w.heap.size, 0, none⟩)]] w4 fun e w' => e = .returned (.bool (!V.all (good S))) ∧ Below w4.heap.size w4 w' := by
    refine (ContainsFunc.calls (R := fun x w' => x = .bool (!V.all (good S)) ∧ Below w4.heap.size w4 w') ?_).mono (fun x w' ⟨v, h1, h2, h3⟩ => ⟨by rw [h1, h2], h3⟩)
    unfold ContainsFunc.W
    refine idx.mono ?_
    rintro _ w' ⟨z, rfl, hz, hb⟩
    exact ⟨_, rfl, by rw [hz], hb⟩
  refine con.mono ?_
  rintro _ w5 ⟨rfl, hb5⟩
  exact ⟨_, rfl, by rw [Bool.not_not], hb4.trans (hb5.mono (by omega))⟩

end Go.Proofs.YtfenhbjamohdgaaDoor.Vf
