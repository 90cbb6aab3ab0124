/- augurlaw10.DataDecodes at the model's run. -/
import Derived.Test.YtkplhlciocbecaaDoorD1N
namespace Go.Proofs.YtkplhlciocbecaaDoor.Vf
open Go.Vx Go.Vx.Da Go.RowKit

theorem hi33 : ∃ ms, Tryd.prog.underlying 33 = some (.interface ms) := ⟨_, Tryd.underlying33⟩
theorem hp64 : ∃ te, Tryd.prog.underlying 64 = some (.pointer te) := ⟨_, Tryd.underlying64⟩

theorem zero_rep (B : Nat) (w : World) : Rep B w ⟨false, 0, ⟨#[]⟩, []⟩ [.bool false, .int .i64 0, .string (⟨#[]⟩ : ByteArray), .slice none 0 0] :=
  .mk false 0 ⟨#[]⟩ [] none 0 (fun _ => []) (Nat.le_refl _) (fun j hj => by simp at hj) (fun j hj => by simp at hj)

theorem cmpD_self (d : D) : cmpD d d = 0 := by
  have := (cmpD_anti _).1 d d (Nat.lt_succ_self _)
  omega

theorem cmp64 : (Tryd.prog.info? 64).map (·.comparable) = some true := by kernel_rfl
theorem is82 : (Tryd.prog.info? 82).isSome = true := by kernel_rfl
theorem bytes_neq (w : World) (xo yo : Operand) (aB : Addr) : Runs Tryd.prog (semEq .neq 33 xo yo (.iface 64 (.pointer (some aB))) (.iface 64 (.pointer (some aB)))) w (.bool false) w := by
  obtain ⟨ms, h1⟩ := hi33
  obtain ⟨i, h3, h4⟩ := Option.map_eq_some_iff.1 cmp64
  obtain ⟨j, h5⟩ := Option.isSome_iff_exists.1 is82
  exact err_neq h1 Tryd.underlying64 h3 h4 h5
theorem bytes_eq (w : World) (xo yo : Operand) (aB : Addr) : Runs Tryd.prog (semEq .eql 33 xo yo (.iface 64 (.pointer (some aB))) (.iface 64 (.pointer (some aB)))) w (.bool true) w := by
  obtain ⟨ms, h1⟩ := hi33
  obtain ⟨i, h3, h4⟩ := Option.map_eq_some_iff.1 cmp64
  obtain ⟨j, h5⟩ := Option.isSome_iff_exists.1 is82
  exact err_same h1 Tryd.underlying64 h3 h4 h5
theorem bytes_nil (w : World) (xo yo : Operand) (v : Value) : Runs Tryd.prog (semEq .eql 33 xo yo .nilIface (.iface 64 v)) w (.bool false) w := by
  obtain ⟨ms, h1⟩ := hi33
  exact err_nil h1

theorem Marked.kept {w w' : World} {g c : Nat} {L : List UInt8} (h : Marked w (some ⟨g, 0, none⟩) L c) (hb : w'.heap[g]? = w.heap[g]?) : Marked w' (some ⟨g, 0, none⟩) L c := by
  obtain ⟨h1, h2, g', h3, h4⟩ := h
  cases h3
  exact ⟨h1, h2, g, rfl, cellsAt_same hb h4⟩
theorem Marked.bsl {w : World} {g c B : Nat} {L : List UInt8} (h : Marked w (some ⟨g, 0, none⟩) L c) (hB : g < B) : Bsl B w (some ⟨g, 0, none⟩) L c := by
  obtain ⟨h1, h2, g', h3, h4⟩ := h
  cases h3
  refine ⟨by omega, fun _ => ⟨g, 0, rfl, hB, ?_⟩⟩
  have h5 := cellsAt_take L.length h4
  rw [← bv_take, List.take_left] at h5; exact h5

set_option maxHeartbeats 1000000 in
theorem DataDecodes_spec (tE : Nat) (xL xD : Value) (aB : Addr) (L : List UInt8) (B : Nat) (w : World) (a : Option Addr) (c : Nat) (hs : Bsl B w a L c) (hB : B ≤ w.heap.size) (hL : L.length ≤ 1048576) (hg : Glob w tE xL xD) (hE : w.cell? ⟨0, 0, none⟩ = some (.iface 64 (.pointer (some aB)))) :
    Calls Tryd.prog 5 #[.slice a L.length c] w fun x w' => x = .returned (.bool true) ∧ Below w.heap.size w w' := by
  refine (Vg.DataDecodes.calls (R := fun v w' => v = .bool true ∧ Below w.heap.size w w') ?_).mono (fun x w' ⟨v, h1, h2, h3⟩ => ⟨by rw [h1, h2], h3⟩)
  unfold Vg.DataDecodes.W
  have h3 := hg.size
  refine (alive_spec tE xL xD w hg).mono ?_
  rintro _ w4 ⟨rfl, b4⟩
  have s4 := b4.size
  refine ⟨_, rfl, ifN (fun h => nomatch h) (fun _ => ?_)⟩
  refine (Bytes_spec w4 B a c L (hs.kept fun k hk => b4.block k (by omega)) (by omega) hL).mono ?_
  rintro _ w7 ⟨g, c', rfl, hg0, hg1, hm7, hb7⟩
  have b7 := b4.trans (hb7.mono s4)
  have s7 := hb7.size
  refine ⟨_, _, _, rfl, ?_⟩
  refine (Decode_spec w7 w7.heap.size (some ⟨g, 0, none⟩) c' L _ (hm7.bsl hg1) (Nat.le_refl _) (by omega) hm7.2.1 (cell_below b7 (by omega) hE) (by omega)).mono ?_
  rintro _ w12 ⟨v12, rfl, hb12, hp12⟩
  have b12 := b7.trans (hb12.mono (by omega))
  have s12 := hb12.size
  have hm12 := hm7.kept (hb12.block g hg1)
  -- the two ways
  have pre : ∃ (d : D) (a1 : Option Addr) (m1 : Nat) (E : Value), v12 = .tuple #[.agg #[.bool d.ctor, .int .i64 d.int, .string d.name, .slice a1 d.args.length m1], E] ∧ nodes d ≤ 4096 ∧ Rep w12.heap.size w12 d [.bool d.ctor, .int .i64 d.int, .string d.name, .slice a1 d.args.length m1] ∧
      ((gr (L.length + 1) L = some (d, []) ∧ good d = true ∧ E = .nilIface) ∨ ((∀ d, gr (L.length + 1) L = some (d, []) → good d = false) ∧ E = .iface 64 (.pointer (some aB)) ∧ d = ⟨false, 0, ⟨#[]⟩, []⟩)) := by
    rcases hp12 with ⟨d, vs, h1, h2, rfl, h4⟩ | ⟨h1, rfl⟩
    · obtain ⟨a1, m1, rfl⟩ := h4.form
      refine ⟨d, a1, m1, _, rfl, ?_, h4.rep fun b hb => hb.2, .inl ⟨h1, h2, rfl⟩⟩
      simp only [good, decide_eq_true_eq] at h2; exact h2.1
    · exact ⟨⟨false, 0, ⟨#[]⟩, []⟩, none, 0, _, rfl, by decide, zero_rep _ _, .inr ⟨h1, rfl, rfl⟩⟩
  obtain ⟨d, a1, m1, E, rfl, hnd, hrep12, hway⟩ := pre
  refine ⟨_, _, _, _, _, _, _, rfl, copyStep rfl rfl fun w22 at22 hb22 hs22 => ?_⟩
  have b22 := b12.trans (hb22.mono (by omega))
  refine (refDecode_spec w22 B a c L (hs.kept fun k hk => b22.block k (by omega)) (by omega) hL).mono ?_
  rintro _ w23 ⟨v23, rfl, hb23, hp23⟩
  have b23 := b22.trans (hb23.mono (by omega))
  have s23 := hb23.size
  have pre2 : ∃ (a2 : Option Addr) (m2 : Nat), v23 = .tuple #[.agg #[.bool d.ctor, .int .i64 d.int, .string d.name, .slice a2 d.args.length m2], .bool (match E with | .nilIface => true | _ => false)] ∧ Rep w23.heap.size w23 d [.bool d.ctor, .int .i64 d.int, .string d.name, .slice a2 d.args.length m2] := by
    rcases hway with ⟨h1, h2, rfl⟩ | ⟨h1, rfl, rfl⟩
    · rcases hp23 with ⟨d', vs, h3, h4, rfl, h5⟩ | ⟨h3, rfl⟩
      · rw [h1] at h3; cases h3
        obtain ⟨a2, m2, rfl⟩ := h5.form
        exact ⟨a2, m2, rfl, h5.rep fun b hb => hb.2⟩
      · have := h3 _ h1; rw [h2] at this; cases this
    · rcases hp23 with ⟨d', vs, h3, h4, rfl, h5⟩ | ⟨h3, rfl⟩
      · have := h1 _ h3; rw [h4] at this; cases this
      · exact ⟨none, 0, rfl, zero_rep _ _⟩
  obtain ⟨a2, m2, rfl, hrep23⟩ := pre2
  refine ⟨_, _, _, _, _, _, _, rfl, copyStep rfl rfl fun w33 at33 hb33 hs33 => ?_⟩
  have b33 := b23.trans (hb33.mono (by omega))
  have at22' := block_below (hb23.trans (hb33.mono (by omega))) (by omega) at22
  have c12 := cellsAt_of_block at22' [.bool d.ctor, .int .i64 d.int, .string d.name, .slice a1 d.args.length m1] 0 rfl
  have c23 := cellsAt_of_block at33 [.bool d.ctor, .int .i64 d.int, .string d.name, .slice a2 d.args.length m2] 0 rfl
  have r12 : Rep w33.heap.size w33 d [.bool d.ctor, .int .i64 d.int, .string d.name, .slice a1 d.args.length m1] := (((hrep12.kept hb22 (by omega)).kept hb23 (by omega)).kept hb33 (by omega)).up (by omega)
  have r23 : Rep w33.heap.size w33 d [.bool d.ctor, .int .i64 d.int, .string d.name, .slice a2 d.args.length m2] := (hrep23.kept hb33 (by omega)).up (by omega)
  have hm33 := hm12.kept (w' := w33) (((hb22.trans (hb23.mono (by omega))).trans (hb33.mono (by omega))).block g (by omega))
  -- Same and Kept
  have sk : ∀ (G : World → Prop) (G2 G3 : World → Prop), (∀ w', Below w33.heap.size w33 w' → G w') →
      Calls Tryd.prog 16 #[.agg #[.bool d.ctor, .int .i64 d.int, .string d.name, .slice a1 d.args.length m1], .agg #[.bool d.ctor, .int .i64 d.int, .string d.name, .slice a2 d.args.length m2]] w33 fun e51 w50 => ∃ (b52 : Bool), e51 = .returned (.bool b52) ∧ (bif (!b52) then G2 w50 else
        (Calls Tryd.prog 17 #[.slice (some ⟨g, 0, none⟩) L.length c', .slice a L.length c] w50 fun e54 w53 => ∃ (b55 : Bool), e54 = .returned (.bool b55) ∧ (bif (!b55) then G3 w53 else G w53))) := by
    intro G G2 G3 hG
    refine (Same_spec d d w33.heap.size w33 _ _ r12 r23 hnd (Nat.le_refl _)).mono ?_
    rintro _ w50 ⟨rfl, hb50⟩
    rw [cmpD_self]
    refine ⟨_, rfl, ifN (fun h => nomatch h) (fun _ => ?_)⟩
    have b50 := b33.trans (hb50.mono b33.size)
    have s50 := hb50.size
    refine (Kept_spec w50 B g c' a c L (hm33.kept (hb50.block g (by omega))) (hs.kept fun k hk => b50.block k (by omega)) hL).mono ?_
    rintro _ w53 ⟨rfl, hb53⟩
    exact ⟨_, rfl, ifN (fun h => nomatch h) (fun _ => hG _ (hb50.trans (hb53.mono hb50.size)))⟩
  rcases hway with ⟨h1, h2, rfl⟩ | ⟨h1, rfl, rfl⟩
  · refine ⟨true, .inl ⟨rfl, rfl⟩, ?_⟩
    show ∃ r35, IsNil .nilIface r35 ∧ _
    refine ⟨true, .inl ⟨rfl, rfl⟩, ?_⟩
    refine ⟨_, _, _, _, _, _, c12, _, _, _, _, _, _, c23, ?_⟩
    refine sk _ _ _ fun w86 hb86 => ?_
    have b86 := b33.trans (hb86.mono b33.size)
    have s86 := hb86.size
    refine ⟨_, _, _, _, _, _, cellsAt_below hb86 (by omega) c12, ?_⟩
    refine (Encode_spec tE xL xD d w33.heap.size w86 _ (r12.kept hb86 (Nat.le_refl _)) (by omega) (hg.kept b86)).mono ?_
    obtain ⟨bs0, he0, hl0, _⟩ := gr_enc _ h1
    rw [List.append_nil] at hl0
    rintro e w95 ⟨hb95, ⟨h, _⟩ | ⟨_, h, _⟩ | ⟨bs, a5, k, c5, _, he, rfl, rfl, ho⟩⟩
    · rw [h2] at h; cases h
    · rw [he0] at h; cases h
    · rw [he0] at he
      cases he
      have b95 := b86.trans (hb95.mono b86.size)
      refine ⟨_, _, _, _, rfl, true, .inl ⟨rfl, rfl⟩, ?_⟩
      refine ⟨_, conv_own ty30 rfl ty9 rfl ty5 rfl ho, _, conv_bsl (hs.kept (w' := w95) fun k hk => b95.block k (by omega)), ?_, b95⟩
      rw [hl0]; simp
  · refine ⟨false, .inr ⟨_, _, rfl, rfl⟩, ?_⟩
    show ∃ r35, IsNil (.iface 64 (.pointer (some aB))) r35 ∧ _
    refine ⟨false, .inr ⟨_, _, rfl, rfl⟩, ?_⟩
    refine ⟨_, cell_below b33 (by omega) hE, false, bytes_neq _ _ _ _, ?_⟩
    refine ⟨_, _, _, _, _, _, c12, _, _, _, _, _, _, c23, ?_⟩
    refine sk _ _ _ fun w53 hb53 => ?_
    exact ⟨rfl, b33.trans (hb53.mono b33.size)⟩

end Go.Proofs.YtkplhlciocbecaaDoor.Vf
