/- augurlaw19.HeapStrange at the model's run. -/
import Derived.Test.YtfenhbjamohdgaaDoorS3
import Derived.Test.YtfenhbjamohdgaaDoorS4
/- part H3A -/
section
namespace Go.Proofs.YtfenhbjamohdgaaDoor.Vf
open Go.Vx Go.Vx.Hp Go.RowKit

variable {hp : Nat} {w : World} {S : List St} {most : Int} {v : Value}

theorem Reach_bad' (h : Is hp w S most v) (E1 : Value) (h1 : w.cell? ⟨1, 0, none⟩ = some E1) (hlow : 2 < hp) (a : Option Addr) (c : Nat) (V : List Val) (hV : Vsl w a V) (hl : V.length ≤ 1048576) (hg : V.all (good S) = false) :
    Calls Tryd.prog 15 #[.pointer (some ⟨hp, 0, none⟩), .slice a V.length c] w fun e w' => e = .returned (.tuple #[.int .i64 0, E1]) ∧ Below w.heap.size w w' := by
  refine (Vh.Reach.calls (R := fun x w' => x = .tuple #[.int .i64 0, E1] ∧ Below w.heap.size w w') ?_).mono (fun x w' ⟨v, h1, h2, h3⟩ => ⟨by rw [h1, h2], h3⟩)
  unfold Vh.Reach.W
  have hlt := lt_of_block h.blk
  refine (goods_spec h a c V hV hl).mono ?_
  rintro _ w4 ⟨rfl, hb4⟩
  rw [hg]
  exact ⟨_, rfl, ifN (fun _ => drewStep fun w7 e7 hb7 => ⟨_, cell_below (hb4.trans (hb7.mono hb4.size)) (by omega) h1, rfl, hb4.trans (hb7.mono hb4.size)⟩) (fun h => nomatch h)⟩

theorem Nodes_bad (h : Is hp w S most v) (E1 : Value) (h1 : w.cell? ⟨1, 0, none⟩ = some E1) (hlow : 2 < hp) (r : Bool) (n : Int) (hb : good S ⟨r, n⟩ = false) :
    Calls Tryd.prog 17 #[.pointer (some ⟨hp, 0, none⟩), .agg #[.bool r, .int .i64 n]] w fun e w' => e = .returned (.tuple #[.int .i64 0, E1]) ∧ Below w.heap.size w w' := by
  refine (Vh.Nodes.calls (R := fun x w' => x = .tuple #[.int .i64 0, E1] ∧ Below w.heap.size w w') ?_).mono (fun x w' ⟨v, h1, h2, h3⟩ => ⟨by rw [h1, h2], h3⟩)
  unfold Vh.Nodes.W
  have hlt := lt_of_block h.blk
  refine box fun w3 at3 hb3 hs3 => ?_
  refine ⟨_, _, cellsAt_of_block at3 [.bool r, .int .i64 n] 0 rfl, (hgood_spec (h.below hb3) r n).mono ?_⟩
  rintro _ w9 ⟨rfl, hb9⟩
  have b9 := hb3.trans (hb9.mono (by omega))
  rw [hb]
  refine ⟨_, rfl, ifN (fun _ => drewStep fun w12 e12 hb12 => ?_) (fun hg => nomatch hg)⟩
  have b12 : Below w.heap.size w w12 := b9.trans (hb12.mono b9.size)
  exact ⟨_, cell_below b12 (by omega) h1, rfl, b12⟩

theorem Same_bad (h : Is hp w S most v) (E1 : Value) (h1 : w.cell? ⟨1, 0, none⟩ = some E1) (hlow : 2 < hp) (r r' : Bool) (n n' : Int) (hg : good S ⟨r, n⟩ = true) (hb : good S ⟨r', n'⟩ = false) :
    Calls Tryd.prog 16 #[.pointer (some ⟨hp, 0, none⟩), .agg #[.bool r, .int .i64 n], .agg #[.bool r', .int .i64 n']] w fun e w' => e = .returned (.tuple #[.bool false, E1]) ∧ Below w.heap.size w w' := by
  refine (Vh.Same.calls (R := fun x w' => x = .tuple #[.bool false, E1] ∧ Below w.heap.size w w') ?_).mono (fun x w' ⟨v, h1, h2, h3⟩ => ⟨by rw [h1, h2], h3⟩)
  unfold Vh.Same.W
  have hlt := lt_of_block h.blk
  refine box fun w3 at3 hb3 hs3 => box fun w4 at4 hb4 hs4 => ?_
  have b4 : Below w.heap.size w w4 := hb3.trans (hb4.mono (by omega))
  have at3' := block_below hb4 (by omega) at3
  refine ⟨_, _, cellsAt_of_block at3' [.bool r, .int .i64 n] 0 rfl, (hgood_spec (h.below b4) r n).mono ?_⟩
  rintro _ w9 ⟨rfl, hb9⟩
  have b9 := b4.trans (hb9.mono (by omega))
  rw [hg]
  refine ⟨_, rfl, ifN (fun h => nomatch h) (fun _ => ?_)⟩
  have at4' := block_below hb9 (by omega) at4
  refine ⟨_, _, cellsAt_of_block at4' [.bool r', .int .i64 n'] 0 rfl, (hgood_spec (h.below b9) r' n').mono ?_⟩
  rintro _ w10 ⟨rfl, hb10⟩
  have b10 := b9.trans (hb10.mono b9.size)
  rw [hb]
  refine ⟨_, rfl, ifN (fun _ => drewStep fun w12 e12 hb12 => ?_) (fun hg => nomatch hg)⟩
  have b12 : Below w.heap.size w w12 := b10.trans (hb12.mono b10.size)
  exact ⟨_, cell_below b12 (by omega) h1, rfl, b12⟩

/-- a place that a root's pointer names -/
def RootAt (w : World) (S : List St) (a : Option Addr) (j : Nat) (g : Bool) : Prop := ∃ b o b' o' r z, a = some ⟨b, o, none⟩ ∧ b < w.heap.size ∧ w.cell? ⟨b, o + j * 1, none⟩ = some (.pointer (some ⟨b', o', none⟩)) ∧ cellsAt w b' o' [.bool r, .int .i64 z] ∧ good S ⟨r, z⟩ = g
/-- a collection where a root is none -/
theorem Collect_bad (h : Is hp w S most v) (E1 : Value) (h1 : w.cell? ⟨1, 0, none⟩ = some E1) (hlow : 2 < hp) (a : Option Addr) (m c k : Nat) (hk : k < m) (hm : m ≤ 1000) (hgood : ∀ j, j < k → RootAt w S a j true)
    (hbad : RootAt w S a k false ∨ ∃ b o, a = some ⟨b, o, none⟩ ∧ b < w.heap.size ∧ w.cell? ⟨b, o + k * 1, none⟩ = some (.pointer none)) :
    Calls Tryd.prog 13 #[.pointer (some ⟨hp, 0, none⟩), .slice a m c] w fun e w' => e = .returned E1 ∧ Below w.heap.size w w' := by
  refine (Collect.calls (R := fun x w' => x = E1 ∧ Below w.heap.size w w') ?_).mono (fun x w' ⟨v, h1, h2, h3⟩ => ⟨by rw [h1, h2], h3⟩)
  unfold Collect.W
  have hlt := lt_of_block h.blk
  refine ⟨fun us w2 => ∃ j : Nat, j ≤ k ∧ us = [.int .i64 j] ∧ Below w.heap.size w w2, fun us _ => match us with | [.int _ j] => k - j.toNat | _ => 0, ⟨0, Nat.zero_le _, rfl, Below.refl _ w⟩, ?_⟩
  rintro _ us w6 ⟨j, hj, rfl, hb6⟩
  refine ⟨_, rfl, ifD (fun hlt' => ?_) (fun hge => absurd (show (j : Int) < (m : Int) by omega) hge)⟩
  rw [Int.toNat_natCast]
  by_cases hjk : j < k
  · obtain ⟨b, o, b', o', r, z, rfl, hbl, hc, hv, hgo⟩ := hgood j hjk
    refine ⟨b, o, rfl, by omega, hlt', _, cell_below hb6 hbl hc, ?_⟩
    refine ⟨_, _, rfl, _, _, cellsAt_below hb6 (cellsAt_lt hv) hv, (hgood_spec (h.below hb6) r z).mono ?_⟩
    rintro _ w9 ⟨rfl, hb9⟩
    rw [hgo]
    refine ⟨_, rfl, ifN (fun h => nomatch h) (fun _ => ?_)⟩
    rw [w64 (x := (j : Int) + 1) (by omega) (by omega)]
    exact ⟨⟨j + 1, by omega, rfl, hb6.trans (hb9.mono hb6.size)⟩, by simp only; omega⟩
  · obtain rfl : j = k := by omega
    rcases hbad with ⟨b, o, b', o', r, z, rfl, hbl, hc, hv, hgo⟩ | ⟨b, o, rfl, hbl, hc⟩
    · refine ⟨b, o, rfl, by omega, hlt', _, cell_below hb6 hbl hc, ?_⟩
      refine ⟨_, _, rfl, _, _, cellsAt_below hb6 (cellsAt_lt hv) hv, (hgood_spec (h.below hb6) r z).mono ?_⟩
      rintro _ w9 ⟨rfl, hb9⟩
      rw [hgo]
      have b9 := hb6.trans (hb9.mono hb6.size)
      exact ⟨_, rfl, ifN (fun _ => ⟨_, cell_below b9 (by omega) h1, rfl, b9⟩) (fun h => nomatch h)⟩
    · exact ⟨b, o, rfl, by omega, hlt', _, cell_below hb6 hbl hc, _, cell_below hb6 (by omega) h1, rfl, hb6⟩
end Go.Proofs.YtfenhbjamohdgaaDoor.Vf
end

/- part H3B -/
section
namespace Go.Proofs.YtfenhbjamohdgaaDoor.Vf
open Go.Vx Go.Vx.Hp Go.RowKit

/-- Alloc with a reference to nothing, or with no constructor -/
theorem Alloc_bad {hp : Nat} {w : World} {S : List St} {most : Int} {v : Value} {tE : Nat} {aH : Addr} {E1 E2 : Value} (h : Is hp w S most v) (hg : Glob w tE aH E1 E2) (hlow : 2 < hp) (n : Int) (hn : n ≤ 9223372036854775807) (a : Option Addr) (c : Nat) (V : List Val) (hV : Vsl w a V)
    (hap : ∀ b o, a = some ⟨b, o, none⟩ → ¬ Mine hp S v b) (h8 : V.length ≤ 8) (hbad : n < 0 ∨ V.all (good S) = false) :
    Calls Tryd.prog 10 #[.pointer (some ⟨hp, 0, none⟩), .int .i64 n, .slice a V.length c] w fun e w' => e = .returned (.tuple #[.agg #[.bool false, .int .i64 0], E1]) ∧ Below w.heap.size w w' := by
  have no : ∀ {p : Prop}, 0 ≤ n → V.all (good S) = true → p := fun h0 h1 => by
    rcases hbad with g | g
    · omega
    · rw [g] at h1; cases h1
  refine (Alloc_spec h _ E1 E2 hg.heap hg.state hg.large hlow n hn a c V hV (by omega) hap).mono ?_
  rintro _ w' ⟨x, rfl, ⟨_, rfl, hb⟩ | ⟨h0, _, h1, _⟩ | ⟨h0, _, h1, _⟩ | ⟨h0, _, h1, _⟩⟩
  · exact ⟨rfl, hb⟩
  · exact no h0 h1
  · exact no h0 h1
  · exact no h0 h1

set_option maxHeartbeats 2000000 in
theorem HeapStrange_spec {w : World} {tE : Nat} {aH aS : Addr} {E2 : Value} (hg : Glob w tE aH (.iface tE (.pointer (some aS))) E2) (hE : ErrTy tE) (n : Int) :
    Calls Tryd.prog 6 #[.int .i64 n] w fun e w' => e = .returned (.bool true) ∧ Below w.heap.size w w' := by
  refine (Vh.HeapStrange.calls (R := fun x w' => x = .bool true ∧ Below w.heap.size w w') ?_).mono (fun x w' ⟨v, h1, h2, h3⟩ => ⟨by rw [h1, h2], h3⟩)
  unfold Vh.HeapStrange.W
  have hsz := hg.size
  refine (alive_spec hg hE).mono ?_
  rintro _ w2 ⟨rfl, hb2⟩
  have s2 := hb2.size
  refine ⟨_, rfl, ifN (fun h => nomatch h) (fun _ => ?_)⟩
  refine (New_ok 50 w2 (by decide) (by decide)).mono ?_
  rintro _ w5 ⟨rfl, hb5, h5⟩
  have b5 := hb2.trans (hb5.mono s2)
  have s5 := lt_of_block h5.blk
  refine ⟨_, _, rfl, true, .inl ⟨rfl, rfl⟩, ifN (fun h => nomatch h) (fun _ => ?_)⟩
  show cond false _ _
  have g5 := hg.kept (b5.mono (by omega))
  refine (Alloc_ok h5 g5 (by omega) 3 (by decide) (by decide) none 0 [] (fun j hj => by simp at hj) (fun b o e => nomatch e) (by decide) rfl (by decide) (by decide) (by decide)).mono ?_
  rintro _ w10 ⟨rfl, b0, v10, hb0, h10, c10, n10⟩
  have s10 := c10.size
  have b10 : Below w.heap.size w w10 := b5.trans (c10.below (B := w.heap.size) (by omega) fun k hk => by
    rintro (e | e)
    · omega
    · cases e)
  refine ⟨_, _, _, rfl, copyStep rfl rfl fun w16 at10 hb16 hs16 => copyStep rfl rfl fun w18 at16 hb18 hs18 => ?_⟩
  have h16 := h10.below hb16
  have h18 := h16.below hb18
  have b18 : Below w.heap.size w w18 := b10.trans ((hb16.trans (hb18.mono (by omega))).mono (by omega))
  have s18 := b18.size
  have at10' := block_below hb18 (by omega) at10
  have l10 := lt_of_block at10'
  have l16 := lt_of_block at16
  refine ⟨true, .inl ⟨rfl, rfl⟩, ifN (fun h => nomatch h) (fun _ => ?_)⟩
  refine ⟨_, _, cellsAt_of_block at16 [.bool true, .int .i64 n] 0 rfl, _, _, cellsAt_of_block at10' [.bool true, .int .i64 0] 0 rfl, _, val_eq w18 _ _ ⟨true, n⟩ ⟨true, 0⟩, ?_⟩
  by_cases hn : n = 0
  · subst hn
    show ∃ r26, IsNil .nilIface r26 ∧ _
    exact ⟨true, .inl ⟨rfl, rfl⟩, rfl, b18⟩
  rw [show ((true == true) && (n == 0)) = false by simp [hn]]
  show ∃ _ _, _
  have bad : good ([] ++ [(⟨b0, 3, [], 1 + sumN [] [], maxD [] []⟩ : St)]) ⟨true, n⟩ = false := by
    by_cases h : n < 0
    · have : ¬ 0 ≤ n := by omega
      simp [good, this]
    · have h1 : n.toNat ≠ 0 := by omega
      obtain ⟨m, hm⟩ : ∃ m, n.toNat = m + 1 := ⟨n.toNat - 1, by omega⟩
      simp [good, hm, find, St.size]
  have goodA : good ([] ++ [(⟨b0, 3, [], 1 + sumN [] [], maxD [] []⟩ : St)]) ⟨true, 0⟩ = true := by simp [good, find]
  have st : ∀ {x y : World}, Below w18.heap.size w18 x → Below x.heap.size x y → Below w18.heap.size w18 y := fun h k => h.trans (k.mono h.size)
  have glo : ∀ {x : World}, Below w18.heap.size w18 x → Glob x tE aH (.iface tE (.pointer (some aS))) E2 := fun h => hg.kept ((b18.trans (h.mono (by omega))).mono (by omega))
  refine ⟨_, _, cellsAt_of_block at10' [.bool true, .int .i64 0] 0 rfl, _, _, cellsAt_of_block at16 [.bool true, .int .i64 n] 0 rfl, box fun w31 at31 hb31 hs31 => ?_⟩
  have h31 := h18.below hb31
  refine (Alloc_bad h31 (glo hb31) (by omega) 1 (by decide) (some ⟨w18.heap.size, 0, none⟩) 2 [⟨true, 0⟩, ⟨true, n⟩] (fun j hj => ⟨_, _, rfl, by
    match j, hj with
    | 0, _ => exact cellsAt_of_block at31 [.bool true, .int .i64 0] 0 rfl
    | 1, _ => exact cellsAt_of_block at31 [.bool true, .int .i64 n] 2 rfl⟩) (fun b o e hm => by cases e; have := h18.mine_lt hm; omega) (by simp) (.inr (by simp only [List.all_cons, bad]; simp))).mono ?_
  rintro _ w32 ⟨rfl, hb32⟩
  have k32 := st hb31 hb32
  refine ⟨_, _, _, rfl, copyStep rfl rfl fun w38 _ hb38 _ => ?_⟩
  have k38 := st k32 hb38
  refine ⟨_, _, cellsAt_of_block (block_below k38 l16 at16) [.bool true, .int .i64 n] 0 rfl, (Get_bad (h18.below k38) _ (glo k38).state (by omega) true n (.inr bad)).mono ?_⟩
  rintro _ w41 ⟨rfl, hb41⟩
  have k41 := st k38 hb41
  refine ⟨_, _, _, _, _, rfl, _, _, cellsAt_of_block (block_below k41 l10 at10') [.bool true, .int .i64 0] 0 rfl, _, _, cellsAt_of_block (block_below k41 l16 at16) [.bool true, .int .i64 n] 0 rfl,
    (Same_bad (h18.below k41) _ (glo k41).state (by omega) true true 0 n goodA bad).mono ?_⟩
  rintro _ w52 ⟨rfl, hb52⟩
  have k52 := st k41 hb52
  refine ⟨_, _, rfl, _, _, cellsAt_of_block (block_below k52 l16 at16) [.bool true, .int .i64 n] 0 rfl, copyStep rfl rfl fun w59 at59 hb59 hs59 => box fun w60 at60 hb60 hs60 => ?_⟩
  have k59 := st k52 hb59
  have k60 := st k59 hb60
  have at59' := block_below hb60 (by omega) at59
  have z52 := k52.size
  refine (Collect_bad (h18.below k60) _ (glo k60).state (by omega) (some ⟨w59.heap.size, 0, none⟩) 2 2 1 (by decide) (by decide) (fun j hj => by
    obtain rfl : j = 0 := by omega
    exact ⟨_, _, _, _, _, _, rfl, by omega, cell_of_block at60 rfl, cellsAt_of_block (block_below k60 l10 at10') [.bool true, .int .i64 0] 0 rfl, goodA⟩)
    (.inl ⟨_, _, _, _, _, _, rfl, by omega, cell_of_block at60 rfl, cellsAt_of_block at59' [.bool true, .int .i64 n] 0 rfl, bad⟩)).mono ?_
  rintro _ w61 ⟨rfl, hb61⟩
  have k61 := st k60 hb61
  refine ⟨_, rfl, box fun w64 at64 hb64 hs64 => ?_⟩
  have k64 := st k61 hb64
  refine (Collect_bad (h18.below k64) _ (glo k64).state (by omega) (some ⟨w61.heap.size, 0, none⟩) 1 1 0 (by decide) (by decide) (fun j hj => by omega)
    (.inr ⟨_, _, rfl, by omega, cell_of_block at64 rfl⟩)).mono ?_
  rintro _ w65 ⟨rfl, hb65⟩
  have k65 := st k64 hb65
  refine ⟨_, rfl, _, _, cellsAt_of_block (block_below k65 l16 at16) [.bool true, .int .i64 n] 0 rfl, box fun w70 at70 hb70 hs70 => ?_⟩
  have k70 := st k65 hb70
  refine (Reach_bad' (h18.below k70) _ (glo k70).state (by omega) (some ⟨w65.heap.size, 0, none⟩) 1 [⟨true, n⟩] (fun j hj => ⟨_, _, rfl, by
    match j, hj with
    | 0, _ => exact cellsAt_of_block at70 [.bool true, .int .i64 n] 0 rfl⟩) (by simp) (by simp only [List.all_cons, bad]; simp)).mono ?_
  rintro _ w71 ⟨rfl, hb71⟩
  have k71 := st k70 hb71
  refine ⟨_, _, rfl, _, _, cellsAt_of_block (block_below k71 l16 at16) [.bool true, .int .i64 n] 0 rfl, (Nodes_bad (h18.below k71) _ (glo k71).state (by omega) true n bad).mono ?_⟩
  rintro _ w77 ⟨rfl, hb77⟩
  have k77 := st k71 hb77
  refine ⟨_, _, rfl, (Get_bad (h18.below k77) _ (glo k77).state (by omega) false n (.inl rfl)).mono ?_⟩
  rintro _ w81 ⟨rfl, hb81⟩
  have k81 := st k77 hb81
  refine ⟨_, _, _, _, _, rfl, (Alloc_bad (h18.below k81) (glo k81) (by omega) (-1) (by decide) none 0 [] (fun j hj => by simp at hj) (fun b o e => nomatch e) (by decide) (.inl (by decide))).mono ?_⟩
  rintro _ w88 ⟨rfl, hb88⟩
  have k88 := st k81 hb88
  refine ⟨_, _, _, rfl, copyStep rfl rfl fun w94 _ hb94 _ => ⟨⟨rfl, rfl, rfl, rfl, rfl, rfl, rfl, rfl, rfl, trivial⟩, box fun w95 at95 hb95 hs95 => ?_⟩⟩
  have k94 := st k88 hb94
  have k95 := st k94 hb95
  have h95 := h18.below k95
  refine ⟨fun us w' => ∃ j : Nat, j ≤ 9 ∧ us = [.int .i64 j] ∧ w95 = w', fun us _ => match us with | [.int _ j] => 9 - j.toNat | _ => 0, ⟨0, by decide, rfl, rfl⟩, ?_⟩
  rintro _ us _ ⟨j, hj, rfl, rfl⟩
  refine ⟨_, rfl, ifD (fun hlt => ?_) (fun _ => ?_)⟩
  · have hj9 : j < 9 := by omega
    refine ⟨_, _, rfl, by omega, hlt, .iface tE (.pointer (some aS)), ?_, _, (glo k95).state, _, hE.ne _ _ _ _, ?_⟩
    · rw [Int.toNat_natCast]
      refine cell_of_block at95 ?_
      obtain rfl | rfl | rfl | rfl | rfl | rfl | rfl | rfl | rfl : j = 0 ∨ j = 1 ∨ j = 2 ∨ j = 3 ∨ j = 4 ∨ j = 5 ∨ j = 6 ∨ j = 7 ∨ j = 8 := by omega
      all_goals rfl
    · show _ ∧ _
      rw [Go.Vx.w64 (x := (j : Int) + 1) (by omega) (by omega)]
      exact ⟨⟨j + 1, by omega, rfl, rfl⟩, by simp only; omega⟩
  · refine (Used_spec h95).mono ?_
    rintro _ _ ⟨rfl, rfl⟩
    refine ⟨_, rfl, ?_⟩
    show ∃ _ _, _
    have k59' := k59
    have at59w : w95.heap[w52.heap.size]? = some (.cells #[.bool true, .int .i64 n] 30 (0, 0)) := by
      have c1 : Below w60.heap.size w60 w95 := hb61.trans ((hb64.trans ((hb65.trans ((hb70.trans ((hb71.trans ((hb77.trans ((hb81.trans ((hb88.trans ((hb94.trans (hb95.mono hb94.size)).mono hb88.size)).mono hb81.size)).mono hb77.size)).mono hb71.size)).mono hb70.size)).mono hb65.size)).mono hb64.size)).mono hb61.size)
      exact block_below c1 (lt_of_block at59') at59'
    refine ⟨_, _, cellsAt_of_block at59w [.bool true, .int .i64 n] 0 rfl, _, _, cellsAt_of_block (block_below k95 l16 at16) [.bool true, .int .i64 n] 0 rfl, _, val_eq w95 _ _ ⟨true, n⟩ ⟨true, n⟩, by simp, b18.trans (k95.mono s18)⟩
end Go.Proofs.YtfenhbjamohdgaaDoor.Vf
end
