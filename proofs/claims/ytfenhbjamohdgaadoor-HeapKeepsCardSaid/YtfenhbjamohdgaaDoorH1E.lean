/- augurlaw19.HeapRoom at the model's run. -/
import Derived.Test.YtfenhbjamohdgaaDoorH1D
namespace Go.Vx
theorem tmod_pos (n : Int) (m : Nat) (h0 : 0 < m) (h1 : m ≤ 1048576) : ∃ k : Nat, k < m ∧ Int.tmod (IntKind.i64.wrap (Int.tmod n (m : Int) + (m : Int))) (m : Int) = (k : Int) := by
  have a1 : Int.tmod n (m : Int) < m := Int.tmod_lt_of_pos n (by omega)
  have a2 : -(m : Int) < Int.tmod n (m : Int) := by
    have := Int.tmod_lt_of_pos (-n) (b := (m : Int)) (by omega)
    rw [Int.neg_tmod] at this; omega
  rw [w64 (x := Int.tmod n (m : Int) + (m : Int)) (by omega) (by omega)]
  have a3 := Int.tmod_nonneg (m : Int) (a := Int.tmod n (m : Int) + (m : Int)) (by omega)
  have a4 := Int.tmod_lt_of_pos (Int.tmod n (m : Int) + (m : Int)) (b := (m : Int)) (by omega)
  exact ⟨(Int.tmod (Int.tmod n (m : Int) + (m : Int)) (m : Int)).toNat, by omega, by omega⟩
end Go.Vx

namespace Go.Proofs.YtfenhbjamohdgaaDoor.Vf
open Go.Vx Go.Vx.Hp Go.RowKit

/-- ints in memory, as a slice that came in -/
def Isl (B : Nat) (w : World) (a : Option Addr) (L : List Int) : Prop := ∀ j (h : j < L.length), ∃ b o, a = some ⟨b, o, none⟩ ∧ b < B ∧ w.cell? ⟨b, o + j * 1, none⟩ = some (.int .i64 L[j])

theorem zeros_vals {w : World} {b k : Nat} (h : w.heap[b]? = some (.cells (zerosA [.bool false, .int .i64 0] k) 30 (0, 0))) : Vsl w (some ⟨b, 0, none⟩) (List.replicate k ⟨false, 0⟩) := by
  intro j hj
  rw [List.length_replicate] at hj
  refine ⟨b, 0, rfl, ?_⟩
  rw [List.getElem_replicate]
  have hz : ∀ i, i < k * 2 → (zerosA [.bool false, .int .i64 0] k).toList[i]? = some (if i % 2 = 0 then Value.bool false else .int .i64 0) := by
    intro i hi
    have hsz : (zerosA [.bool false, .int .i64 0] k).size = k * 2 := by simp [zerosA]
    rw [Array.getElem?_toList, Array.getElem?_eq_getElem (by omega)]
    simp only [zerosA, Array.getElem_map, Array.getElem_range]
    congr 1
    have h2 : i % 2 = 0 ∨ i % 2 = 1 := by omega
    rcases h2 with h2 | h2 <;> simp [h2]
  refine ⟨?_, ?_, trivial⟩
  · exact cell_of_block h ((hz _ (by omega)).trans (by rw [if_pos (by omega)]))
  · exact cell_of_block h ((hz _ (by omega)).trans (by rw [if_neg (by omega)]))

theorem sumN_zeros (S : List St) (k : Nat) : sumN S (List.replicate k ⟨false, 0⟩) = k ∧ maxD S (List.replicate k ⟨false, 0⟩) ≤ 2 ∧ (List.replicate k (⟨false, 0⟩ : Val)).all (good S) = true := by
  induction k with
  | zero => exact ⟨rfl, (show (1 : Int) ≤ 2 by decide), rfl⟩
  | succ k ih =>
    obtain ⟨h1, h2, h3⟩ := ih
    refine ⟨?_, ?_, ?_⟩
    · rw [List.replicate_succ, sumN, h1]; simp [nodesOf]; omega
    · rw [List.replicate_succ, maxD]; simp only [depthOf, Bool.false_eq_true, if_false]; omega
    · rw [List.replicate_succ, List.all_cons, h3]; rfl

theorem find_new (S : List St) (s : St) : find (S ++ [s]) (used S) = some s := by
  rw [find_append_right (Nat.le_refl _), Nat.sub_self]; rfl

set_option maxHeartbeats 1000000 in
theorem HeapRoom_spec {w : World} {tE : Nat} {aH : Addr} {E1 E2 : Value} (hg : Glob w tE aH E1 E2) (hE : ErrTy tE) (n : Int) (a : Option Addr) (c : Nat) (L : List Int) (hs : Isl w.heap.size w a L) :
    Calls Tryd.prog 3 #[.int .i64 n, .slice a L.length c] w fun e w' => e = .returned (.bool true) ∧ Below w.heap.size w w' := by
  refine (HeapRoom.calls (R := fun x w' => x = .bool true ∧ Below w.heap.size w w') ?_).mono (fun x w' ⟨v, h1, h2, h3⟩ => ⟨by rw [h1, h2], h3⟩)
  unfold HeapRoom.W
  have hsz := hg.size
  refine (alive_spec hg hE).mono ?_
  rintro _ w5 ⟨rfl, hb5⟩
  have s5 := hb5.size
  refine ⟨_, rfl, ifN (fun h => nomatch h) (fun _ => ?_)⟩
  obtain ⟨K, hK, eK⟩ := tmod_pos n 200 (by decide) (by decide)
  have eK' : Int.tmod (IntKind.i64.wrap (Int.tmod n 200 + 200)) 200 = (K : Int) := eK
  rw [eK']
  refine ⟨rfl, by decide, rfl, by decide, (New_ok (K : Int) w5 (by omega) (by omega)).mono ?_⟩
  rintro _ w8 ⟨rfl, hb8, h8⟩
  have b8 := hb5.trans (hb8.mono s5)
  have s8 := lt_of_block h8.blk
  refine ⟨_, _, rfl, true, .inl ⟨rfl, rfl⟩, ifN (fun h => nomatch h) (fun _ => ?_)⟩
  show cond false _ _
  -- the end
  have fin : ∀ (w15 : World) (S : List St) (v : Value), Is w5.heap.size w15 S K v → Below w.heap.size w w15 →
      (Calls Tryd.prog 13 #[(.pointer (some ⟨w5.heap.size, 0, none⟩)), (.slice none 0 0)] w15 fun e24 w23 => ∃ (v25 : Value), e24 = .returned v25 ∧ (∃ r26, IsNil v25 r26 ∧ (bif r26 then (Calls Tryd.prog 12 #[(.pointer (some ⟨w5.heap.size, 0, none⟩))] w23 fun e28 w27 => ∃ (n29 : Int), e28 = .returned (.int .i64 n29) ∧ (bif (n29 == (0 : Int)) then (Calls Tryd.prog 14 #[(.pointer (some ⟨w5.heap.size, 0, none⟩))] w27 fun e31 w30 => ∃ (n32 : Int), e31 = .returned (.int .i64 n32) ∧ (Value.bool (n32 == (K : Int)) = .bool true ∧ Below w.heap.size w w30)) else (Value.bool false = .bool true ∧ Below w.heap.size w w27))) else (Value.bool false = .bool true ∧ Below w.heap.size w w23)))) := by
    intro w15 S v h15 b15
    refine (Collect_none h15 0).mono ?_
    rintro _ w23 ⟨rfl, h23, c23⟩
    have b23 : Below w.heap.size w w23 := b15.trans (c23.below b15.size fun k hk e => by omega)
    refine ⟨_, rfl, true, .inl ⟨rfl, rfl⟩, (Used_spec h23).mono ?_⟩
    rintro _ _ ⟨rfl, rfl⟩
    refine ⟨_, rfl, ifE (fun _ => (Cells_spec h23).mono ?_) (fun h => absurd rfl h)⟩
    rintro _ _ ⟨rfl, rfl⟩
    exact ⟨_, rfl, by simp, b23⟩
  refine ⟨fun us w2 => ∃ (j : Nat) (S : List St) (v : Value), j ≤ L.length ∧ j ≤ 101 ∧ us = [.int .i64 (used S : Nat), .int .i64 j] ∧ Is w5.heap.size w2 S K v ∧ Below w.heap.size w w2,
    fun us _ => match us with | [_, .int _ j] => L.length - j.toNat | _ => 0, ⟨0, [], _, Nat.zero_le _, by decide, rfl, h8, b8⟩, ?_⟩
  rintro _ us w15 ⟨j, S, v, hj, hj2, rfl, h15, b15⟩
  refine ⟨_, _, rfl, ifD (fun hlt => ?_) (fun _ => fin w15 S v h15 b15)⟩
  have hlt' : j < L.length := by omega
  obtain ⟨b, o, rfl, hbB, hc⟩ := hs j hlt'
  refine ⟨b, o, rfl, by omega, hlt, _, cell_below b15 hbB hc, ifD (fun _ => fin w15 S v h15 b15) (fun hj3 => ?_)⟩
  obtain ⟨k, hk, ek⟩ := tmod_pos L[j] 9 (by decide) (by decide)
  have ek' : Int.tmod (IntKind.i64.wrap (Int.tmod L[j] 9 + 9)) 9 = (k : Int) := ek
  rw [ek']
  have hfit := h15.fits
  have s15 := b15.size
  rw [Int.toNat_natCast, w64 (x := (used S : Int) + 1) (by omega) (by omega), w64 (x := (used S : Int) + 1 + (k : Int)) (by omega) (by omega), w64 (x := 1 + (k : Int)) (by omega) (by omega), w64 (x := (used S : Int) + (1 + (k : Int))) (by omega) (by omega), w64 (x := (j : Int) + 1) (by omega) (by omega)]
  refine ⟨rfl, by decide, rfl, by decide, by omega, by omega, by omega, by omega, box fun w33 at33 hb33 hs33 => ?_⟩
  have h33 := h15.below hb33
  have b33 := b15.trans (hb33.mono b15.size)
  have g33 := hg.kept (b33.mono (by omega))
  obtain ⟨z1, z2, z3⟩ := sumN_zeros S k
  have hl : (List.replicate k (⟨false, 0⟩ : Val)).length = k := List.length_replicate
  have hap : ∀ b o, (some ⟨w15.heap.size, 0, none⟩ : Option Addr) = some ⟨b, o, none⟩ → ¬ Mine w5.heap.size S v b := fun b o e hm => by cases e; have := h15.mine_lt hm; omega
  have hlow : 2 < w5.heap.size := by omega
  have hownlt : ∀ g, v.ownBlock = some g → w5.heap.size < g := fun g hg => by have := h15.own.lt g hg; omega
  by_cases hroom : used S + 1 + k ≤ K
  · have hA := Alloc_ok h33 g33 hlow (j : Int) (by omega) (by omega) (some ⟨w15.heap.size, 0, none⟩) k (List.replicate k ⟨false, 0⟩) (zeros_vals at33) hap (by omega) z3 (by omega) (by omega) (by omega)
    rw [hl] at hA
    refine hA.mono ?_
    rintro _ w34 ⟨rfl, b0, v34, hb0, h34, c34, n34⟩
    have b34 : Below w.heap.size w w34 := b33.trans (c34.below (by omega) fun q hq => by
      rintro (e | e)
      · omega
      · have := hownlt q e.symm; omega)
    refine ⟨_, _, _, rfl, copyStep rfl rfl fun w40 at40 hb40 hs40 => ?_⟩
    have h40 := h34.below hb40
    have b40 := b34.trans (hb40.mono b34.size)
    have g40 := hg.kept (b40.mono (by omega))
    refine ⟨true, .inl ⟨rfl, rfl⟩, ifN (fun h => ?_) (fun _ => ?_)⟩
    · rw [decide_eq_true (by omega)] at h; cases h
    refine ⟨true, .inl ⟨rfl, rfl⟩, ifN (fun h => nomatch h) (fun _ => ?_)⟩
    refine ⟨true, .inl ⟨rfl, rfl⟩, ?_⟩
    show ∃ b46 n47, _
    refine ⟨_, _, cellsAt_of_block at40 [.bool true, .int .i64 (used S : Nat)] 0 rfl, ?_⟩
    have hf := find_new S ⟨b0, (j : Int), List.replicate k ⟨false, 0⟩, 1 + sumN S (List.replicate k ⟨false, 0⟩), maxD S (List.replicate k ⟨false, 0⟩)⟩
    refine (Get_ok h40 (used S : Nat) _ (by simp only [good, Bool.not_true, Bool.false_or, Int.toNat_natCast]; rw [hf, decide_eq_true (by omega)]; rfl) (by rw [Int.toNat_natCast]; exact hf)).mono ?_
    rintro _ w48 ⟨a48, c48, rfl, hb48, own48⟩
    have h48 := h40.below hb48
    have b48 := b40.trans (hb48.mono b40.size)
    refine ⟨_, _, _, _, _, rfl, true, .inl ⟨rfl, rfl⟩, ifN (fun h => nomatch h) (fun _ => ?_)⟩
    refine ifNE (fun h => absurd rfl h) (fun _ => ifNE (fun h => absurd (by simp) h) (fun _ => ?_))
    refine (Used_spec h48).mono ?_
    rintro _ _ ⟨rfl, rfl⟩
    have hu : used (S ++ [⟨b0, (j : Int), List.replicate k ⟨false, 0⟩, 1 + sumN S (List.replicate k ⟨false, 0⟩), maxD S (List.replicate k ⟨false, 0⟩)⟩]) = used S + (1 + k) := by
      rw [used_append, used_cons, used_nil]; simp [St.size]
    refine ⟨_, rfl, ifNE (fun h => absurd (by rw [hu]; omega) h) (fun _ => ?_)⟩
    refine ⟨⟨j + 1, _, _, hlt', by omega, ?_, h48, b48⟩, by simp only; omega⟩
    rw [hu]; simp
  · have hA := Alloc_full h33 g33 hlow (j : Int) (by omega) (by omega) (some ⟨w15.heap.size, 0, none⟩) k (List.replicate k ⟨false, 0⟩) (zeros_vals at33) hap (by omega) z3 (by omega) (by omega) (by omega)
    rw [hl] at hA
    refine hA.mono ?_
    rintro _ w34 ⟨rfl, hb34⟩
    have b34 := b33.trans (hb34.mono b33.size)
    have h34 := h33.below hb34
    refine ⟨_, _, _, rfl, copyStep rfl rfl fun w40 at40 hb40 hs40 => ?_⟩
    have h40 := h34.below hb40
    have b40 := b34.trans (hb40.mono b34.size)
    have g40 := hg.kept (b40.mono (by omega))
    refine ⟨false, .inr ⟨_, _, rfl, rfl⟩, ifN (fun h => ?_) (fun _ => ?_)⟩
    · rw [decide_eq_false (by omega)] at h; cases h
    refine ⟨false, .inr ⟨_, _, rfl, rfl⟩, ifN (fun _ => ?_) (fun h => nomatch h)⟩
    refine ⟨_, g40.heap, false, hE.ne _ _ _ _, ?_⟩
    show ∃ r45, _
    refine ⟨false, .inr ⟨_, _, rfl, rfl⟩, ?_⟩
    refine (Used_spec h40).mono ?_
    rintro _ _ ⟨rfl, rfl⟩
    refine ⟨_, rfl, ifNE (fun h => absurd rfl h) (fun _ => ?_)⟩
    exact ⟨⟨j + 1, S, v, hlt', by omega, rfl, h40, b40⟩, by simp only; omega⟩

end Go.Proofs.YtfenhbjamohdgaaDoor.Vf
