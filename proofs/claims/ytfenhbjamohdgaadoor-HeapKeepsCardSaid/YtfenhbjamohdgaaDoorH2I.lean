/- augurlaw19.HeapLists at the model's run. -/
import Derived.Test.YtfenhbjamohdgaaDoorH2H
import Derived.Test.YtfenhbjamohdgaaDoorH1E
namespace Go.Proofs.YtfenhbjamohdgaaDoor.Vf
open Go.Vx Go.Vx.Hp Go.RowKit

theorem val_ne (w : World) (xo yo : Operand) (a b : Val) : Runs Tryd.prog (semEq .neq 30 xo yo (.agg #[.bool a.ref, .int .i64 a.n]) (.agg #[.bool b.ref, .int .i64 b.n])) w (.bool (!(a.ref == b.ref && a.n == b.n))) w := by
  have h := val_eq w xo yo a b
  unfold Runs semEq at h ⊢
  rw [Sem.run_bind, run_eqGuard_agg w _ _ _ _ _ _ guard30, Result.andThen_ok] at h ⊢
  rw [run_eql_struct] at h
  rw [run_neq_struct]
  generalize (Op.equalIn 10000 30 (.agg #[.bool a.ref, .int .i64 a.n]) (.agg #[.bool b.ref, .int .i64 b.n])).run Tryd.prog w = r at h ⊢
  cases r with
  | ok x w' =>
    simp only [Result.andThen_ok, Result.ok.injEq, Value.bool.injEq] at h ⊢
    exact ⟨by rw [h.1], h.2⟩
  | halt x w' => simp [Result.andThen] at h

/-- the list and the heap between two rounds -/
structure LInv (hp L : Nat) (w0 w : World) (most : Int) (k : Nat) (S : List St) (v : Value) (x : Val) : Prop where
  is : Is hp w S most v
  lst : Lst S x k
  blk : w.heap[L]? = some (.cells #[.bool x.ref, .int .i64 x.n] 30 (0, 0))
  not : ¬ Mine hp S v L
  below : Below w0.heap.size w0 w

theorem coll_step {hp L : Nat} {w0 w : World} {most : Int} {k : Nat} {S : List St} {v : Value} {x : Val} (h : LInv hp L w0 w most k S v x) (hL : w0.heap.size ≤ L) (hhp : w0.heap.size ≤ hp) (i : Nat) (hi : k = i + 1) (hi2 : i ≤ 1000) (B1 B2 G : World → Prop)
    (hG : ∀ w' S' v' x', LInv hp L w0 w' most k S' v' x' → used S' = 3 * k + 1 → G w') :
    withW (World.alloc w (.cells #[(.pointer (some ⟨L, 0, none⟩ : Option Addr))] 39)) fun w44 =>
      (Calls Tryd.prog 13 #[(.pointer (some ⟨hp, 0, none⟩)), (.slice (some ⟨w.heap.size, 0, none⟩ : Option Addr) 1 1)] w44 fun e46 w45 => ∃ (v47 : Value), e46 = .returned v47 ∧ (∃ r48, IsNil v47 r48 ∧ (bif (!r48) then B1 w45 else (Calls Tryd.prog 12 #[(.pointer (some ⟨hp, 0, none⟩))] w45 fun e50 w49 => ∃ (n51 : Int), e50 = .returned (.int .i64 n51) ∧ (bif (n51 != (IntKind.i64.wrap ((IntKind.i64.wrap (3 * (IntKind.i64.wrap ((i : Int) + 1)))) + 1))) then B2 w49 else G w49))))) := by
  refine box fun w44 at44 hb44 hs44 => ?_
  have hLlt := lt_of_block h.blk
  have h44 := h.is.below hb44
  have L44 := block_below hb44 hLlt h.blk
  refine (Collect_spec h44 [(L, 0)] (fun _ => x) (some ⟨w.heap.size, 0, none⟩) 1 (by simp) (fun y hy => ?_) (fun y hy => ?_) (fun y hy => ?_) (fun y hy z hz hne => ?_) (fun y hy => h.lst.at.2.1) (fun j hj => ?_) (fun b f e => ?_)).mono ?_
  · rw [List.mem_singleton] at hy; subst hy
    exact cellsAt_of_block L44 _ 0 rfl
  · rw [List.mem_singleton] at hy; subst hy; exact ⟨_, _, L44⟩
  · rw [List.mem_singleton] at hy; subst hy; exact h.not
  · rw [List.mem_singleton] at hy hz; subst hy hz; exact absurd rfl hne
  · have : j = 0 := by simp at hj; exact hj
    subst this
    exact ⟨w.heap.size, 0, rfl, cell_of_block at44 rfl⟩
  · cases e
    refine ⟨fun hm => by have := h.is.mine_lt hm; omega, ?_⟩
    rintro ⟨y, hy, e⟩
    rw [List.mem_singleton] at hy; subst hy
    simp only at e; omega
  · rintro _ w45 ⟨rfl, M, T, col⟩
    refine ⟨_, rfl, true, .inl ⟨rfl, rfl⟩, ifN (fun h => nomatch h) (fun _ => ?_)⟩
    refine (Used_spec col.is).mono ?_
    rintro _ _ ⟨rfl, rfl⟩
    have hin := col.roots (L, 0) (by simp)
    have hsize := Lst.size h.is.nd col.mv col.args h.lst hin (fun y hy => by have := col.rch y hy; simpa using this)
    have hu : used (moved M) = 3 * k + 1 := by rw [used_moved]; exact hsize
    rw [w64 (x := (i : Int) + 1) (by omega) (by omega), w64 (x := 3 * ((i : Int) + 1)) (by omega) (by omega), w64 (x := 3 * ((i : Int) + 1) + 1) (by omega) (by omega)]
    refine ⟨_, rfl, ifNE (fun hne => absurd (by rw [hu]; omega) hne) (fun _ => hG w45 (moved M) T (fwd M x) ⟨col.is, h.lst.moved col.mv col.args hin, ?_, ?_, ?_⟩ hu)⟩
    · obtain ⟨cs, t, cs', e1, e2, e3⟩ := col.rb.shape (L, 0) (by simp)
      have hc := col.cells (L, 0) (by simp)
      rw [L44] at e1
      simp only [Option.some.injEq, Obj.cells.injEq, and_true] at e1
      obtain ⟨rfl, rfl⟩ := e1
      have h0 := hc.1
      have h1 := hc.2.1
      simp only [World.cell?, e2] at h0 h1
      rw [e2]
      congr 2
      apply Array.ext_getElem?
      intro o
      match o with
      | 0 => simpa using h0
      | 1 => simpa using h1
      | o + 2 => rw [Array.getElem?_eq_none (by rw [e3]; show 2 ≤ o + 2; omega)]; simp
    · rintro (e | e | ⟨s, hs, e⟩)
      · exact h.not (.inl e)
      · have := col.town L e.symm; omega
      · obtain ⟨y, hy, rfl⟩ := List.mem_map.1 hs
        exact h.not (.inr (.inr ⟨y.2, find_mem (col.mv.of y hy), e⟩))
    · refine (h.below.trans (hb44.mono h.below.size)).trans ⟨col.os.1, col.os.2.1, col.os.2.2, col.sz, fun q hq => col.old q (by have := h.below.size; omega) (fun hm => ?_) ?_⟩
      · have : hp ≤ q := by
          rcases hm with e | e | ⟨s, hs, e⟩
          · omega
          · have := h.is.own.lt q e.symm; omega
          · have := (h.is.hd s hs).1; omega
        omega
      · rintro ⟨y, hy, e⟩
        rw [List.mem_singleton] at hy; subst hy
        simp only at e; omega

set_option maxHeartbeats 2000000 in
theorem HeapLists_spec {w : World} {tE : Nat} {aH : Addr} {E1 E2 : Value} (hg : Glob w tE aH E1 E2) (hE : ErrTy tE) (n m : Int) :
    Calls Tryd.prog 4 #[.int .i64 n, .int .i64 m] w fun e w' => e = .returned (.bool true) ∧ Below w.heap.size w w' := by
  refine (HeapLists.calls (R := fun x w' => x = .bool true ∧ Below w.heap.size w w') ?_).mono (fun x w' ⟨v, h1, h2, h3⟩ => ⟨by rw [h1, h2], h3⟩)
  unfold HeapLists.W
  have hsz := hg.size
  refine (alive_spec hg hE).mono ?_
  rintro _ w3 ⟨rfl, hb3⟩
  have s3 := hb3.size
  refine ⟨_, rfl, ifN (fun h => nomatch h) (fun _ => ?_)⟩
  obtain ⟨N, hN, eN⟩ := tmod_pos n 199 (by decide) (by decide)
  have eN' : Int.tmod (IntKind.i64.wrap (Int.tmod n 199 + 199)) 199 = (N : Int) := eN
  obtain ⟨E, hEv, eE⟩ := tmod_pos m 20 (by decide) (by decide)
  have eE' : Int.tmod (IntKind.i64.wrap (Int.tmod m 20 + 20)) 20 = (E : Int) := eE
  rw [eN', eE']
  rw [w64 (x := 3 * (N : Int)) (by omega) (by omega), w64 (x := 3 * (N : Int) + 40) (by omega) (by omega), w64 (x := 1 + (E : Int)) (by omega) (by omega), w64 (x := (N : Int) - 1) (by omega) (by omega)]
  refine ⟨rfl, by decide, rfl, by decide, rfl, by decide, rfl, by decide, (New_ok (3 * (N : Int) + 40) w3 (by omega) (by omega)).mono ?_⟩
  rintro _ w6 ⟨rfl, hb6, h6⟩
  have b6 := hb3.trans (hb6.mono s3)
  have s6 := lt_of_block h6.blk
  have hlow : 2 < w3.heap.size := by omega
  refine ⟨_, _, rfl, true, .inl ⟨rfl, rfl⟩, ifN (fun h => nomatch h) (fun _ => ?_)⟩
  show cond false _ _
  refine (Alloc_ok h6 (hg.kept (b6.mono (by omega))) hlow 0 (by decide) (by decide) none 0 [] (fun j hj => by simp at hj) (fun b o e => nomatch e) (by decide) rfl (by decide) (by decide) (by show (0 : Int) + 1 + 0 ≤ _; omega)).mono ?_
  rintro _ w11 ⟨rfl, b0, v11, hb0, h11, c11, n11⟩
  have s11 := c11.size
  have b11 : Below w.heap.size w w11 := b6.trans (c11.below (by omega) fun q hq => by
    rintro (e | e)
    · omega
    · cases e)
  refine ⟨_, _, _, rfl, copyStep rfl rfl fun w17 at17 hb17 hs17 => ?_⟩
  have h17 := h11.below hb17
  refine ⟨true, .inl ⟨rfl, rfl⟩, ifN (fun h => nomatch h) (fun _ => ?_)⟩
  have lst0 : Lst ([] ++ [⟨b0, 0, [], 1 + sumN [] [], maxD [] []⟩]) ⟨true, (used [] : Nat)⟩ 0 := .nil 0 _ rfl rfl rfl rfl rfl
  have inv0 : LInv w3.heap.size w11.heap.size w w17 (3 * (N : Int) + 40) 0 _ v11 ⟨true, (used [] : Nat)⟩ := ⟨h17, lst0, at17, fun hm => by have := h11.mine_lt hm; omega, b11.trans (hb17.mono b11.size)⟩
  refine ⟨fun us w2 => ∃ (i : Nat) (S : List St) (v : Value) (x : Val), i ≤ N ∧ us = [.int .i64 i] ∧ LInv w3.heap.size w11.heap.size w w2 (3 * (N : Int) + 40) i S v x ∧ (used S : Int) + 5 ≤ 3 * (N : Int) + 40, fun us _ => match us with | [.int _ i] => N - i.toNat | _ => 0, ⟨0, _, _, _, Nat.zero_le _, rfl, inv0, by show (1 : Int) + 5 ≤ _; omega⟩, ?_⟩
  clear inv0 lst0 h17 h11 at17
  rintro _ us w21 ⟨i, S, v, x, hi, rfl, inv, hroom⟩
  have s21 := inv.below.size
  have hLlt := lt_of_block inv.blk
  refine ⟨_, rfl, ifD (fun hlt => ?_) (fun hge => ?_)⟩
  · rw [w64 (x := (i : Int) + 1) (by omega) (by omega)]
    refine box fun w25 at25 hb25 hs25 => ?_
    have h25 := inv.is.below hb25
    have b25 := inv.below.trans (hb25.mono s21)
    refine (Alloc_ok h25 (hg.kept (b25.mono (by omega))) hlow 7 (by decide) (by decide) (some ⟨w21.heap.size, 0, none⟩) 1 [⟨false, (i : Nat)⟩] (fun j hj => ⟨_, _, rfl, by
      match j, hj with
      | 0, _ => exact cellsAt_of_block at25 [.bool false, .int .i64 (i : Nat)] 0 rfl⟩) (fun b o e hm => by cases e; have := inv.is.mine_lt hm; omega) (by show 1 ≤ 8; omega) rfl (by show (1 : Int) + (1 + 0) ≤ 4096; omega) (by show max ((1 : Int) + 1) 1 ≤ 200; omega) (by show (used S : Int) + 1 + 1 ≤ _; omega)).mono ?_
    rintro _ w26 ⟨rfl, b7, v26, hb7, h26, c26, n26⟩
    have s26 := c26.size
    have own21 : ∀ g, v.ownBlock = some g → w3.heap.size < g ∧ g < w21.heap.size := fun g hg' => by have := inv.is.own.lt g hg'; omega
    have b26 : Below w.heap.size w w26 := b25.trans (c26.below (by omega) fun q hq => by
      rintro (e | e)
      · omega
      · have := own21 q e.symm; omega)
    have L26 : w26.heap[w11.heap.size]? = _ := (c26.block _ (by omega) fun e => inv.not (e.imp id .inl)).trans (block_below hb25 hLlt inv.blk)
    refine ⟨_, _, _, rfl, copyStep rfl rfl fun w32 at32 hb32 hs32 => ?_⟩
    have h32 := h26.below hb32
    have b32 := b26.trans (hb32.mono b26.size)
    have L32 := block_below hb32 (by omega) L26
    refine ⟨true, .inl ⟨rfl, rfl⟩, ifN (fun h => nomatch h) (fun _ => ?_)⟩
    refine ⟨_, _, cellsAt_of_block L32 [.bool x.ref, .int .i64 x.n] 0 rfl, box fun w36 at36 hb36 hs36 => ?_⟩
    have h36 := h32.below hb36
    have b36 := b32.trans (hb36.mono b32.size)
    have L36 := block_below hb36 (by omega) L32
    obtain ⟨q1, q2, q3, q4⟩ := (inv.lst.append (T := [⟨b7, 7, [⟨false, (i : Nat)⟩], 1 + sumN S [⟨false, (i : Nat)⟩], maxD S [⟨false, (i : Nat)⟩]⟩])).at
    have u26 : used (S ++ [⟨b7, 7, [⟨false, (i : Nat)⟩], 1 + sumN S [⟨false, (i : Nat)⟩], maxD S [⟨false, (i : Nat)⟩]⟩]) = used S + 2 := by rw [used_append, used_cons, used_nil]; simp [St.size]
    generalize hS2 : S ++ [⟨b7, 7, [⟨false, (i : Nat)⟩], 1 + sumN S [⟨false, (i : Nat)⟩], maxD S [⟨false, (i : Nat)⟩]⟩] = S2 at *
    have sumv : 1 + sumN S2 [⟨false, (i : Nat)⟩, x] = 2 * (i : Int) + 3 := by
      have e1 : nodesOf S2 ⟨false, (i : Nat)⟩ = 1 := rfl
      simp only [sumN, e1, q3]; omega
    have maxv : maxD S2 [⟨false, (i : Nat)⟩, x] = (i : Int) + 2 := by
      have e1 : depthOf S2 ⟨false, (i : Nat)⟩ = 1 := rfl
      simp only [maxD, e1, q4]; omega
    refine (Alloc_ok h36 (hg.kept (b36.mono (by omega))) hlow 1 (by decide) (by decide) (some ⟨w32.heap.size, 0, none⟩) 2 [⟨false, (i : Nat)⟩, x] (fun j hj => ⟨_, _, rfl, by
      match j, hj with
      | 0, _ => exact cellsAt_of_block at36 [.bool false, .int .i64 (i : Nat)] 0 rfl
      | 1, _ => exact cellsAt_of_block at36 [.bool x.ref, .int .i64 x.n] 2 rfl⟩) (fun b o e hm => by cases e; have := h32.mine_lt hm; omega) (by show 2 ≤ 8; omega) (by simp only [List.all_cons, List.all_nil, q2]; rfl) (by rw [sumv]; omega) (by rw [maxv]; omega) (by rw [u26]; show ((used S + 2 : Nat) : Int) + 1 + 2 ≤ _; omega)).mono ?_
    rintro _ w37 ⟨rfl, b8, v37, hb8, h37, c37, n37⟩
    have s37 := c37.size
    have own26 : ∀ g, v26.ownBlock = some g → w3.heap.size < g ∧ g ≠ w11.heap.size := fun g hg' => by
      have := h26.own.lt g hg'
      refine ⟨by omega, fun e => ?_⟩
      subst e
      rcases n26 with e | ⟨k, hk, e⟩
      · exact inv.not (.inr (.inl (by rw [← e]; exact hg'.symm)))
      · rw [e] at hg'; cases hg'; omega
    have b37 : Below w.heap.size w w37 := b36.trans (c37.below (by omega) fun q hq => by
      rintro (e | e)
      · omega
      · have := own26 q e.symm; omega)
    have L37 : w37.heap[w11.heap.size]? = _ := (c37.block _ (by omega) (by
      rintro (e | e)
      · omega
      · exact (own26 _ e.symm).2 rfl)).trans L36
    have hf37 := find_new S2 ⟨b8, 1, [⟨false, (i : Nat)⟩, x], 1 + sumN S2 [⟨false, (i : Nat)⟩, x], maxD S2 [⟨false, (i : Nat)⟩, x]⟩
    have lst37 : Lst (S2 ++ [⟨b8, 1, [⟨false, (i : Nat)⟩, x], 1 + sumN S2 [⟨false, (i : Nat)⟩, x], maxD S2 [⟨false, (i : Nat)⟩, x]⟩]) ⟨true, (used S2 : Nat)⟩ (i + 1) := .cons (used S2) _ i x hf37 rfl rfl sumv maxv (by rw [← hS2]; exact inv.lst.append.append)
    have not37 : ¬ Mine w3.heap.size (S2 ++ [⟨b8, 1, [⟨false, (i : Nat)⟩, x], 1 + sumN S2 [⟨false, (i : Nat)⟩, x], maxD S2 [⟨false, (i : Nat)⟩, x]⟩]) v37 w11.heap.size := by
      rintro (e | e | ⟨s, hs, e⟩)
      · omega
      · rcases n37 with e' | ⟨k, hk, e'⟩
        · exact (own26 _ (by rw [← e']; exact e.symm)).2 rfl
        · rw [e'] at e; cases e; omega
      · rcases List.mem_append.1 hs with hs | hs
        · rw [← hS2] at hs
          rcases List.mem_append.1 hs with hs | hs
          · exact inv.not (.inr (.inr ⟨s, hs, e⟩))
          · rw [List.mem_singleton] at hs; subst hs; simp only at e; omega
        · rw [List.mem_singleton] at hs; subst hs; simp only at e; omega
    have u37 : used (S2 ++ [⟨b8, 1, [⟨false, (i : Nat)⟩, x], 1 + sumN S2 [⟨false, (i : Nat)⟩, x], maxD S2 [⟨false, (i : Nat)⟩, x]⟩]) = used S + 5 := by rw [used_append, used_cons, used_nil, u26]; simp [St.size]
    generalize S2 ++ [⟨b8, 1, [⟨false, (i : Nat)⟩, x], 1 + sumN S2 [⟨false, (i : Nat)⟩, x], maxD S2 [⟨false, (i : Nat)⟩, x]⟩] = S3 at *
    refine ⟨_, _, _, rfl, fillStep L37 rfl rfl fun w42 at42 same42 hsz42 hg42 => ?_⟩
    have inv42 : LInv w3.heap.size w11.heap.size w w42 (3 * (N : Int) + 40) (i + 1) S3 v37 ⟨true, (used S2 : Nat)⟩ :=
      ⟨h37.kept (fun k hk => same42 k fun e => not37 (e ▸ hk)) (by omega), lst37, at42, not37, ⟨hg42.os.trans b37.os, hg42.tape.trans b37.tape, hg42.output.trans b37.output, by have := b37.size; omega, fun q hq => (same42 q (by omega)).trans (b37.block q hq)⟩⟩
    refine ⟨true, .inl ⟨rfl, rfl⟩, ifN (fun h => nomatch h) (fun _ => ?_)⟩
    have fin : ∀ w' S' v' x', LInv w3.heap.size w11.heap.size w w' (3 * (N : Int) + 40) (i + 1) S' v' x' → used S' = 3 * (i + 1) + 1 → ((∃ (i' : Nat) (S : List St) (v : Value) (x : Val), i' ≤ N ∧ [Value.int .i64 ((i : Int) + 1)] = [.int .i64 i'] ∧ LInv w3.heap.size w11.heap.size w w' (3 * (N : Int) + 40) i' S v x ∧ (used S : Int) + 5 ≤ 3 * (N : Int) + 40) ∧ N - ((i : Int) + 1).toNat < N - (i : Int).toNat) :=
      fun w' S' v' x' hh hu => ⟨⟨i + 1, S', v', x', by omega, rfl, hh, by rw [hu]; omega⟩, by omega⟩
    have cs := coll_step inv42 (by omega) (by omega) i rfl (by omega)
    rw [w64 (x := (i : Int) + 1) (by omega) (by omega)] at cs
    refine ⟨rfl, by omega, ifE (fun _ => cs _ _ _ fin) (fun _ => ?_)⟩
    refine (Used_spec inv42.is).mono ?_
    rintro _ _ ⟨rfl, rfl⟩
    refine ⟨_, rfl, (Cells_spec inv42.is).mono ?_⟩
    rintro _ _ ⟨rfl, rfl⟩
    rw [w64 (x := (used S3 : Int) + 8) (by omega) (by omega)]
    refine ⟨_, rfl, ifD (fun _ => cs _ _ _ fin) (fun hle => ?_)⟩
    exact ⟨⟨i + 1, S3, v37, _, by omega, rfl, inv42, by omega⟩, by simp only; omega⟩
  · have : i = N := by omega
    subst this
    refine ⟨fun us w2 => ∃ (k : Nat) (x : Val), k ≤ i ∧ us = [.int .i64 ((k : Int) - 1)] ∧ LInv w3.heap.size w11.heap.size w w2 (3 * (i : Int) + 40) k S v x, fun us _ => match us with | [.int _ z] => (z + 1).toNat | _ => 0, ⟨i, x, Nat.le_refl _, rfl, inv⟩, ?_⟩
    rintro _ us w68 ⟨k, y, hk, rfl, inv⟩
    have hLlt := lt_of_block inv.blk
    refine ⟨_, rfl, ifD (fun hlt => ?_) (fun hge' => ?_)⟩
    · refine ⟨_, _, cellsAt_of_block inv.blk [.bool y.ref, .int .i64 y.n] 0 rfl, ?_⟩
      have hlst := inv.lst
      have hgd := hlst.at.2.1
      cases hlst with
      | nil p s hs h1 h2 h3 h4 => exact absurd hlt (by decide)
      | cons p s k' z hs h1 h2 h3 h4 hl =>
        refine (Get_ok inv.is (p : Nat) s hgd (by rw [Int.toNat_natCast]; exact hs)).mono ?_
        rintro _ w74 ⟨a74, c74, rfl, hb74, own74⟩
        have hlen : s.args.length = 2 := by rw [h2]; rfl
        obtain ⟨a', c', e', hcell⟩ := own_vals own74 rfl
        cases e'
        refine ⟨_, _, _, _, _, rfl, true, .inl ⟨rfl, rfl⟩, ifN (fun h => nomatch h) (fun _ => ifNE (fun hne => absurd h1 hne) (fun _ => ifNE (fun hne => absurd (by rw [hlen]; rfl) hne) (fun _ => ?_)))⟩
        obtain ⟨g, rfl, hg1, hg2, hc0⟩ := hcell 0 (by omega)
        obtain ⟨g', e', _, _, hc1⟩ := hcell 1 (by omega)
        cases e'
        have e0 : s.args[0]'(by omega) = ⟨false, (k' : Nat)⟩ := by simp [h2]
        have e1 : s.args[1]'(by omega) = z := by simp [h2]
        rw [e0] at hc0
        rw [e1] at hc1
        have ek : ((k' + 1 : Nat) : Int) - 1 = (k' : Int) := by omega
        rw [ek]
        refine ⟨g, 0, rfl, by decide, by omega, _, _, hc0, _, val_ne _ _ _ ⟨false, (k' : Nat)⟩ ⟨false, (k' : Nat)⟩, ?_⟩
        refine ifB (fun h => by simp at h) (fun _ => ?_)
        have b74 := inv.below.trans (hb74.mono inv.below.size)
        have L74 := block_below hb74 hLlt inv.blk
        refine ⟨g, 0, rfl, by decide, by omega, _, _, hc1, fillStep L74 rfl rfl fun w91 at91 same91 hsz91 hg91 => ?_⟩
        rw [w64 (x := (k' : Int) - 1) (by omega) (by omega)]
        have hi74 := inv.is.below hb74
        refine ⟨⟨k', z, by omega, rfl, ⟨hi74.kept (fun q hq => same91 q fun e => inv.not (e ▸ hq)) (by omega), hl, at91, inv.not, ⟨hg91.os.trans b74.os, hg91.tape.trans b74.tape, hg91.output.trans b74.output, by have := b74.size; omega, fun q hq => (same91 q (by omega)).trans (b74.block q hq)⟩⟩⟩, by simp only; omega⟩
    · refine ⟨_, _, cellsAt_of_block inv.blk [.bool y.ref, .int .i64 y.n] 0 rfl, ?_⟩
      have hlst := inv.lst
      have hgd := hlst.at.2.1
      cases hlst with
      | cons p s k' z hs h1 h2 h3 h4 hl => exact absurd (by omega) hge'
      | nil p s hs h1 h2 h3 h4 =>
        refine (Get_ok inv.is (p : Nat) s hgd (by rw [Int.toNat_natCast]; exact hs)).mono ?_
        rintro _ w94 ⟨a94, c94, rfl, hb94, own94⟩
        refine ⟨_, _, _, _, _, rfl, true, .inl ⟨rfl, rfl⟩, ?_⟩
        show cond (s.ctor == 0) _ _
        refine ifE (fun _ => ⟨?_, inv.below.trans (hb94.mono inv.below.size)⟩) (fun hne => absurd h1 hne)
        rw [h2]; rfl

end Go.Proofs.YtfenhbjamohdgaaDoor.Vf
