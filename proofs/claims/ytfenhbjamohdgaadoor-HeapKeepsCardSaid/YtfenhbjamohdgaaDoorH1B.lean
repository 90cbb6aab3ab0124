/- The heap's Alloc. -/
import Derived.Test.YtfenhbjamohdgaaDoorH1S
namespace Go.Vx.Hp
open Go.RowKit

theorem sumN_snoc (S : List St) (l : List Val) (x : Val) : sumN S (l ++ [x]) = sumN S l + nodesOf S x := by
  induction l with
  | nil => simp [sumN]
  | cons a r ih => simp only [List.cons_append, sumN, ih]; omega
theorem maxD_snoc (S : List St) (l : List Val) (x : Val) : maxD S (l ++ [x]) = max (maxD S l) (depthOf S x + 1) := by
  induction l with
  | nil => simp only [List.nil_append, maxD]; omega
  | cons a r ih => simp only [List.cons_append, maxD, ih]; omega
theorem nodesOf_le {S : List St} (hok : ∀ s ∈ S, s.Ok) {x : Val} (hg : good S x = true) : 1 ≤ nodesOf S x ∧ nodesOf S x ≤ 4096 ∧ 1 ≤ depthOf S x ∧ depthOf S x ≤ 200 := by
  unfold nodesOf depthOf
  unfold good at hg
  split
  · rename_i hr
    simp only [hr, Bool.not_true, Bool.false_or, Bool.and_eq_true, Option.isSome_iff_exists] at hg
    obtain ⟨_, s, hs⟩ := hg
    have := hok s (find_mem hs)
    unfold St.Ok at this
    rw [hs]; simp only; omega
  · omega
theorem sumN_le {S : List St} (hok : ∀ s ∈ S, s.Ok) : ∀ {l : List Val}, l.all (good S) = true → (l.length : Int) ≤ sumN S l ∧ sumN S l ≤ 4096 * l.length ∧ 1 ≤ maxD S l ∧ maxD S l ≤ 201
  | [], _ => by simp [sumN, maxD]
  | a :: r, h => by
    simp only [List.all_cons, Bool.and_eq_true] at h
    have h1 := nodesOf_le hok h.1
    have h2 := sumN_le hok h.2
    simp only [sumN, maxD, List.length_cons]; omega

/-- one more cell of the row that hp holds -/
theorem push {P : Program} {y74 y84 : Ty} (h74 : y74.Ok P 74) (ht : y74.tk = .sl 84) (h84 : y84.Ok P 84) (hsz : y84.size = 3) (hby : y84.bytes = 24) {w1 : World} {hp nb n : Nat} {a : Option Addr} {m c : Nat} {most : Int} {xs news : List Value}
    (hhp : w1.heap[hp]? = some (.cells #[.slice a m c, .int .i64 most] 76 (0, 0))) (hown : w1.ownsRow (hp + 1) 84 3 (.slice a m c) n xs) (hl : news.length = 3) (hone : (news.all fun v => v.oneCell') = true) (hc : cellsAt w1 nb 0 news) (hn : n ≤ 2097152) :
    ∃ (a1 : Option Addr) (k c1 : Nat) (w2 : World), Runs P (Builtin.append_ #[74, 74] 74 #[.slice a m c, .slice (some ⟨nb, 0, none⟩) 1 1]) w1 (.slice a1 k c1) w2 ∧ k = n + 1 ∧
      ∀ G : World → Prop, (∀ w3, w3.heap[hp]? = some (.cells #[.slice a1 k c1, .int .i64 most] 76 (0, 0)) → w3.ownsRow (hp + 1) 84 3 (.slice a1 k c1) k (xs ++ news) → Chg (fun k => k = hp ∨ some k = (Value.slice a m c).ownBlock) w1 w3 →
        Nxt w1.heap.size (.slice a m c) (.slice a1 k c1) → G w3) → (canSt w2 hp 0 [.slice a1 k c1] ∧ withW (setL w2 hp 0 [.slice a1 k c1]) G) := by
  have hown' : w1.ownsRow (hp + 1) 84 y84.size (.slice a m c) n xs := by rw [hsz]; exact hown
  obtain ⟨a1, k1, c1, w2, hrun, rfl, hown2, hg, hnx⟩ := append_own (P := P) (ty := 74) h74 ht h84 (by omega) hown' (m := 1) (c := 1) (news := news) (by rw [hl, hsz]) hc hone (by rw [hby]; omega) (by omega) (by have := lt_of_block hhp; omega)
  rw [hsz] at hown2
  refine ⟨a1, _, c1, w2, hrun, rfl, fun G hG => ?_⟩
  have hne : some hp ≠ (Value.slice a m c).ownBlock := fun e => by have := hown.lt hp e.symm; omega
  refine setStep (grown_block hg hhp hne) (by simp) rfl fun w3 at3 same3 hsz3 hg3 => hG w3 at3 ?_ ?_ hnx
  · exact own_block hown2 fun g hg' => same3 g fun e => by have := hown2.lt g hg'; omega
  · exact ⟨hg3.os.trans hg.os, hg3.tape.trans hg.tape, hg3.output.trans hg.output, by rw [hsz3]; exact hg.size, fun k hk hn' => (same3 k fun e => hn' (.inl e)).trans (hg.block k hk fun e => hn' (.inr e))⟩

end Go.Vx.Hp

namespace Go.Proofs.YtfenhbjamohdgaaDoor.Vf
open Go.Vx Go.Vx.Hp Go.RowKit

/-- what Alloc tells -/
def AllocPost (hp : Nat) (w : World) (S : List St) (most : Int) (v : Value) (E0 E1 E2 : Value) (n : Int) (V : List Val) (x : Value) (w' : World) : Prop :=
  ((n < 0 ∨ 8 < V.length ∨ V.all (good S) = false) ∧ x = .tuple #[.agg #[.bool false, .int .i64 0], E1] ∧ Below w.heap.size w w') ∨
  (0 ≤ n ∧ V.length ≤ 8 ∧ V.all (good S) = true ∧ (4096 < 1 + sumN S V ∨ 200 < maxD S V) ∧ x = .tuple #[.agg #[.bool false, .int .i64 0], E2] ∧ Below w.heap.size w w') ∨
  (0 ≤ n ∧ V.length ≤ 8 ∧ V.all (good S) = true ∧ 1 + sumN S V ≤ 4096 ∧ maxD S V ≤ 200 ∧ most < used S + 1 + V.length ∧ x = .tuple #[.agg #[.bool false, .int .i64 0], E0] ∧ Below w.heap.size w w') ∨
  (0 ≤ n ∧ V.length ≤ 8 ∧ V.all (good S) = true ∧ 1 + sumN S V ≤ 4096 ∧ maxD S V ≤ 200 ∧ used S + 1 + V.length ≤ most ∧ x = .tuple #[.agg #[.bool true, .int .i64 (used S : Nat)], .nilIface] ∧
    ∃ b v', w.heap.size ≤ b ∧ Is hp w' (S ++ [⟨b, n, V, 1 + sumN S V, maxD S V⟩]) most v' ∧ Chg (fun k => k = hp ∨ some k = v.ownBlock) w w' ∧ Nxt w.heap.size v v')

set_option maxHeartbeats 1000000 in
theorem Alloc_spec {hp : Nat} {w : World} {S : List St} {most : Int} {v : Value} (h : Is hp w S most v) (E0 E1 E2 : Value) (h0 : w.cell? ⟨0, 0, none⟩ = some E0) (h1 : w.cell? ⟨1, 0, none⟩ = some E1) (h2 : w.cell? ⟨2, 0, none⟩ = some E2) (hlow : 2 < hp)
    (n : Int) (hn : n ≤ 9223372036854775807) (a : Option Addr) (c : Nat) (V : List Val) (hV : Vsl w a V) (hVl : V.length ≤ 1048576) (hap : ∀ b o, a = some ⟨b, o, none⟩ → ¬ Mine hp S v b) :
    Calls Tryd.prog 10 #[.pointer (some ⟨hp, 0, none⟩), .int .i64 n, .slice a V.length c] w fun e w' => ∃ x, e = .returned x ∧ AllocPost hp w S most v E0 E1 E2 n V x w' := by
  refine Alloc.calls (R := fun x w' => AllocPost hp w S most v E0 E1 E2 n V x w') ?_
  unfold Alloc.W
  have hhp := lt_of_block h.blk
  refine box fun w5 at5 hb5 hs5 => ?_
  -- an error is told
  have no : ∀ (w' : World) (g : Nat) (E : Value), w'.heap[w.heap.size]? = some (.cells #[.bool false, .int .i64 0] 30 (0, 0)) → Below w.heap.size w w' → g ≤ 2 → w.cell? ⟨g, 0, none⟩ = some E →
      (∀ w'', Below w.heap.size w w'' → AllocPost hp w S most v E0 E1 E2 n V (.tuple #[.agg #[.bool false, .int .i64 0], E]) w'') →
      withW (World.drew w') fun w6 => (∃ (v7 : Value), World.cell? w6 ⟨g, 0, none⟩ = some v7 ∧ (canSt w6 w.heap.size 0 [(.bool false), (.int .i64 0)] ∧ withW (setL w6 w.heap.size 0 [(.bool false), (.int .i64 0)]) fun w8 =>
        (cellsAt w8 g 0 [v7] ∧ (∃ (b9 : Bool) (n10 : Int), cellsAt w8 w.heap.size 0 [(.bool b9), (.int .i64 n10)] ∧ (AllocPost hp w S most v E0 E1 E2 n V (.tuple #[(.agg #[(.bool b9), (.int .i64 n10)]), v7]) w8))))) := by
    intro w' g E k1 k2 k3 k4 k5
    refine drewStep fun w6 e6 hb6 => ?_
    have b6 : Below w.heap.size w w6 := k2.trans (hb6.mono k2.size)
    have r6 : w6.heap[w.heap.size]? = _ := e6 ▸ k1
    refine ⟨_, cell_below b6 (by omega) k4, fillStep r6 rfl rfl fun w8 at8 same8 hsz8 hg8 => ?_⟩
    have b8 : Below w.heap.size w w8 := ⟨hg8.os.trans b6.os, hg8.tape.trans b6.tape, hg8.output.trans b6.output, by have := b6.size; omega, fun j hj => (same8 j (by omega)).trans (b6.block j hj)⟩
    exact ⟨⟨cell_below b8 (by omega) k4, trivial⟩, _, _, cellsAt_of_block at8 [.bool false, .int .i64 0] 0 rfl, k5 _ b8⟩
  refine ifD (fun hneg => no w5 1 E1 at5 hb5 (by omega) h1 fun w'' b => .inl ⟨.inl hneg, rfl, b⟩) (fun hn0 => ?_)
  refine ifD (fun hgt => no w5 1 E1 at5 hb5 (by omega) h1 fun w'' b => .inl ⟨.inr (.inl (by omega)), rfl, b⟩) (fun hle8 => ?_)
  have hl8 : V.length ≤ 8 := by omega
  have hV5 := hV.kept (w' := w5) fun b o hlt _ => hb5.block b hlt
  refine (goods_spec (h.below hb5) a c V hV5 hVl).mono ?_
  rintro _ w16 ⟨rfl, hb16⟩
  have b16 := hb5.trans (hb16.mono (by omega))
  have s16 := hb16.size
  have r16 := block_below hb16 (by omega) at5
  refine ⟨_, rfl, ifN (fun hbad => no w16 1 E1 r16 b16 (by omega) h1 fun w'' b => .inl ⟨.inr (.inr hbad), rfl, b⟩) (fun hall => ?_)⟩
  have hsum := sumN_le h.ok hall
  rw [w64 (x := 1 + (V.length : Int)) (by omega) (by omega)]
  refine box fun w24 at24 hb24 hs24 => ?_
  have hXlt : w16.heap.size < w24.heap.size := by omega
  -- the sums
  refine ⟨fun us w2 => ∃ j : Nat, j ≤ V.length ∧ us = [.int .i64 j] ∧ Below w16.heap.size w16 w2 ∧ w2.heap[w16.heap.size]? = some (.cells #[.int .i64 n, .int .i64 (1 + (V.length : Int)), .int .i64 (1 + sumN S (V.take j)), .int .i64 (maxD S (V.take j)), .int .i64 0] 80 (0, 0)),
    fun us _ => match us with | [.int _ j] => V.length - j.toNat | _ => 0, ⟨0, Nat.zero_le _, rfl, hb24, at24⟩, ?_⟩
  rintro _ us w27 ⟨j, hj, rfl, hb27, at27⟩
  have b27 := b16.trans (hb27.mono (by omega))
  have s27 := lt_of_block at27
  have r27 := block_below hb27 (by omega) r16
  have h27 := h.below b27
  have hV27 := hV.kept (w' := w27) fun b o hlt _ => b27.block b hlt
  refine ⟨_, rfl, ifD (fun hlt => ?_) (fun hge => ?_)⟩
  · have hlt' : j < V.length := by omega
    obtain ⟨b, o, rfl, hc⟩ := hV27 j hlt'
    refine ⟨b, o, rfl, by omega, hlt, _, _, hc, copyStep rfl rfl fun w36 at36 hb36 hs36 => ?_⟩
    have hgj : good S V[j] = true := by
      have := List.all_eq_true.1 hall V[j] (List.getElem_mem _); exact this
    refine ⟨_, _, cellsAt_of_block at36 [.bool V[j].ref, .int .i64 V[j].n] 0 rfl, ?_⟩
    refine (measure_spec (h27.below hb36) V[j].ref V[j].n hgj).mono ?_
    rintro _ w39 ⟨rfl, hb39⟩
    have at39 := block_below (hb36.trans (hb39.mono (by omega))) s27 at27
    have s39 := hb39.size
    have hnd := nodesOf_le h.ok hgj
    have hnd' : 1 ≤ nodesOf S ⟨V[j].ref, V[j].n⟩ ∧ nodesOf S ⟨V[j].ref, V[j].n⟩ ≤ 4096 ∧ 1 ≤ depthOf S ⟨V[j].ref, V[j].n⟩ ∧ depthOf S ⟨V[j].ref, V[j].n⟩ ≤ 200 := hnd
    have hT := sumN_le (S := S) h.ok (l := V.take j) (by
      rw [List.all_eq_true] at hall ⊢
      exact fun x hx => hall x (List.mem_of_mem_take hx))
    rw [List.length_take] at hT
    have ht : V.take (j + 1) = V.take j ++ [V[j]] := by rw [List.take_succ_eq_append_getElem hlt']
    have hT1 : sumN S (V.take (j + 1)) = sumN S (V.take j) + nodesOf S V[j] := by rw [ht, sumN_snoc]
    have hT2 : maxD S (V.take (j + 1)) = max (maxD S (V.take j)) (depthOf S V[j] + 1) := by rw [ht, maxD_snoc]
    refine ⟨_, _, rfl, _, _, rfl, _, cell_of_block at39 rfl, _, _, rfl, ?_⟩
    rw [w64 (x := 1 + sumN S (V.take j) + nodesOf S ⟨V[j].ref, V[j].n⟩) (by omega) (by omega)]
    refine setStep at39 (by simp) rfl fun w48 at48 same48 hsz48 hg48 => ?_
    refine ⟨_, _, rfl, _, cell_of_block at48 rfl, _, _, rfl, ?_⟩
    rw [w64 (x := depthOf S ⟨V[j].ref, V[j].n⟩ + 1) (by omega) (by omega), w64 (x := (j : Int) + 1) (by omega) (by omega)]
    refine setStep at48 (by show 4 ≤ 5; omega) rfl fun w54 at54 same54 hsz54 hg54 => ?_
    have bb : Below w16.heap.size w16 w54 := by
      have b39 := (hb27.trans (hb36.mono (by omega))).trans (hb39.mono (by omega))
      exact ⟨hg54.os.trans (hg48.os.trans b39.os), hg54.tape.trans (hg48.tape.trans b39.tape), hg54.output.trans (hg48.output.trans b39.output), by omega, fun k hk => (same54 k (by omega)).trans ((same48 k (by omega)).trans (b39.block k hk))⟩
    refine ⟨⟨j + 1, hlt', rfl, bb, ?_⟩, by simp only; omega⟩
    rw [at54, hT1, hT2]
    have e1 : 1 + sumN S (V.take j) + nodesOf S V[j] = 1 + (sumN S (V.take j) + nodesOf S V[j]) := by omega
    have e2 : (if maxD S (V.take j) < depthOf S V[j] + 1 then depthOf S V[j] + 1 else maxD S (V.take j)) = max (maxD S (V.take j)) (depthOf S V[j] + 1) := by split <;> omega
    rw [← e1, ← e2]
    rfl
  · have : j = V.length := by omega
    subst this
    rw [List.take_length] at at27
    refine ⟨_, _, rfl, _, cell_of_block at27 rfl, ifD (fun hl => no w27 2 E2 r27 b27 (by omega) h2 fun w'' b => .inr (.inl ⟨by omega, hl8, hall, .inl (by omega), rfl, b⟩)) (fun hl => ?_)⟩
    refine ⟨_, _, rfl, _, cell_of_block at27 rfl, ifD (fun hl => no w27 2 E2 r27 b27 (by omega) h2 fun w'' b => .inr (.inl ⟨by omega, hl8, hall, .inr (by omega), rfl, b⟩)) (fun hl' => ?_)⟩
    refine drewStep fun w71 e71 hb71 => ?_
    have b71 : Below w.heap.size w w71 := b27.trans (hb71.mono b27.size)
    have h71 := h.below b71
    have at71 : w71.heap[w16.heap.size]? = _ := e71 ▸ at27
    have r71 : w71.heap[w.heap.size]? = _ := e71 ▸ r27
    have s71 : w71.heap.size = w27.heap.size := by rw [e71]
    obtain ⟨av, cv, rfl, hcv, _⟩ := h.slice
    have hfits := h.fits
    have hm1 := h.most1
    refine ⟨_, _, rfl, _, _, _, cell_of_block h71.blk rfl, _, _, rfl, _, cell_of_block at71 rfl, _, _, rfl, _, cell_of_block h71.blk rfl, ?_⟩
    rw [w64 (x := (used S : Int) + (1 + (V.length : Int))) (by omega) (by omega)]
    refine ifD (fun hfull => no w71 0 E0 r71 b71 (by omega) h0 fun w'' b => .inr (.inr (.inl ⟨by omega, hl8, hall, by omega, by omega, by omega, rfl, b⟩))) (fun hroom => ?_)
    refine ⟨_, _, rfl, _, _, _, cell_of_block h71.blk rfl, _, _, rfl, _, _, _, cell_of_block h71.blk rfl, box fun w98 at98 hb98 hs98 => ?_⟩
    have h98 := h71.below hb98
    obtain ⟨a99, k99, c99, w102, hr102, rfl, hgo⟩ := push (P := Tryd.prog) ty74 rfl ty84 rfl rfl h98.blk h98.own (news := [.bool false, .int .i64 0, .pointer (some ⟨w16.heap.size, 0, none⟩)]) rfl rfl (cellsAt_of_block at98 [.bool false, .int .i64 0, .pointer (some ⟨w16.heap.size, 0, none⟩)] 0 rfl) (by omega)
    refine ⟨_, _, _, w102, hr102, _, _, rfl, hgo _ fun w105 at105 own105 chg105 nx105 => ?_⟩
    have b98 : Below w.heap.size w w98 := b71.trans (hb98.mono b71.size)
    have c105 : Chg (fun k => k = hp ∨ some k = (Value.slice av (used S) cv).ownBlock) w w105 := (Chg.of_below (M := fun k => k = hp ∨ some k = (Value.slice av (used S) cv).ownBlock) b98 fun k hk _ => hk).trans chg105 fun k _ hk => hk
    have hownlt : ∀ g, (Value.slice av (used S) cv).ownBlock = some g → hp < g ∧ g < w.heap.size := fun g hg => by have := h.own.lt g hg; omega
    have hXne : ¬ (w16.heap.size = hp ∨ some w16.heap.size = (Value.slice av (used S) cv).ownBlock) := by
      rintro (e | e)
      · omega
      · have := hownlt _ e.symm; omega
    have hRne : ¬ (w.heap.size = hp ∨ some w.heap.size = (Value.slice av (used S) cv).ownBlock) := by
      rintro (e | e)
      · omega
      · have := hownlt _ e.symm; omega
    have at98' := block_below hb98 (by omega) at71
    have r98 := block_below hb98 (by omega) r71
    -- the arguments
    refine ⟨fun us w2 => ∃ (j : Nat) (a' : Option Addr) (c' : Nat), j ≤ V.length ∧ us = [.int .i64 j] ∧ w2.heap[hp]? = some (.cells #[.slice a' (used S + 1 + j) c', .int .i64 most] 76 (0, 0)) ∧
        w2.ownsRow (hp + 1) 84 3 (.slice a' (used S + 1 + j) c') (used S + 1 + j) (flat (cells S) ++ (⟨⟨false, 0⟩, some w16.heap.size⟩ : Cell).cs ++ flat ((V.take j).map fun x => ⟨x, none⟩)) ∧
        Chg (fun k => k = hp ∨ some k = (Value.slice av (used S) cv).ownBlock) w w2 ∧ Nxt w98.heap.size (.slice av (used S) cv) (.slice a' (used S + 1 + j) c') ∧
        w2.heap[w16.heap.size]? = w71.heap[w16.heap.size]? ∧ w2.heap[w.heap.size]? = some (.cells #[.bool false, .int .i64 0] 30 (0, 0)) ∧ w98.heap.size ≤ w2.heap.size,
      fun us _ => match us with | [.int _ j] => V.length - j.toNat | _ => 0, ⟨0, a99, c99, Nat.zero_le _, rfl, at105, by simpa [flat, Cell.cs] using own105, c105, nx105, (chg105.block _ (by omega) hXne).trans (hb98.block _ (by omega)), (chg105.block _ (by omega) hRne).trans r98, chg105.size⟩, ?_⟩
    rintro _ us w108 ⟨i, a', c', hi, rfl, at108, own108, c108, nx108, x108, r108, s108⟩
    refine ⟨_, rfl, ifD (fun hlt => ?_) (fun hge => ?_)⟩
    · have hlt' : i < V.length := by omega
      have hV108 := hV.kept (w' := w108) fun b o hlt e => c108.block b hlt fun hk => hap b o e (hk.elim .inl fun hk => .inr (.inl hk))
      obtain ⟨b, o, rfl, hc⟩ := hV108 i hlt'
      refine ⟨b, o, rfl, by omega, hlt, _, _, hc, copyStep rfl rfl fun w117 at117 hb117 hs117 => drewStep fun w118 e118 hb118 => ?_⟩
      have at118 : w118.heap[w108.heap.size]? = _ := e118 ▸ at117
      have hhp108 := lt_of_block at108
      have hb118' : Below w108.heap.size w108 w118 := hb117.trans (hb118.mono (by omega))
      have hp118 := block_below hb118' hhp108 at108
      refine ⟨_, _, rfl, _, _, _, cell_of_block hp118 rfl, _, _, cellsAt_of_block at118 [.bool V[i].ref, .int .i64 V[i].n] 0 rfl, box fun w126 at126 hb126 hs126 => ?_⟩
      have s118 : w118.heap.size = w108.heap.size + 1 := by rw [e118]; omega
      have hb126' : Below w108.heap.size w108 w126 := hb118'.trans (hb126.mono (by omega))
      have hp126 := block_below hb126' hhp108 at108
      have own126 := own_below own108 hb126' (Nat.le_refl _)
      obtain ⟨a127, k127, c127, w130, hr130, rfl, hgo'⟩ := push (P := Tryd.prog) ty74 rfl ty84 rfl rfl hp126 own126 (news := [.bool V[i].ref, .int .i64 V[i].n, .pointer none]) rfl rfl (cellsAt_of_block at126 [.bool V[i].ref, .int .i64 V[i].n, .pointer none] 0 rfl) (by omega)
      refine ⟨cellsAt_of_block hp126 [_] 0 rfl, _, _, _, w130, hr130, _, _, rfl, hgo' _ fun w133 at133 own133 chg133 nx133 => ?_⟩
      rw [w64 (x := (i : Int) + 1) (by omega) (by omega)]
      have ht : V.take (i + 1) = V.take i ++ [V[i]] := by rw [List.take_succ_eq_append_getElem hlt']
      have hmine : ∀ k, k < w98.heap.size → (k = hp ∨ some k = (Value.slice a' (used S + 1 + i) c').ownBlock) → (k = hp ∨ some k = (Value.slice av (used S) cv).ownBlock) := by
        rintro k hk (e | e)
        · exact .inl e
        · rcases nx108 with e' | ⟨q, hq, e'⟩
          · exact .inr (e.trans e')
          · rw [e'] at e; cases e; omega
      have s133 := chg133.size
      refine ⟨⟨i + 1, a127, c127, hlt', rfl, at133, ?_, ?_, nx108.trans nx133 (by omega), ?_, ?_, by omega⟩, by simp only; omega⟩
      · rw [ht, List.map_append, flat_append, ← List.append_assoc]
        exact own133
      · exact (c108.trans (Chg.of_below (M := fun _ => False) hb126' fun k hk _ => hk) fun k _ hk => hk.elim).trans chg133 fun k hk hk' => hmine k (by have := b98.size; omega) hk'
      · exact (chg133.block _ (by omega) fun hk => hXne (hmine _ (by omega) hk)).trans ((hb126'.block _ (by omega)).trans x108)
      · exact (chg133.block _ (by omega) fun hk => hRne (hmine _ (by omega) hk)).trans ((hb126'.block _ (by omega)).trans r108)
    · have : i = V.length := by omega
      subst this
      rw [List.take_length] at own108
      refine fillStep r108 rfl rfl fun w134 at134 same134 hsz134 hg134 => ⟨_, _, cellsAt_of_block at134 [.bool true, .int .i64 (used S : Nat)] 0 rfl, ?_⟩
      refine .inr (.inr (.inr ⟨by omega, hl8, hall, by omega, by omega, by omega, rfl, w16.heap.size, .slice a' (used S + 1 + V.length) c', by omega, ?_, ?_, ?_⟩))
      · have hu : used (S ++ [⟨w16.heap.size, n, V, 1 + sumN S V, maxD S V⟩]) = used S + 1 + V.length := by
          rw [used_append, used_cons, used_nil]; simp [St.size]; omega
        have hcs : flat (cells (S ++ [⟨w16.heap.size, n, V, 1 + sumN S V, maxD S V⟩])) = flat (cells S) ++ (⟨⟨false, 0⟩, some w16.heap.size⟩ : Cell).cs ++ flat (V.map fun x => ⟨x, none⟩) := by
          rw [cells_append, flat_append]; simp [cells, St.cells, flat]
        refine ⟨(same134 hp (by omega)).trans at108, ?_, ?_, ?_, h.most0, h.most1, by rw [hu]; omega, ?_, ?_⟩
        · rw [hu, hcs]
          refine own_block own108 fun g hg => same134 g fun e => ?_
          rcases nx108 with e' | ⟨q, hq, e'⟩
          · rw [e'] at hg; have := hownlt g hg; omega
          · rw [e'] at hg; cases hg; omega
        · intro s hs
          have hne : ∀ b, b < w98.heap.size → ¬ some b = (Value.slice av (used S) cv).ownBlock → some b ≠ (Value.slice a' (used S + 1 + V.length) c').ownBlock := by
            intro b hb hne e
            rcases nx108 with e' | ⟨q, hq, e'⟩
            · exact hne (e.trans e')
            · rw [e'] at e; cases e; omega
          rcases List.mem_append.1 hs with hs | hs
          · obtain ⟨k1, k2, k3, k4⟩ := h.hd s hs
            refine ⟨k1, by omega, hne _ (by omega) k3, ?_⟩
            exact (same134 _ (by omega)).trans ((c108.block _ k2 fun hk => by rcases hk with e | e; omega; exact k3 e).trans k4)
          · rw [List.mem_singleton] at hs
            subst hs
            refine ⟨by show hp < w16.heap.size; omega, by show w16.heap.size < _; omega, hne _ (by show w16.heap.size < _; omega) fun e => hXne (.inr e), ?_⟩
            show w134.heap[w16.heap.size]? = _
            rw [same134 _ (by omega), x108, at71]
            simp only [hdObj, St.size]
            congr 4
        · intro s hs
          rcases List.mem_append.1 hs with hs | hs
          · exact h.ok s hs
          · rw [List.mem_singleton] at hs
            subst hs
            exact ⟨by show 0 ≤ n; omega, hn, hl8, by show 1 ≤ 1 + sumN S V; omega, by show 1 + sumN S V ≤ 4096; omega, by show 1 ≤ maxD S V; omega, by show maxD S V ≤ 200; omega⟩
        · rw [List.map_append, List.nodup_append]
          refine ⟨h.nd, List.nodup_cons.2 ⟨by simp, List.nodup_nil⟩, fun x hx y hy e => ?_⟩
          obtain ⟨s, hs, rfl⟩ := List.mem_map.1 hx
          have h5 := (h.hd s hs).2.1
          have h6 : y = w16.heap.size := by simpa using hy
          omega
        · intro s hs
          rw [List.all_eq_true]
          rcases List.mem_append.1 hs with hs | hs
          · exact fun x hx => good_append (List.all_eq_true.1 (h.cl s hs) x hx)
          · rw [List.mem_singleton] at hs
            subst hs
            exact fun x hx => good_append (List.all_eq_true.1 hall x hx)
      · exact c108.trans (M' := fun k => k = w.heap.size) hg134 fun k hk e => by omega
      · rcases nx108 with e' | ⟨q, hq, e'⟩
        · exact .inl e'
        · exact .inr ⟨q, by omega, e'⟩

end Go.Proofs.YtfenhbjamohdgaaDoor.Vf
