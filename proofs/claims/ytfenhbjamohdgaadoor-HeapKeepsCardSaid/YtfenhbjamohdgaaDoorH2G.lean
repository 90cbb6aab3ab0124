/- Collect, in general: the whole of it. -/
import Derived.Test.YtfenhbjamohdgaaDoorH2F
namespace Go.Vx.Hp
open Go.RowKit

theorem find_moved_inv_aux (g : Val → Val) : ∀ (N : Mov), (N.map (·.1)).Nodup → ∀ {q : Nat} {s' : St}, find (N.map fun x => { x.2 with args := x.2.args.map g }) q = some s' → ∃ p s, (p, s) ∈ N ∧ pos N p = some q ∧ s' = { s with args := s.args.map g } := by
  intro N
  induction N with
  | nil => intro _ q s' h; cases h
  | cons x r ih =>
    intro hnd q s' h
    rw [List.map_cons, List.nodup_cons] at hnd
    have hsz : ({ x.2 with args := x.2.args.map g } : St).size = x.2.size := by simp [St.size]
    rw [List.map_cons] at h
    simp only [find] at h
    split at h
    · rename_i e
      cases h
      exact ⟨x.1, x.2, List.mem_cons_self, by simp [pos, e], rfl⟩
    · split at h
      · cases h
      · rename_i e1 e2
        rw [hsz] at h e2
        obtain ⟨p, s, h1, h2, h3⟩ := ih hnd.2 h
        refine ⟨p, s, List.mem_cons_of_mem _ h1, ?_, h3⟩
        have hne : x.1 ≠ p := fun e => hnd.1 (List.mem_map.2 ⟨(p, s), h1, e.symm⟩)
        simp only [pos]
        rw [if_neg hne, h2]
        simp only [Option.map_some, Option.some.injEq]
        omega
theorem find_moved_inv {S : List St} {M : Mov} (hm : Moves S M) {q : Nat} {s' : St} (h : find (moved M) q = some s') : ∃ p s, (p, s) ∈ M ∧ pos M p = some q ∧ s' = { s with args := s.args.map (fwd M) } := find_moved_inv_aux (fwd M) M hm.nd h

/-- while the new cells are scanned -/
structure ScanW (hp C : Nat) (w0 w : World) (S : List St) (most : Int) (F : Value) (R : List Pl) (V : Pl → Val) (M : Mov) (T : Value) (X : List Cell) (k : Nat) : Prop where
  mv : Mv hp C w S most F T M X
  sc : Scan S (R.map V) M X k
  town : ∀ g, T.ownBlock = some g → C + 2 ≤ g
  cells : ∀ x ∈ R, cellsAt w x.1 x.2 (fwd M (V x)).cs
  rb : RB R w0 w
  old : ∀ k, k < w0.heap.size → ¬ (∃ s ∈ S, s.blk = k) → (¬ ∃ x ∈ R, x.1 = k) → w.heap[k]? = w0.heap[k]?
  os : w.os = w0.os ∧ w.tape = w0.tape ∧ w.output = w0.output
  sz : C + 2 ≤ w.heap.size

theorem RB.of {R : List Pl} {w w6 w' : World} (h : RB R w6 w') (hs : ∀ x ∈ R, w6.heap[x.1]? = w.heap[x.1]?) : RB R w w' := by
  refine ⟨fun x hx => ?_, fun b o hb ho => ?_⟩
  · obtain ⟨cs, t, cs', e1, e2, e3⟩ := h.shape x hx
    exact ⟨cs, t, cs', (hs x hx).symm.trans e1, e2, e3⟩
  · rw [h.other b o hb ho]
    obtain ⟨x, hx, rfl⟩ := hb
    simp only [World.cell?, hs x hx]

/-- the marks, i cells done -/
def mkAt (M : Mov) (i p : Nat) : Int := match pos M p with | some q => if q < i then 0 else (q : Int) + 1 | none => 0

/-- what a collection comes to -/
structure Col (hp : Nat) (w w' : World) (S : List St) (most : Int) (v : Value) (R : List Pl) (V : Pl → Val) (M : Mov) (T : Value) : Prop where
  is : Is hp w' (moved M) most T
  mv : Moves S M
  args : ∀ x ∈ M, ∀ a ∈ x.2.args, In M a
  roots : ∀ x ∈ R, In M (V x)
  rch : ∀ y ∈ M, Rch S (R.map V) y.1
  cells : ∀ x ∈ R, cellsAt w' x.1 x.2 (fwd M (V x)).cs
  rb : RB R w w'
  old : ∀ k, k < w.heap.size → ¬ Mine hp S v k → (¬ ∃ x ∈ R, x.1 = k) → w'.heap[k]? = w.heap[k]?
  os : w'.os = w.os ∧ w'.tape = w.tape ∧ w'.output = w.output
  sz : w.heap.size ≤ w'.heap.size
  town : ∀ g, T.ownBlock = some g → w.heap.size ≤ g
end Go.Vx.Hp

namespace Go.Proofs.YtfenhbjamohdgaaDoor.Vf
open Go.Vx Go.Vx.Hp Go.RowKit

set_option maxHeartbeats 2000000 in
theorem Collect_spec {hp : Nat} {w : World} {S : List St} {most : Int} {v : Value} (h : Is hp w S most v) (R : List Pl) (V : Pl → Val) (a : Option Addr) (c : Nat) (hl : R.length ≤ 1000000)
    (hcells : ∀ x ∈ R, cellsAt w x.1 x.2 (V x).cs) (hshape : ∀ x ∈ R, ∃ cs t, w.heap[x.1]? = some (.cells cs t (0, 0))) (hnm : ∀ x ∈ R, ¬ Mine hp S v x.1)
    (hd : ∀ x ∈ R, ∀ y ∈ R, x ≠ y → x.1 ≠ y.1 ∨ x.2 + 2 ≤ y.2 ∨ y.2 + 2 ≤ x.2) (hg : ∀ x ∈ R, good S (V x) = true)
    (hP : Psl w a R) (hPn : ∀ b f, a = some ⟨b, f, none⟩ → ¬ Mine hp S v b ∧ ¬ ∃ x ∈ R, x.1 = b) :
    Calls Tryd.prog 13 #[.pointer (some ⟨hp, 0, none⟩), .slice a R.length c] w fun e w' => e = .returned .nilIface ∧ ∃ M T, Col hp w w' S most v R V M T := by
  refine (Collect.calls (R := fun x w' => x = .nilIface ∧ ∃ M T, Col hp w w' S most v R V M T) ?_).mono (fun x w' ⟨v, h1, h2, h3⟩ => ⟨by rw [h1, h2], h3⟩)
  unfold Collect.W
  have hplt : ∀ j (hj : j < R.length), ∃ b f, a = some ⟨b, f, none⟩ ∧ b < w.heap.size ∧ w.cell? ⟨b, f + j * 1, none⟩ = some (.pointer (some (ad R[j]))) := fun j hj => by
    obtain ⟨b, f, e, hc⟩ := hP j hj
    refine ⟨b, f, e, ?_, hc⟩
    rcases Nat.lt_or_ge b w.heap.size with h | h
    · exact h
    · simp only [World.cell?, Array.getElem?_eq_none h] at hc; simp at hc
  have hxlt : ∀ x ∈ R, x.1 < w.heap.size := fun x hx => by obtain ⟨cs, t, e⟩ := hshape x hx; exact lt_of_block e
  -- the check
  refine ⟨fun us w2 => ∃ j : Nat, j ≤ R.length ∧ us = [.int .i64 j] ∧ Below w.heap.size w w2, fun us _ => match us with | [.int _ j] => R.length - j.toNat | _ => 0, ⟨0, Nat.zero_le _, rfl, Below.refl _ _⟩, ?_⟩
  rintro _ us w6 ⟨j, hj, rfl, b6⟩
  refine ⟨_, rfl, ifD (fun hlt => ?_) (fun _ => ?_)⟩
  · have hj' : j < R.length := by omega
    obtain ⟨b, f, rfl, hb, hc⟩ := hplt j hj'
    have hm := List.getElem_mem hj'
    refine ⟨b, f, rfl, by omega, hlt, _, cell_below b6 hb hc, ?_⟩
    show ∃ b14 f15, _
    refine ⟨_, _, rfl, _, _, cellsAt_below b6 (hxlt _ hm) (hcells _ hm), ?_⟩
    refine (hgood_spec (h.below b6) (V R[j]).ref (V R[j]).n).mono ?_
    rintro _ w18 ⟨rfl, hb18⟩
    refine ⟨_, rfl, ifN (fun hbad => absurd ((hg _ hm).symm.trans hbad) (by decide)) (fun _ => ?_)⟩
    rw [w64 (x := (j : Int) + 1) (by omega) (by omega)]
    exact ⟨⟨j + 1, hj', rfl, b6.trans (hb18.mono b6.size)⟩, by simp only; omega⟩
  have h6 := h.below b6
  have s6 := b6.size
  obtain ⟨av, cv, rfl, hcv, _⟩ := h.slice
  refine ⟨_, _, rfl, _, _, _, cell_of_block h6.blk rfl, box fun w27 at27 hb27 hs27 => box fun w28 at28 hb28 hs28 => ?_⟩
  have b28 : Below w6.heap.size w6 w28 := hb27.trans (hb28.mono (by omega))
  have h28 := h6.below b28
  have at27' := block_below hb28 (by omega) at27
  rw [hs27] at at28 ⊢
  have hhp := lt_of_block h6.blk
  have hnm' : ∀ x ∈ R, x.1 < w6.heap.size ∧ x.1 ≠ hp ∧ some x.1 ≠ (Value.slice av (used S) cv).ownBlock ∧ ¬ ∃ s ∈ S, s.blk = x.1 := fun x hx => by
    have h1 := hnm x hx
    have h2 := hxlt x hx
    exact ⟨by omega, fun e => h1 (.inl e), fun e => h1 (.inr (.inl e)), fun e => h1 (.inr (.inr e))⟩
  have init : RInv hp w6.heap.size w6 w28 S most (.slice av (used S) cv) R V 0 [] (.slice none 0 0) [] := by
    refine ⟨⟨h28.blk, h28.own, fun g hg' => (h6.own.lt g hg').2, at27', World.ownsRow_nil _ _ _ _, fun p s hs => ?_, h.nd, ⟨(fun x hx => nomatch hx), List.nodup_nil⟩, rfl, hhp, by have := h.fits; have := h.most1; omega⟩, (fun g hg' => nomatch hg'), ⟨#[], 0, at28, rfl⟩, fun x hx => by simp, (fun p hp' => nomatch hp'), fun x hx => ⟨fun hx' => by simp at hx', fun _ => cellsAt_below b28 (hnm' x hx).1 (cellsAt_below b6 (hxlt x hx) (hcells x hx))⟩, (fun y hy => nomatch hy), ?_, fun k hk _ _ => b28.block k hk, ⟨b28.os, b28.tape, b28.output⟩, by omega⟩
    · obtain ⟨k1, k2, k3, k4⟩ := h28.hd s (find_mem hs)
      exact ⟨k1, by have := (h6.hd s (find_mem hs)).2.1; omega, k3, k4⟩
    · refine (RB.refl fun x hx => ?_).same fun x hx => b28.block _ (hnm' x hx).1
      obtain ⟨cs, t, e⟩ := hshape x hx
      exact ⟨cs, t, block_below b6 (hxlt x hx) e⟩
  refine ⟨fun us w2 => ∃ (j : Nat) (M : Mov) (T : Value) (ps : List Addr), j ≤ R.length ∧ us = [.int .i64 j] ∧ RInv hp w6.heap.size w6 w2 S most (.slice av (used S) cv) R V j M T ps, fun us _ => match us with | [.int _ j] => R.length - j.toNat | _ => 0, ⟨0, _, _, _, Nat.zero_le _, rfl, init⟩, ?_⟩
  rintro _ us w31 ⟨j, M, T, ps, hj, rfl, hri⟩
  refine ⟨_, rfl, ifD (fun hlt => ?_) (fun hge => ?_)⟩
  · have hj' : j < R.length := by omega
    obtain ⟨b, f, rfl, hb, hc⟩ := hplt j hj'
    obtain ⟨hn1, hn2⟩ := hPn b f rfl
    have hm := List.getElem_mem hj'
    have hc31 := cell_same (hri.old b (by omega) (fun e => hn1 (.inr (.inr e))) hn2) (cell_below b6 hb hc)
    have plain : ∀ y ∈ R, Plain w31 (ad y) := fun y hy => by
      obtain ⟨_, t', cs', _, k2, _⟩ := hri.rb.shape y hy
      exact ⟨cs', t', k2⟩
    obtain ⟨j30, hj1, hj2⟩ := info30
    refine ⟨b, f, rfl, by omega, hlt, _, hc31, _, lookup_ptr map90 (zero4 _) Tryd.underlying39 hj1 hj2 (plain _ hm) hri.map (fun p hp' => by obtain ⟨y, hy, rfl⟩ := hri.psR p hp'; exact plain y hy), ?_⟩
    rw [w64 (x := (j : Int) + 1) (by omega) (by omega)]
    refine ifN (fun hno => ?_) (fun hyes => ?_)
    · have hnew : R[j] ∉ R.take j := fun hx => by
        have := (hri.key _ hm).2 hx
        exact of_decide_eq_false hno this
      refine ⟨_, _, rfl, _, _, (hri.cells _ hm).2 hnew, ?_⟩
      exact root_step hri hj' (Nat.le_refl _) hnm' hd hnew (hg _ hm) _ fun w' M' T' ps' hri' => ⟨⟨j + 1, M', T', ps', hj', rfl, hri'⟩, by simp only; omega⟩
    · have hin : R[j] ∈ R.take j := (hri.key _ hm).1 (of_decide_eq_true hyes)
      have ht : R.take (j + 1) = R.take j ++ [R[j]] := by rw [List.take_succ_eq_append_getElem hj']
      have hiff : ∀ x, x ∈ R.take (j + 1) ↔ x ∈ R.take j := fun x => by
        rw [ht, List.mem_append, List.mem_singleton]
        exact ⟨fun hx => hx.elim id fun e => e ▸ hin, .inl⟩
      exact ⟨⟨j + 1, M, T, ps, hj', rfl, ⟨hri.mv, hri.town, hri.map, fun x hx => by rw [hiff]; exact hri.key x hx, hri.psR, fun x hx => by rw [hiff]; exact hri.cells x hx, hri.rch, hri.rb, hri.old, hri.os, hri.sz⟩⟩, by simp only; omega⟩
  · have : j = R.length := by omega
    subst this
    have hins : ∀ x ∈ R, In M (V x) := fun x hx => ((hri.cells x hx).1 (by rw [List.take_length]; exact hx)).2
    have sw0 : ScanW hp w6.heap.size w6 w31 S most (.slice av (used S) cv) R V M T (raw M) 0 :=
      ⟨hri.mv, Scan.start (fun v hv => by obtain ⟨x, hx, rfl⟩ := List.mem_map.1 hv; exact hins x hx) hri.rch hri.mv.mv, hri.town, fun x hx => ((hri.cells x hx).1 (by rw [List.take_length]; exact hx)).1, hri.rb, hri.old, hri.os, hri.sz⟩
    refine ⟨fun us w2 => ∃ (k : Nat) (M : Mov) (T : Value) (X : List Cell), us = [.int .i64 k] ∧ ScanW hp w6.heap.size w6 w2 S most (.slice av (used S) cv) R V M T X k, fun us _ => match us with | [.int _ k] => used S - k.toNat | _ => 0, ⟨0, M, T, _, rfl, sw0⟩, ?_⟩
    clear sw0 hins hri init
    rintro _ us w53 ⟨k, M, T, X, rfl, sw⟩
    have hX := sw.mv.len
    have htot := sw.mv.mv.tot_le sw.mv.nd
    have hlim := sw.mv.lim
    obtain ⟨aT, cT, rfl, hcT, _⟩ := own_slice sw.mv.town
    have hsz := sw.sz
    refine ⟨_, rfl, _, _, rfl, _, _, _, cell_of_block sw.mv.cb rfl, ifD (fun hlt => ?_) (fun hge => ?_)⟩
    · have hk : k < tot M := by omega
      obtain ⟨hkX, hkr, hXk⟩ := sw.sc.get hk
      obtain ⟨g, cT', curT, eT, hgT, hhT, hcT1, hcT2, hcT3, htT⟩ : ∃ g cap cur, Value.slice aT X.length cT = .slice (some ⟨g, 0, none⟩) X.length cap ∧ w6.heap.size + 1 ≤ g ∧ w53.heap[g]? = some (.cells cur 84 (0, 0)) ∧ X.length ≤ cap ∧ cap ≤ maxLen ∧ cur.size = cap * 3 ∧ cur.toList.take (X.length * 3) = flat X := by
        obtain ⟨_, ⟨_, hn⟩ | hx⟩ := sw.mv.town
        · omega
        · exact hx
      cases eT
      have hcell : cellsAt w53 g (k * 3) (X[k]'hkX).cs := by
        refine cellsAt_of_block hhT _ _ ?_
        rw [← flat_get X k hkX, ← htT, List.drop_take, List.take_take]
        simp only [List.length_take, List.length_drop, Array.length_toList]
        congr 1
        omega
      rw [hXk] at hcell
      have hptr : w53.cell? ⟨g, 0 + (k : Int).toNat * 3 + 2, none⟩ = some (.pointer (((raw M)[k]'hkr).head.map fun b => ⟨b, 0, none⟩)) := by
        have := hcell.2.2.1
        rw [Int.toNat_natCast, Nat.zero_add]; exact this
      rw [w64 (x := (k : Int) + 1) (by omega) (by omega)]
      refine ⟨_, _, rfl, _, _, _, cell_of_block sw.mv.cb rfl, g, 0, rfl, by omega, hlt, _, hptr, ?_⟩
      cases hh : ((raw M)[k]'hkr).head with
      | some b =>
        refine ifB (fun h => nomatch h) (fun _ => ?_)
        exact ⟨⟨k + 1, M, _, X, rfl, ⟨sw.mv, sw.sc.head hk hh, sw.town, sw.cells, sw.rb, sw.old, sw.os, sw.sz⟩⟩, by simp only; omega⟩
      | none =>
        refine ifB (fun _ => ?_) (fun h => nomatch h)
        have hcm : ((raw M)[k]'hkr) ∈ raw M := List.getElem_mem _
        obtain ⟨x, hx, hav⟩ : ∃ x ∈ M, ((raw M)[k]'hkr).val ∈ x.2.args := by
          rcases raw_mem hcm with ⟨x, _, e, _⟩ | ⟨x, hx, _, e⟩
          · rw [hh] at e; cases e
          · exact ⟨x, hx, e⟩
        have hgood := List.all_eq_true.1 (h.cl x.2 (find_mem (sw.mv.mv.of x hx))) _ hav
        obtain ⟨u, hu⟩ : ∃ u, u = ((raw M)[k]'hkr).val := ⟨_, rfl⟩
        have hc2 : cellsAt w53 g (0 + (k : Int).toNat * 3) [.bool u.ref, .int .i64 u.n] := by
          rw [Int.toNat_natCast, Nat.zero_add, hu]; exact ⟨hcell.1, hcell.2.1, trivial⟩
        rw [← hu] at hgood hav
        refine ⟨_, _, rfl, _, _, _, cell_of_block sw.mv.cb rfl, g, 0, rfl, by omega, hlt, _, _, hc2, ?_⟩
        refine (move_spec sw.mv u.ref u.n hgood).mono ?_
        rintro _ w79 ⟨M', T', X', rfl, hin, hM, hmv, hchg, hnx⟩
        have s79 := hchg.size
        have hts : ∀ g, T'.ownBlock = some g → w6.heap.size + 2 ≤ g := fun g hg => by
          rcases hnx with e | ⟨q, hq, e⟩
          · exact sw.town g (e ▸ hg)
          · rw [e] at hg; cases hg; omega
        -- the plain side
        have hsc : Scan S (R.map V) M' X' k ∧ k < tot M' ∧ (∀ z, In M z → fwd M' z = fwd M z) ∧ ∃ hk2 : k < (raw M').length, (raw M')[k] = (raw M)[k] := by
          rcases hM with ⟨rfl, rfl⟩ | ⟨hr, s, hs, hp', rfl, rfl⟩
          · exact ⟨sw.sc, hk, fun _ _ => rfl, hkr, rfl⟩
          · refine ⟨sw.sc.more hs hp' (.step x.1 x.2 u (sw.sc.rch x hx) (sw.mv.mv.of x hx) hav hr), by rw [tot_append]; omega, fun z hz => fwd_append hz, ?_⟩
            have er : raw (M ++ [(u.n.toNat, s)]) = raw M ++ s.cells := by rw [raw_append]; simp [raw]
            refine ⟨by rw [er, List.length_append]; omega, ?_⟩
            simp only [er]
            rw [List.getElem_append_left hkr]
        obtain ⟨hsc, hk', hfw, hk2, hrk⟩ := hsc
        have hsc2 := hsc.arg hk' (by rw [hrk]; exact hh) (by rw [hrk, ← hu]; exact hin)
        rw [hrk, ← hu] at hsc2
        have hX' := hmv.len
        obtain ⟨aT', cT2, rfl, hcT', _⟩ := own_slice hmv.town
        refine ⟨_, _, rfl, copyStep rfl rfl fun w84 at84 hb84 hs84 => drewStep fun w85 e85 hb85 => ?_⟩
        have b85 : Below w79.heap.size w79 w85 := hb84.trans (hb85.mono hb84.size)
        have hmv85 := hmv.below b85
        have at85 : w85.heap[w79.heap.size]? = _ := e85 ▸ at84
        obtain ⟨g2, cT3, curT2, eT2, hgT2, hhT2, hc21, hc22, hc23, htT2⟩ : ∃ g cap cur, Value.slice aT' X'.length cT2 = .slice (some ⟨g, 0, none⟩) X'.length cap ∧ w6.heap.size + 1 ≤ g ∧ w85.heap[g]? = some (.cells cur 84 (0, 0)) ∧ X'.length ≤ cap ∧ cap ≤ maxLen ∧ cur.size = cap * 3 ∧ cur.toList.take (X'.length * 3) = flat X' := by
          obtain ⟨_, ⟨_, hn⟩ | hx⟩ := hmv85.town
          · omega
          · exact hx
        cases eT2
        refine ⟨_, _, rfl, _, _, _, cell_of_block hmv85.cb rfl, _, _, cellsAt_of_block at85 [.bool (fwd M' u).ref, .int .i64 (fwd M' u).n] 0 rfl, g2, 0, rfl, by omega, by omega, ?_⟩
        rw [Int.toNat_natCast, Nat.zero_add]
        refine setStep hhT2 (by show k * 3 + 2 ≤ _; omega) rfl fun w95 at95 same95 hsz95 hg95 => ?_
        have s85 := b85.size
        have hg2 := hts g2 rfl
        have hg2lt : g2 < w79.heap.size := (hmv.town.lt g2 rfl).2
        have hkX' : k < X'.length := by omega
        have hhead : (X'[k]'hkX').head = none := by
          obtain ⟨q1, q2, q3⟩ := hsc.get hk'
          rw [q3, hrk]; exact hh
        have htot' := hmv.mv.tot_le hmv.nd
        have keep : ∀ q, q < w53.heap.size → q ≠ w6.heap.size → (¬ ∃ s ∈ S, s.blk = q) → (∀ g', (Value.slice (some ⟨g, 0, none⟩) X.length cT).ownBlock = some g' → q ≠ g') → q ≠ g2 → w95.heap[q]? = w53.heap[q]? := fun q hq n1 n2 n3 n4 =>
          (same95 q n4).trans ((b85.block q (by omega)).trans (hchg.block q hq (by
            rintro (e | e | e)
            · exact n1 e
            · exact n3 q e.symm rfl
            · exact n2 e)))
        have rkeep : ∀ y ∈ R, w95.heap[y.1]? = w53.heap[y.1]? := fun y hy => by
          obtain ⟨n1, n2, n3, n4⟩ := hnm' y hy
          exact keep y.1 (by omega) (by omega) n4 (fun g' hg' => by have := sw.town g' hg'; omega) (by omega)
        refine ⟨⟨k + 1, M', _, _, rfl, ⟨⟨?_, ?_, hmv.flt, ?_, ?_, ?_, hmv.nd, hmv.mv, by rw [List.length_set]; exact hX', hmv.hpC, hmv.lim⟩, hsc2, hts, fun y hy => ?_, sw.rb.same rkeep, fun q hq n1 n2 => ?_, ?_, by omega⟩⟩, by simp only; omega⟩
        · exact (same95 hp (by have := hmv.hpC; omega)).trans hmv85.hpb
        · exact own_block hmv85.fown fun q hq => same95 q (by have := hmv.flt q hq; omega)
        · exact (same95 _ (by omega)).trans hmv85.cb
        · rw [List.length_set]
          have := own_set (k := k) hkX' (v := fwd M' u) hmv85.town rfl hhT2 at95
          rw [hhead] at this
          exact this
        · intro p s hs
          obtain ⟨k1, k2, k3, k4⟩ := hmv85.hd p s hs
          exact ⟨k1, k2, k3, (same95 _ (by omega)).trans k4⟩
        · rw [hfw _ (sw.sc.roots _ (List.mem_map.2 ⟨y, hy, rfl⟩))]
          exact cellsAt_same (rkeep y hy) (sw.cells y hy)
        · exact (keep q (by omega) (by omega) n1 (fun g' hg' => by have := sw.town g' hg'; omega) (by omega)).trans (sw.old q hq n1 n2)
        · obtain ⟨o1, o2, o3⟩ := sw.os
          exact ⟨hg95.os.trans (b85.os.trans (hchg.os.trans o1)), hg95.tape.trans (b85.tape.trans (hchg.tape.trans o2)), hg95.output.trans (b85.output.trans (hchg.output.trans o3))⟩
    · have hkt : k = tot M := by have := sw.sc.le; omega
      subst hkt
      obtain ⟨hXc, hargs⟩ := sw.sc.done
      refine ⟨_, _, rfl, _, _, _, cell_of_block sw.mv.cb rfl, fun us w2 => ∃ i : Nat, i ≤ X.length ∧ us = [.int .i64 i] ∧ (∀ q, (¬ ∃ s ∈ S, s.blk = q) → w2.heap[q]? = w53.heap[q]?) ∧ (∀ p s, find S p = some s → w2.heap[s.blk]? = some (hdObj s (mkAt M i p))) ∧ w2.heap.size = w53.heap.size ∧ Chg (fun q => ∃ s ∈ S, s.blk = q) w53 w2,
        fun us _ => match us with | [.int _ i] => X.length - i.toNat | _ => 0, ⟨0, Nat.zero_le _, rfl, fun _ _ => rfl, fun p s hs => ?_, rfl, Chg.refl _ _⟩, ?_⟩
      · have := (sw.mv.hd p s hs).2.2.2
        rw [this]
        simp only [mkAt, markOf]
        cases pos M p <;> rfl
      rintro _ us w103 ⟨i, hi, rfl, hno, hhd, hsz103, hchg⟩
      have notHead : ∀ q, w6.heap.size ≤ q → ¬ ∃ s ∈ S, s.blk = q := by
        rintro q hq ⟨s, hs, rfl⟩
        obtain ⟨p, hp'⟩ := find_of_mem hs
        have := (sw.mv.hd p s hp').2.1; omega
      have hpNot : ¬ ∃ s ∈ S, s.blk = hp := by
        rintro ⟨s, hs, e⟩
        obtain ⟨p, hp'⟩ := find_of_mem hs
        have := (sw.mv.hd p s hp').1; omega
      have cb103 := (hno _ (notHead _ (Nat.le_refl _))).trans sw.mv.cb
      have own103 : w103.ownsRow (w6.heap.size + 1) 84 3 (.slice aT X.length cT) X.length (flat X) := own_block sw.mv.town fun g hg => hno g (notHead g (by have := sw.town g hg; omega))
      refine ⟨_, rfl, ifD (fun hlt => ?_) (fun hge' => ?_)⟩
      · have hiX : i < X.length := by omega
        obtain ⟨g, cT', curT, eT, hgT, hhT, hcT1, hcT2, hcT3, htT⟩ : ∃ g cap cur, Value.slice aT X.length cT = .slice (some ⟨g, 0, none⟩) X.length cap ∧ w6.heap.size + 1 ≤ g ∧ w103.heap[g]? = some (.cells cur 84 (0, 0)) ∧ X.length ≤ cap ∧ cap ≤ maxLen ∧ cur.size = cap * 3 ∧ cur.toList.take (X.length * 3) = flat X := by
          obtain ⟨_, ⟨_, hn⟩ | hx⟩ := own103
          · omega
          · exact hx
        cases eT
        have hcell : cellsAt w103 g (i * 3) (X[i]'hiX).cs := by
          refine cellsAt_of_block hhT _ _ ?_
          rw [← flat_get X i hiX, ← htT, List.drop_take, List.take_take]
          simp only [List.length_take, List.length_drop, Array.length_toList]
          congr 1
          omega
        have hptr : w103.cell? ⟨g, 0 + (i : Int).toNat * 3 + 2, none⟩ = some (.pointer ((X[i]'hiX).head.map fun b => ⟨b, 0, none⟩)) := by
          have := hcell.2.2.1
          rw [Int.toNat_natCast, Nat.zero_add]; exact this
        have hXh : (X[i]'hiX).head = (find (moved M) i).map St.blk := by
          subst hXc
          exact cells_at hiX
        rw [w64 (x := (i : Int) + 1) (by omega) (by omega)]
        refine ⟨_, _, rfl, _, _, _, cell_of_block cb103 rfl, g, 0, rfl, by omega, hlt, _, hptr, ?_⟩
        rw [hXh]
        cases hf : find (moved M) i with
        | none =>
          refine ifN (fun h => nomatch h) (fun _ => ⟨⟨i + 1, hiX, rfl, hno, fun p s hs => ?_, hsz103, hchg⟩, by simp only; omega⟩)
          rw [hhd p s hs]
          simp only [mkAt]
          cases hp' : pos M p with
          | none => rfl
          | some q =>
            have hqi : q ≠ i := fun e => by
              subst e
              obtain ⟨_, _, h2⟩ := find_moved hp'
              rw [hf] at h2; cases h2
            simp only
            have e : (if q < i + 1 then (0 : Int) else (q : Int) + 1) = (if q < i then 0 else (q : Int) + 1) := by
              split <;> split <;> omega
            rw [e]
        | some s' =>
          obtain ⟨p, s, hps, hpos, rfl⟩ := find_moved_inv sw.mv.mv hf
          have hs := sw.mv.mv.of _ hps
          have hb := hhd p s hs
          refine ifN (fun _ => ⟨s.blk, 0, rfl, setStep hb (by show 5 ≤ 5; omega) rfl fun w117 at117 same117 hsz117 hg117 => ?_⟩) (fun h => nomatch h)
          have hhead : ∃ t ∈ S, t.blk = s.blk := ⟨s, find_mem hs, rfl⟩
          refine ⟨⟨i + 1, hiX, rfl, fun q hq => (same117 q (fun e => hq (e ▸ hhead))).trans (hno q hq), fun p2 s2 hs2 => ?_, by omega, ?_⟩, by simp only; omega⟩
          · by_cases hpp : p2 = p
            · subst hpp
              rw [hs] at hs2; cases hs2
              rw [at117]
              simp only [mkAt, hpos]
              rw [if_pos (Nat.lt_succ_self _)]
              rfl
            · have hbne : s2.blk ≠ s.blk := fun e => hpp (find_inj sw.mv.nd hs2 hs e)
              rw [same117 _ hbne, hhd p2 s2 hs2]
              simp only [mkAt]
              cases hp2 : pos M p2 with
              | none => rfl
              | some q =>
                have hqi : q ≠ i := fun e => by
                  subst e
                  obtain ⟨t, ht1, ht2⟩ := find_moved hp2
                  rw [hf] at ht2
                  simp only [Option.some.injEq, St.mk.injEq] at ht2
                  exact hpp (find_inj sw.mv.nd (sw.mv.mv.of _ ht1) hs ht2.1.symm)
                simp only
                have e : (if q < i + 1 then (0 : Int) else (q : Int) + 1) = (if q < i then 0 else (q : Int) + 1) := by
                  split <;> split <;> omega
                rw [e]
          · exact hchg.trans hg117 fun q _ e => e ▸ hhead
      · have : i = X.length := by omega
        subst this
        have hp103 := (hno hp hpNot).trans sw.mv.hpb
        refine ⟨_, _, rfl, _, _, _, cell_of_block cb103 rfl, _, _, rfl, setStep hp103 (by simp) rfl fun w125 at125 same125 hsz125 hg125 => ⟨rfl, M, .slice aT X.length cT, ?_⟩⟩
        have hu : used (moved M) = X.length := by rw [used_moved]; omega
        have s125 : w125.heap.size = w53.heap.size := by omega
        have nonhead : ∀ q, q ≠ hp → (¬ ∃ s ∈ S, s.blk = q) → w125.heap[q]? = w53.heap[q]? := fun q h1 h2 => (same125 q h1).trans (hno q h2)
        have rkeep : ∀ y ∈ R, w125.heap[y.1]? = w53.heap[y.1]? := fun y hy => by
          obtain ⟨n1, n2, n3, n4⟩ := hnm' y hy
          exact nonhead y.1 n2 n4
        refine ⟨⟨at125, ?_, fun s' hs' => ?_, fun s' hs' => ?_, h.most0, h.most1, by rw [hu]; have := h.fits; omega, sw.mv.mv.blks sw.mv.nd, fun s' hs' => ?_⟩, sw.mv.mv, hargs, fun x hx => sw.sc.roots _ (List.mem_map.2 ⟨x, hx, rfl⟩), sw.sc.rch, fun x hx => cellsAt_same (rkeep x hx) (sw.cells x hx), (sw.rb.same rkeep).of fun x hx => b6.block _ (hxlt x hx), fun q hq h1 h2 => ?_, ?_, by omega, fun g hg' => by have := sw.town g hg'; omega⟩
        · rw [hu, ← hXc]
          exact (own_block own103 fun g hg => same125 g (by have := sw.town g hg; omega)).mono (by omega)
        · obtain ⟨x, hx, rfl⟩ := List.mem_map.1 hs'
          have hs := sw.mv.mv.of x hx
          obtain ⟨k1, k2, k3, _⟩ := sw.mv.hd x.1 x.2 hs
          refine ⟨k1, by show x.2.blk < _; omega, fun e => by have := sw.town x.2.blk e.symm; omega, ?_⟩
          show w125.heap[x.2.blk]? = _
          rw [same125 _ (by omega), hhd x.1 x.2 hs]
          have hz : mkAt M X.length x.1 = 0 := by
            simp only [mkAt]
            cases hp' : pos M x.1 with
            | none => rfl
            | some q => have := pos_lt hp'; simp only; rw [if_pos (by omega)]
          rw [hz]
          simp [hdObj, St.size]
        · obtain ⟨x, hx, rfl⟩ := List.mem_map.1 hs'
          have := h.ok x.2 (find_mem (sw.mv.mv.of x hx))
          unfold St.Ok at this ⊢
          simpa using this
        · obtain ⟨x, hx, rfl⟩ := List.mem_map.1 hs'
          rw [List.all_eq_true]
          intro z hz
          obtain ⟨y, hy, rfl⟩ := List.mem_map.1 hz
          exact good_fwd (hargs x hx y hy)
        · have hn : ¬ ∃ s ∈ S, s.blk = q := fun e => h1 (.inr (.inr e))
          exact (nonhead q (fun e => h1 (.inl e)) hn).trans ((sw.old q (by omega) hn h2).trans (b6.block q hq))
        · obtain ⟨o1, o2, o3⟩ := sw.os
          exact ⟨hg125.os.trans (hchg.os.trans (o1.trans b6.os)), hg125.tape.trans (hchg.tape.trans (o2.trans b6.tape)), hg125.output.trans (hchg.output.trans (o3.trans b6.output))⟩

end Go.Proofs.YtfenhbjamohdgaaDoor.Vf
