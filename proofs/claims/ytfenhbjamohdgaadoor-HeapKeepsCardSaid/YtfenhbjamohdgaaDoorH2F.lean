/- Collect, in general. -/
import Derived.Test.YtfenhbjamohdgaaDoorH2E
namespace Go.Vx.Hp
open Go.RowKit

theorem find_of_mem {S : List St} {s : St} (hs : s ∈ S) : ∃ p, find S p = some s := by
  induction S with
  | nil => cases hs
  | cons t r ih =>
    rcases List.mem_cons.1 hs with rfl | hs
    · exact ⟨0, rfl⟩
    · obtain ⟨p, hp⟩ := ih hs
      refine ⟨t.size + p, ?_⟩
      have := t.size_pos
      simp only [find]
      rw [if_neg (by omega), if_neg (by omega), Nat.add_sub_cancel_left]; exact hp

/-- while the roots are moved: the first i are done -/
structure RInv (hp C : Nat) (w0 w : World) (S : List St) (most : Int) (F : Value) (R : List Pl) (V : Pl → Val) (i : Nat) (M : Mov) (T : Value) (ps : List Addr) : Prop where
  mv : Mv hp C w S most F T M (raw M)
  town : ∀ g, T.ownBlock = some g → C + 2 ≤ g
  map : PMap w (C + 1) ps
  key : ∀ x ∈ R, ad x ∈ ps ↔ x ∈ R.take i
  psR : ∀ p ∈ ps, ∃ x ∈ R, p = ad x
  cells : ∀ x ∈ R, (x ∈ R.take i → cellsAt w x.1 x.2 (fwd M (V x)).cs ∧ In M (V x)) ∧ (x ∉ R.take i → cellsAt w x.1 x.2 (V x).cs)
  rch : ∀ y ∈ M, Rch S (R.map V) y.1
  rb : RB R w0 w
  old : ∀ k, k < w0.heap.size → ¬ (∃ s ∈ S, s.blk = k) → (¬ ∃ x ∈ R, x.1 = k) → w.heap[k]? = w0.heap[k]?
  os : w.os = w0.os ∧ w.tape = w0.tape ∧ w.output = w0.output
  sz : C + 2 ≤ w.heap.size

end Go.Vx.Hp

namespace Go.Proofs.YtfenhbjamohdgaaDoor.Vf
open Go.Vx Go.Vx.Hp Go.RowKit

theorem map90 : Tryd.prog.underlying 90 = some (.map 39 4) := by kernel_rfl
theorem zero4 (w : World) : (zeroValue 4).run Tryd.prog w = .ok (.bool false) w := by
  have h : ((Tryd.prog.info? 4).bind (·.zero)) = some (.bool false) := by kernel_rfl
  obtain ⟨i, hi, hz⟩ := Option.bind_eq_some_iff.1 h
  simp [zeroValue, typeInfo, hi, hz]
theorem info30 : ∃ j, Tryd.prog.info? 30 = some j ∧ j.size ≠ 0 := by
  have h : (Tryd.prog.info? 30).map (·.size) = some 2 := by kernel_rfl
  obtain ⟨j, h1, h2⟩ := Option.map_eq_some_iff.1 h
  exact ⟨j, h1, by rw [h2]; decide⟩

/-- what the roots' slice holds -/
def Psl (w : World) (a : Option Addr) (R : List Pl) : Prop := ∀ j (h : j < R.length), ∃ b f, a = some ⟨b, f, none⟩ ∧ w.cell? ⟨b, f + j * 1, none⟩ = some (.pointer (some (ad R[j])))

/-- one root is moved -/
theorem root_step {hp C : Nat} {w0 w : World} {S : List St} {most : Int} {F T : Value} {R : List Pl} {V : Pl → Val} {i : Nat} {M : Mov} {ps : List Addr} (h : RInv hp C w0 w S most F R V i M T ps) (hi : i < R.length)
    (hC : w0.heap.size ≤ C) (hnm : ∀ x ∈ R, x.1 < w0.heap.size ∧ x.1 ≠ hp ∧ some x.1 ≠ F.ownBlock ∧ ¬ ∃ s ∈ S, s.blk = x.1) (hd : ∀ x ∈ R, ∀ y ∈ R, x ≠ y → x.1 ≠ y.1 ∨ x.2 + 2 ≤ y.2 ∨ y.2 + 2 ≤ x.2)
    (hnew : R[i] ∉ R.take i) (hgd : good S (V R[i]) = true) (G : World → Prop)
    (hG : ∀ w' M' T' ps', RInv hp C w0 w' S most F R V (i + 1) M' T' ps' → G w') :
    Calls Tryd.prog 27 #[.pointer (some ⟨C, 0, none⟩), .agg #[.bool (V R[i]).ref, .int .i64 (V R[i]).n]] w fun e44 w43 => ∃ (b45 : Bool) (n46 : Int), e44 = .returned (.agg #[(.bool b45), (.int .i64 n46)]) ∧ (∃ b47 f48, (some (ad R[i]) : Option Addr) = some ⟨b47, f48, none⟩ ∧ (canSt w43 b47 f48 [(.bool b45), (.int .i64 n46)] ∧ withW (setL w43 b47 f48 [(.bool b45), (.int .i64 n46)]) fun w49 =>
      (∃ w50, Runs Tryd.prog (Instr.mapUpdate 90 (.map (some (C + 1))) (.pointer (some (ad R[i]))) (.bool true)) w49 () w50 ∧ G w50))) := by
  have hmem : R[i] ∈ R := List.getElem_mem _
  obtain ⟨x, hx⟩ : ∃ x, x = R[i] := ⟨_, rfl⟩
  rw [← hx] at hmem hnew hgd ⊢
  refine (move_spec h.mv (V x).ref (V x).n hgd).mono ?_
  rintro _ w43 ⟨M', T', X', rfl, hin, hM, hmv, hchg, hnx⟩
  have hsz := h.sz
  have hts : ∀ g, T'.ownBlock = some g → C + 2 ≤ g := fun g hg => by
    rcases hnx with e | ⟨k, hk, e⟩
    · exact h.town g (e ▸ hg)
    · rw [e] at hg; cases hg; omega
  have hX' : X' = raw M' := by
    rcases hM with ⟨rfl, rfl⟩ | ⟨_, s, _, _, rfl, rfl⟩
    · rfl
    · rw [raw_append]; simp [raw]
  subst hX'
  -- what move leaves alone
  have keep : ∀ k, k < w.heap.size → k ≠ C → (∀ g, T.ownBlock = some g → k ≠ g) → (¬ ∃ s ∈ S, s.blk = k) → w43.heap[k]? = w.heap[k]? := fun k hk h1 h2 h3 => hchg.block k hk (by
    rintro (e | e | e)
    · exact h1 e
    · exact h2 k e.symm rfl
    · exact h3 e)
  have rkeep : ∀ y ∈ R, w43.heap[y.1]? = w.heap[y.1]? := fun y hy => by
    obtain ⟨n1, n2, n3, n4⟩ := hnm y hy
    exact keep y.1 (by omega) (by omega) (fun g hg => by have := h.town g hg; omega) n4
  have rb43 := h.rb.same rkeep
  obtain ⟨cs0, t, cs, e1, e2, e3⟩ := rb43.shape x hmem
  -- the cells of this root
  have hcx : cellsAt w43 x.1 x.2 (V x).cs := cellsAt_same (rkeep x hmem) ((h.cells x hmem).2 hnew)
  have hfit : x.2 + 2 ≤ cs.size := by
    have h1 := hcx.2.1
    simp only [World.cell?, e2] at h1
    have := (Array.getElem?_eq_some_iff.1 h1).1
    omega
  obtain ⟨n1, n2, n3, n4⟩ := hnm x hmem
  refine ⟨_, _, rfl, x.1, x.2, rfl, setStep e2 hfit rfl fun w49 at49 same49 hsz49 hg49 => ?_⟩
  have map49 : PMap w49 (C + 1) ps := by
    obtain ⟨es, clock, k1, k2⟩ := h.map
    refine ⟨es, clock, ?_, k2⟩
    rw [same49 _ (by omega), keep (C + 1) (by omega) (by omega) (fun g hg => by have := h.town g hg; omega) (by
      rintro ⟨s, hs, e⟩
      obtain ⟨p, hp'⟩ := find_of_mem hs
      have := (h.mv.hd p s hp').2.1
      omega)]
    exact k1
  have rb49 := rb43.set hmem e2 at49 same49
  have plain : ∀ y ∈ R, Plain w49 (ad y) := fun y hy => by
    obtain ⟨_, t', cs', _, k2, _⟩ := rb49.shape y hy
    exact ⟨cs', t', k2⟩
  obtain ⟨j30, hj1, hj2⟩ := info30
  obtain ⟨w50, hrun, map50, hsz50, same50, chg50⟩ := update_ptr (P := Tryd.prog) map90 Tryd.underlying39 hj1 hj2 (plain x hmem) map49 (fun p hp => by obtain ⟨y, hy, rfl⟩ := h.psR p hp; exact plain y hy) (fun hm => hnew ((h.key x hmem).1 hm))
  refine ⟨w50, hrun, hG w50 M' T' (ps ++ [ad x]) ?_⟩
  have all : ∀ k, k ≠ x.1 → k ≠ C + 1 → w50.heap[k]? = w43.heap[k]? := fun k h1 h2 => (same50 k h2).trans (same49 k h1)
  have ht : R.take (i + 1) = R.take i ++ [x] := by rw [List.take_succ_eq_append_getElem hi, hx]
  have s43 := hchg.size
  refine ⟨?_, hts, map50, fun y hy => ?_, fun p hp => ?_, fun y hy => ?_, fun y hy => ?_, rb49.same fun y hy => same50 _ (by have := (hnm y hy).1; omega), fun k hk h1 h2 => ?_, ?_, by omega⟩
  · have hpC := hmv.hpC
    refine ⟨(all hp (by omega) (by omega)).trans hmv.hpb, own_block hmv.fown fun g hg => all g (by rintro rfl; exact n3 hg.symm) (by have := hmv.flt g hg; omega), hmv.flt, (all C (by omega) (by omega)).trans hmv.cb, own_block hmv.town fun g hg => all g (by have := hts g hg; omega) (by have := hts g hg; omega), fun p s hs => ?_, hmv.nd, hmv.mv, hmv.len, hpC, hmv.lim⟩
    obtain ⟨k1, k2, k3, k4⟩ := hmv.hd p s hs
    exact ⟨k1, k2, k3, (all s.blk (fun e => n4 ⟨s, find_mem hs, e⟩) (by omega)).trans k4⟩
  · rw [ht, List.mem_append, List.mem_append, List.mem_singleton, List.mem_singleton, h.key y hy]
    constructor
    · rintro (k | k)
      · exact .inl k
      · exact .inr (ad_inj k)
    · rintro (k | k)
      · exact .inl k
      · exact .inr (by rw [k])
  · rcases List.mem_append.1 hp with hp | hp
    · exact h.psR p hp
    · rw [List.mem_singleton] at hp; exact ⟨x, hmem, hp⟩
  · have hxv : cellsAt w50 x.1 x.2 (fwd M' (V x)).cs := by
      rw [cellsAt_vals]
      have := setAt2_at cs.toList x.2 (.bool (fwd M' (V x)).ref) (.int .i64 (fwd M' (V x)).n) (by rw [Array.length_toList]; exact hfit)
      have at50 := (same50 x.1 (by omega)).trans at49
      simp only [World.cell?, at50, List.getElem?_toArray]
      exact this
    have other : ∀ u : Val, y ≠ x → cellsAt w43 y.1 y.2 u.cs → cellsAt w50 y.1 y.2 u.cs := by
      intro u hne hc
      rw [cellsAt_vals] at hc ⊢
      by_cases e : y.1 = x.1
      · have hdis := hd y hy x hmem hne
        have at50 := (same50 x.1 (by omega)).trans at49
        rw [e] at hc ⊢
        simp only [World.cell?, at50, e2, List.getElem?_toArray] at hc ⊢
        rw [setAt2_ne _ _ _ _ _ (by omega) (by omega), setAt2_ne _ _ _ _ _ (by omega) (by omega), Array.getElem?_toList, Array.getElem?_toList]
        exact hc
      · have := all y.1 e (by have := (hnm y hy).1; omega)
        simp only [World.cell?, this] at hc ⊢
        exact hc
    have inM : ∀ u : Val, In M u → fwd M' u = fwd M u ∧ In M' u := by
      intro u hu
      rcases hM with ⟨rfl, _⟩ | ⟨_, s, _, _, rfl, _⟩
      · exact ⟨rfl, hu⟩
      · exact ⟨fwd_append hu, hu.append⟩
    rw [ht]
    by_cases hyx : y = x
    · subst hyx
      exact ⟨fun _ => ⟨hxv, hin⟩, fun hn => absurd (by simp) hn⟩
    · have hiff : y ∈ R.take i ++ [x] ↔ y ∈ R.take i := by simp [hyx]
      rw [hiff]
      refine ⟨fun hm => ?_, fun hn => other _ hyx (cellsAt_same (rkeep y hy) ((h.cells y hy).2 hn))⟩
      obtain ⟨k1, k2⟩ := (h.cells y hy).1 hm
      obtain ⟨k3, k4⟩ := inM _ k2
      refine ⟨?_, k4⟩
      rw [k3]
      exact other _ hyx (cellsAt_same (rkeep y hy) k1)
  · rcases hM with ⟨rfl, _⟩ | ⟨hr, s, hs, _, rfl, _⟩
    · exact h.rch y hy
    · rcases List.mem_append.1 hy with hy | hy
      · exact h.rch y hy
      · rw [List.mem_singleton] at hy
        subst hy
        exact .root (V x) (List.mem_map.2 ⟨x, hmem, rfl⟩) hr
  · have hkx : k ≠ x.1 := fun e => h2 ⟨x, hmem, e.symm⟩
    exact ((all k hkx (by omega)).trans (keep k (by omega) (by omega) (fun g hg => by have := h.town g hg; omega) h1)).trans (h.old k hk h1 h2)
  · obtain ⟨o1, o2, o3⟩ := h.os
    exact ⟨chg50.os.trans (hg49.os.trans (hchg.os.trans o1)), chg50.tape.trans (hg49.tape.trans (hchg.tape.trans o2)), chg50.output.trans (hg49.output.trans (hchg.output.trans o3))⟩

end Go.Proofs.YtfenhbjamohdgaaDoor.Vf
