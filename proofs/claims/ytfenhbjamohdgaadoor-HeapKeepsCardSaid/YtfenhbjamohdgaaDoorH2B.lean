/- The collection's state, and 'move'. -/
import Derived.Test.YtfenhbjamohdgaaDoorH2A
import Derived.Test.YtfenhbjamohdgaaDoorH1C
namespace Go.Vx.Hp
open Go.RowKit

/-- while collecting: M has been moved; X: the new cells as they stand -/
structure Mv (hp C : Nat) (w : World) (S : List St) (most : Int) (F T : Value) (M : Mov) (X : List Cell) : Prop where
  hpb : w.heap[hp]? = some (.cells #[F, .int .i64 most] 76 (0, 0))
  fown : w.ownsRow (hp + 1) 84 3 F (used S) (flat (cells S))
  flt : ∀ g, F.ownBlock = some g → g < C
  cb : w.heap[C]? = some (.cells #[F, T] 89 (0, 0))
  town : w.ownsRow (C + 1) 84 3 T X.length (flat X)
  hd : ∀ p s, find S p = some s → hp < s.blk ∧ s.blk < C ∧ some s.blk ≠ F.ownBlock ∧ w.heap[s.blk]? = some (hdObj s (markOf M p))
  nd : (S.map St.blk).Nodup
  mv : Moves S M
  len : X.length = tot M
  hpC : hp < C
  lim : used S ≤ 1048576

/-- the blocks that a collection's step may change: C's, the new cells', the heads' -/
def Cm (C : Nat) (T : Value) (S : List St) (k : Nat) : Prop := k = C ∨ some k = T.ownBlock ∨ ∃ s ∈ S, s.blk = k

theorem Mv.below {hp C : Nat} {w w' : World} {S : List St} {most : Int} {F T : Value} {M : Mov} {X : List Cell} (h : Mv hp C w S most F T M X) (hb : Below w.heap.size w w') : Mv hp C w' S most F T M X :=
  ⟨block_below hb (lt_of_block h.hpb) h.hpb, own_below h.fown hb (Nat.le_refl _), h.flt, block_below hb (lt_of_block h.cb) h.cb, own_below h.town hb (Nat.le_refl _), fun p s hs => by
    obtain ⟨h1, h2, h3, h4⟩ := h.hd p s hs
    exact ⟨h1, h2, h3, block_below hb (lt_of_block h4) h4⟩, h.nd, h.mv, h.len, h.hpC, h.lim⟩

theorem flat_seg (C : List Cell) (p n : Nat) : ((flat C).drop (p * 3)).take (n * 3) = flat ((C.drop p).take n) := by
  induction C generalizing p n with
  | nil => simp [flat]
  | cons c r ih =>
    have e : flat (c :: r) = c.cs ++ flat r := rfl
    cases p with
    | zero =>
      cases n with
      | zero => simp [flat]
      | succ n =>
        have := ih 0 n
        simp only [Nat.zero_mul, List.drop_zero] at this ⊢
        rw [e, List.take_succ_cons]
        show (c.cs ++ flat r).take ((n + 1) * 3) = c.cs ++ flat (r.take n)
        rw [show (n + 1) * 3 = c.cs.length + n * 3 by simp [Cell.cs]; omega, List.take_length_add_append, this]
    | succ p =>
      rw [e, List.drop_succ_cons, ← ih p n, show (p + 1) * 3 = c.cs.length + p * 3 by simp [Cell.cs]; omega, List.drop_append, List.drop_of_length_le (by omega), List.nil_append, Nat.add_sub_cancel_left]

theorem flat_one (C : List Cell) : ((flat C).all fun v => v.oneCell') = true := by
  induction C with
  | nil => rfl
  | cons c r ih => show ((c.cs ++ flat r).all _) = true; rw [List.all_append, ih]; rfl

end Go.Vx.Hp

namespace Go.Proofs.YtfenhbjamohdgaaDoor.Vf
open Go.Vx Go.Vx.Hp Go.RowKit

set_option maxHeartbeats 1000000 in
theorem move_spec {hp C : Nat} {w : World} {S : List St} {most : Int} {F T : Value} {M : Mov} {X : List Cell} (h : Mv hp C w S most F T M X) (r : Bool) (n : Int) (hg : good S ⟨r, n⟩ = true) :
    Calls Tryd.prog 27 #[.pointer (some ⟨C, 0, none⟩), .agg #[.bool r, .int .i64 n]] w fun e w' => ∃ M' T' X', e = .returned (.agg #[.bool (fwd M' ⟨r, n⟩).ref, .int .i64 (fwd M' ⟨r, n⟩).n]) ∧ In M' ⟨r, n⟩ ∧
      ((M' = M ∧ X' = X) ∨ (r = true ∧ ∃ s, find S n.toNat = some s ∧ pos M n.toNat = none ∧ M' = M ++ [(n.toNat, s)] ∧ X' = X ++ s.cells)) ∧
      Mv hp C w' S most F T' M' X' ∧ Chg (Cm C T S) w w' ∧ Nxt w.heap.size T T' := by
  refine (move.calls (R := fun x w' => ∃ M' T' X', x = .agg #[.bool (fwd M' ⟨r, n⟩).ref, .int .i64 (fwd M' ⟨r, n⟩).n] ∧ In M' ⟨r, n⟩ ∧
      ((M' = M ∧ X' = X) ∨ (r = true ∧ ∃ s, find S n.toNat = some s ∧ pos M n.toNat = none ∧ M' = M ++ [(n.toNat, s)] ∧ X' = X ++ s.cells)) ∧
      Mv hp C w' S most F T' M' X' ∧ Chg (Cm C T S) w w' ∧ Nxt w.heap.size T T') ?_).mono (fun x w' ⟨v, h1, M', T', X', h2, h3⟩ => ⟨M', T', X', by rw [h1, h2], h3⟩)
  unfold move.W
  have hC := lt_of_block h.cb
  refine box fun w3 at3 hb3 hs3 => box fun w4 at4 hb4 hs4 => ?_
  have b4 : Below w.heap.size w w4 := hb3.trans (hb4.mono (by omega))
  have at3' := block_below hb4 (by omega) at3
  have h4 := h.below b4
  refine ⟨_, cell_of_block at3' rfl, ifN (fun hr => ?_) (fun hr => drewStep fun w11 e11 hb11 => ?_)⟩
  · refine ⟨_, _, cellsAt_of_block at3' [.bool r, .int .i64 n] 0 rfl, fillStep at4 rfl rfl fun w8 at8 same8 hsz8 hg8 => ⟨_, _, cellsAt_of_block at8 [.bool r, .int .i64 n] 0 rfl, ?_⟩⟩
    have b8 : Below w.heap.size w w8 := ⟨hg8.os.trans b4.os, hg8.tape.trans b4.tape, hg8.output.trans b4.output, by have := b4.size; omega, fun k hk => (same8 k (by omega)).trans (b4.block k hk)⟩
    refine ⟨M, T, X, by simp [fwd, hr], fun e => absurd (hr.symm.trans e) (by decide), .inl ⟨rfl, rfl⟩, h.below b8, Chg.of_below b8 fun k hk _ => hk, .inl rfl⟩
  · subst hr
    have b11 : Below w.heap.size w w11 := b4.trans (hb11.mono b4.size)
    have h11 := h.below b11
    have at3'' : w11.heap[w.heap.size]? = _ := e11 ▸ at3'
    have at4' : w11.heap[w3.heap.size]? = _ := e11 ▸ at4
    have s11 : w11.heap.size = w.heap.size + 2 := by rw [e11]; omega
    simp only [good, Bool.not_true, Bool.false_or, Bool.and_eq_true, decide_eq_true_eq, Option.isSome_iff_exists] at hg
    obtain ⟨h0, s, hs⟩ := hg
    obtain ⟨p, rfl⟩ : ∃ p : Nat, n = p := ⟨n.toNat, by omega⟩
    rw [Int.toNat_natCast] at hs ⊢
    have hl := find_lt hs
    have hsp := s.size_pos
    have hlim := h.lim
    have hsz : s.size = 1 + s.args.length := rfl
    have hlt : p < (cells S).length := by show p < used S; omega
    obtain ⟨k1, k2, k3, k4⟩ := h11.hd p s hs
    -- the cell
    obtain ⟨gF, cF, curF, hF, hgF, hhF, hcF1, hcF2, hcF3, htF⟩ : ∃ g cap cur, F = .slice (some ⟨g, 0, none⟩) (used S) cap ∧ hp + 1 ≤ g ∧ w11.heap[g]? = some (.cells cur 84 (0, 0)) ∧ used S ≤ cap ∧ cap ≤ maxLen ∧ cur.size = cap * 3 ∧ cur.toList.take (used S * 3) = flat (cells S) := by
      obtain ⟨_, ⟨_, hn⟩ | hx⟩ := h11.fown
      · omega
      · exact hx
    subst hF
    have hseg : ∀ q m, q + m ≤ used S → cellsAt w11 gF (q * 3) (flat (((cells S).drop q).take m)) := by
      intro q m hqm
      refine cellsAt_of_block hhF _ _ ?_
      have hlen : (flat (((cells S).drop q).take m)).length = m * 3 := by
        rw [flat_length, List.length_take, List.length_drop]
        show (min m (used S - q)) * 3 = _
        rw [Nat.min_eq_left (by omega)]
      rw [hlen, ← flat_seg, ← htF, List.drop_take, List.take_take]
      congr 1
      omega
    have hcell := hseg p 1 (by omega)
    have hc1 : ((cells S).drop p).take 1 = [(cells S)[p]'hlt] := by
      rw [List.drop_eq_getElem_cons hlt]; rfl
    rw [hc1] at hcell
    have hhead : ((cells S)[p]'hlt).head = some s.blk := by rw [cells_at hlt, hs]; rfl
    have hptr : w11.cell? ⟨gF, 0 + (p : Int).toNat * 3 + 2, none⟩ = some (.pointer (some ⟨s.blk, 0, none⟩)) := by
      have := hcell.2.2.1
      rw [hhead] at this
      rw [Int.toNat_natCast, Nat.zero_add]; exact this
    refine ⟨_, _, rfl, _, _, _, cell_of_block h11.cb rfl, _, cell_of_block at3'' rfl, gF, 0, rfl, by omega, by omega, _, hptr, _, _, rfl, _, cell_of_block k4 rfl, ?_⟩
    have hX := h.len
    have htot := h.mv.tot_le h.nd
    obtain ⟨aT, cT, rfl, hcT, _⟩ := own_slice h11.town
    refine ifE (fun hm0 => ?_) (fun hm0 => ?_)
    · have hpn : pos M p = none := markOf_zero.1 hm0
      have hmv := h.mv.new hs hpn
      have htot' := hmv.tot_le h.nd
      rw [tot_append] at htot'
      have htn : tot [(p, s)] = s.size := rfl
      refine ⟨_, _, rfl, _, _, _, cell_of_block h11.cb rfl, _, _, rfl, ?_⟩
      rw [w64 (x := (X.length : Int) + 1) (by omega) (by omega)]
      refine setStep k4 (by show 5 ≤ 5; omega) rfl fun w31 at31 same31 hsz31 hg31 => drewStep fun w32 e32 hb32 => ?_
      have same32 : ∀ k, k ≠ s.blk → w32.heap[k]? = w11.heap[k]? := fun k hk => by rw [e32]; exact same31 k hk
      have at32 : w32.heap[s.blk]? = some (hdObj s ((X.length : Int) + 1)) := by rw [e32]; exact at31
      have s32 : w32.heap.size = w11.heap.size := by rw [e32, hsz31]
      have cb32 := (same32 C (by omega)).trans h11.cb
      have at3w : w32.heap[w.heap.size]? = _ := (same32 _ (by omega)).trans at3''
      have at4w : w32.heap[w3.heap.size]? = _ := (same32 _ (by omega)).trans at4'
      have hgFne : gF ≠ s.blk := fun e => k3 (by rw [← e]; rfl)
      refine ⟨_, _, rfl, _, _, _, cell_of_block cb32 rfl, _, _, rfl, _, _, _, cell_of_block cb32 rfl, _, cell_of_block at3w rfl, _, cell_of_block at3w rfl, _, _, rfl, _, cell_of_block at32 rfl, ?_⟩
      rw [w64 (x := (p : Int) + (s.size : Int)) (by omega) (by omega)]
      have ee1 : ((p : Int) + (s.size : Int)).toNat - p = s.size := by omega
      rw [Int.toNat_natCast, ee1]
      have hcut : cutA (some ⟨gF, 0, none⟩) p cF 3 = some ⟨gF, p * 3, none⟩ := by rw [cutA, if_neg (by omega)]; simp [Addr.add]; omega
      rw [hcut]
      have town32 : w32.ownsRow (C + 1) 84 3 (.slice aT X.length cT) X.length (flat X) := own_block h11.town fun g hg' => same32 g fun e => by have := h11.town.lt g hg'; omega
      have hnews : cellsAt w32 gF (p * 3) (flat s.cells) := cellsAt_same (same32 gF hgFne) (by have := hseg p s.size (by omega); rw [cells_seg hs] at this; exact this)
      obtain ⟨a48, k48, c48, w51, hr51, rfl, own51, hg51, nx51⟩ := append_own (P := Tryd.prog) (ty := 74) ty74 rfl ty84 (by decide) (show w32.ownsRow (C + 1) 84 3 _ _ _ from town32) (m := s.size) (c := cF - p) (news := flat s.cells) (by rw [flat_length, St.cells_length]) hnews (flat_one _) (by dsimp only; omega) (by omega) (by omega)
      refine ⟨by omega, by omega, by omega, _, _, _, w51, hr51, _, _, rfl, ?_⟩
      have s51 := hg51.size
      have tne : ∀ k, k ≤ C → some k ≠ (Value.slice aT X.length cT).ownBlock := fun k hk e => by have := town32.lt k e.symm; omega
      have cb51 := grown_block hg51 cb32 (tne C (Nat.le_refl _))
      refine setStep cb51 (by simp) rfl fun w54 at54 same54 hsz54 hg54 => ?_
      -- what stays
      have keep : ∀ k, k < w32.heap.size → k ≠ C → some k ≠ (Value.slice aT X.length cT).ownBlock → w54.heap[k]? = w32.heap[k]? := fun k hk h1 h2 => (same54 k h1).trans (hg51.block k hk h2)
      have tne' : ∀ k, w.heap.size ≤ k → some k ≠ (Value.slice aT X.length cT).ownBlock := fun k hk e => by have := h.town.lt k e.symm; omega
      have at54h : w54.heap[s.blk]? = some (hdObj s ((X.length : Int) + 1)) := (keep s.blk (by omega) (by omega) (tne _ (by omega))).trans at32
      refine ⟨_, _, rfl, _, cell_of_block at54h rfl, ?_⟩
      rw [w64 (x := (X.length : Int) + 1 - 1) (by omega) (by omega)]
      have at4z : w54.heap[w3.heap.size]? = _ := (keep _ (by omega) (by omega) (tne' _ (by omega))).trans at4w
      refine fillStep at4z rfl rfl fun w58 at58 same58 hsz58 hg58 => ⟨_, _, cellsAt_of_block at58 [.bool true, .int .i64 ((X.length : Int) + 1 - 1)] 0 rfl, ?_⟩
      have keep58 : ∀ k, k < w32.heap.size → k ≠ C → k ≠ w3.heap.size → some k ≠ (Value.slice aT X.length cT).ownBlock → w58.heap[k]? = w32.heap[k]? := fun k hk h1 h2 h3 => (same58 k h2).trans (keep k hk h1 h3)
      have hnew : pos (M ++ [(p, s)]) p = some (tot M) := pos_new hpn
      refine ⟨M ++ [(p, s)], .slice a48 (X.length + s.size) c48, X ++ s.cells, ?_, ?_, .inr ⟨rfl, s, hs, hpn, rfl, rfl⟩, ?_, ?_, ?_⟩
      · simp only [fwd, if_true, Int.toNat_natCast, hnew, Option.getD_some]
        rw [hX, show ((tot M : Nat) : Int) + 1 - 1 = (tot M : Nat) by omega]
      · intro _; simp only [Int.toNat_natCast, hnew]; rfl
      · refine ⟨?_, ?_, h.flt, ?_, ?_, ?_, h.nd, hmv, ?_, h.hpC, h.lim⟩
        · have hh := lt_of_block h.hpb
          have hpC := h.hpC
          exact (keep58 hp (by omega) (by omega) (by omega) (tne _ (by omega))).trans ((same32 hp (by omega)).trans h11.hpb)
        · refine own_block h11.fown fun g hg' => ?_
          have := h.flt g hg'
          exact (keep58 g (by omega) (by omega) (by omega) (tne _ (by omega))).trans (same32 g (by rintro rfl; exact k3 hg'.symm))
        · exact (same58 C (by omega)).trans at54
        · rw [List.length_append, St.cells_length, flat_append]
          refine own_block own51 fun g hg' => ?_
          have hgl := own51.lt g hg'
          refine (same58 g fun e => ?_).trans (same54 g (by omega))
          subst e
          rcases nx51 with e' | ⟨q, hq, e'⟩
          · exact tne' _ (by omega) (hg'.symm.trans e')
          · rw [e'] at hg'; cases hg'; omega
        · intro p' s' hs'
          obtain ⟨j1, j2, j3, j4⟩ := h11.hd p' s' hs'
          refine ⟨j1, j2, j3, ?_⟩
          refine (keep58 s'.blk (by omega) (by omega) (by omega) (tne _ (by omega))).trans ?_
          by_cases hpp : p' = p
          · subst hpp
            rw [hs] at hs'; cases hs'
            rw [at32]
            simp only [markOf, hnew]
            rw [hX]
          · have hbne : s'.blk ≠ s.blk := fun e => hpp (find_inj h.nd hs' hs e)
            rw [same32 _ hbne, j4]
            simp only [markOf, pos_other hpp]
        · rw [List.length_append, St.cells_length, tot_append]
          omega
      · have sz : w.heap.size ≤ w58.heap.size := by omega
        refine ⟨hg58.os.trans (hg54.os.trans (hg51.os.trans (hb32.os.trans (hg31.os.trans b11.os)))), hg58.tape.trans (hg54.tape.trans (hg51.tape.trans (hb32.tape.trans (hg31.tape.trans b11.tape)))), hg58.output.trans (hg54.output.trans (hg51.output.trans (hb32.output.trans (hg31.output.trans b11.output)))), sz, fun k hk hn => ?_⟩
        have n1 : k ≠ C := fun e => hn (.inl e)
        have n2 : some k ≠ (Value.slice aT X.length cT).ownBlock := fun e => hn (.inr (.inl e))
        have n3 : k ≠ s.blk := fun e => hn (.inr (.inr ⟨s, find_mem hs, e.symm⟩))
        exact (keep58 k (by omega) n1 (by omega) n2).trans ((same32 k n3).trans (b11.block k hk))
      · rcases nx51 with e' | ⟨q, hq, e'⟩
        · exact .inl e'
        · exact .inr ⟨q, by omega, e'⟩
    · obtain ⟨q, hq⟩ : ∃ q, pos M p = some q := by
        cases hp' : pos M p with
        | none => exact absurd (markOf_zero.2 hp') hm0
        | some q => exact ⟨q, rfl⟩
      have hqt := pos_lt hq
      have hmk : markOf M p = (q : Int) + 1 := by simp only [markOf, hq]
      refine ⟨_, _, rfl, _, cell_of_block k4 rfl, ?_⟩
      rw [hmk, w64 (x := (q : Int) + 1 - 1) (by omega) (by omega)]
      refine fillStep at4' rfl rfl fun w64' at64 same64 hsz64 hg64 => ⟨_, _, cellsAt_of_block at64 [.bool true, .int .i64 ((q : Int) + 1 - 1)] 0 rfl, ?_⟩
      have b64 : Below w.heap.size w w64' := ⟨hg64.os.trans b11.os, hg64.tape.trans b11.tape, hg64.output.trans b11.output, by omega, fun k hk => (same64 k (by omega)).trans (b11.block k hk)⟩
      refine ⟨M, _, X, ?_, ?_, .inl ⟨rfl, rfl⟩, h.below b64, Chg.of_below b64 fun k hk _ => hk, .inl rfl⟩
      · simp only [fwd, if_true, Int.toNat_natCast, hq, Option.getD_some]
        rw [show ((q : Nat) : Int) + 1 - 1 = (q : Nat) by omega]
      · intro _; simp only [Int.toNat_natCast, hq]; rfl

end Go.Proofs.YtfenhbjamohdgaaDoor.Vf
