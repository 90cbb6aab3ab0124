/- Values compared; the chapter's example. -/
import Derived.Test.YtfenhbjamohdgaaDoorH1C
import Derived.Laws.StructEq
namespace Go.Proofs.YtfenhbjamohdgaaDoor.Vf
open Go.Vx Go.Vx.Hp Go.RowKit

theorem guard30 : Tryd.prog.eqGuardType Tryd.prog.depth 30 = false := by kernel_rfl
theorem held30 : Tryd.prog.stoodInHeld 30 = false := by kernel_rfl
theorem struct30 : Tryd.prog.underlying 30 = some (.struct (Tryd.prog.fieldsOf 30)) := by kernel_rfl

theorem val_eq (w : World) (xo yo : Operand) (a b : Val) : Runs Tryd.prog (semEq .eql 30 xo yo (.agg #[.bool a.ref, .int .i64 a.n]) (.agg #[.bool b.ref, .int .i64 b.n])) w (.bool (a.ref == b.ref && a.n == b.n)) w := by
  unfold Runs semEq
  rw [Sem.run_bind, run_eqGuard_agg w _ _ _ _ _ _ guard30, Result.andThen_ok, run_eql_struct, run_equalIn_agg w _ _ _ _ struct30 held30]
  obtain ⟨f, g, e, h1, h2, h3, h4, h5, h6⟩ : ∃ f g, (Tryd.prog.fieldsOf 30).toList = [f, g] ∧ f.name = "Ref" ∧ g.name = "N" ∧ f.type = 4 ∧ g.type = 3 ∧ f.offset = 0 ∧ g.offset = 1 := by
    have hm : (Tryd.prog.fieldsOf 30).toList.map (fun f => (f.name, f.type, f.offset)) = [("Ref", 4, 0), ("N", 3, 1)] := by kernel_rfl
    obtain ⟨f, t, e, hf, ht⟩ := List.map_eq_cons_iff.1 hm
    obtain ⟨g, t', e', hg, ht'⟩ := List.map_eq_cons_iff.1 ht
    have e2 : t' = [] := List.map_eq_nil_iff.1 ht'
    subst e2 e'
    simp only [Prod.mk.injEq] at hf hg
    exact ⟨f, g, e, hf.1, hg.1, hf.2.1, hg.2.1, hf.2.2, hg.2.2⟩
  rw [e]
  have p1 : ∀ (cs : Array Value) (x : Bool), cs[0]? = some (.bool x) → (part 4 cs 0).run Tryd.prog w = .ok (.bool x) w := fun cs x h => by simp [part, isAgg, run_underlying Tryd.underlying4, h]
  have p2 : ∀ (cs : Array Value) (x : Int), cs[1]? = some (.int .i64 x) → (part 3 cs 1).run Tryd.prog w = .ok (.int .i64 x) w := fun cs x h => by simp [part, isAgg, run_underlying Tryd.underlying3, h]
  simp only [Op.eqFields, h1, h2, h3, h4, h5, h6]
  rw [if_pos (by decide)]
  simp only [Sem.run_bind, p1 #[.bool a.ref, .int .i64 a.n] a.ref rfl, p1 #[.bool b.ref, .int .i64 b.n] b.ref rfl, Result.andThen_ok, run_equalIn_bool' w 9998 4 _ _ Tryd.underlying4, Sem.run_ite]
  cases hb : (a.ref == b.ref)
  · simp
  · simp only [Bool.not_true, Bool.false_eq_true, if_false, if_pos (show "N" ≠ "_" by decide), p2 #[.bool a.ref, .int .i64 a.n] a.n rfl, p2 #[.bool b.ref, .int .i64 b.n] b.n rfl, Result.andThen_ok, run_equalIn_int w 9998 3 .i64 .i64 _ _ Tryd.underlying3]
    cases hn : (a.n == b.n) <;> simp

end Go.Proofs.YtfenhbjamohdgaaDoor.Vf

namespace Go.Proofs.YtfenhbjamohdgaaDoor.Vf
open Go.Vx Go.Vx.Hp Go.RowKit

/-- the errors' variables: ErrHeap, ErrState, ErrLarge -/
structure Glob (w : World) (tE : Nat) (aH : Addr) (E1 E2 : Value) : Prop where
  heap : w.cell? ⟨0, 0, none⟩ = some (.iface tE (.pointer (some aH)))
  state : w.cell? ⟨1, 0, none⟩ = some E1
  large : w.cell? ⟨2, 0, none⟩ = some E2
  size : 3 ≤ w.heap.size
theorem Glob.kept {w w' : World} {tE : Nat} {aH : Addr} {E1 E2 : Value} (h : Glob w tE aH E1 E2) (hb : Below 3 w w') : Glob w' tE aH E1 E2 :=
  ⟨cell_below hb (by omega) h.heap, cell_below hb (by omega) h.state, cell_below hb (by omega) h.large, Nat.le_trans h.size hb.size⟩

/-- what says that the errors compare -/
structure ErrTy (tE : Nat) : Prop where
  eq : ∀ (w : World) (xo yo : Operand) (a : Addr), Runs Tryd.prog (semEq .eql 26 xo yo (.iface tE (.pointer (some a))) (.iface tE (.pointer (some a)))) w (.bool true) w
  ne : ∀ (w : World) (xo yo : Operand) (a : Addr), Runs Tryd.prog (semEq .neq 26 xo yo (.iface tE (.pointer (some a))) (.iface tE (.pointer (some a)))) w (.bool false) w

/-- Alloc where there is room -/
theorem Alloc_ok {hp : Nat} {w : World} {S : List St} {most : Int} {v : Value} {tE : Nat} {aH : Addr} {E1 E2 : Value} (h : Is hp w S most v) (hg : Glob w tE aH E1 E2) (hlow : 2 < hp) (n : Int) (hn0 : 0 ≤ n) (hn : n ≤ 9223372036854775807) (a : Option Addr) (c : Nat) (V : List Val) (hV : Vsl w a V)
    (hap : ∀ b o, a = some ⟨b, o, none⟩ → ¬ Mine hp S v b) (h8 : V.length ≤ 8) (hall : V.all (good S) = true) (h1 : 1 + sumN S V ≤ 4096) (h2 : maxD S V ≤ 200) (hroom : used S + 1 + V.length ≤ most) :
    Calls Tryd.prog 10 #[.pointer (some ⟨hp, 0, none⟩), .int .i64 n, .slice a V.length c] w fun e w' => e = .returned (.tuple #[.agg #[.bool true, .int .i64 (used S : Nat)], .nilIface]) ∧
      ∃ b v', w.heap.size ≤ b ∧ Is hp w' (S ++ [⟨b, n, V, 1 + sumN S V, maxD S V⟩]) most v' ∧ Chg (fun k => k = hp ∨ some k = v.ownBlock) w w' ∧ Nxt w.heap.size v v' := by
  refine (Alloc_spec h _ E1 E2 hg.heap hg.state hg.large hlow n hn a c V hV (by omega) hap).mono ?_
  rintro _ w' ⟨x, rfl, ⟨k, _⟩ | ⟨_, _, _, k, _⟩ | ⟨_, _, _, _, _, k, _⟩ | ⟨_, _, _, _, _, _, rfl, k⟩⟩
  · rcases k with k | k | k
    · omega
    · omega
    · rw [hall] at k; cases k
  · omega
  · omega
  · exact ⟨rfl, k⟩

theorem Alloc_full {hp : Nat} {w : World} {S : List St} {most : Int} {v : Value} {tE : Nat} {aH : Addr} {E1 E2 : Value} (h : Is hp w S most v) (hg : Glob w tE aH E1 E2) (hlow : 2 < hp) (n : Int) (hn0 : 0 ≤ n) (hn : n ≤ 9223372036854775807) (a : Option Addr) (c : Nat) (V : List Val) (hV : Vsl w a V)
    (hap : ∀ b o, a = some ⟨b, o, none⟩ → ¬ Mine hp S v b) (h8 : V.length ≤ 8) (hall : V.all (good S) = true) (h1 : 1 + sumN S V ≤ 4096) (h2 : maxD S V ≤ 200) (hroom : most < used S + 1 + V.length) :
    Calls Tryd.prog 10 #[.pointer (some ⟨hp, 0, none⟩), .int .i64 n, .slice a V.length c] w fun e w' => e = .returned (.tuple #[.agg #[.bool false, .int .i64 0], .iface tE (.pointer (some aH))]) ∧ Below w.heap.size w w' := by
  refine (Alloc_spec h _ E1 E2 hg.heap hg.state hg.large hlow n hn a c V hV (by omega) hap).mono ?_
  rintro _ w' ⟨x, rfl, ⟨k, _⟩ | ⟨_, _, _, k, _⟩ | ⟨_, _, _, _, _, k, rfl, hb⟩ | ⟨_, _, _, _, _, k, _⟩⟩
  · rcases k with k | k | k
    · omega
    · omega
    · rw [hall] at k; cases k
  · omega
  · exact ⟨rfl, hb⟩
  · omega

theorem vflat_get {w : World} {g : Nat} {V : List Val} (h : cellsAt w g 0 (vflat V)) {j : Nat} (hj : j < V.length) : cellsAt w g (0 + j * 2) V[j].cs := by
  have h1 := cellsAt_take 2 (cellsAt_drop (j * 2) h)
  have e : ((vflat V).drop (j * 2)).take 2 = V[j].cs := by
    clear h h1
    induction V generalizing j with
    | nil => simp at hj
    | cons x r ih =>
      cases j with
      | zero => simp [vflat, Val.cs]
      | succ j =>
        have := ih (j := j) (by simpa using hj)
        rw [List.getElem_cons_succ, ← this]
        simp only [vflat, List.flatMap_cons]
        rw [show (j + 1) * 2 = x.cs.length + j * 2 by simp [Val.cs]; omega, List.drop_append]
        simp [List.drop_of_length_le]
  rw [e] at h1; exact h1

/-- a row of values of one's own, read -/
theorem own_vals {w : World} {base n : Nat} {v : Value} {V : List Val} (h : w.ownsRow base 30 2 v n (vflat V)) (hn : n = V.length) : ∃ a c, v = .slice a n c ∧ ∀ j (hj : j < V.length), ∃ g, a = some ⟨g, 0, none⟩ ∧ base ≤ g ∧ g < w.heap.size ∧ cellsAt w g (0 + j * 2) V[j].cs := by
  obtain ⟨hxl, ⟨rfl, h0⟩ | ⟨g, cap, cur, rfl, hg, hh, h1, h2, h3, h4⟩⟩ := h
  · exact ⟨none, 0, by rw [h0], fun j hj => by omega⟩
  · refine ⟨_, cap, rfl, fun j hj => ⟨g, rfl, hg, lt_of_block hh, vflat_get (cellsAt_of_block hh _ 0 ?_) hj⟩⟩
    rw [List.drop_zero, hxl]; exact h4

set_option linter.unusedSimpArgs false in
set_option maxHeartbeats 1000000 in
theorem alive_spec {w : World} {tE : Nat} {aH : Addr} {E1 E2 : Value} (hg : Glob w tE aH E1 E2) (hE : ErrTy tE) : Calls Tryd.prog 8 #[] w fun e w' => e = .returned (.bool true) ∧ Below w.heap.size w w' := by
  refine (alive.calls (R := fun x w' => x = .bool true ∧ Below w.heap.size w w') ?_).mono (fun x w' ⟨v, h1, h2, h3⟩ => ⟨by rw [h1, h2], h3⟩)
  unfold alive.W
  have hsz := hg.size
  refine (New_ok 5 w (by decide) (by decide)).mono ?_
  rintro _ w1 ⟨rfl, hb1, h1⟩
  have s1 := lt_of_block h1.blk
  refine ⟨_, _, rfl, true, .inl ⟨rfl, rfl⟩, ifN (fun h => nomatch h) (fun _ => ?_)⟩
  show cond false _ _
  have g1 := hg.kept (hb1.mono (by omega))
  refine (Alloc_ok h1 g1 (by omega) 0 (by decide) (by decide) none 0 [] (fun j hj => by simp at hj) (fun b o e => nomatch e) (by decide) rfl (by decide) (by decide) (by decide)).mono ?_
  rintro _ w6 ⟨rfl, b0, v6, hb0, h6, c6, n6⟩
  have s6 := c6.size
  have low : ∀ {k : Nat} {u : Value} {W : World} {S : List St}, Is w.heap.size W S 5 u → k < 3 → ¬ (k = w.heap.size ∨ some k = u.ownBlock) := by
    intro k u W S hI hk
    rintro (e | e)
    · omega
    · have := hI.own.lt k e.symm; omega
  have b6 : Below w.heap.size w w6 := hb1.trans (c6.below (B := w.heap.size) (by omega) fun k hk => by
    rintro (e | e)
    · omega
    · cases e)
  refine ⟨_, _, _, rfl, copyStep rfl rfl fun w12 at12 hb12 hs12 => ?_⟩
  have h12 := h6.below hb12
  have b12 := b6.trans (hb12.mono (by omega))
  refine ⟨_, _, cellsAt_of_block at12 [.bool true, .int .i64 0] 0 rfl, box fun w15 at15 hb15 hs15 => ?_⟩
  have h15 := h12.below hb15
  have b15 := b12.trans (hb15.mono (by omega))
  have g15 := hg.kept (b15.mono (by omega))
  have hV2 : Vsl w15 (some ⟨w12.heap.size, 0, none⟩) [⟨true, 0⟩, ⟨false, 7⟩] := fun j hj => ⟨_, _, rfl, by
    match j, hj with
    | 0, _ => exact cellsAt_of_block at15 [.bool true, .int .i64 0] 0 rfl
    | 1, _ => exact cellsAt_of_block at15 [.bool false, .int .i64 7] 2 rfl⟩
  refine (Alloc_ok h15 g15 (by omega) 1 (by decide) (by decide) (some ⟨w12.heap.size, 0, none⟩) 2 [⟨true, 0⟩, ⟨false, 7⟩] hV2 (fun b o e hm => by cases e; have := h12.mine_lt hm; omega) (by decide) rfl (by simp [sumN, nodesOf, find, St.size]) (by simp [maxD, depthOf, find, St.size]; decide) (by simp [used, cells, St.cells])).mono ?_
  rintro _ w16 ⟨rfl, b1, v16, hb1', h16, c16, n16⟩
  have s16 := c16.size
  have b16 : Below w.heap.size w w16 := b15.trans (c16.below (B := w.heap.size) (by omega) fun k hk => by
    rintro (e | e)
    · omega
    · have := h15.own.lt k e.symm; omega)
  refine ⟨_, _, _, rfl, copyStep rfl rfl fun w22 at22 hb22 hs22 => box fun w23 at23 hb23 hs23 => ?_⟩
  have h22 := h16.below hb22
  have h23 := h22.below hb23
  have b22 := b16.trans (hb22.mono (by omega))
  have b23 := b22.trans (hb23.mono (by omega))
  have g23 := hg.kept (b23.mono (by omega))
  refine (Alloc_full h23 g23 (by omega) 0 (by decide) (by decide) (some ⟨w22.heap.size, 0, none⟩) 1 [⟨false, 1⟩] (fun j hj => ⟨_, _, rfl, by
    match j, hj with
    | 0, _ => exact cellsAt_of_block at23 [.bool false, .int .i64 1] 0 rfl⟩) (fun b o e hm => by cases e; have := h22.mine_lt hm; omega) (by decide) rfl (by simp [sumN, nodesOf, find, St.size]) (by simp [maxD, depthOf, find, St.size]; decide) (by simp [used, cells, St.cells])).mono ?_
  rintro _ w24 ⟨rfl, hb24⟩
  have h24 := h23.below hb24
  have b24 := b23.trans (hb24.mono (by omega))
  have s24 := hb24.size
  refine ⟨_, _, _, rfl, copyStep rfl rfl fun w30 at30 hb30 hs30 => ?_⟩
  have h30 := h24.below hb30
  have b30 := b24.trans (hb30.mono (by omega))
  have at22' := block_below hb30 (by omega) (block_below hb24 (by omega) (block_below hb23 (by omega) at22))
  refine ⟨_, _, cellsAt_of_block at22' [.bool true, .int .i64 1] 0 rfl, ?_⟩
  refine (Get_ok h30 1 ⟨b1, 1, [⟨true, 0⟩, ⟨false, 7⟩], _, _⟩ rfl rfl).mono ?_
  rintro _ w33 ⟨a33, c33, rfl, hb33, own33⟩
  have b33 := b30.trans (hb33.mono (by omega))
  have g33 := hg.kept (b33.mono (by omega))
  have h33 := h30.below hb33
  refine ⟨_, _, _, _, _, rfl, true, .inl ⟨rfl, rfl⟩, ?_⟩
  show ∃ r41, IsNil .nilIface r41 ∧ _
  refine ⟨true, .inl ⟨rfl, rfl⟩, ?_⟩
  show ∃ v42, World.cell? w33 ⟨0, 0, none⟩ = some v42 ∧ _
  refine ⟨_, g33.heap, true, hE.eq _ _ _ _, ?_⟩
  show ∃ r44, IsNil .nilIface r44 ∧ _
  refine ⟨true, .inl ⟨rfl, rfl⟩, ?_⟩
  refine (Used_spec h33).mono ?_
  rintro _ _ ⟨rfl, rfl⟩
  refine ⟨_, rfl, ?_⟩
  obtain ⟨a', c', e', hcell⟩ := own_vals own33 rfl
  cases e'
  obtain ⟨g, rfl, _, _, hc⟩ := hcell 1 (show 1 < 2 by decide)
  show ∃ b48 f49, _
  refine ⟨g, 0, rfl, by decide, (show (1 : Int) < ((2 : Nat) : Int) by decide), _, _, hc, _, val_eq _ _ _ ⟨false, 7⟩ ⟨false, 7⟩, rfl, b33⟩

end Go.Proofs.YtfenhbjamohdgaaDoor.Vf
