/- The heap's Get; Collect of nothing. -/
import Derived.Test.YtfenhbjamohdgaaDoorH1B
namespace Go.Proofs.YtfenhbjamohdgaaDoor.Vf
open Go.Vx Go.Vx.Hp Go.RowKit

variable {hp : Nat} {w : World} {S : List St} {most : Int} {v : Value}

theorem Get_bad (h : Is hp w S most v) (E1 : Value) (h1 : w.cell? ⟨1, 0, none⟩ = some E1) (hlow : 2 < hp) (r : Bool) (n : Int) (hb : r = false ∨ good S ⟨r, n⟩ = false) :
    Calls Tryd.prog 11 #[.pointer (some ⟨hp, 0, none⟩), .agg #[.bool r, .int .i64 n]] w fun e w' => e = .returned (.tuple #[.int .i64 0, .slice none 0 0, E1]) ∧ Below w.heap.size w w' := by
  refine (Get.calls (R := fun x w' => x = .tuple #[.int .i64 0, .slice none 0 0, E1] ∧ Below w.heap.size w w') ?_).mono (fun x w' ⟨v, h1, h2, h3⟩ => ⟨by rw [h1, h2], h3⟩)
  unfold Get.W
  have hlt := lt_of_block h.blk
  refine box fun w3 at3 hb3 hs3 => ?_
  refine ⟨_, cell_of_block at3 rfl, ifN (fun hr => drewStep fun w5 e5 hb5 => ?_) (fun hr => ?_)⟩
  · have b5 : Below w.heap.size w w5 := hb3.trans (hb5.mono (by omega))
    exact ⟨_, cell_below b5 (by omega) h1, rfl, b5⟩
  · refine ⟨_, _, cellsAt_of_block at3 [.bool r, .int .i64 n] 0 rfl, (hgood_spec (h.below hb3) r n).mono ?_⟩
    rintro _ w9 ⟨rfl, hb9⟩
    have b9 := hb3.trans (hb9.mono (by omega))
    have hbad : good S ⟨r, n⟩ = false := by
      rcases hb with hb | hb
      · rw [hb] at hr; cases hr
      · exact hb
    refine ⟨_, rfl, ifN (fun _ => drewStep fun w12 e12 hb12 => ?_) (fun hg => absurd (hbad.symm.trans hg) (by decide))⟩
    have b12 : Below w.heap.size w w12 := b9.trans (hb12.mono b9.size)
    exact ⟨_, cell_below b12 (by omega) h1, rfl, b12⟩

def vflat (V : List Val) : List Value := V.flatMap Val.cs

theorem Get_ok (h : Is hp w S most v) (n : Int) (s : St) (hg : good S ⟨true, n⟩ = true) (hs : find S n.toNat = some s) :
    Calls Tryd.prog 11 #[.pointer (some ⟨hp, 0, none⟩), .agg #[.bool true, .int .i64 n]] w fun e w' => ∃ a c, e = .returned (.tuple #[.int .i64 s.ctor, .slice a s.args.length c, .nilIface]) ∧ Below w.heap.size w w' ∧
      w'.ownsRow w.heap.size 30 2 (.slice a s.args.length c) s.args.length (vflat s.args) := by
  refine (Get.calls (R := fun x w' => ∃ a c, x = .tuple #[.int .i64 s.ctor, .slice a s.args.length c, .nilIface] ∧ Below w.heap.size w w' ∧
      w'.ownsRow w.heap.size 30 2 (.slice a s.args.length c) s.args.length (vflat s.args)) ?_).mono (fun x w' ⟨v, h1, a, c, h2, h3⟩ => ⟨a, c, by rw [h1, h2], h3⟩)
  unfold Get.W
  have hlt := lt_of_block h.blk
  have hok := h.ok s (find_mem hs)
  refine box fun w3 at3 hb3 hs3 => ?_
  refine ⟨_, cell_of_block at3 rfl, ifN (fun h => nomatch h) (fun _ => ?_)⟩
  refine ⟨_, _, cellsAt_of_block at3 [.bool true, .int .i64 n] 0 rfl, (hgood_spec (h.below hb3) true n).mono ?_⟩
  rintro _ w9 ⟨rfl, hb9⟩
  have b9 := hb3.trans (hb9.mono (by omega))
  have at9 := block_below hb9 (by omega) at3
  refine ⟨_, rfl, ifN (fun hbad => absurd (hbad.symm.trans hg) (by decide)) (fun _ => ?_)⟩
  have h9 := h.below b9
  refine ⟨_, cell_of_block at9 rfl, (hargs_spec h9 n s hg hs).mono ?_⟩
  rintro _ w15 ⟨a17, c17, rfl, e15, hb15, hargs⟩
  have b15 := b9.trans (hb15.mono b9.size)
  have s15 : w15.heap.size = w9.heap.size := by rw [e15]
  have at15 : w15.heap[w.heap.size]? = _ := e15 ▸ at9
  have s9 := hb9.size
  have h8 : s.args.length ≤ 8 := hok.2.2.1
  refine ⟨_, _, _, rfl, fun us w2 => ∃ (j : Nat) (a' : Option Addr) (c' : Nat), j ≤ s.args.length ∧ us = [.slice a' j c', .int .i64 j] ∧ w2.ownsRow w15.heap.size 30 2 (.slice a' j c') j (vflat (s.args.take j)) ∧ Below w15.heap.size w15 w2,
    fun us _ => match us with | [_, .int _ j] => s.args.length - j.toNat | _ => 0, ⟨0, none, 0, Nat.zero_le _, rfl, World.ownsRow_nil _ _ _ _, Below.refl _ _⟩, ?_⟩
  rintro _ us w22 ⟨j, a', c', hj, rfl, own22, hb22⟩
  have s22 := hb22.size
  refine ⟨_, _, _, _, rfl, ifD (fun hlt' => ?_) (fun hge => ?_)⟩
  · have hjl : j < s.args.length := by omega
    obtain ⟨g, rfl, hgo, hcell⟩ := hargs (by omega)
    have hc := hcell j hjl
    have hc22 := cellsAt_below hb22 (cellsAt_lt hc) hc
    refine ⟨g, _, rfl, by omega, hlt', _, _, _, hc22, copyStep rfl rfl fun w35 at35 hb35 hs35 => ?_⟩
    refine ⟨_, _, cellsAt_of_block at35 [.bool s.args[j].ref, .int .i64 s.args[j].n] 0 rfl, box fun w38 at38 hb38 hs38 => ?_⟩
    have b38 : Below w22.heap.size w22 w38 := hb35.trans (hb38.mono (by omega))
    have own38 := own_below own22 b38 (Nat.le_refl _)
    obtain ⟨a39, k39, c39, w42, hr42, rfl, own42, hg42, hn42⟩ := append_own (P := Tryd.prog) (ty := 33) ty33 rfl ty30 (by decide) own38 (m := 1) (c := 1) (news := [.bool s.args[j].ref, .int .i64 s.args[j].n]) rfl (cellsAt_of_block at38 [.bool s.args[j].ref, .int .i64 s.args[j].n] 0 rfl) rfl (by dsimp only; omega) (by omega) (by omega)
    refine ⟨_, _, _, w42, hr42, ?_⟩
    rw [w64 (x := (j : Int) + 1) (by omega) (by omega)]
    have b42 : Below w15.heap.size w38 w42 := own_grown own38 hg42 (Nat.le_refl _) (by omega)
    refine ⟨⟨j + 1, a39, c39, hjl, rfl, ?_, (hb22.trans (b38.mono s22)).trans b42⟩, by simp only; omega⟩
    rw [List.take_succ_eq_append_getElem hjl, vflat, List.flatMap_append]
    exact own42
  · have : j = s.args.length := by omega
    subst this
    rw [List.take_length] at own22
    refine drewStep fun w43 e43 hb43 => ?_
    have b22 := b15.trans (hb22.mono (by omega))
    have b43 : Below w.heap.size w w43 := b22.trans (hb43.mono b22.size)
    have h43 := h.below b43
    have at22 := block_below hb22 (by omega) at15
    have at43 : w43.heap[w.heap.size]? = _ := e43 ▸ at22
    obtain ⟨s', g, c, hs', hm, h0, hl, rfl, hc, hh⟩ := is_at h43 hg
    rw [hs] at hs'; cases hs'
    have := s.size_pos
    refine ⟨_, _, rfl, _, _, _, cell_of_block h43.blk rfl, _, cell_of_block at43 rfl, g, 0, rfl, h0, by omega, _, hc, _, _, rfl, _, cell_of_block hh rfl, a', c', rfl, b43, ?_⟩
    have own43 := own_below own22 hb43 (Nat.le_refl _)
    exact own43.mono (by omega)

/-- a collection without roots -/
theorem Collect_none (h : Is hp w S most v) (c : Nat) : Calls Tryd.prog 13 #[.pointer (some ⟨hp, 0, none⟩), .slice none 0 c] w fun e w' => e = .returned .nilIface ∧ Is hp w' [] most (.slice none 0 0) ∧ Chg (fun k => k = hp) w w' := by
  refine (Collect.calls (R := fun x w' => x = .nilIface ∧ Is hp w' [] most (.slice none 0 0) ∧ Chg (fun k => k = hp) w w') ?_).mono (fun x w' ⟨v, h1, h2, h3⟩ => ⟨by rw [h1, h2], h3⟩)
  unfold Collect.W
  have hlt := lt_of_block h.blk
  refine ⟨fun us w2 => us = [.int .i64 0] ∧ w = w2, fun _ _ => 0, ⟨rfl, rfl⟩, ?_⟩
  rintro _ us _ ⟨rfl, rfl⟩
  refine ⟨_, rfl, ifD (fun h => absurd h (by decide)) (fun _ => ?_)⟩
  obtain ⟨av, cv, rfl, hcv, _⟩ := h.slice
  refine ⟨_, _, rfl, _, _, _, cell_of_block h.blk rfl, box fun w27 at27 hb27 hs27 => box fun w28 at28 hb28 hs28 => ?_⟩
  have b28 : Below w.heap.size w w28 := hb27.trans (hb28.mono (by omega))
  have at28' := block_below hb28 (by omega) at27
  refine ⟨fun us w2 => us = [.int .i64 0] ∧ w28 = w2, fun _ _ => 0, ⟨rfl, rfl⟩, ?_⟩
  rintro _ us _ ⟨rfl, rfl⟩
  refine ⟨_, rfl, ifD (fun h => absurd h (by decide)) (fun _ => ?_)⟩
  refine ⟨fun us w2 => us = [.int .i64 0] ∧ w28 = w2, fun _ _ => 0, ⟨rfl, rfl⟩, ?_⟩
  rintro _ us _ ⟨rfl, rfl⟩
  refine ⟨_, rfl, _, _, rfl, _, _, _, cell_of_block at28' rfl, ifD (fun h => absurd h (by decide)) (fun _ => ?_)⟩
  refine ⟨_, _, rfl, _, _, _, cell_of_block at28' rfl, fun us w2 => us = [.int .i64 0] ∧ w28 = w2, fun _ _ => 0, ⟨rfl, rfl⟩, ?_⟩
  rintro _ us _ ⟨rfl, rfl⟩
  refine ⟨_, rfl, ifD (fun h => absurd h (by decide)) (fun _ => ?_)⟩
  have h28 := block_below b28 hlt h.blk
  refine ⟨_, _, rfl, _, _, _, cell_of_block at28' rfl, _, _, rfl, setStep h28 (by simp) rfl fun w125 at125 same125 hsz125 hg125 => ⟨rfl, ⟨at125, World.ownsRow_nil _ _ _ _, (fun s hs => nomatch hs), (fun s hs => nomatch hs), h.most0, h.most1, by rw [used_nil]; exact h.most0, List.nodup_nil, (fun s hs => nomatch hs)⟩, ?_⟩⟩
  exact (Chg.of_below (M := fun k => k = hp) b28 fun k hk _ => hk).trans hg125 fun k _ hk => hk

end Go.Proofs.YtfenhbjamohdgaaDoor.Vf
