/- HeapKeeps at the model's run. -/
import Derived.Test.YtfenhbjamohdgaaDoorH2R
namespace Go.Proofs.YtfenhbjamohdgaaDoor.Vf
open Go.Vx Go.Vx.Hp Go.RowKit

/-- operations that came in -/
def OpsIn (B : Nat) (w : World) (a : Option Addr) (n : Nat) : Prop := ∀ j, j < n → ∃ b o, a = some ⟨b, o, none⟩ ∧ b < B ∧ ∃ (n1 n2 n3 : Int) (a1 : Option Addr) (m1 c1 : Nat) (a2 : Option Addr) (m2 c2 : Nat),
  cellsAt w b (o + j * 5) [.int .i64 n1, .int .i64 n2, .int .i64 n3, .slice a1 m1 c1, .slice a2 m2 c2] ∧ n3 ≤ 9223372036854775807 ∧
  ∀ i, i < m1 → ∃ b' o' r z, a1 = some ⟨b', o', none⟩ ∧ b' < B ∧ cellsAt w b' (o' + i * 2) [.bool r, .int .i64 z]

theorem setAt_vflat : ∀ (X : List Val) (k : Nat) (_ : k < X.length) (v : Val), setAt (vflat X) (k * 2) [.bool v.ref, .int .i64 v.n] = vflat (X.set k v)
  | [], k, h, _ => by simp at h
  | x :: r, 0, _, v => by simp [vflat, Val.cs, setAt]
  | x :: r, k + 1, h, v => by
    have ih := setAt_vflat r k (by simpa using h) v
    simp only [List.set_cons_succ]
    show setAt (x.cs ++ vflat r) _ _ = x.cs ++ vflat (r.set k v)
    rw [← ih]
    have := setAt_right x.cs [.bool v.ref, .int .i64 v.n] (vflat r) (k * 2)
    rw [show (k + 1) * 2 = x.cs.length + k * 2 by simp [Val.cs]; omega]
    exact this

/-- the state of the first loop -/
def KInv (hp vb B : Nat) (w0 w : World) : Prop := ∃ S v vs, Is hp w S 5000 v ∧ vs.length = 8 ∧ w.heap[vb]? = some (.cells (vflat vs).toArray 42 (0, 0)) ∧ ¬ Mine hp S v vb ∧ (∀ x ∈ vs, good S x = true) ∧ Below B w0 w

set_option maxHeartbeats 4000000 in
theorem HeapKeeps_spec {w : World} {tE tF : Nat} {aH : Addr} {e1 e2 : Value} (hg : Glob w tE aH (.iface tF e1) (.iface tF e2)) (hE : ErrTy tE) (a : Option Addr) (n c : Nat) (hn : n ≤ 9223372036854775807) (hO : OpsIn w.heap.size w a n)
    (a4 : Option Addr) (c4 : Nat) (L : List Int) (hL : Isl w.heap.size w a4 L) (hLl : L.length ≤ 9223372036854775807) :
    Calls Tryd.prog 5 #[.slice a n c, .slice a4 L.length c4] w fun e w' => e = .returned (.bool true) ∧ Below w.heap.size w w' := by
  refine (Vg.HeapKeeps.calls (R := fun x w' => x = .bool true ∧ Below w.heap.size w w') ?_).mono (fun x w' ⟨v, h1, h2, h3⟩ => ⟨by rw [h1, h2], h3⟩)
  unfold Vg.HeapKeeps.W
  have hsz := hg.size
  refine (alive_spec hg hE).mono ?_
  rintro _ w7 ⟨rfl, hb7⟩
  have s7 := hb7.size
  refine ⟨_, rfl, ifN (fun h => nomatch h) (fun _ => ?_)⟩
  refine (New_ok 5000 w7 (by decide) (by decide)).mono ?_
  rintro _ w10 ⟨rfl, hb10, h10⟩
  have s10 := lt_of_block h10.blk
  refine ⟨_, _, rfl, true, .inl ⟨rfl, rfl⟩, ifN (fun h => nomatch h) (fun _ => ifB (fun h => nomatch h) (fun _ => box fun w15 at15 hb15 hs15 => ?_))⟩
  have b15 : Below w.heap.size w w15 := (hb7.trans (hb10.mono s7)).trans (hb15.mono (by omega))
  have init : KInv w7.heap.size w10.heap.size w.heap.size w w15 := ⟨[], _, List.replicate 8 ⟨false, 0⟩, h10.below hb15, by simp, by rw [at15]; rfl, fun hm => by have := h10.mine_lt hm; omega, fun x hx => by rw [List.eq_of_mem_replicate hx]; rfl, b15⟩
  refine ⟨fun us w2 => ∃ j : Nat, j ≤ n ∧ us = [.int .i64 j] ∧ KInv w7.heap.size w10.heap.size w.heap.size w w2, fun us _ => match us with | [.int _ j] => n - j.toNat | _ => 0, ⟨0, Nat.zero_le _, rfl, init⟩, ?_⟩
  rintro _ us w18 ⟨j, hj, rfl, S, v, vs, h18, hvl, hvb, hnm, hgood, b18⟩
  have s18 := b18.size
  have hplt := lt_of_block h18.blk
  have vblt := lt_of_block hvb
  -- the tail
  have tail : ∀ w', Below w18.heap.size w18 w' → Tail w7.heap.size w10.heap.size a4 L.length w' (fun x w' => x = .bool true ∧ Below w.heap.size w w') := fun w' hb' =>
    keeps_tail (B := w.heap.size) (h18.below hb') (by omega) vs hvl (block_below hb' vblt hvb) hgood a4 L (fun i hi => by
      obtain ⟨b, o, e, hb, hc⟩ := hL i hi
      exact ⟨b, o, e, hb, cell_below (b18.trans (hb'.mono (by omega))) hb hc⟩) hLl _ (fun w'' hb'' => ⟨rfl, (b18.trans (hb'.mono (by omega))).trans hb''⟩)
  refine ⟨_, rfl, ifD (fun hlt => ?_) (fun _ => tail w18 (Below.refl _ _))⟩
  have hj' : j < n := by omega
  obtain ⟨b, o, rfl, hbB, n1, n2, n3, a1, m1, c1, a2, m2, c2, hc, hn3, hargs⟩ := hO j hj'
  refine ⟨b, o, rfl, by omega, hlt, _, _, _, _, _, _, _, _, _, cellsAt_below b18 hbB hc, copyStep rfl rfl fun w34 at34 hb34 hs34 => ifD (fun _ => tail w34 hb34) (fun h200 => ?_)⟩
  refine ⟨_, _, _, cell_of_block at34 rfl, ifD (fun _ => tail w34 hb34) (fun h8 => box fun w160 at160 hb160 hs160 => ?_)⟩
  have b160 : Below w18.heap.size w18 w160 := hb34.trans (hb160.mono (by omega))
  have at160' := block_below hb160 (by omega) at34
  have own160 : w160.ownsRow w34.heap.size 30 2 (.slice (some ⟨w34.heap.size, 0, none⟩) 0 0) 0 (vflat []) := ⟨by simp [vflat], .inr ⟨w34.heap.size, 0, _, rfl, Nat.le_refl _, at160, Nat.le_refl _, by simp [maxLen], by simp, by simp [vflat]⟩⟩
  refine ⟨_, _, _, cell_of_block at160' rfl, fun us w2 => ∃ (i : Nat) (V : List Val) (a' : Option Addr) (c' : Nat), i ≤ m1 ∧ V.length = i ∧ us = [.slice a' i c', .int .i64 i] ∧ (∀ x ∈ V, good S x = true) ∧ w2.ownsRow w34.heap.size 30 2 (.slice a' i c') i (vflat V) ∧ Below w34.heap.size w34 w2,
    fun us _ => match us with | [_, .int _ i] => m1 - i.toNat | _ => 0, ⟨0, [], _, 0, Nat.zero_le _, rfl, rfl, (fun x hx => nomatch hx), own160, hb160⟩, ?_⟩
  rintro _ us w166 ⟨i, V, a169, c171, hi, hVi, rfl, hV, own166, hb166⟩
  have s166 := hb166.size
  have b166 : Below w18.heap.size w18 w166 := hb34.trans (hb166.mono (by omega))
  have h166 := h18.below b166
  have bw166 : Below w.heap.size w w166 := b18.trans (b166.mono (by omega))
  -- one more value
  have more : ∀ (x : Val) (w1 : World), good S x = true → Below w166.heap.size w166 w1 → i < m1 →
      withW (World.alloc w1 (.cells #[(.bool x.ref), (.int .i64 x.n)] 30)) fun w183 => ∃ (a184 : Option Addr) (m185 c186 : Nat) (w187 : World), Runs Tryd.prog (Builtin.append_ #[33, 33] 33 #[(.slice a169 i c171), (.slice (some ⟨w1.heap.size, 0, none⟩ : Option Addr) 1 1)]) w183 (.slice a184 m185 c186) w187 ∧
        ((∃ (i' : Nat) (V : List Val) (a' : Option Addr) (c' : Nat), i' ≤ m1 ∧ V.length = i' ∧ [Value.slice a184 m185 c186, .int .i64 (IntKind.i64.wrap ((i : Int) + 1))] = [.slice a' i' c', .int .i64 i'] ∧ (∀ x ∈ V, good S x = true) ∧ w187.ownsRow w34.heap.size 30 2 (.slice a' i' c') i' (vflat V) ∧ Below w34.heap.size w34 w187) ∧
          m1 - (IntKind.i64.wrap ((i : Int) + 1)).toNat < m1 - ((i : Nat) : Int).toNat) := by
    intro x w1 hx hb1 hi1
    refine box fun w183 at183 hb183 hs183 => ?_
    have b183 : Below w166.heap.size w166 w183 := hb1.trans (hb183.mono hb1.size)
    have own183 := own_below own166 b183 (Nat.le_refl _)
    have s183 := b183.size
    obtain ⟨a184, k184, c186, w187, hr, rfl, own187, hg187, _⟩ := append_own (P := Tryd.prog) (ty := 33) Vg.ty33 rfl Vg.ty30 (by decide) own183 (m := 1) (c := 1) (news := [.bool x.ref, .int .i64 x.n]) rfl (cellsAt_of_block at183 [.bool x.ref, .int .i64 x.n] 0 rfl) rfl (by dsimp only; omega) (by omega) (by omega)
    refine ⟨_, _, _, w187, hr, ?_⟩
    rw [w64 (x := (i : Int) + 1) (by omega) (by omega)]
    refine ⟨⟨i + 1, V ++ [x], a184, c186, hi1, by simp [hVi], rfl, fun y hy => ?_, ?_, ?_⟩, by omega⟩
    · rcases List.mem_append.1 hy with hy | hy
      · exact hV y hy
      · rw [List.mem_singleton] at hy; subst hy; exact hx
    · rw [vflat, List.flatMap_append]; exact own187
    · exact (hb166.trans (b183.mono s166)).trans (own_grown own183 hg187 (Nat.le_refl _) (by omega))
  refine ⟨_, _, _, _, rfl, ifD (fun hlt' => ?_) (fun hge => ?_)⟩
  · have hi' : i < m1 := by omega
    obtain ⟨b', o', r, z, rfl, hb'B, hc'⟩ := hargs i hi'
    refine ⟨b', o', rfl, by omega, hlt', _, _, cellsAt_below bw166 hb'B hc', copyStep rfl rfl fun w178 at178 hb178 hs178 => ⟨_, cell_of_block at178 rfl, ifB (fun hr => ?_) (fun hr => ?_)⟩⟩
    · obtain ⟨k, hk8, ek⟩ := and7 z
      refine ⟨_, cell_of_block at178 rfl, ?_⟩
      rw [ek]
      have hkv : k < vs.length := by omega
      have hvc := vflat_get (cellsAt_of_block (block_below (b166.trans (hb178.mono b166.size)) vblt hvb) (vflat vs) 0 (by simp)) hkv
      exact ⟨by omega, by omega, _, _, hvc, more vs[k] w178 (hgood _ (List.getElem_mem _)) hb178 hi'⟩
    · exact ⟨_, cell_of_block at178 rfl, more ⟨false, z⟩ w178 rfl hb178 hi'⟩
  · have ei : i = m1 := by omega
    subst ei
    have at166 := block_below hb166 (by omega) at34
    have g166 := hg.kept (bw166.mono (by omega))
    obtain ⟨ax, cx, ex, hcell⟩ := own_vals own166 hVi.symm
    simp only [Value.slice.injEq] at ex
    obtain ⟨rfl, _, rfl⟩ := ex
    have al := Alloc_spec h166 _ _ _ g166.heap g166.state g166.large (by omega) n3 hn3 a169 c171 V (fun q hq => by
      obtain ⟨g, e, _, _, hc⟩ := hcell q hq
      exact ⟨g, 0, e, hc⟩) (by omega) (fun bb oo e hm => by
        have h1 := h18.mine_lt hm
        have h2 := own166.lt bb (by rw [e]; rfl)
        omega)
    rw [hVi] at al
    refine ⟨_, cell_of_block at166 rfl, al.mono ?_⟩
    clear al
    rintro _ w195 ⟨x, rfl, hpost⟩
    -- nothing is made
    have no : ∀ (E : Value), Below w166.heap.size w166 w195 →
        withW (World.alloc w195 (.cells #[.bool false, .int .i64 0] 30)) fun w200 => (canSt w200 w195.heap.size 0 [(.bool false), (.int .i64 0)] ∧ withW (setL w200 w195.heap.size 0 [(.bool false), (.int .i64 0)]) fun w201 =>
          ((∃ j' : Nat, j' ≤ n ∧ [Value.int .i64 (IntKind.i64.wrap ((j : Int) + 1))] = [.int .i64 j'] ∧ KInv w7.heap.size w10.heap.size w.heap.size w w201) ∧ n - (IntKind.i64.wrap ((j : Int) + 1)).toNat < n - ((j : Nat) : Int).toNat)) := by
      intro E hb195
      refine copyStep rfl rfl fun w201 at201 hb201 hs201 => ?_
      rw [w64 (x := (j : Int) + 1) (by omega) (by omega)]
      have bb : Below w18.heap.size w18 w201 := (b166.trans (hb195.mono b166.size)).trans (hb201.mono (by have := hb195.size; have := b166.size; omega))
      exact ⟨⟨j + 1, hj', rfl, S, v, vs, h18.below bb, hvl, block_below bb vblt hvb, hnm, hgood, b18.trans (bb.mono (by omega))⟩, by omega⟩
    have noE : ∀ (E : Value) (t : Nat) (y : Value), E = .iface t y → Below w166.heap.size w166 w195 → ∀ (G1 : World → Prop),
        withW (World.alloc w195 (.cells #[.bool false, .int .i64 0] 30)) fun w200 => (canSt w200 w195.heap.size 0 [(.bool false), (.int .i64 0)] ∧ withW (setL w200 w195.heap.size 0 [(.bool false), (.int .i64 0)]) fun w201 =>
          (∃ r202, IsNil E r202 ∧ (bif r202 then G1 w201 else
          ((∃ j' : Nat, j' ≤ n ∧ [Value.int .i64 (IntKind.i64.wrap ((j : Int) + 1))] = [.int .i64 j'] ∧ KInv w7.heap.size w10.heap.size w.heap.size w w201) ∧ n - (IntKind.i64.wrap ((j : Int) + 1)).toNat < n - ((j : Nat) : Int).toNat)))) := by
      intro E t y hE' hb195 G1
      obtain ⟨k1, k2⟩ := no E hb195
      exact ⟨k1, false, .inr ⟨t, y, hE', rfl⟩, k2⟩
    rcases hpost with ⟨_, rfl, hb⟩ | ⟨_, _, _, _, rfl, hb⟩ | ⟨_, _, _, _, _, _, rfl, hb⟩ | ⟨_, _, _, _, _, _, rfl, bh, v', hbh, h195, chg, nxt⟩
    · exact ⟨_, _, _, rfl, noE _ _ _ rfl hb _⟩
    · exact ⟨_, _, _, rfl, noE _ _ _ rfl hb _⟩
    · exact ⟨_, _, _, rfl, noE _ _ _ rfl hb _⟩
    · have s195 := chg.size
      have hvne : ¬ (w10.heap.size = w7.heap.size ∨ some w10.heap.size = v.ownBlock) := by
        rintro (e | e)
        · exact hnm (.inl e)
        · exact hnm (.inr (.inl e))
      have at195 : w195.heap[w18.heap.size]? = _ := (chg.block _ (by omega) (by
        rintro (e | e)
        · omega
        · have := h18.own.lt _ e.symm; omega)).trans at166
      have vb195 := (chg.block _ (by omega) hvne).trans (block_below b166 vblt hvb)
      refine ⟨_, _, _, rfl, copyStep rfl rfl fun w201 at201 hb201 hs201 => ⟨true, .inl ⟨rfl, rfl⟩, ?_⟩⟩
      have at201' := block_below hb201 (by omega) at195
      obtain ⟨k, hk8, ek⟩ := and7 n2
      refine ⟨_, cell_of_block at201' rfl, _, _, cellsAt_of_block at201 [.bool true, .int .i64 (used S : Nat)] 0 rfl, ?_⟩
      rw [ek]
      have hkv : k < vs.length := by omega
      have vb201 := block_below hb201 (by omega) vb195
      have h201 := h195.below hb201
      refine ⟨by omega, by omega, setStep vb201 (by simp [vflat_length, hvl]; omega) rfl fun w206 at206 same206 hs206 chg206 => ?_⟩
      rw [w64 (x := (j : Int) + 1) (by omega) (by omega)]
      have hnm' : ¬ Mine w7.heap.size (S ++ [⟨bh, n3, V, 1 + sumN S V, maxD S V⟩]) v' w10.heap.size := by
        rintro (e | e | ⟨s, hs, e⟩)
        · exact hnm (.inl e)
        · rcases nxt with e' | ⟨q, hq, e'⟩
          · exact hnm (.inr (.inl (e.trans e')))
          · rw [e'] at e; cases e; omega
        · rcases List.mem_append.1 hs with hs | hs
          · exact hnm (.inr (.inr ⟨s, hs, e⟩))
          · rw [List.mem_singleton] at hs; subst hs; simp only at e; omega
      have gnew : good (S ++ [⟨bh, n3, V, 1 + sumN S V, maxD S V⟩]) ⟨true, (used S : Nat)⟩ = true := by
        simp [good, find_new]
      have b195 : Below w.heap.size w166 w195 := chg.below (by omega) fun q hq => by
        rintro (e | e)
        · omega
        · have := h18.own.lt _ e.symm; omega
      refine ⟨⟨j + 1, hj', rfl, _, v', vs.set k ⟨true, (used S : Nat)⟩, h201.kept (fun q hq => same206 q fun e => hnm' (e ▸ hq)) (by omega), by simpa using hvl, ?_, hnm', fun x hx => ?_, ?_⟩, by simp only; omega⟩
      · rw [at206]
        have := setAt_vflat vs k hkv ⟨true, (used S : Nat)⟩
        simp only [Int.toNat_natCast, Nat.zero_add]
        rw [← this]
      · rcases List.mem_or_eq_of_mem_set hx with hx | hx
        · exact good_append (hgood x hx)
        · subst hx; exact gnew
      · exact ((bw166.trans b195).trans (hb201.mono (by omega))).trans (chg206.below (by omega) fun q hq e => by omega)

end Go.Proofs.YtfenhbjamohdgaaDoor.Vf
