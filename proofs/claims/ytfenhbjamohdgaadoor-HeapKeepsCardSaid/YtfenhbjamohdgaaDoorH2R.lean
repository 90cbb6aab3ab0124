/- HeapKeeps: what follows its first loop. -/
import Derived.Test.YtfenhbjamohdgaaDoorH2Q
import Derived.Test.YtfenhbjamohdgaaDoorH2P
import Derived.Test.YtfenhbjamohdgaaDoorH1E
namespace Go.Proofs.YtfenhbjamohdgaaDoor.Vf
open Go.Vx Go.Vx.Hp Go.RowKit

theorem and7 (n : Int) : ∃ k : Nat, k < 8 ∧ IntKind.i64.wrap ((BitVec.ofInt IntKind.i64.bits n &&& BitVec.ofInt IntKind.i64.bits (7 : Int)).toNat) = (k : Int) := by
  refine ⟨(BitVec.ofInt IntKind.i64.bits n &&& BitVec.ofInt IntKind.i64.bits (7 : Int)).toNat, ?_, ?_⟩
  · rw [BitVec.toNat_and]
    have : (BitVec.ofInt IntKind.i64.bits (7 : Int)).toNat = 7 := by decide
    rw [this]
    exact Nat.lt_succ_of_le Nat.and_le_right
  · have h : (BitVec.ofInt IntKind.i64.bits n &&& BitVec.ofInt IntKind.i64.bits (7 : Int)).toNat ≤ 7 := by
      rw [BitVec.toNat_and]
      have : (BitVec.ofInt IntKind.i64.bits (7 : Int)).toNat = 7 := by decide
      rw [this]
      exact Nat.and_le_right
    exact w64 (by omega) (by omega)

theorem col_mine {hp : Nat} {w w' : World} {S : List St} {most : Int} {v : Value} {R : List Pl} {V : Pl → Val} {M : Mov} {T : Value} (h : Col hp w w' S most v R V M T) {k : Nat} (hk : k < w.heap.size) (hm : Mine hp (moved M) T k) : Mine hp S v k := by
  rcases hm with e | e | ⟨s, hs, e⟩
  · exact .inl e
  · have := h.town k e.symm; omega
  · obtain ⟨y, hy, rfl⟩ := List.mem_map.1 hs
    exact .inr (.inr ⟨y.2, find_mem (h.mv.of y hy), e⟩)

def pls (g n : Nat) : List Pl := (List.range n).map fun i => (g, i * 2)
def plv (g n : Nat) : List Value := (List.range n).map fun i => .pointer (some ⟨g, i * 2, none⟩)
theorem pls_length (g n : Nat) : (pls g n).length = n := by simp [pls]
theorem pls_get (g n j : Nat) (h : j < (pls g n).length) : (pls g n)[j] = (g, j * 2) := by simp [pls]
theorem plv_succ (g n : Nat) : plv g (n + 1) = plv g n ++ [.pointer (some ⟨g, n * 2, none⟩)] := by simp [plv, List.range_succ]
theorem pls_mem {g n : Nat} {x : Pl} (h : x ∈ pls g n) : ∃ j, j < n ∧ x = (g, j * 2) := by
  obtain ⟨j, hj, rfl⟩ := List.mem_map.1 h
  exact ⟨j, List.mem_range.1 hj, rfl⟩

def valAt (K : List Val) (x : Pl) : Val := K.getD (x.2 / 2) ⟨false, 0⟩
theorem valAt_map (K : List Val) (g : Nat) : (pls g K.length).map (valAt K) = K := by
  apply List.ext_getElem
  · simp [pls]
  · intro i h1 h2
    simp only [List.getElem_map, pls_get]
    simp [valAt, h2]
theorem valAt_get (K : List Val) (g : Nat) {j : Nat} (h : j < K.length) : valAt K (g, j * 2) = K[j] := by simp [valAt, h]
theorem valAt_mem (K : List Val) (g : Nat) {x : Pl} (h : x ∈ pls g K.length) : valAt K x ∈ K := by
  obtain ⟨j, hj, rfl⟩ := pls_mem h
  rw [valAt_get K g hj]; exact List.getElem_mem _

set_option maxHeartbeats 2000000 in
theorem keeps_tail {hp vb B : Nat} {w : World} {S : List St} {v : Value} (h : Is hp w S 5000 v) (hB : B ≤ hp) (vs : List Val) (hvl : vs.length = 8) (hvb : w.heap[vb]? = some (.cells (vflat vs).toArray 42 (0, 0)))
    (hgood : ∀ x ∈ vs, good S x = true) (a4 : Option Addr) (L : List Int) (hL : Isl B w a4 L) (hLl : L.length ≤ 9223372036854775807) (R : Value → World → Prop) (hR : ∀ w', Below B w w' → R (.bool true) w') : Tail hp vb a4 L.length w R := by
  unfold Tail
  have hplt := lt_of_block h.blk
  have vblt := lt_of_block hvb
  refine box fun w35 at35 hb35 hs35 => ?_
  have own35 : w35.ownsRow w.heap.size 30 2 (.slice (some ⟨w.heap.size, 0, none⟩) ([] : List Val).length 0) ([] : List Val).length (vflat []) := ⟨by simp [vflat], .inr ⟨w.heap.size, 0, _, rfl, Nat.le_refl _, at35, Nat.le_refl _, by simp [maxLen], by simp, by simp [vflat]⟩⟩
  refine ⟨fun us w2 => ∃ (j : Nat) (K : List Val) (a' : Option Addr) (c' : Nat), j ≤ L.length ∧ us = [.slice a' K.length c', .int .i64 j] ∧ (∀ x ∈ K, good S x = true) ∧ K.length ≤ j ∧ K.length ≤ 20 ∧ w2.ownsRow w.heap.size 30 2 (.slice a' K.length c') K.length (vflat K) ∧ Below w.heap.size w w2,
    fun us _ => match us with | [_, .int _ j] => L.length - j.toNat | _ => 0, ⟨0, [], _, 0, Nat.zero_le _, rfl, (fun x hx => nomatch hx), Nat.le_refl _, Nat.zero_le _, own35, hb35⟩, ?_⟩
  rintro _ us w38 ⟨j, K, a41, c43, hj, rfl, hK, hKj, hK20, own38, hb38⟩
  have s38 := hb38.size
  refine ⟨_, _, _, _, rfl, ifD (fun hlt => ?_) (fun hge => ?_)⟩
  · have hj' : j < L.length := by omega
    obtain ⟨b, o, rfl, hbB, hc⟩ := hL j hj'
    refine ⟨b, o, rfl, by omega, hlt, _, cell_below hb38 (by omega) hc, ifD (fun h20 => ?_) (fun _ => ?_)⟩
    · obtain ⟨k, hk8, ek⟩ := and7 L[j]
      rw [ek]
      have hkv : k < vs.length := by omega
      have hvc := vflat_get (cellsAt_of_block (block_below hb38 vblt hvb) (vflat vs) 0 (by simp)) hkv
      refine ⟨by omega, by omega, _, _, hvc, box fun w50 at50 hb50 hs50 => ?_⟩
      have own50 := own_below own38 hb50 (Nat.le_refl _)
      obtain ⟨a51, k51, c51, w54, hr54, rfl, own54, hg54, hn54⟩ := append_own (P := Tryd.prog) (ty := 33) Vg.ty33 rfl Vg.ty30 (by decide) own50 (m := 1) (c := 1) (news := [.bool vs[k].ref, .int .i64 vs[k].n]) rfl (cellsAt_of_block at50 [.bool vs[k].ref, .int .i64 vs[k].n] 0 rfl) rfl (by dsimp only; omega) (by omega) (by omega)
      refine ⟨_, _, _, w54, hr54, ?_⟩
      rw [w64 (x := (j : Int) + 1) (by omega) (by omega)]
      have el : K.length + 1 = (K ++ [vs[k]]).length := by simp
      refine ⟨⟨j + 1, K ++ [vs[k]], a51, c51, hj', by rw [el]; rfl, fun x hx => ?_, by simp; omega, by simp; omega, ?_, ?_⟩, by simp only; omega⟩
      · rcases List.mem_append.1 hx with hx | hx
        · exact hK x hx
        · rw [List.mem_singleton] at hx; subst hx; exact hgood _ (List.getElem_mem _)
      · rw [← el, vflat, List.flatMap_append]; exact own54
      · exact (hb38.trans (hb50.mono (by omega))).trans (own_grown own50 hg54 (Nat.le_refl _) (by omega))
    · rw [w64 (x := (j : Int) + 1) (by omega) (by omega)]
      exact ⟨⟨j + 1, K, a41, c43, hj', rfl, hK, by omega, hK20, own38, hb38⟩, by simp only; omega⟩
  · have h38 := h.below hb38
    obtain ⟨g, hgk⟩ : ∃ g, 0 < K.length → (a41 = some ⟨g, 0, none⟩ ∧ w.heap.size ≤ g ∧ (∃ cur, w38.heap[g]? = some (.cells cur 30 (0, 0))) ∧ cellsAt w38 g 0 (vflat K)) := by
      obtain ⟨hxl, ⟨e, h0⟩ | ⟨g, cap, cur, e, hg, hh, h1, h2, h3, h4⟩⟩ := own38
      · exact ⟨0, fun hp => by omega⟩
      · cases e
        refine ⟨g, fun _ => ⟨rfl, hg, ⟨cur, hh⟩, cellsAt_of_block hh _ 0 ?_⟩⟩
        rw [List.drop_zero, hxl]; exact h4
    refine (Reach_ok h38 a41 c43 K (by omega) (fun hp => ⟨g, 0, (hgk hp).1, (hgk hp).2.2.2⟩) hK).mono ?_
    rintro _ w55 ⟨Z, rfl, hb55, cnt⟩
    have s55 := hb55.size
    refine ⟨_, _, rfl, box fun w59 at59 hb59 hs59 => ?_⟩
    have own59 : w59.ownsRow w55.heap.size 39 1 (.slice (some ⟨w55.heap.size, 0, none⟩) 0 0) 0 (plv g 0) := ⟨by simp [plv], .inr ⟨w55.heap.size, 0, _, rfl, Nat.le_refl _, at59, Nat.le_refl _, by simp [maxLen], by simp, by simp [plv]⟩⟩
    have b59 : Below w38.heap.size w38 w59 := hb55.trans (hb59.mono s55)
    refine ⟨fun us w2 => ∃ (j : Nat) (a' : Option Addr) (c' : Nat), j ≤ K.length ∧ us = [.slice a' j c', .int .i64 j] ∧ w2.ownsRow w55.heap.size 39 1 (.slice a' j c') j (plv g j) ∧ Below w38.heap.size w38 w2 ∧ w55.heap.size ≤ w2.heap.size,
      fun us _ => match us with | [_, .int _ j] => K.length - j.toNat | _ => 0, ⟨0, _, 0, Nat.zero_le _, rfl, own59, b59, by omega⟩, ?_⟩
    rintro _ us w62 ⟨i, a65, c67, hi, rfl, own62, hb62, s62⟩
    refine ⟨_, _, _, _, rfl, ifD (fun hlt => ?_) (fun hge => ?_)⟩
    · have hi' : i < K.length := by omega
      obtain ⟨e41, hgw, _, _⟩ := hgk (by omega)
      refine ⟨g, 0, e41, by omega, hlt, box fun w71 at71 hb71 hs71 => ?_⟩
      have own71 := own_below own62 hb71 (Nat.le_refl _)
      obtain ⟨a72, k72, c72, w75, hr75, rfl, own75, hg75, hn75⟩ := append_own (P := Tryd.prog) (ty := 50) Vg.ty50 rfl Vg.ty39 (by decide) own71 (m := 1) (c := 1) (news := [.pointer (some ⟨g, 0 + (i : Int).toNat * 2, none⟩)]) rfl (cellsAt_of_block at71 [.pointer (some ⟨g, 0 + (i : Int).toNat * 2, none⟩)] 0 rfl) rfl (by dsimp only; omega) (by omega) (by omega)
      refine ⟨_, _, _, w75, hr75, ?_⟩
      rw [w64 (x := (i : Int) + 1) (by omega) (by omega)]
      refine ⟨⟨i + 1, a72, c72, hi', rfl, ?_, ?_, ?_⟩, by simp only; omega⟩
      · rw [plv_succ]
        have e : (0 + (i : Int).toNat * 2) = i * 2 := by simp
        rw [e] at own75; exact own75
      · exact (hb62.trans (hb71.mono hb62.size)).trans (own_grown own71 hg75 (by omega) (by have := hb62.size; omega))
      · have := hg75.size; omega
    · have : i = K.length := by omega
      subst this
      have h62 := h38.below hb62
      have b62 : Below w.heap.size w w62 := hb38.trans (hb62.mono s38)
      have hl : (pls g K.length).length = K.length := pls_length _ _
      have hgm : ∀ k, w.heap.size ≤ k → ¬ Mine hp S v k := fun k hk hm => by have := h.mine_lt hm; omega
      have pshape : ∀ x ∈ pls g K.length, x.1 = g ∧ 0 < K.length := fun x hx => by
        obtain ⟨j, hj, rfl⟩ := pls_mem hx; exact ⟨rfl, by omega⟩
      have hgb : 0 < K.length → g < w55.heap.size := fun hp => by
        obtain ⟨_, _, ⟨cur, hh⟩, _⟩ := hgk hp; have := lt_of_block hh; omega
      have own62b := own_cells own62
      -- the pointers' places
      obtain ⟨pb, hpb⟩ : ∃ pb, 0 < K.length → (a65 = some ⟨pb, 0, none⟩ ∧ w55.heap.size ≤ pb ∧ pb < w62.heap.size ∧ cellsAt w62 pb 0 (plv g K.length)) := by
        rcases own62b with ⟨_, h0, _⟩ | ⟨pb, c, e, hpb, hc, _⟩
        · exact ⟨0, fun hp => by omega⟩
        · cases e
          refine ⟨pb, fun hp => ⟨rfl, hpb, ?_, hc⟩⟩
          have := own62.lt pb rfl; omega
      have hP : ∀ W : World, (0 < K.length → cellsAt W pb 0 (plv g K.length)) → Psl W a65 (pls g K.length) := fun W hW j hj => by
        rw [hl] at hj
        obtain ⟨e, _, _, _⟩ := hpb (by omega)
        refine ⟨pb, 0, e, ?_⟩
        have := cellsAt_cell (hW (by omega)) (j := j) (v := .pointer (some ⟨g, j * 2, none⟩)) (by simp [plv, hj])
        rw [pls_get, Nat.mul_one]; exact this
      have hd : ∀ x ∈ pls g K.length, ∀ y ∈ pls g K.length, x ≠ y → x.1 ≠ y.1 ∨ x.2 + 2 ≤ y.2 ∨ y.2 + 2 ≤ x.2 := fun x hx y hy hne => by
        obtain ⟨j, hj, rfl⟩ := pls_mem hx
        obtain ⟨i, hi, rfl⟩ := pls_mem hy
        have : j ≠ i := fun e => hne (by rw [e])
        simp only; omega
      have hc62 : 0 < K.length → cellsAt w62 g 0 (vflat K) := fun hp => by
        obtain ⟨_, _, ⟨cur, hh⟩, hc⟩ := hgk hp
        exact cellsAt_below hb62 (lt_of_block hh) hc
      have col1 := Collect_spec h62 (pls g K.length) (valAt K) a65 c67 (by omega) (fun x hx => ?_) (fun x hx => ?_) (fun x hx => ?_) hd (fun x hx => hK _ (valAt_mem K g hx)) (hP w62 fun hp => (hpb hp).2.2.2) (fun b f e => ?_)
      · rw [hl] at col1
        refine col1.mono ?_
        clear col1
        rintro _ w76 ⟨rfl, M, T, col⟩
        have hroots : ∀ x ∈ K, In M x := fun x hx => by
          obtain ⟨j, hj, rfl⟩ := List.getElem_of_mem hx
          have := col.roots (g, j * 2) (List.mem_map.2 ⟨j, List.mem_range.2 hj, rfl⟩)
          rw [valAt_get K g hj] at this; exact this
        have hrch : ∀ y ∈ M, Rch S K y.1 := fun y hy => by have := col.rch y hy; rw [valAt_map] at this; exact this
        have hnM : tot M = tot Z := tot_same h.nd col.mv hroots col.args hrch cnt
        have hall := all_reached col.mv hroots col.args hrch
        have gK : ∀ x ∈ K.map (fwd M), good (moved M) x = true := fun x hx => by
          obtain ⟨y, hy, rfl⟩ := List.mem_map.1 hx
          exact good_fwd (hroots y hy)
        refine ⟨_, rfl, (Used_spec col.is).mono ?_⟩
        rintro _ _ ⟨rfl, rfl⟩
        have hmine1 : ∀ k, w.heap.size ≤ k → k < w62.heap.size → ¬ Mine hp (moved M) T k := fun k h1 h2 hm => hgm k h1 (col_mine col h2 hm)
        have val2 : ∀ x ∈ pls g K.length, valAt (K.map (fwd M)) x = fwd M (valAt K x) := fun x hx => by
          obtain ⟨j, hj, rfl⟩ := pls_mem hx
          rw [valAt_get K g hj, valAt_get (K.map (fwd M)) g (by simpa using hj)]; simp
        have hold : 0 < K.length → w76.heap[pb]? = w62.heap[pb]? := fun hp => by
          obtain ⟨_, h1, h2, _⟩ := hpb hp
          refine col.old pb h2 (hgm pb (by omega)) ?_
          rintro ⟨x, hx, e⟩
          have := (pshape x hx).1
          have := hgb hp
          omega
        have hl2 : (K.map (fwd M)).length = K.length := by simp
        have col2 := Collect_spec col.is (pls g K.length) (valAt (K.map (fwd M))) a65 c67 (by omega) (fun x hx => by rw [val2 x hx]; exact col.cells x hx) (fun x hx => ?_) (fun x hx => ?_) hd (fun x hx => gK _ (by rw [← hl2] at hx; exact valAt_mem _ g hx)) (hP w76 fun hp => cellsAt_same (hold hp) (hpb hp).2.2.2) (fun b f e => ?_)
        · rw [hl] at col2
          refine ⟨_, rfl, col2.mono ?_⟩
          clear col2
          rintro _ w82 ⟨rfl, M2, T2, colb⟩
          have hroots2 : ∀ x ∈ K.map (fwd M), In M2 x := fun x hx => by
            obtain ⟨j, hj, rfl⟩ := List.getElem_of_mem hx
            have hj' : j < K.length := by simpa using hj
            have := colb.roots (g, j * 2) (List.mem_map.2 ⟨j, List.mem_range.2 hj', rfl⟩)
            rw [valAt_get _ g hj] at this; exact this
          have hrch2 : ∀ y ∈ M2, Rch (moved M) (K.map (fwd M)) y.1 := fun y hy => by have := colb.rch y hy; rw [← hl2, valAt_map] at this; exact this
          have hM2 : tot M2 = used (moved M) := tot_full col.is.nd hall colb.mv (reached_in colb.mv hroots2 colb.args)
          have hall2 := all_reached colb.mv hroots2 colb.args hrch2
          have gK2 : ∀ x ∈ (K.map (fwd M)).map (fwd M2), good (moved M2) x = true := fun x hx => by
            obtain ⟨y, hy, rfl⟩ := List.mem_map.1 hx
            exact good_fwd (hroots2 y hy)
          have hc82 : 0 < K.length → cellsAt w82 g 0 (vflat ((K.map (fwd M)).map (fwd M2))) := fun hp => by
            have : ∀ (n : Nat) (X : List Val), (∀ j (hj : j < X.length), cellsAt w82 g ((n + j) * 2) X[j].cs) → cellsAt w82 g (n * 2) (vflat X) := by
              intro n X
              induction X generalizing n with
              | nil => intro _; trivial
              | cons x r ih =>
                intro hX
                have h0 := hX 0 (by simp)
                have hr := ih (n + 1) fun j hj => by
                  have := hX (j + 1) (by simpa using hj)
                  rw [show n + 1 + j = n + (j + 1) by omega]; simpa using this
                simp only [Nat.add_zero, List.getElem_cons_zero] at h0
                refine ⟨h0.1, h0.2.1, ?_⟩
                rw [show n * 2 + 1 + 1 = (n + 1) * 2 by omega]
                exact hr
            refine this 0 _ fun j hj => ?_
            have hj' : j < K.length := by simpa using hj
            have := colb.cells (g, j * 2) (List.mem_map.2 ⟨j, List.mem_range.2 hj', rfl⟩)
            rw [valAt_get _ g (by simpa using hj')] at this
            rw [Nat.zero_add]
            simpa using this
          have hl3 : ((K.map (fwd M)).map (fwd M2)).length = K.length := by simp
          have reach2 := Reach_ok colb.is a41 c43 ((K.map (fwd M)).map (fwd M2)) (by omega) (fun hp => ⟨g, 0, (hgk (by omega)).1, hc82 (by omega)⟩) gK2
          rw [hl3] at reach2
          refine ⟨_, rfl, reach2.mono ?_⟩
          rintro _ w85 ⟨Z2, rfl, hb85, cnt2⟩
          have hZ2 : tot Z2 = used (moved M2) := tot_full colb.is.nd hall2 cnt2.mv cnt2.all
          have e1 : used (moved M) = tot Z := by rw [used_moved, hnM]
          have e2 : used (moved M2) = tot Z := by rw [used_moved, hM2, e1]
          refine ⟨_, _, rfl, true, .inl ⟨rfl, rfl⟩, true, .inl ⟨rfl, rfl⟩, true, .inl ⟨rfl, rfl⟩, true, .inl ⟨rfl, rfl⟩, ?_⟩
          rw [e1]
          refine ifE (fun _ => (Used_spec (colb.is.below hb85)).mono ?_) (fun hne => absurd rfl hne)
          rintro _ _ ⟨rfl, rfl⟩
          rw [e2, hZ2, e2]
          refine ⟨_, rfl, ifE (fun _ => ?_) (fun hne => absurd rfl hne)⟩
          have : ((tot Z : Int) == (tot Z : Int)) = true := by simp
          rw [this]
          refine hR _ ?_
          have b76 : Below B w62 w76 := ⟨col.os.1, col.os.2.1, col.os.2.2, col.sz, fun q hq => col.old q (by omega) (fun hm => by have := h62.mine_lt hm; omega) (by
            rintro ⟨x, hx, e⟩
            obtain ⟨k1, k2⟩ := pshape x hx
            have := (hgk k2).2.1
            omega)⟩
          have b82 : Below B w76 w82 := ⟨colb.os.1, colb.os.2.1, colb.os.2.2, colb.sz, fun q hq => colb.old q (by have := col.sz; omega) (fun hm => by have := col.is.mine_lt hm; omega) (by
            rintro ⟨x, hx, e⟩
            obtain ⟨k1, k2⟩ := pshape x hx
            have := (hgk k2).2.1
            omega)⟩
          exact (((b62.mono (by omega)).trans b76).trans b82).trans (hb85.mono (by have := b62.size; have := col.sz; have := colb.sz; omega))
        · obtain ⟨cs, t, cs', k1, k2, k3⟩ := col.rb.shape x hx
          exact ⟨cs', t, k2⟩
        · obtain ⟨k1, k2⟩ := pshape x hx
          rw [k1]
          have := hgb k2
          exact hmine1 g (hgk k2).2.1 (by omega)
        · rcases Nat.eq_zero_or_pos K.length with h0 | hp
          · rcases own62b with ⟨e', _, _⟩ | ⟨pb', c', e', hpb', _, _⟩
            · simp only [Value.slice.injEq] at e'; rw [e'.1] at e; cases e
            · simp only [Value.slice.injEq] at e'; rw [e'.1] at e; cases e
              have := own62.lt b (by rw [e'.1]; rfl)
              refine ⟨hmine1 _ (by omega) (by omega), ?_⟩
              rintro ⟨x, hx, _⟩
              have := (pshape x hx).2; omega
          · obtain ⟨e', h1, h2, _⟩ := hpb hp
            rw [e'] at e; cases e
            refine ⟨hmine1 _ (by omega) h2, ?_⟩
            rintro ⟨x, hx, e⟩
            have := (pshape x hx).1
            have := hgb hp
            omega
      · obtain ⟨j, hj, rfl⟩ := pls_mem hx
        rw [valAt_get K g hj]
        simpa using vflat_get (hc62 (by omega)) hj
      · obtain ⟨k1, k2⟩ := pshape x hx
        obtain ⟨_, _, ⟨cur, hh⟩, hc⟩ := hgk k2
        rw [k1]
        exact ⟨cur, 30, block_below hb62 (lt_of_block hh) hh⟩
      · obtain ⟨k1, k2⟩ := pshape x hx
        rw [k1]; exact hgm g (hgk k2).2.1
      · rcases Nat.eq_zero_or_pos K.length with h0 | hp
        · rcases own62b with ⟨e', _, _⟩ | ⟨pb', c', e', hpb', _, _⟩
          · simp only [Value.slice.injEq] at e'; rw [e'.1] at e; cases e
          · simp only [Value.slice.injEq] at e'; rw [e'.1] at e; cases e
            refine ⟨hgm _ (by omega), ?_⟩
            rintro ⟨x, hx, _⟩
            have := (pshape x hx).2; omega
        · obtain ⟨e', h1, h2, _⟩ := hpb hp
          rw [e'] at e; cases e
          refine ⟨hgm _ (by omega), ?_⟩
          rintro ⟨x, hx, e⟩
          have := (pshape x hx).1
          have := hgb hp
          omega

end Go.Proofs.YtfenhbjamohdgaaDoor.Vf
