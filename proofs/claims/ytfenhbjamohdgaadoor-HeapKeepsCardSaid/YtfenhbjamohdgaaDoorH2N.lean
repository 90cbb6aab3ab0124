/- The heap's Reach. -/
import Derived.Test.YtfenhbjamohdgaaDoorH2M
namespace Go.Proofs.YtfenhbjamohdgaaDoor.Vf
open Go.Vx Go.Vx.Hp Go.RowKit

theorem vflat_at {w : World} {g o : Nat} {V : List Val} (h : cellsAt w g o (vflat V)) {j : Nat} (hj : j < V.length) : cellsAt w g (o + j * 2) V[j].cs := by
  have h1 := cellsAt_take 2 (cellsAt_drop (j * 2) h)
  have e : ((vflat V).drop (j * 2)).take 2 = V[j].cs := by
    clear h h1
    induction V generalizing j with
    | nil => simp at hj
    | cons x r ih =>
      cases j with
      | zero => simp [vflat, Val.cs]
      | succ j =>
        have := ih (j := j) (by simpa using hj)
        rw [List.getElem_cons_succ, ← this]
        simp only [vflat, List.flatMap_cons]
        rw [show (j + 1) * 2 = x.cs.length + j * 2 by simp [Val.cs]; omega, List.drop_append]
        simp [List.drop_of_length_le]
  rw [e] at h1; exact h1

theorem map92 : Tryd.prog.underlying 92 = some (.map 3 4) := by kernel_rfl

/-- the last value dropped -/
theorem own_drop {w : World} {base g n c : Nat} {t : List Val} {x : Val} (h : w.ownsRow base 30 2 (.slice (some ⟨g, 0, none⟩) n c) n (vflat (t ++ [x]))) : w.ownsRow base 30 2 (.slice (cutA (some ⟨g, 0, none⟩) 0 c 2) t.length c) t.length (vflat t) := by
  obtain ⟨hxl, ⟨h1, _⟩ | ⟨g', cap, cur, e, hg, hh, h1, h2, h3, h4⟩⟩ := h
  · cases h1
  · cases e
    have hl := vflat_length (t ++ [x])
    rw [List.length_append, List.length_singleton] at hl
    have hn : n = t.length + 1 := by omega
    have ea : cutA (some ⟨g, 0, none⟩) 0 c 2 = some (⟨g, 0, none⟩ : Addr) := by
      unfold cutA; split
      · rfl
      · simp [Addr.add]
    rw [ea]
    refine ⟨vflat_length t, .inr ⟨g, c, cur, rfl, hg, hh, by omega, h2, h3, ?_⟩⟩
    have e2 : (cur.toList.take (n * 2)).take (t.length * 2) = vflat t := by
      rw [h4, vflat, List.flatMap_append]
      show (vflat t ++ _).take _ = _
      rw [List.take_left' (vflat_length t)]
    rw [List.take_take, Nat.min_eq_left (by omega)] at e2
    exact e2

variable {hp : Nat} {w : World} {S : List St} {most : Int} {v : Value}

theorem Reach_bad (h : Is hp w S most v) (E1 : Value) (h1 : w.cell? ⟨1, 0, none⟩ = some E1) (hlow : 2 < hp) (a : Option Addr) (c : Nat) (V : List Val) (hV : Vsl w a V) (hl : V.length ≤ 1048576) (hg : V.all (good S) = false) :
    Calls Tryd.prog 15 #[.pointer (some ⟨hp, 0, none⟩), .slice a V.length c] w fun e w' => e = .returned (.tuple #[.int .i64 0, E1]) ∧ Below w.heap.size w w' := by
  refine (Vg.Reach.calls (R := fun x w' => x = .tuple #[.int .i64 0, E1] ∧ Below w.heap.size w w') ?_).mono (fun x w' ⟨v, h1, h2, h3⟩ => ⟨by rw [h1, h2], h3⟩)
  unfold Vg.Reach.W
  have hlt := lt_of_block h.blk
  refine (goods_spec h a c V hV hl).mono ?_
  rintro _ w4 ⟨rfl, hb4⟩
  rw [hg]
  exact ⟨_, rfl, ifN (fun _ => drewStep fun w7 e7 hb7 => ⟨_, cell_below (hb4.trans (hb7.mono hb4.size)) (by omega) h1, rfl, hb4.trans (hb7.mono hb4.size)⟩) (fun h => nomatch h)⟩

set_option maxHeartbeats 1000000 in
theorem Reach_ok (h : Is hp w S most v) (a : Option Addr) (c : Nat) (V : List Val) (hl : V.length ≤ 1000000) (hV : 0 < V.length → ∃ b o, a = some ⟨b, o, none⟩ ∧ cellsAt w b o (vflat V)) (hg : ∀ x ∈ V, good S x = true) :
    Calls Tryd.prog 15 #[.pointer (some ⟨hp, 0, none⟩), .slice a V.length c] w fun e w' => ∃ Z, e = .returned (.tuple #[.int .i64 (tot Z : Nat), .nilIface]) ∧ Below w.heap.size w w' ∧ Cnt S V Z [] := by
  refine (Vg.Reach.calls (R := fun x w' => ∃ Z, x = .tuple #[.int .i64 (tot Z : Nat), .nilIface] ∧ Below w.heap.size w w' ∧ Cnt S V Z []) ?_).mono (fun x w' ⟨v, h1, Z, h2, h3⟩ => ⟨Z, by rw [h1, h2], h3⟩)
  unfold Vg.Reach.W
  have hlt := lt_of_block h.blk
  have hVs : Vsl w a V := fun j hj => by
    obtain ⟨b, o, e, hc⟩ := hV (by omega)
    exact ⟨b, o, e, vflat_at hc hj⟩
  have hall : V.all (good S) = true := List.all_eq_true.2 hg
  refine (goods_spec h a c V hVs (by omega)).mono ?_
  rintro _ w4 ⟨rfl, hb4⟩
  rw [hall]
  refine ⟨_, rfl, ifN (fun h => nomatch h) (fun _ => ?_)⟩
  have s4 := hb4.size
  refine box fun w9 at9 hb9 hs9 => ?_
  have b9 : Below w.heap.size w w9 := hb4.trans (hb9.mono s4)
  refine (Clone_spec w9 a c V hl fun hpos => ?_).mono ?_
  · obtain ⟨b, o, e, hc⟩ := hV hpos
    have hne : vflat V ≠ [] := fun e' => by have := vflat_length V; rw [e'] at this; simp at this; omega
    obtain ⟨u, us, e2⟩ := List.exists_cons_of_ne_nil hne
    exact ⟨b, o, e, cellsAt_below b9 (by rw [e2] at hc; exact cellsAt_lt hc) hc⟩
  rintro _ w10 ⟨a12, c14, rfl, hb10, own10⟩
  have b10 : Below w.heap.size w w10 := b9.trans (hb10.mono (by omega))
  have s10 := hb10.size
  have at10 := block_below hb10 (by omega) at9
  refine ⟨_, _, _, rfl, fun us w2 => ∃ (Z : Mov) (todo : List Val) (a' : Option Addr) (c' : Nat), us = [.int .i64 (tot Z : Nat), .slice a' todo.length c'] ∧ Cnt S V Z todo ∧ w2.ownsRow w9.heap.size 30 2 (.slice a' todo.length c') todo.length (vflat todo) ∧
      IMap w2 w4.heap.size (Z.map fun x => (x.1 : Int)) ∧ Below w.heap.size w w2 ∧ w9.heap.size ≤ w2.heap.size ∧ todo.length ≤ 1000000 + 8 * tot Z,
    fun us _ => match us with | [.int _ z, .slice _ n _] => (used S - z.toNat) * 2 + n | _ => 0, ⟨[], V, a12, c14, rfl, .start hg, own10, ⟨#[], 0, at10, rfl⟩, b10, by omega, by simp [tot]; omega⟩, ?_⟩
  rintro _ us w17 ⟨Z, todo, a21, c23, rfl, hcnt, own17, map17, b17, s17, hlen⟩
  have hfit := h.fits
  have hm1 := h.most1
  have hZ := hcnt.mv.tot_le h.nd
  refine ⟨_, _, _, _, rfl, ifD (fun hpos => ?_) (fun hz => ?_)⟩
  · obtain ⟨t, x, rfl⟩ : ∃ t x, todo = t ++ [x] := by
      rcases List.eq_nil_or_concat todo with e | ⟨t, x, e⟩
      · subst e; simp at hpos
      · exact ⟨t, x, by rw [e]; simp⟩
    have hlt1 : (t ++ [x]).length = t.length + 1 := by simp
    obtain ⟨a', c', e', hcell⟩ := own_vals own17 rfl
    cases e'
    obtain ⟨g, rfl, hg0, hg1, hc⟩ := hcell t.length (by omega)
    have ew : IntKind.i64.wrap (((t ++ [x]).length : Int) - 1) = (t.length : Int) := by rw [hlt1, w64 (by omega) (by omega)]; omega
    rw [ew]
    have ex : (t ++ [x])[t.length]'(by omega) = x := by simp
    rw [ex] at hc
    have own17' := own_drop own17
    have hcap : t.length ≤ c23 := by obtain ⟨_, _, e, h1, _⟩ := own_slice own17; cases e; omega
    refine ⟨g, 0, rfl, by omega, by omega, x.ref, x.n, (by simpa [Val.cs] using hc), copyStep rfl rfl fun w29 at29 hb29 hs29 => ?_⟩
    have h29 := (h.below b17).below hb29
    have b29 : Below w.heap.size w w29 := b17.trans (hb29.mono b17.size)
    have own29 := own_below own17' hb29 (Nat.le_refl _)
    have map29 : IMap w29 w4.heap.size (Z.map fun x => (x.1 : Int)) := by
      obtain ⟨es, ck, hb, he⟩ := map17
      exact ⟨es, ck, block_below hb29 (by omega) hb, he⟩
    have tn : ((t.length : Nat) : Int).toNat = t.length := by simp
    rw [tn]
    have back : ∀ (w' : World) (P : Prop), Below w17.heap.size w17 w' → (Cnt S V Z t) → True := fun _ _ _ _ => trivial
    have skip : (x.ref = true → (pos Z x.n.toNat).isSome = true) → (∃ (Z' : Mov) (todo : List Val) (a' : Option Addr) (c' : Nat), [Value.int .i64 (tot Z : Nat), .slice (cutA (some ⟨g, 0, none⟩) 0 c23 2) t.length c23] = [.int .i64 (tot Z' : Nat), .slice a' todo.length c'] ∧ Cnt S V Z' todo ∧ w29.ownsRow w9.heap.size 30 2 (.slice a' todo.length c') todo.length (vflat todo) ∧
      IMap w29 w4.heap.size (Z'.map fun x => (x.1 : Int)) ∧ Below w.heap.size w w29 ∧ w9.heap.size ≤ w29.heap.size ∧ todo.length ≤ 1000000 + 8 * tot Z') := fun hx =>
      ⟨Z, t, _, _, rfl, hcnt.skip hx, own29, map29, b29, by omega, by omega⟩
    refine ⟨by omega, by omega, _, cell_of_block at29 rfl, ifN (fun hr => ⟨skip fun k => absurd (k.symm.trans hr) (by decide), by simp only [hlt1]; omega⟩) (fun hr => ?_)⟩
    have xgood : good S x = true := hcnt.good x (by simp)
    have xgood' : good S ⟨true, x.n⟩ = true := by have e : x = ⟨true, x.n⟩ := by cases x; simp at hr; simp [hr]
                                                  rw [← e]; exact xgood
    have hx0 : 0 ≤ x.n := by
      simp only [good, Bool.not_true, Bool.false_or, Bool.and_eq_true, decide_eq_true_eq] at xgood'
      exact xgood'.1
    have hmem : decide (x.n ∈ Z.map fun x => (x.1 : Int)) = (pos Z x.n.toNat).isSome := by
      rw [Bool.eq_iff_iff, decide_eq_true_iff, pos_mem]
      constructor
      · intro hm
        obtain ⟨y, hy, e⟩ := List.mem_map.1 hm
        exact ⟨y.2, by have : x.n.toNat = y.1 := by omega
                       rw [this]; exact hy⟩
      · rintro ⟨s, hs⟩
        exact List.mem_map.2 ⟨_, hs, by simp only; omega⟩
    refine ⟨_, cell_of_block at29 rfl, _, lookup_int map92 (zero4 _) Tryd.underlying3 map29, ?_⟩
    rw [hmem]
    refine ifB (fun hin => ⟨skip fun _ => hin, by simp only [hlt1]; omega⟩) (fun hnew => ?_)
    have hpn : pos Z x.n.toNat = none := by cases hp' : pos Z x.n.toNat with | none => rfl | some q => rw [hp'] at hnew; cases hnew
    have hnm : x.n ∉ Z.map fun x => (x.1 : Int) := by rw [hnew] at hmem; exact of_decide_eq_false hmem
    obtain ⟨w34, hr34, map34, hs34, same34, chg34⟩ := update_int (P := Tryd.prog) map92 Tryd.underlying3 map29 hnm
    refine ⟨_, cell_of_block at29 rfl, w34, hr34, drewStep fun w35 e35 hb35 => ?_⟩
    have b34 : Below w.heap.size w w34 := b29.trans (chg34.below (B := w.heap.size) (by omega) fun k hk e => by omega)
    have b35 : Below w.heap.size w w35 := b34.trans (hb35.mono b34.size)
    have h35 := h.below b35
    have at35 : w35.heap[w17.heap.size]? = _ := (congrArg (fun h => h[w17.heap.size]?) e35).trans ((same34 _ (by omega)).trans at29)
    obtain ⟨s, g', c', hs, hm, h0, hle, ev, hc', hh⟩ := is_at h35 xgood'
    have own35 : w35.ownsRow w9.heap.size 30 2 (.slice (cutA (some ⟨g, 0, none⟩) 0 c23 2) t.length c23) t.length (vflat t) := by
      refine own_block own29 fun k hk => (congrArg (fun h => h[k]?) e35).trans (same34 k ?_)
      have := own29.lt k hk; omega
    have map35 : IMap w35 w4.heap.size (Z.map (fun x => (x.1 : Int)) ++ [x.n]) := by
      obtain ⟨es, ck, hb, he⟩ := map34
      exact ⟨es, ck, (congrArg (fun h => h[w4.heap.size]?) e35).trans hb, he⟩
    have spos := s.size_pos
    subst ev
    refine ⟨_, _, rfl, _, _, _, cell_of_block h35.blk rfl, _, cell_of_block at35 rfl, g', 0, rfl, h0, by omega, _, hc', _, _, rfl, _, cell_of_block hh rfl, _, cell_of_block at35 rfl, ?_⟩
    refine (hargs_spec h35 x.n s xgood' hs).mono ?_
    rintro _ w49 ⟨a51, c53, rfl, e49, hb49, hargs⟩
    have s35 : w35.heap.size = w34.heap.size := by rw [e35]
    have s49 : w49.heap.size = w35.heap.size := by rw [e49]
    have own49 : w49.ownsRow w9.heap.size 30 2 (.slice (cutA (some ⟨g, 0, none⟩) 0 c23 2) t.length c23) t.length (vflat t) := own_block own35 fun k _ => by rw [e49]
    have map49 : w49.heap[w4.heap.size]? = w35.heap[w4.heap.size]? := by rw [e49]
    have b49 : Below w.heap.size w w49 := b35.trans (hb49.mono b35.size)
    have sok := h.ok s hm
    have h8 : s.args.length ≤ 8 := sok.2.2.1
    have hpush := hcnt.push h.cl hr hs hpn
    have htot : tot (Z ++ [(x.n.toNat, s)]) = tot Z + s.size := by rw [tot_append]; simp [tot]
    have hZ' := hpush.mv.tot_le h.nd
    have hsz : s.size = 1 + s.args.length := rfl
    refine ⟨_, _, _, rfl, fun us w2 => ∃ (j : Nat) (a' : Option Addr) (c' : Nat), j ≤ s.args.length ∧ us = [.slice a' (t.length + j) c', .int .i64 j] ∧ w2.ownsRow w9.heap.size 30 2 (.slice a' (t.length + j) c') (t.length + j) (vflat (t ++ s.args.take j)) ∧ w2.heap[w4.heap.size]? = w35.heap[w4.heap.size]? ∧
        Chg (fun k => w9.heap.size ≤ k) w49 w2,
      fun us _ => match us with | [_, .int _ j] => s.args.length - j.toNat | _ => 0, ⟨0, _, c23, Nat.zero_le _, rfl, by simpa using own49, map49, Chg.refl _ _⟩, ?_⟩
    rintro _ us w56 ⟨j, a59, c61, hj, rfl, own56, map56, chg56⟩
    have s56 := chg56.size
    refine ⟨_, _, _, _, rfl, ifD (fun hlt' => ?_) (fun hge => ?_)⟩
    · have hjl : j < s.args.length := by omega
      obtain ⟨g2, rfl, hgo, hcell2⟩ := hargs (by omega)
      have hgg : g2 < w.heap.size := by
        have h3 := h.own
        obtain ⟨a0, c0, e0, _⟩ := h.slice
        have hlt3 := (h35.own.lt g2 hgo.symm).2
        have := h.own.lt
        have h4 := h35.own
        have : g2 < w.heap.size := (h.own.lt g2 hgo.symm).2
        exact this
      have hc2 := hcell2 j hjl
      have hc56 := cellsAt_same (chg56.block g2 (by omega) (by omega)) hc2
      refine ⟨g2, _, rfl, by omega, hlt', _, _, _, hc56, copyStep rfl rfl fun w69 at69 hb69 hs69 => ?_⟩
      refine ⟨_, _, cellsAt_of_block at69 [.bool s.args[j].ref, .int .i64 s.args[j].n] 0 rfl, box fun w72 at72 hb72 hs72 => ?_⟩
      have b72 : Below w56.heap.size w56 w72 := hb69.trans (hb72.mono (by omega))
      have own72 := own_below own56 b72 (Nat.le_refl _)
      have hbase : w9.heap.size ≤ w72.heap.size := by omega
      obtain ⟨a73, k73, c75, w76, hr76, rfl, own76, hg76, hn76⟩ := append_own (P := Tryd.prog) (ty := 33) Vg.ty33 rfl Vg.ty30 (by decide) own72 (m := 1) (c := 1) (news := [.bool s.args[j].ref, .int .i64 s.args[j].n]) rfl (cellsAt_of_block at72 [.bool s.args[j].ref, .int .i64 s.args[j].n] 0 rfl) rfl (by dsimp only; omega) (by omega) hbase
      refine ⟨_, _, _, w76, hr76, ?_⟩
      rw [w64 (x := (j : Int) + 1) (by omega) (by omega)]
      refine ⟨⟨j + 1, a73, c75, hjl, rfl, ?_, ?_, ?_⟩, by simp only; omega⟩
      · rw [List.take_succ_eq_append_getElem hjl, ← List.append_assoc, vflat, List.flatMap_append]
        exact own76
      · exact (hg76.block _ (by omega) (fun e => by have := (own72.lt _ e.symm).1; omega)).trans ((b72.block _ (by omega)).trans map56)
      · exact (chg56.trans (Chg.of_below (M := fun _ => False) b72 fun k hk _ => hk) fun k _ hk => hk.elim).trans (Chg.of_grown hg76) fun k _ hk => (own72.lt k hk.symm).1
    · have : j = s.args.length := by omega
      subst this
      rw [List.take_length] at own56
      have el : t.length + s.args.length = (t ++ s.args).length := by simp
      have hwr : IntKind.i64.wrap ((tot Z : Nat) + (s.size : Nat) : Int) = ((tot (Z ++ [(x.n.toNat, s)]) : Nat) : Int) := by rw [htot, w64 (by omega) (by omega)]; omega
      rw [hwr]
      refine ⟨⟨Z ++ [(x.n.toNat, s)], t ++ s.args, a59, c61, by rw [el], hpush, by rw [← el]; exact own56, ?_, ?_, by omega, by rw [htot, ← el]; rw [hlt1] at hlen; omega⟩, ?_⟩
      · obtain ⟨es, ck, hb, he⟩ := map35
        refine ⟨es, ck, map56.trans hb, ?_⟩
        rw [he, List.map_append]
        simp [Int.toNat_of_nonneg hx0]
      · exact b49.trans (chg56.below (B := w.heap.size) (by omega) fun k hk e => by omega)
      · simp only [hlt1]
        rw [htot] at hZ' ⊢
        simp only [Int.toNat_natCast]
        omega
  · have e : todo = [] := List.eq_nil_of_length_eq_zero (by omega)
    subst e
    exact ⟨Z, rfl, b17, hcnt⟩

end Go.Proofs.YtfenhbjamohdgaaDoor.Vf
