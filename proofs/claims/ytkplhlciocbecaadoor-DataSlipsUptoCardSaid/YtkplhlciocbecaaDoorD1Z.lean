/- augurlaw10.DataSlips at the model's run. -/
import Derived.Test.YtkplhlciocbecaaDoorD1X
namespace Go.Vx.Da
theorem gr_fuel : ∀ (k : Nat) {l : List UInt8} {x : D × List UInt8}, gr k l = some x → gr (k + 1) l = some x := by
  intro k
  induction k with
  | zero => intro l x h; cases h
  | succ k ih =>
  intro l x h
  obtain ⟨d, r⟩ := x
  rcases gr_form h with ⟨b, t, rfl, hb, ht, rfl⟩ | ⟨b, s, nm, c, q, ds, rfl, hb, hs, h0, h2, hc, hm, rfl⟩
  · have e1 : (t ++ r).take 8 = t := by rw [← ht]; exact List.take_left
    have e2 : (t ++ r).drop 8 = r := by rw [← ht]; exact List.drop_left
    rw [gr_00 hb (by simp; omega), e1, e2]
  · have key : ∀ (n : Nat) {q : List UInt8} {x : List D × List UInt8}, many (gr k) n q = some x → many (gr (k + 1)) n q = some x := by
      intro n
      induction n with
      | zero => intro q x h; exact h
      | succ n ihn =>
        intro q x h
        obtain ⟨y, h1, h2⟩ := Option.bind_eq_some_iff.1 h
        obtain ⟨z, h3, rfl⟩ := Option.map_eq_some_iff.1 h2
        exact many_snoc (d := z.1) (r' := z.2) (ihn h1) (ih h3)
    rw [gr_ctor hb hs h0 h2 hc, key _ hm]; rfl
theorem gr_more {k : Nat} {l : List UInt8} {x : D × List UInt8} (h : gr k l = some x) : ∀ {m : Nat}, k ≤ m → gr m l = some x := by
  intro m
  induction m with
  | zero => intro hk; have : k = 0 := by omega
            subst this; exact h
  | succ m ih =>
    intro hk
    rcases Nat.lt_or_ge m k with h1 | h1
    · have : k = m + 1 := by omega
      subst this; exact h
    · exact gr_fuel m (ih h1)
theorem enc_ne {d : D} {bs : List UInt8} (h : enc d = some bs) : 0 < bs.length := by
  obtain ⟨d', h1, _⟩ := enc_gr bs.length d bs [] h (Nat.le_refl _)
  have := gr_lt h1
  simp at this; exact this
end Go.Vx.Da

namespace Go.Proofs.YtkplhlciocbecaaDoor.Vf
open Go.Vx Go.Vx.Da Go.RowKit

theorem tmod_cut (n : Int) (m : Nat) (h0 : 0 < m) (h1 : m ≤ 1048576) : ∃ k : Nat, k < m ∧ Int.tmod (IntKind.i64.wrap (Int.tmod n (m : Int) + (m : Int))) (m : Int) = (k : Int) := by
  have a1 : Int.tmod n (m : Int) < m := Int.tmod_lt_of_pos n (by omega)
  have a2 : -(m : Int) < Int.tmod n (m : Int) := by
    have := Int.tmod_lt_of_pos (-n) (b := (m : Int)) (by omega)
    rw [Int.neg_tmod] at this; omega
  rw [w64 (x := Int.tmod n (m : Int) + (m : Int)) (by omega) (by omega)]
  have a3 := Int.tmod_nonneg (m : Int) (a := Int.tmod n (m : Int) + (m : Int)) (by omega)
  have a4 := Int.tmod_lt_of_pos (Int.tmod n (m : Int) + (m : Int)) (b := (m : Int)) (by omega)
  exact ⟨(Int.tmod (Int.tmod n (m : Int) + (m : Int)) (m : Int)).toNat, by omega, by omega⟩

set_option maxHeartbeats 1000000 in
theorem DataSlips_spec (tE : Nat) (xL xD : Value) (aB : Addr) (d : D) (n : Int) (M : List UInt8) (B : Nat) (w : World) (vs : List Value) (a : Option Addr) (c : Nat) (hr : Rep B w d vs) (hs : Bsl B w a M c) (hB : B ≤ w.heap.size) (hM : M.length ≤ 1048576) (hg : Glob w tE xL xD) (hE : w.cell? ⟨0, 0, none⟩ = some (.iface 64 (.pointer (some aB)))) :
    Calls Tryd.prog 6 #[.agg vs.toArray, .int .i64 n, .slice a M.length c] w fun x w' => x = .returned (.bool true) ∧ Below w.heap.size w w' := by
  obtain ⟨a0, m0, cs, rfl, _⟩ := hr.form
  refine (Vg.DataSlips.calls (R := fun v w' => v = .bool true ∧ Below w.heap.size w w') ?_).mono (fun x w' ⟨v, h1, h2, h3⟩ => ⟨by rw [h1, h2], h3⟩)
  unfold Vg.DataSlips.W
  have h3 := hg.size
  refine box fun w11 at11 hb11 hs11 => ?_
  refine (alive_spec tE xL xD w11 (hg.kept hb11)).mono ?_
  rintro _ w12 ⟨rfl, hb12⟩
  have b12 := hb11.trans (hb12.mono (by omega))
  have s12 := hb12.size
  refine ⟨_, rfl, ifN (fun h => nomatch h) (fun _ => ?_)⟩
  refine ⟨_, _, _, _, _, _, cellsAt_of_block (block_below hb12 (by omega) at11) [.bool d.ctor, .int .i64 d.int, .string d.name, .slice a0 d.args.length m0] 0 rfl, ?_⟩
  refine (Encode_spec tE xL xD d B w12 _ (hr.kept b12 hB) (by omega) (hg.kept b12)).mono ?_
  rintro e w21 ⟨hb21, ⟨_, rfl⟩ | ⟨_, _, rfl⟩ | ⟨bs, a1, k1, c1, hgd, he, rfl, rfl, ho⟩⟩
  · exact ⟨_, _, _, _, rfl, false, .inr ⟨_, _, rfl, rfl⟩, ifN (fun _ => ⟨rfl, b12.trans (hb21.mono (by omega))⟩) (fun h => nomatch h)⟩
  · exact ⟨_, _, _, _, rfl, false, .inr ⟨_, _, rfl, rfl⟩, ifN (fun _ => ⟨rfl, b12.trans (hb21.mono (by omega))⟩) (fun h => nomatch h)⟩
  have b21 := b12.trans (hb21.mono (by omega))
  have s21 := hb21.size
  refine ⟨_, _, _, _, rfl, true, .inl ⟨rfl, rfl⟩, ifN (fun h => nomatch h) (fun _ => ?_)⟩
  have hbl := enc_length _ d (Nat.lt_succ_self _) bs he
  have hnd : nodes d ≤ 4096 := by have := hgd; simp only [good, decide_eq_true_eq] at this; exact this.1
  have hb0 := enc_ne he
  obtain ⟨k, hk, ek⟩ := tmod_cut n bs.length hb0 (by omega)
  rw [ek]
  -- the bytes
  have hown : ∃ g, a1 = some ⟨g, 0, none⟩ ∧ g < w21.heap.size ∧ cellsAt w21 g 0 (bv bs) ∧ bs.length ≤ c1 ∧ c1 ≤ maxLen := by
    obtain ⟨hxl, ⟨h, h'⟩ | ⟨g, cap, cur, h, hg', hh, hc1, hc2, hc3, htake⟩⟩ := ho
    · omega
    · cases h
      refine ⟨g, rfl, lt_of_block hh, cellsAt_of_block hh _ 0 ?_, hc1, hc2⟩
      rw [List.drop_zero, hxl]; exact htake
  obtain ⟨g, rfl, hg1, hcell, hc1, hc2⟩ := hown
  have hsl : Bsl w21.heap.size w21 (some ⟨g, 0, none⟩) bs c1 := ⟨hc1, fun _ => ⟨g, 0, rfl, hg1, hcell⟩⟩
  refine ⟨rfl, by omega, rfl, by omega, by omega, by omega, ?_⟩
  rw [Int.toNat_natCast]
  have hlk : (bs.take k).length = k := by rw [List.length_take]; omega
  have hd1 := Decode_spec w21 w21.heap.size (cutA (some ⟨g, 0, none⟩) 0 c1 1) c1 (bs.take k) _ ((hsl.head c1 k (by omega) (Nat.le_refl _))) (Nat.le_refl _) (by omega) hc2 (cell_below b21 (by omega) hE) (by omega)
  rw [hlk] at hd1
  refine hd1.mono ?_
  rintro _ w28 ⟨v28, rfl, hb28, hp28⟩
  have b28 := b21.trans (hb28.mono (by omega))
  have s28 := hb28.size
  have pre : ∃ (b30 : Bool) (n31 : Int) (s32 : ByteArray) (a33 : Option Addr) (m34 c35 : Nat), v28 = .tuple #[.agg #[.bool b30, .int .i64 n31, .string s32, .slice a33 m34 c35], .iface 64 (.pointer (some aB))] := by
    rcases hp28 with ⟨d', vs', h1, h2, rfl, h4⟩ | ⟨h1, rfl⟩
    · exfalso
      obtain ⟨d2, h5, _⟩ := enc_gr bs.length d bs [] he (Nat.le_refl _)
      rw [List.append_nil] at h5
      have h6 := gr_mono _ (bs.drop k) h1
      rw [List.take_append_drop, List.nil_append, hlk] at h6
      have h7 := gr_more h5 (m := bs.length + k + 1) (by omega)
      have h8 := gr_more h6 (m := bs.length + k + 1) (by omega)
      rw [h7] at h8
      simp only [Option.some.injEq, Prod.mk.injEq] at h8
      have := congrArg List.length h8.2
      rw [List.length_drop] at this
      simp at this; omega
    · exact ⟨_, _, _, _, _, _, rfl⟩
  obtain ⟨b30, n31, s32, a33, m34, c35, rfl⟩ := pre
  refine ⟨_, _, _, _, _, _, _, rfl, copyStep rfl rfl fun w38 at38 hb38 hs38 => ?_⟩
  have b38 := b28.trans (hb38.mono (by omega))
  refine box fun w39 at39 hb39 hs39 => ?_
  have b39 := b38.trans (hb39.mono (by omega))
  have hc39 : cellsAt w39 g 0 (bv bs) := cellsAt_same ((hb39.block g (by omega)).trans ((hb38.block g (by omega)).trans (hb28.block g hg1))) hcell
  have own39 : w39.ownsRow w38.heap.size 5 1 (.slice (some ⟨w38.heap.size, 0, none⟩) 0 0) 0 [] := ⟨by simp, .inr ⟨w38.heap.size, 0, _, rfl, Nat.le_refl _, at39, Nat.le_refl _, by simp [maxLen], by simp, by simp⟩⟩
  obtain ⟨a40, k40, c40, w43, hr43, rfl, ho43, hg43, _⟩ := append_own (P := Tryd.prog) (ty := 30) ty30 rfl ty5 (by decide) own39 (m := bs.length) (c := c1) (news := bv bs) (by rw [bv_length]; exact (Nat.mul_one _).symm) hc39 (bv_one bs) (by dsimp only; omega) (by omega) (by omega)
  rw [List.nil_append, Nat.zero_add] at ho43
  rw [Nat.zero_add] at hr43
  have hb43 : Below w38.heap.size w39 w43 := own_grown own39 hg43 (Nat.le_refl _) (by omega)
  have b43 := b39.trans (hb43.mono (by omega))
  have s43 := hb43.size
  refine ⟨_, _, _, w43, hr43, ?_⟩
  have hs43 := hs.kept (w' := w43) fun k hk => b43.block k (by omega)
  obtain ⟨a44, k44, c44, w47, hr47, rfl, ho47, hg47, _⟩ := append_in (P := Tryd.prog) (ty := 30) ty30 rfl ty5 (by decide) ho43 (a := a) (m := M.length) (c := c) (news := bv M) (by rw [bv_length]; exact (Nat.mul_one _).symm) (fun h => by obtain ⟨b, o, h1, _, h2⟩ := hs43.2 h; exact ⟨b, o, h1, h2⟩) (bv_one M) (by dsimp only; omega) (by omega) (by omega)
  have hb47 : Below w38.heap.size w43 w47 := own_grown ho43 hg47 (Nat.le_refl _) (by omega)
  have b47 := b43.trans (hb47.mono (by omega))
  have s47 := hb47.size
  refine ⟨_, _, _, w47, hr47, ?_⟩
  rw [← bv_append] at ho47
  have hsl47 : Bsl w47.heap.size w47 a44 (bs ++ M) c44 ∧ c44 ≤ maxLen := by
    obtain ⟨hxl, ⟨h, h'⟩ | ⟨g, cap, cur, h, hg', hh, hc1, hc2, hc3, htake⟩⟩ := ho47
    · omega
    · cases h
      refine ⟨⟨by rw [List.length_append]; exact hc1, fun _ => ⟨g, 0, rfl, lt_of_block hh, cellsAt_of_block hh _ 0 ?_⟩⟩, hc2⟩
      rw [List.drop_zero, hxl]; exact htake
  have hd2 := Decode_spec w47 w47.heap.size a44 c44 (bs ++ M) _ hsl47.1 (Nat.le_refl _) (by rw [List.length_append]; omega) hsl47.2 (cell_below b47 (by omega) hE) (by omega)
  rw [List.length_append] at hd2
  refine hd2.mono ?_
  rintro _ w48 ⟨v48, rfl, hb48, hp48⟩
  have b48 := b47.trans (hb48.mono (by omega))
  have s48 := hb48.size
  obtain ⟨d2, h5, h6, h7⟩ := enc_gr bs.length d bs M he (Nat.le_refl _)
  have h8 := gr_more h5 (m := (bs ++ M).length + 1) (by rw [List.length_append]; omega)
  have fin : ∀ (w58 : World) (E : Value), Below w.heap.size w w58 → ((M = [] ∧ E = .nilIface) ∨ (0 < M.length ∧ E = .iface 64 (.pointer (some aB)))) →
      (∃ (v59 : Value), World.cell? w58 ⟨0, 0, none⟩ = some v59 ∧ (∃ (r60 : Bool), Runs Tryd.prog (semEq .eql 33 (.tmp 48) (.tmp 49) (.iface 64 (.pointer (some aB))) v59) w58 (.bool r60) w58 ∧ (bif r60 then (∃ (v61 : Value), World.cell? w58 ⟨0, 0, none⟩ = some v61 ∧ (∃ (r62 : Bool), Runs Tryd.prog (semEq .eql 33 (.tmp 52) (.tmp 53) E v61) w58 (.bool r62) w58 ∧ (Value.bool (r62 == (decide ((M.length : Int) > (0 : Int)))) = .bool true ∧ Below w.heap.size w w58))) else (Value.bool false = .bool true ∧ Below w.heap.size w w58)))) := by
    intro w58 E hb h
    have hc0 := cell_below hb (by omega) hE
    refine ⟨_, hc0, true, bytes_eq _ _ _ _, ?_⟩
    refine ⟨_, hc0, ?_⟩
    rcases h with ⟨rfl, rfl⟩ | ⟨h, rfl⟩
    · exact ⟨false, bytes_nil _ _ _ _, rfl, hb⟩
    · exact ⟨true, bytes_eq _ _ _ _, by rw [decide_eq_true (by omega)]; rfl, hb⟩
  rcases hp48 with ⟨d', vs', h1, h2, rfl, h4⟩ | ⟨h1, rfl⟩
  · rw [h8] at h1
    simp only [Option.some.injEq, Prod.mk.injEq] at h1
    obtain ⟨a2, m2, rfl⟩ := h4.form
    refine ⟨_, _, _, _, _, _, _, rfl, copyStep rfl rfl fun w58 at58 hb58 hs58 => ?_⟩
    exact fin w58 _ (b48.trans (hb58.mono (by omega))) (.inl ⟨h1.2, rfl⟩)
  · refine ⟨_, _, _, _, _, _, _, rfl, copyStep rfl rfl fun w58 at58 hb58 hs58 => ?_⟩
    refine fin w58 _ (b48.trans (hb58.mono (by omega))) (.inr ⟨?_, rfl⟩)
    rcases Nat.eq_zero_or_pos M.length with h0 | h0
    · have : M = [] := List.eq_nil_of_length_eq_zero h0
      subst this
      have := h1 _ h8
      have hgd' : good d2 = true := by
        have := hgd
        simp only [good, decide_eq_true_eq] at this ⊢
        omega
      rw [hgd'] at this; cases this
    · exact h0

end Go.Proofs.YtkplhlciocbecaaDoor.Vf
