/- Data: Decode, the reference's Decode, Same, Bytes, Kept. -/
import Derived.Test.YtkplhlciocbecaaDoorD1M
import Derived.Test.YtkplhlciocbecaaDoorVxM
namespace Go.Proofs.YtkplhlciocbecaaDoor.Vf
open Go.Vx Go.Vx.Da Go.RowKit

/-- what a decoder tells -/
def DecPost (w : World) (L : List UInt8) (yes no : Value) (v : Value) (w' : World) : Prop :=
  Below w.heap.size w w' ∧ ((∃ d vs, gr (L.length + 1) L = some (d, []) ∧ good d = true ∧ v = .tuple #[.agg vs.toArray, yes] ∧ RepI (fun b => w.heap.size ≤ b ∧ b < w'.heap.size) w' d vs) ∨
    ((∀ d, gr (L.length + 1) L = some (d, []) → good d = false) ∧ v = .tuple #[.agg #[.bool false, .int .i64 0, .string ⟨#[]⟩, .slice none 0 0], no]))

theorem good_of {d : D} (h : 1 + (depth d : Int) ≤ 201) (h' : 0 + (nodes d : Int) ≤ 4096) : good d = true := decide_eq_true (by omega)
theorem bad_of {d : D} (h : 201 < 1 + (depth d : Int) ∨ 4096 < 0 + (nodes d : Int)) : good d = false := decide_eq_false (by omega)

theorem Decode_spec (w : World) (B : Nat) (a : Option Addr) (c : Nat) (L : List UInt8) (E : Value) (hs : Bsl B w a L c) (hB : B ≤ w.heap.size) (hL : L.length ≤ 4194304) (hcm : c ≤ maxLen) (hE : w.cell? ⟨0, 0, none⟩ = some E) (h0 : 0 < w.heap.size) :
    Calls Tryd.prog 14 #[.slice a L.length c] w fun e w' => ∃ v, e = .returned v ∧ DecPost w L .nilIface E v w' := by
  refine Vg.Decode.calls (R := fun v w' => DecPost w L .nilIface E v w') ?_
  unfold Vg.Decode.W
  refine box fun w4 at4 hb4 hs4 => box fun w5 at5 hb5 hs5 => ?_
  have b5 : Below w.heap.size w w5 := hb4.trans (hb5.mono (by omega))
  have res5 := block_below hb5 (by omega) at4
  have hrd : Rd B w4.heap.size w5 L 0 := ⟨by omega, a, c, at5, hs.kept fun k hk => b5.block k (by omega), hcm⟩
  refine (rdata_spec (L.length + 1) L (by omega) B w4.heap.size w5 1 0 hrd (by omega) hL (by omega) (by omega) (by omega) (by omega)).mono ?_
  rintro _ w6 ⟨_, rfl, hg6, hpost⟩
  have s6 := hg6.size
  have b6 : Below w.heap.size w w6 := ⟨hg6.os.trans b5.os, hg6.tape.trans b5.tape, hg6.output.trans b5.output, by omega, fun k hk => (hg6.block k (by omega) (fun e => by have := Option.some.inj e; omega)).trans (b5.block k hk)⟩
  have res6 := (hg6.block w.heap.size (by omega) (fun e => by have := Option.some.inj e; omega)).trans res5
  have no : ∀ w', w'.heap[w.heap.size]? = some (.cells #[.bool false, .int .i64 0, .string ⟨#[]⟩, .slice none 0 0] 24 (0, 0)) → Below w.heap.size w w' → (∀ d, gr (L.length + 1) L = some (d, []) → good d = false) →
      withW (World.drew w') fun w17 => (∃ (v18 : Value), World.cell? w17 ⟨0, 0, none⟩ = some v18 ∧ (canSt w17 w.heap.size 0 [(.bool false), (.int .i64 0), (.string (⟨#[]⟩ : ByteArray)), (.slice none 0 0)] ∧ withW (setL w17 w.heap.size 0 [(.bool false), (.int .i64 0), (.string (⟨#[]⟩ : ByteArray)), (.slice none 0 0)]) fun w19 =>
 (cellsAt w19 0 0 [v18] ∧ (∃ (b20 : Bool) (n21 : Int) (s22 : ByteArray) (a23 : Option Addr) (m24 c25 : Nat), cellsAt w19 w.heap.size 0 [(.bool b20), (.int .i64 n21), (.string s22), (.slice a23 m24 c25)] ∧ (DecPost w L .nilIface E (.tuple #[(.agg #[(.bool b20), (.int .i64 n21), (.string s22), (.slice a23 m24 c25)]), v18]) w19))))) := by
    intro w' h1 h2 h3
    refine drewStep fun w17 e17 hb17 => ?_
    have b17 : Below w.heap.size w w17 := h2.trans (hb17.mono h2.size)
    have r17 : w17.heap[w.heap.size]? = _ := e17 ▸ h1
    refine ⟨_, cell_below b17 h0 hE, fillStep r17 rfl rfl fun w19 at19 same19 hsz19 hg19 => ?_⟩
    have b19 : Below w.heap.size w w19 := ⟨hg19.os.trans b17.os, hg19.tape.trans b17.tape, hg19.output.trans b17.output, by have := b17.size; omega, fun j hj => (same19 j (by omega)).trans (b17.block j hj)⟩
    exact ⟨⟨cell_below b19 h0 hE, trivial⟩, _, _, _, _, _, _, cellsAt_of_block at19 [.bool false, .int .i64 0, .string (⟨#[]⟩ : ByteArray), .slice none 0 0] 0 rfl, b19, .inr ⟨h3, rfl⟩⟩
  rcases hpost with ⟨d, rest, vs, hg2, hdep, hnod, rfl, hrep, hrd2⟩ | ⟨hno, n, rfl⟩
  · obtain ⟨a2, m2, rfl⟩ := hrep.form
    refine ⟨_, _, _, _, _, _, _, rfl, box fun w15 at15 hb15 hs15 => fillStep at15 rfl rfl fun w16 at16 same16 hsz16 hg16 => ?_⟩
    have hb16 : Below w6.heap.size w6 w16 := ⟨hg16.os.trans hb15.os, hg16.tape.trans hb15.tape, hg16.output.trans hb15.output, by omega, fun j hj => (same16 j (by omega)).trans (hb15.block j (by omega))⟩
    have b16 : Below w.heap.size w w16 := b6.trans (hb16.mono (by omega))
    have r16 := block_below hb16 (by omega) res6
    refine ifN (fun h => nomatch h) (fun _ => ?_)
    obtain ⟨_, a3, c3, hrc, _⟩ := hrd2.kept (w' := w16) (hb16.block _ (by omega)) (fun k hk => hb16.block k (by omega))
    refine ⟨_, _, rfl, _, _, _, cell_of_block hrc rfl, ifD (fun hgt => no _ r16 b16 fun d' hd' => ?_) (fun hle => ?_)⟩
    · rw [hg2] at hd'; cases hd'
      exact absurd hgt (by simp)
    · have : rest = [] := List.eq_nil_of_length_eq_zero (by omega)
      subst this
      refine ⟨_, _, _, _, _, _, cellsAt_of_block at16 [.bool d.ctor, .int .i64 d.int, .string d.name, .slice a2 d.args.length m2] 0 rfl, fillStep r16 rfl rfl fun w46 at46 same46 hsz46 hg46 => ?_⟩
      refine ⟨_, _, _, _, _, _, cellsAt_of_block at46 [.bool d.ctor, .int .i64 d.int, .string d.name, .slice a2 d.args.length m2] 0 rfl, ?_⟩
      refine ⟨⟨hg46.os.trans b16.os, hg46.tape.trans b16.tape, hg46.output.trans b16.output, by have := b16.size; omega, fun j hj => (same46 j (by omega)).trans (b16.block j hj)⟩, .inl ⟨d, _, hg2, good_of hdep hnod, rfl, ?_⟩⟩
      refine ((hrep.kept (w' := w46) fun b hb => (same46 b (by omega)).trans (hb16.block b (by omega)))).mono fun b hb => ⟨by omega, by omega⟩
  · refine ⟨_, _, _, _, _, _, _, rfl, box fun w15 at15 hb15 hs15 => fillStep at15 rfl rfl fun w16 at16 same16 hsz16 hg16 => ?_⟩
    have hb16 : Below w6.heap.size w6 w16 := ⟨hg16.os.trans hb15.os, hg16.tape.trans hb15.tape, hg16.output.trans hb15.output, by omega, fun j hj => (same16 j (by omega)).trans (hb15.block j (by omega))⟩
    refine ifN (fun _ => no _ (block_below hb16 (by omega) res6) (b6.trans (hb16.mono (by omega))) fun d' hd' => bad_of (hno _ _ hd')) (fun h => nomatch h)

theorem refDecode_spec (w : World) (B : Nat) (a : Option Addr) (c : Nat) (L : List UInt8) (hs : Bsl B w a L c) (hB : B ≤ w.heap.size) (hL : L.length ≤ 1048576) :
    Calls Tryd.prog 15 #[.slice a L.length c] w fun e w' => ∃ v, e = .returned v ∧ DecPost w L (.bool true) (.bool false) v w' := by
  refine Vg.refDecode.calls (R := fun v w' => DecPost w L (.bool true) (.bool false) v w') ?_
  unfold Vg.refDecode.W
  refine box fun w4 at4 hb4 hs4 => ?_
  have no : ∀ w', w'.heap[w.heap.size]? = some (.cells #[.bool false, .int .i64 0, .string ⟨#[]⟩, .slice none 0 0] 24 (0, 0)) → Below w.heap.size w w' → (∀ d, gr (L.length + 1) L = some (d, []) → good d = false) →
      (canSt w' w.heap.size 0 [(.bool false), (.int .i64 0), (.string (⟨#[]⟩ : ByteArray)), (.slice none 0 0)] ∧ withW (setL w' w.heap.size 0 [(.bool false), (.int .i64 0), (.string (⟨#[]⟩ : ByteArray)), (.slice none 0 0)]) fun w19 =>
 (∃ (b20 : Bool) (n21 : Int) (s22 : ByteArray) (a23 : Option Addr) (m24 c25 : Nat), cellsAt w19 w.heap.size 0 [(.bool b20), (.int .i64 n21), (.string s22), (.slice a23 m24 c25)] ∧ (DecPost w L (.bool true) (.bool false) (.tuple #[(.agg #[(.bool b20), (.int .i64 n21), (.string s22), (.slice a23 m24 c25)]), .bool false]) w19))) := by
    intro w' h1 h2 h3
    refine fillStep h1 rfl rfl fun w19 at19 same19 hsz19 hg19 => ?_
    have b19 : Below w.heap.size w w19 := ⟨hg19.os.trans h2.os, hg19.tape.trans h2.tape, hg19.output.trans h2.output, by have := h2.size; omega, fun j hj => (same19 j (by omega)).trans (h2.block j hj)⟩
    exact ⟨_, _, _, _, _, _, cellsAt_of_block at19 [.bool false, .int .i64 0, .string (⟨#[]⟩ : ByteArray), .slice none 0 0] 0 rfl, b19, .inr ⟨h3, rfl⟩⟩
  refine (get_spec (L.length + 1) L (by omega) B w4 a c L 0 1 rfl (by omega) hL (hs.kept fun k hk => hb4.block k (by omega)) (by omega) (by omega) (by omega)).mono ?_
  rintro _ w5 ⟨_, rfl, hb5, hpost⟩
  have b5 : Below w.heap.size w w5 := hb4.trans (hb5.mono (by omega))
  have r5 := block_below hb5 (by omega) at4
  have s5 := hb5.size
  rcases hpost with ⟨d, rest, vs, hg2, hdep, rfl, hrep⟩ | ⟨hno, rfl⟩
  · obtain ⟨a2, m2, rfl⟩ := hrep.form
    refine ⟨_, _, _, _, _, _, _, rfl, box fun w14 at14 hb14 hs14 => fillStep at14 rfl rfl fun w15 at15 same15 hsz15 hg15 => ?_⟩
    have hb15 : Below w5.heap.size w5 w15 := ⟨hg15.os.trans hb14.os, hg15.tape.trans hb14.tape, hg15.output.trans hb14.output, by omega, fun j hj => (same15 j (by omega)).trans (hb14.block j (by omega))⟩
    have b15 : Below w.heap.size w w15 := b5.trans (hb15.mono (by omega))
    have r15 := block_below hb15 (by omega) r5
    have hlt := gr_lt hg2
    refine ifNE (fun hne => no _ r15 b15 fun d' hd' => ?_) (fun heq => ?_)
    · rw [hg2] at hd'; cases hd'
      exact absurd (by simp) hne
    · have : rest = [] := List.eq_nil_of_length_eq_zero (by omega)
      subst this
      refine ⟨_, _, _, _, _, _, cellsAt_of_block at15 [.bool d.ctor, .int .i64 d.int, .string d.name, .slice a2 d.args.length m2] 0 rfl, ?_⟩
      have hrep15 := hrep.kept (w' := w15) fun b hb => hb15.block b (by omega)
      refine (refGood_spec d w5.heap.size w15 _ (hrep15.rep fun b hb => hb.2) (by omega)).mono ?_
      rintro _ w29 ⟨rfl, hb29⟩
      have b29 : Below w.heap.size w w29 := b15.trans (hb29.mono (by omega))
      have r29 := block_below hb29 (by omega) r15
      have at29 := block_below hb29 (by omega) at15
      have s29 := hb29.size
      refine ⟨_, rfl, ifN (fun hgd => no _ r29 b29 fun d' hd' => ?_) (fun hgd => ?_)⟩
      · rw [hg2] at hd'; cases hd'; exact hgd
      · refine ⟨_, _, _, _, _, _, cellsAt_of_block at29 [.bool d.ctor, .int .i64 d.int, .string d.name, .slice a2 d.args.length m2] 0 rfl, fillStep r29 rfl rfl fun w45 at45 same45 hsz45 hg45 => ?_⟩
        refine ⟨_, _, _, _, _, _, cellsAt_of_block at45 [.bool d.ctor, .int .i64 d.int, .string d.name, .slice a2 d.args.length m2] 0 rfl, ?_⟩
        refine ⟨⟨hg45.os.trans b29.os, hg45.tape.trans b29.tape, hg45.output.trans b29.output, by have := b29.size; omega, fun j hj => (same45 j (by omega)).trans (b29.block j hj)⟩, .inl ⟨d, _, hg2, hgd, rfl, ?_⟩⟩
        exact (hrep15.kept (w' := w45) fun b hb => (same45 b (by omega)).trans (hb29.block b (by omega))).mono fun b hb => ⟨by omega, by omega⟩
  · refine ⟨_, _, _, _, _, _, _, rfl, box fun w14 at14 hb14 hs14 => fillStep at14 rfl rfl fun w15 at15 same15 hsz15 hg15 => ?_⟩
    have hb15 : Below w5.heap.size w5 w15 := ⟨hg15.os.trans hb14.os, hg15.tape.trans hb14.tape, hg15.output.trans hb14.output, by omega, fun j hj => (same15 j (by omega)).trans (hb14.block j (by omega))⟩
    refine ifNE (fun _ => no _ (block_below hb15 (by omega) r5) (b5.trans (hb15.mono (by omega))) fun d' hd' => bad_of (.inl (hno _ _ hd'))) (fun h => absurd h (by omega))

theorem Same_spec (d e : D) (B : Nat) (w : World) (vs us : List Value) (hr : Rep B w d vs) (hr' : Rep B w e us) (hn : nodes d ≤ 4096) (hB : B ≤ w.heap.size) :
    Calls Tryd.prog 16 #[.agg vs.toArray, .agg us.toArray] w fun x w' => x = .returned (.bool (cmpD d e == 0)) ∧ Below w.heap.size w w' := by
  obtain ⟨a, m, cs, rfl, _⟩ := hr.form
  obtain ⟨a', m', cs', rfl, _⟩ := hr'.form
  refine (Vg.Same.calls (R := fun v w' => v = .bool (cmpD d e == 0) ∧ Below w.heap.size w w') ?_).mono (fun x w' ⟨v, h1, h2, h3⟩ => ⟨by rw [h1, h2], h3⟩)
  unfold Vg.Same.W
  refine box fun w13 at13 hb13 hs13 => box fun w14 at14 hb14 hs14 => ?_
  have b14 : Below w.heap.size w w14 := hb13.trans (hb14.mono (by omega))
  refine ⟨_, _, _, _, _, _, cellsAt_of_block (block_below hb14 (by omega) at13) [.bool d.ctor, .int .i64 d.int, .string d.name, .slice a d.args.length m] 0 rfl, _, _, _, _, _, _, cellsAt_of_block at14 [.bool e.ctor, .int .i64 e.int, .string e.name, .slice a' e.args.length m'] 0 rfl, ?_⟩
  refine (refCompare_spec _ d (Nat.lt_succ_self _) e B w14 _ _ (hr.kept b14 hB) (hr'.kept b14 hB) hn (by omega)).mono ?_
  rintro _ w' ⟨rfl, hb⟩
  exact ⟨_, rfl, rfl, b14.trans (hb.mono (by omega))⟩

theorem conv_bsl {w : World} {B : Nat} {a : Option Addr} {L : List UInt8} {c : Nat} (hs : Bsl B w a L c) : Runs Tryd.prog (convert 30 9 (.slice a L.length c)) w (.string ⟨L.toArray⟩) w := by
  rcases Nat.eq_zero_or_pos L.length with h0 | h0
  · have : L = [] := List.eq_nil_of_length_eq_zero h0
    subst this
    exact conv_empty ty30 rfl ty9 rfl ty5 rfl
  · obtain ⟨b, o, rfl, _, h2⟩ := hs.2 h0
    exact conv_bytes ty30 rfl ty9 rfl ty5 rfl h2

def marks : List UInt8 := [201, 202, 203, 204, 205, 206]

/-- the marked copy -/
def Marked (w : World) (a : Option Addr) (L : List UInt8) (c : Nat) : Prop := L.length + 6 ≤ c ∧ c ≤ maxLen ∧ ∃ g, a = some ⟨g, 0, none⟩ ∧ cellsAt w g 0 (bv (L ++ marks))

theorem Bytes_spec (w : World) (B : Nat) (a : Option Addr) (c : Nat) (L : List UInt8) (hs : Bsl B w a L c) (hB : B ≤ w.heap.size) (hL : L.length ≤ 1048576) :
    Calls Tryd.prog 13 #[.slice a L.length c] w fun e w' => ∃ g c', e = .returned (.slice (some ⟨g, 0, none⟩) L.length c') ∧ w.heap.size ≤ g ∧ g < w'.heap.size ∧ Marked w' (some ⟨g, 0, none⟩) L c' ∧ Below w.heap.size w w' := by
  refine (Vg.Bytes.calls (R := fun v w' => ∃ g c', v = .slice (some ⟨g, 0, none⟩) L.length c' ∧ w.heap.size ≤ g ∧ g < w'.heap.size ∧ Marked w' (some ⟨g, 0, none⟩) L c' ∧ Below w.heap.size w w') ?_).mono (fun x w' ⟨v, h1, g, c', h2, h3⟩ => ⟨g, c', by rw [h1, h2], h3⟩)
  unfold Vg.Bytes.W
  rw [w64 (x := (L.length : Int) + 6) (by omega) (by omega)]
  refine ⟨by omega, by omega, by omega, by omega, ?_⟩
  have e6 : ((L.length : Int) + 6).toNat = L.length + 6 := by omega
  rw [e6]
  have hzs : (zerosA [.int .u8 0] (L.length + 6)).size = (L.length + 6) * 1 := by simp [zerosA]
  have own4 : ∀ w4 : World, w4.heap[w.heap.size]? = some (Obj.cells (zerosA [.int .u8 0] (L.length + 6)) 5 (0, 0)) → w4.ownsRow w.heap.size 5 1 (.slice (some ⟨w.heap.size, 0, none⟩) 0 (L.length + 6)) 0 [] := fun w4 h =>
    ⟨by simp, .inr ⟨w.heap.size, L.length + 6, _, rfl, Nat.le_refl _, h, Nat.zero_le _, by simp only [maxLen]; omega, hzs, by simp⟩⟩
  refine box fun w4 at4 hb4 hs4 => ?_
  have hs4' := hs.kept (w' := w4) fun k hk => hb4.block k (by omega)
  obtain ⟨a5, k5, c5, w8, hr5, rfl, ho5, hg5, hn5⟩ := append_in (P := Tryd.prog) (ty := 30) ty30 rfl ty5 (by decide) (own4 w4 at4) (a := a) (m := L.length) (c := c) (news := bv L) (by rw [bv_length]; exact (Nat.mul_one _).symm) (fun h => by obtain ⟨b, o, h1, _, h2⟩ := hs4'.2 h; exact ⟨b, o, h1, h2⟩) (bv_one L) (by dsimp only; omega) (by omega) (by omega)
  rw [List.nil_append, Nat.zero_add] at ho5
  refine ⟨_, _, _, w8, by rw [Nat.zero_add] at hr5; exact hr5, box fun w9 at9 hb9 hs9 => ?_⟩
  have s8 := hg5.size
  have ho9 := own_below (w' := w9) ho5 hb9 (Nat.le_refl _)
  obtain ⟨a10, k10, c10, w13, hr10, rfl, ho10, hg10, hn10⟩ := append_own (P := Tryd.prog) (ty := 30) ty30 rfl ty5 (by decide) ho9 (m := 6) (c := 6) (news := bv marks) rfl (cellsAt_of_block at9 (bv marks) 0 rfl) rfl (by dsimp only; omega) (by omega) (by omega)
  refine ⟨_, _, _, w13, hr10, ?_⟩
  have s13 := hg10.size
  rw [← bv_append] at ho10
  obtain ⟨hxl, ⟨h, _⟩ | ⟨g, cap, cur, h, hg, hh, hc1, hc2, hc3, htake⟩⟩ := ho10
  · cases h
  · cases h
    refine ⟨by omega, by omega, ?_⟩
    have ecut : cutA (some ⟨g, 0, none⟩) 0 c10 1 = some ⟨g, 0, none⟩ := by rw [cutA]; split <;> simp [Addr.add]
    rw [ecut, Int.toNat_natCast]
    refine ⟨g, c10, rfl, hg, ?_, ⟨by omega, hc2, g, rfl, cellsAt_of_block hh _ 0 ?_⟩, ?_⟩
    · rcases Nat.lt_or_ge g w13.heap.size with h | h
      · exact h
      · rw [Array.getElem?_eq_none h] at hh; cases hh
    · rw [List.drop_zero, hxl]; exact htake
    · have b8 : Below w.heap.size w4 w8 := own_grown (own4 w4 at4) hg5 (Nat.le_refl _) (by omega)
      have b13 : Below w.heap.size w9 w13 := own_grown ho9 hg10 (Nat.le_refl _) (by omega)
      exact ((hb4.trans b8).trans (hb9.mono (by omega))).trans b13

theorem Kept_spec (w : World) (B g c : Nat) (a' : Option Addr) (c' : Nat) (L : List UInt8) (hm : Marked w (some ⟨g, 0, none⟩) L c) (hs : Bsl B w a' L c') (hL : L.length ≤ 1048576) :
    Calls Tryd.prog 17 #[.slice (some ⟨g, 0, none⟩) L.length c, .slice a' L.length c'] w fun e w' => e = .returned (.bool true) ∧ Below w.heap.size w w' := by
  refine (Vg.Kept.calls (R := fun v w' => v = .bool true ∧ Below w.heap.size w w') ?_).mono (fun x w' ⟨v, h1, h2, h3⟩ => ⟨by rw [h1, h2], h3⟩)
  unfold Vg.Kept.W
  obtain ⟨hc, hcm, g', hg', hcells⟩ := hm
  cases hg'
  refine ⟨by omega, by omega, drewStep fun w7 e7 hb7 => ?_⟩
  rw [Int.toNat_natCast, w64 (x := (L.length : Int) + 6) (by omega) (by omega), Int.toNat_natCast]
  have ecut : cutA (some ⟨g, 0, none⟩) 0 c 1 = some ⟨g, 0, none⟩ := by rw [cutA]; split <;> simp [Addr.add]
  refine ifD (fun h => absurd h (by omega)) (fun _ => ⟨by omega, by omega, ⟨L.toArray⟩, ?_, ⟨L.toArray⟩, ?_, ?_⟩)
  · rw [ecut, ecut]
    refine conv_bytes ty30 rfl ty9 rfl ty5 rfl ?_
    have : cellsAt w g 0 (bv L) := by
      have h2 := cellsAt_take L.length hcells
      rw [← bv_take, List.take_left] at h2; exact h2
    exact cellsAt_same (by rw [e7]) this
  · exact conv_bsl (hs.kept (w' := w7) fun k _ => by rw [e7])
  · refine ifN (fun h => by simp at h) (fun _ => ?_)
    refine ⟨fun us w2 => ∃ j : Nat, j ≤ 6 ∧ us = [.int .i64 j] ∧ w7 = w2, fun us _ => match us with | [.int _ j] => 6 - j.toNat | _ => 0, ⟨0, by omega, rfl, rfl⟩, ?_⟩
    rintro _ us _ ⟨j, hj, rfl, rfl⟩
    refine ⟨_, rfl, ifD (fun hlt => ?_) (fun hge => ⟨rfl, hb7⟩)⟩
    rw [ecut, w64 (x := (L.length : Int) + (j : Int)) (by omega) (by omega), w64 (x := 201 + (j : Int)) (by omega) (by omega), w64 (x := (j : Int) + 1) (by omega) (by omega)]
    have hj6 : j < marks.length := by show j < 6; omega
    have hcell : w7.cell? ⟨g, 0 + ((L.length : Int) + (j : Int)).toNat * 1, none⟩ = some (.int .u8 (marks[j].toNat : Int)) := by
      have e : ((L.length : Int) + (j : Int)).toNat = L.length + j := by omega
      rw [e, Nat.mul_one]
      have := cellsAt_cell (cellsAt_same (w' := w7) (by rw [e7]) hcells) (j := L.length + j) (v := .int .u8 (marks[j].toNat : Int)) (by
        simp only [bv, List.getElem?_map]
        rw [List.getElem?_append_right (by omega), show L.length + j - L.length = j by omega, List.getElem?_eq_getElem hj6]; rfl)
      exact this
    have hmk : (marks[j].toNat : Int) = 201 + (j : Int) := by
      match j, hj6 with
      | 0, _ => rfl
      | 1, _ => rfl
      | 2, _ => rfl
      | 3, _ => rfl
      | 4, _ => rfl
      | 5, _ => rfl
    refine ⟨g, 0, rfl, by omega, by omega, _, hcell, ifNE (fun h => absurd ?_ h) (fun _ => ⟨⟨j + 1, by omega, rfl, rfl⟩, by simp only; omega⟩)⟩
    rw [hmk, Go.Vx.w8 (by omega) (by omega)]

end Go.Proofs.YtkplhlciocbecaaDoor.Vf
