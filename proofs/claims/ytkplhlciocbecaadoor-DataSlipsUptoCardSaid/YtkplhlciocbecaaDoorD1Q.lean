/- Data: Encode, the chapter's example, and the statement DataSizes at the model's run. -/
import Derived.Test.YtkplhlciocbecaaDoorD1P
namespace Go.Proofs.YtkplhlciocbecaaDoor.Vf
open Go.Vx Go.Vx.Da Go.RowKit

/-- the errors' variables -/
structure Glob (w : World) (tE : Nat) (xL xD : Value) : Prop where
  large : w.cell? ⟨1, 0, none⟩ = some (.iface tE xL)
  data : w.cell? ⟨2, 0, none⟩ = some (.iface tE xD)
  size : 3 ≤ w.heap.size

theorem Glob.kept {w w' : World} {tE : Nat} {xL xD : Value} (h : Glob w tE xL xD) (hb : Below w.heap.size w w') : Glob w' tE xL xD :=
  ⟨cell_below hb (by have := h.size; omega) h.large, cell_below hb (by have := h.size; omega) h.data, Nat.le_trans h.size hb.size⟩

def EncPost (w : World) (d : D) (tE : Nat) (xL xD : Value) (e : Ending) (w' : World) : Prop :=
  Below w.heap.size w w' ∧ ((good d = false ∧ e = .returned (.tuple #[.slice none 0 0, .iface tE xL])) ∨ (good d = true ∧ enc d = none ∧ e = .returned (.tuple #[.slice none 0 0, .iface tE xD])) ∨
    ∃ bs a k c, good d = true ∧ enc d = some bs ∧ e = .returned (.tuple #[.slice a k c, .nilIface]) ∧ k = bs.length ∧ w'.ownsRow w.heap.size 5 1 (.slice a k c) k (bv bs))

theorem Encode_spec (tE : Nat) (xL xD : Value) (d : D) (B : Nat) (w : World) (vs : List Value) (hr : Rep B w d vs) (hB : B ≤ w.heap.size) (hg : Glob w tE xL xD) :
    Calls Tryd.prog 18 #[.agg vs.toArray] w fun e w' => EncPost w d tE xL xD e w' := by
  obtain ⟨a, m, cs, rfl, hm, ha, hrs⟩ := hr.form
  refine (Encode.calls (R := fun v w' => EncPost w d tE xL xD (.returned v) w') ?_).mono (fun e w' ⟨v, h1, h2⟩ => h1 ▸ h2)
  unfold Encode.W
  have h3 := hg.size
  refine box fun w7 at7 hb7 hs7 => ?_
  refine ⟨_, _, _, _, _, _, cellsAt_of_block at7 [.bool d.ctor, .int .i64 d.int, .string d.name, .slice a d.args.length m] 0 rfl, ?_⟩
  refine (Good_spec d B w7 _ (hr.kept hb7 hB) (by omega)).mono ?_
  rintro e w14 ⟨rfl, hb14⟩
  have hb14' := hb7.trans (hb14.mono (by omega))
  refine ⟨_, rfl, ifN (fun hgd => ?_) (fun hgd => ?_)⟩
  · refine drewStep fun w17 _ hb17 => ?_
    have hb17' := hb14'.trans (hb17.mono hb14'.size)
    exact ⟨_, (hg.kept hb17').large, hb17', .inl ⟨hgd, rfl⟩⟩
  · have at14 := block_below hb14 (by omega) at7
    have hs14 := hb14.size
    refine ⟨_, _, _, _, _, _, cellsAt_of_block at14 [.bool d.ctor, .int .i64 d.int, .string d.name, .slice a d.args.length m] 0 rfl, ?_⟩
    have hn : nodes d ≤ 4096 := by simp only [good, decide_eq_true_eq] at hgd; exact hgd.1
    refine (put_spec tE xD _ d (Nat.lt_succ_self _) B w14.heap.size w14 _ none 0 0 [] (hr.kept hb14' hB) (by omega) (Nat.le_refl _) (World.ownsRow_nil _ _ _ _) (by omega) (hg.kept hb14').data (by omega)).mono ?_
    rintro e w25 ⟨hg25, hp⟩
    have hb25 : Below w14.heap.size w14 w25 := own_grown (World.ownsRow_nil w14 w14.heap.size 5 1) hg25 (Nat.le_refl _) (Nat.le_refl _)
    have hb25' := hb14'.trans (hb25.mono (by omega))
    rcases hp with ⟨bs, a', k, c, he, rfl, rfl, ho, _⟩ | ⟨he, rfl⟩
    · refine ⟨_, _, _, _, rfl, hb25', .inr (.inr ⟨bs, a', _, c, hgd, he, rfl, by omega, ?_⟩)⟩
      rw [List.nil_append] at ho
      obtain ⟨h1, h2⟩ := ho
      refine ⟨h1, h2.imp id ?_⟩
      rintro ⟨g, cap, cur, h3, h4, h5⟩
      exact ⟨g, cap, cur, h3, by omega, h5⟩
    · exact ⟨_, _, _, _, rfl, hb25', .inr (.inl ⟨hgd, he, rfl⟩)⟩

def nilS : ByteArray := ⟨#[110, 105, 108]⟩
def consS : ByteArray := ⟨#[99, 111, 110, 115]⟩
def exD : D := ⟨true, 0, consS, [⟨false, 1, ⟨#[]⟩, []⟩, ⟨true, 0, nilS, []⟩]⟩
def exB : List UInt8 := [1, 4, 99, 111, 110, 115, 2, 0, 1, 0, 0, 0, 0, 0, 0, 0, 1, 3, 110, 105, 108, 0]
theorem ex_enc : enc exD = some exB := by decide +kernel
theorem ex_good : good exD = true := by decide +kernel

theorem ex_rep (w1 : World) (b : Nat) (h : w1.heap[b]? = some (.cells #[.bool false, .int .i64 1, .string (⟨#[]⟩ : ByteArray), .slice none 0 0, .bool true, .int .i64 0, .string nilS, .slice none 0 0] 24 (0, 0))) :
    Rep (b + 1) w1 exD [.bool true, .int .i64 0, .string consS, .slice (some ⟨b, 0, none⟩) 2 2] := by
  refine .mk true 0 consS [⟨false, 1, ⟨#[]⟩, []⟩, ⟨true, 0, nilS, []⟩] (some ⟨b, 0, none⟩) 2 (fun j => match j with | 0 => [.bool false, .int .i64 1, .string (⟨#[]⟩ : ByteArray), .slice none 0 0] | _ => [.bool true, .int .i64 0, .string nilS, .slice none 0 0]) (Nat.le_refl _) ?_ ?_
  · intro j hj
    match j, hj with
    | 0, _ => exact ⟨b, 0, rfl, by omega, cellsAt_of_block h [.bool false, .int .i64 1, .string (⟨#[]⟩ : ByteArray), .slice none 0 0] 0 rfl⟩
    | 1, _ => exact ⟨b, 0, rfl, by omega, cellsAt_of_block h [.bool true, .int .i64 0, .string nilS, .slice none 0 0] 4 rfl⟩
  · intro j hj
    match j, hj with
    | 0, _ => exact .mk false 1 ⟨#[]⟩ [] none 0 (fun _ => []) (Nat.le_refl _) (fun j hj => by simp at hj) (fun j hj => by simp at hj)
    | 1, _ => exact .mk true 0 nilS [] none 0 (fun _ => []) (Nat.le_refl _) (fun j hj => by simp at hj) (fun j hj => by simp at hj)

theorem alive_spec (tE : Nat) (xL xD : Value) (w : World) (hg : Glob w tE xL xD) :
    Calls Tryd.prog 7 #[] w fun e w' => e = .returned (.bool true) ∧ Below w.heap.size w w' := by
  refine (alive.calls (R := fun v w' => v = .bool true ∧ Below w.heap.size w w') ?_).mono (fun e w' ⟨v, h1, h2, h3⟩ => ⟨by rw [h1, h2], h3⟩)
  unfold alive.W
  refine box fun w1 at1 hb1 hs1 => ?_
  refine (Encode_spec tE xL xD exD (w.heap.size + 1) w1 _ (ex_rep w1 w.heap.size at1) (by omega) (hg.kept hb1)).mono ?_
  rintro e w2 ⟨hb2, ⟨h, _⟩ | ⟨_, h, _⟩ | ⟨bs, a, k, c, _, he, rfl, rfl, ho⟩⟩
  · rw [ex_good] at h; cases h
  · rw [ex_enc] at h; cases h
  · rw [ex_enc] at he
    cases he
    refine ⟨_, _, _, _, rfl, true, .inl ⟨rfl, rfl⟩, ?_⟩
    refine ⟨_, conv_own ty30 rfl ty9 rfl ty5 rfl ho, ?_, hb1.trans (hb2.mono (by omega))⟩
    exact congrArg Value.bool (by decide +kernel)

theorem DataSizes_spec (tE : Nat) (xL xD : Value) (d : D) (B : Nat) (w : World) (vs : List Value) (hr : Rep B w d vs) (hB : B ≤ w.heap.size) (hg : Glob w tE xL xD) :
    Calls Tryd.prog 3 #[.agg vs.toArray] w fun e w' => e = .returned (.bool true) ∧ Below w.heap.size w w' := by
  obtain ⟨a, m, cs, rfl, hm, ha, hrs⟩ := hr.form
  refine (DataSizes.calls (R := fun v w' => v = .bool true ∧ Below w.heap.size w w') ?_).mono (fun e w' ⟨v, h1, h2, h3⟩ => ⟨by rw [h1, h2], h3⟩)
  unfold DataSizes.W
  have hn0 := nodes_pos d
  refine box fun w7 at7 hb7 hs7 => ?_
  refine (alive_spec tE xL xD w7 (hg.kept hb7)).mono ?_
  rintro e w8 ⟨rfl, hb8⟩
  refine ⟨_, rfl, ?_⟩
  show _
  have hb8' := hb7.trans (hb8.mono (by omega))
  have at8 := block_below hb8 (by omega) at7
  refine ⟨_, _, _, _, _, _, cellsAt_of_block at8 [.bool d.ctor, .int .i64 d.int, .string d.name, .slice a d.args.length m] 0 rfl, ?_⟩
  have hs8 := hb8.size
  refine (refGood_spec d B w8 _ (hr.kept hb8' hB) (by omega)).mono ?_
  rintro e w17 ⟨rfl, hb17⟩
  have hb17' := hb8'.trans (hb17.mono hb8'.size)
  have at17 := block_below hb17 (by omega) at8
  have hs17 := hb17.size
  refine ⟨_, rfl, ifN (fun hgd => ?_) (fun hgd => ?_)⟩
  · refine ⟨_, _, _, _, _, _, cellsAt_of_block at17 [.bool d.ctor, .int .i64 d.int, .string d.name, .slice a d.args.length m] 0 rfl, ?_⟩
    refine (Nodes_spec _ d (Nat.lt_succ_self _) B w17 _ (hr.kept hb17' hB) (by omega)).mono ?_
    rintro e w26 ⟨rfl, hb26⟩
    exact ⟨_, rfl, congrArg Value.bool (decide_eq_true (by omega)), hb17'.trans (hb26.mono hb17'.size)⟩
  · refine ⟨_, cell_of_block at17 rfl, ifN (fun hc => ?_) (fun hc => ?_)⟩
    · refine ⟨_, _, _, _, _, _, cellsAt_of_block at17 [.bool d.ctor, .int .i64 d.int, .string d.name, .slice a d.args.length m] 0 rfl, ?_⟩
      refine (Nodes_spec _ d (Nat.lt_succ_self _) B w17 _ (hr.kept hb17' hB) (by omega)).mono ?_
      rintro e w26 ⟨rfl, hb26⟩
      exact ⟨_, rfl, congrArg Value.bool (decide_eq_true (by omega)), hb17'.trans (hb26.mono hb17'.size)⟩
    · have hn := nodes_ctor hc
      have hgn : nodes d ≤ 4096 := by have := hgd; simp only [good, decide_eq_true_eq] at this; exact this.1
      refine ⟨_, _, _, cell_of_block at17 rfl, fun us w2 => ∃ j : Nat, j ≤ d.args.length ∧ us = [.int .i64 (1 + nodesL (d.args.take j)), .int .i64 j] ∧ Below w.heap.size w w2 ∧ w2.heap[w.heap.size]? = some (.cells #[.bool d.ctor, .int .i64 d.int, .string d.name, .slice a d.args.length m] 24 (0, 0)),
        fun us _ => match us with | [_, .int _ j] => d.args.length - j.toNat | _ => 0, ⟨0, Nat.zero_le _, rfl, hb17', at17⟩, ?_⟩
      rintro _ us w44 ⟨j, hj, rfl, hb44, at44⟩
      refine ⟨_, _, rfl, ifD (fun hlt => ?_) (fun hge => ?_)⟩
      · have hlt' : j < d.args.length := by omega
        obtain ⟨b, o, a', m', rfl, hc14, hr14⟩ := arg_at hB hb44 ha hrs hlt'
        have h14 := hb44.size
        have ht := nodesL_take d.args j hlt'
        have hle := nodesL_take_le d.args (j + 1)
        have hjn := le_take d.args hj
        refine ⟨b, o, rfl, by omega, hlt, _, _, _, _, _, _, hc14, copyStep rfl rfl fun w28 at28 hb28 hs28 => ?_⟩
        refine ⟨_, _, _, _, _, _, cellsAt_of_block at28 [.bool d.args[j].ctor, .int .i64 d.args[j].int, .string d.args[j].name, .slice a' d.args[j].args.length m'] 0 rfl, ?_⟩
        have hlt44 : w.heap.size < w44.heap.size := by
          rcases Nat.lt_or_ge w.heap.size w44.heap.size with h | h
          · exact h
          · rw [Array.getElem?_eq_none h] at at44; cases at44
        refine (Nodes_spec _ d.args[j] (Nat.lt_succ_self _) B w28 _ (hr14.kept hb28 (by omega)) (by omega)).mono ?_
        rintro e w65 ⟨rfl, hb65⟩
        refine ⟨_, rfl, ?_⟩
        rw [w64 (x := 1 + (nodesL (d.args.take j) : Int) + min (nodes d.args[j] : Int) 4097) (by omega) (by omega), w64 (x := (j : Int) + 1) (by omega) (by omega)]
        have e1 : (1 + (nodesL (d.args.take j) : Int) + min (nodes d.args[j] : Int) 4097) = 1 + (nodesL (d.args.take (j + 1)) : Int) := by omega
        refine ⟨⟨j + 1, hlt', by rw [e1]; rfl, (hb44.trans (hb28.mono h14)).trans (hb65.mono (by omega)), block_below hb65 (by omega) (block_below hb28 hlt44 at44)⟩, ?_⟩
        simp only [Int.toNat_natCast]; omega
      · have : j = d.args.length := by omega
        subst this
        rw [List.take_length]
        refine ⟨_, _, _, _, _, _, cellsAt_of_block at44 [.bool d.ctor, .int .i64 d.int, .string d.name, .slice a d.args.length m] 0 rfl, ?_⟩
        have hs44 := hb44.size
        have hlt44 : w.heap.size < w44.heap.size := by
          rcases Nat.lt_or_ge w.heap.size w44.heap.size with h | h
          · exact h
          · rw [Array.getElem?_eq_none h] at at44; cases at44
        refine (Nodes_spec _ d (Nat.lt_succ_self _) B w44 _ (hr.kept hb44 hB) (by omega)).mono ?_
        rintro e w74 ⟨rfl, hb74⟩
        have hb74' := hb44.trans (hb74.mono hs44)
        refine ⟨_, rfl, ifE (fun _ => ?_) (fun hne => absurd (by omega) hne)⟩
        have at74 := block_below hb74 hlt44 at44
        refine ⟨_, _, _, _, _, _, cellsAt_of_block at74 [.bool d.ctor, .int .i64 d.int, .string d.name, .slice a d.args.length m] 0 rfl, ?_⟩
        have hs74 := hb74.size
        refine (Good_spec d B w74 _ (hr.kept hb74' hB) (by omega)).mono ?_
        rintro e w83 ⟨rfl, hb83⟩
        exact ⟨_, rfl, by rw [hgd], hb74'.trans (hb83.mono (by omega))⟩

end Go.Proofs.YtkplhlciocbecaaDoor.Vf
