/- Data: what the bytes of a datum are, and that 'put' writes them. -/
import Derived.Test.YtkplhlciocbecaaDoorD1S
namespace Go.Vx.Da
open Go.RowKit

/-- byte j of a number -/
def ib (n : Int) (j : Nat) : UInt8 := UInt8.ofNat (((n % 18446744073709551616).toNat / 2 ^ (8 * j)) % 256)
def encI (n : Int) : List UInt8 := (List.range 8).map (ib n)

theorem ib_cell (n : Int) (j : Nat) (hj : j < 8) : IntKind.u8.wrap (Int.fdiv (IntKind.u64.wrap n) (2 ^ min ((8 * j : Nat) : Int).toNat IntKind.u64.bits)) = ((ib n j).toNat : Int) := by
  have h1 : min ((8 * j : Nat) : Int).toNat IntKind.u64.bits = 8 * j := by
    rw [Int.toNat_natCast]
    have : IntKind.u64.bits = 64 := rfl
    omega
  rw [h1, wu64_mod, w8_mod, Int.fdiv_eq_ediv_of_nonneg _ (Int.le_of_lt (Int.pow_pos (by decide)))]
  unfold ib
  rw [UInt8.toNat_ofNat_of_lt' (Nat.mod_lt _ (by decide))]
  have h2 : ((n % 18446744073709551616).toNat : Int) = n % 18446744073709551616 := Int.toNat_of_nonneg (Int.emod_nonneg _ (by decide))
  rw [Int.natCast_emod, Int.natCast_ediv, h2, Int.natCast_pow]
  rfl

mutual
def enc : D → Option (List UInt8)
  | ⟨c, i, s, ys⟩ => match c with
    | false => some (0 :: encI i)
    | true => if 1 ≤ s.size ∧ s.size ≤ 32 ∧ ys.length ≤ 8 then (match encL ys with
      | some r => some ([1, UInt8.ofNat s.size] ++ s.data.toList ++ [UInt8.ofNat ys.length] ++ r)
      | none => none) else none
def encL : List D → Option (List UInt8)
  | [] => some []
  | a :: r => match enc a with
    | some x => match encL r with
      | some y => some (x ++ y)
      | none => none
    | none => none
end

theorem enc_int {d : D} (h : d.ctor = false) : enc d = some (0 :: encI d.int) := by
  obtain ⟨c, i, s, ys⟩ := d
  subst h
  rfl
theorem enc_ctor {d : D} (h : d.ctor = true) : enc d = if 1 ≤ d.name.size ∧ d.name.size ≤ 32 ∧ d.args.length ≤ 8 then (match encL d.args with
      | some r => some ([1, UInt8.ofNat d.name.size] ++ d.name.data.toList ++ [UInt8.ofNat d.args.length] ++ r)
      | none => none) else none := by
  obtain ⟨c, i, s, ys⟩ := d
  subst h
  rfl

theorem encL_take_some : ∀ (l : List D) (j : Nat) (h : j < l.length) (r x : List UInt8), encL (l.take j) = some r → enc l[j] = some x → encL (l.take (j + 1)) = some (r ++ x)
  | a :: l, 0, _, r, x, h1, h2 => by
    simp only [List.take_zero, encL, Option.some.injEq] at h1
    subst h1
    simp only [List.getElem_cons_zero] at h2
    simp [encL, h2]
  | a :: l, j + 1, h, r, x, h1, h2 => by
    simp only [List.take_succ_cons, encL] at h1 ⊢
    cases ha : enc a with
    | none => rw [ha] at h1; cases h1
    | some y =>
      rw [ha] at h1
      dsimp only at h1 ⊢
      cases hl : encL (l.take j) with
      | none => rw [hl] at h1; cases h1
      | some z =>
        rw [hl] at h1
        cases h1
        rw [encL_take_some l j (by simpa using h) z x hl h2]
        simp

theorem encL_none : ∀ (l : List D) (j : Nat) (h : j < l.length), enc l[j] = none → encL l = none
  | a :: l, 0, _, h2 => by
    simp only [List.getElem_cons_zero] at h2
    simp [encL, h2]
  | a :: l, j + 1, h, h2 => by
    have := encL_none l j (by simpa using h) h2
    simp only [encL, this]
    cases enc a <;> rfl

theorem encI_length (n : Int) : (encI n).length = 8 := by simp [encI]

theorem enc_length : ∀ (k : Nat) (d : D), SizeOf.sizeOf d < k → ∀ bs, enc d = some bs → bs.length ≤ 35 * nodes d := by
  intro k
  induction k with
  | zero => intro d h; omega
  | succ k ih =>
    intro d hk bs h
    cases hc : d.ctor with
    | false =>
      rw [enc_int hc] at h
      cases h
      rw [nodes_int hc]
      simp [encI_length]
    | true =>
      rw [enc_ctor hc] at h
      rw [nodes_ctor hc]
      split at h
      · rename_i hs
        cases hl : encL d.args with
        | none => rw [hl] at h; cases h
        | some r =>
          rw [hl] at h
          cases h
          have hr : ∀ (l : List D), (∀ a ∈ l, a ∈ d.args) → ∀ r, encL l = some r → r.length ≤ 35 * nodesL l := by
            intro l
            induction l with
            | nil => intro _ r hr; simp only [encL, Option.some.injEq] at hr; subst hr; simp
            | cons a l ihl =>
              intro hm r hr
              simp only [encL] at hr
              cases ha : enc a with
              | none => rw [ha] at hr; cases hr
              | some x =>
                rw [ha] at hr
                dsimp only at hr
                cases hl : encL l with
                | none => rw [hl] at hr; cases hr
                | some y =>
                  rw [hl] at hr
                  cases hr
                  have h1 := ihl (fun b hb => hm b (by simp [hb])) y hl
                  have h2 : SizeOf.sizeOf a < SizeOf.sizeOf d := by
                    obtain ⟨j, hj, he⟩ := List.getElem_of_mem (hm a (by simp))
                    rw [← he]; exact sizeOf_arg d j hj
                  have h3 := ih a (by omega) x ha
                  simp only [nodesL, List.length_append]
                  omega
          have := hr d.args (fun _ h => h) r hl
          have e1 : d.name.data.toList.length = d.name.size := by simp
          simp only [List.length_append, List.length_cons, List.length_nil, e1]
          omega
      · cases h

end Go.Vx.Da

namespace Go.Proofs.YtkplhlciocbecaaDoor.Vf
open Go.Vx Go.Vx.Da Go.RowKit

theorem zero5 : (Tryd.prog.info? 5).bind (·.zero) = some (.int .u8 0) := by kernel_rfl

/-- what 'put' comes to -/
def PutPost (base : Nat) (w : World) (v : Value) (n : Nat) (xs : List Value) (d : D) (vE : Value) (e : Ending) (w' : World) : Prop :=
  w.grownBy w' v.ownBlock ∧ ((∃ bs a k c, enc d = some bs ∧ e = .returned (.tuple #[.slice a k c, .nilIface]) ∧ k = n + bs.length ∧ w'.ownsRow base 5 1 (.slice a k c) k (xs ++ bv bs) ∧ Nxt w.heap.size v (.slice a k c)) ∨
    (enc d = none ∧ e = .returned (.tuple #[.slice none 0 0, vE])))

theorem put_spec (tE : Nat) (xE : Value) : ∀ (k : Nat) (d : D), SizeOf.sizeOf d < k → ∀ (B base : Nat) (w : World) (vs : List Value) (a : Option Addr) (n c : Nat) (xs : List Value), Rep B w d vs → B ≤ base → base ≤ w.heap.size →
    w.ownsRow base 5 1 (.slice a n c) n xs → n + 35 * nodes d ≤ 1000000 → w.cell? ⟨2, 0, none⟩ = some (.iface tE xE) → 2 < base →
    Calls Tryd.prog 26 #[.slice a n c, .agg vs.toArray] w fun e w' => PutPost base w (.slice a n c) n xs d (.iface tE xE) e w' := by
  intro k
  induction k with
  | zero => intro d h; omega
  | succ k ih =>
  intro d hk B base w vs a0 n c xs hr hB hbase hown hsz hE h2b
  obtain ⟨a, m, cs, rfl, hm, ha, hrs⟩ := hr.form
  refine (put.calls (R := fun v w' => PutPost base w (.slice a0 n c) n xs d (.iface tE xE) (.returned v) w') ?_).mono (fun e w' ⟨v, h1, h2⟩ => h1 ▸ h2)
  unfold put.W
  have hn0 := nodes_pos d
  refine box fun w10 at10 hb10 hs10 => ?_
  have own10 := own_below hown hb10 (Nat.le_refl _)
  have hne : some w.heap.size ≠ (Value.slice a0 n c).ownBlock := own_ne hown (Nat.le_refl _)
  refine ⟨_, cell_of_block at10 rfl, ifN (fun hc => ?_) (fun hc => ?_)⟩
  · -- a number
    rw [nodes_int hc] at hsz
    refine box fun w12 at12 hb12 hs12 => ?_
    have own12 := own_below own10 hb12 (Nat.le_refl _)
    obtain ⟨a16, k16, d16, w16, hr16, rfl, own16, hg16, hx16⟩ := append_own (P := Tryd.prog) (ty := 30) ty30 rfl ty5 (by decide) own12 (m := 1) (c := 1) (news := [.int .u8 0]) rfl (cellsAt_of_block at12 [.int .u8 0] 0 rfl) rfl (by dsimp only; omega) (by omega) (by omega)
    refine ⟨a16, _, d16, w16, hr16, ?_⟩
    have hw12 : Below w.heap.size w w12 := hb10.trans (hb12.mono (by omega))
    have G16 : w.grownBy w16 (Value.slice a0 n c).ownBlock := then_grown hw12 hg16
    have at12' : w12.heap[w.heap.size]? = _ := block_below hb12 (by omega) at10
    have at16 := grown_block hg16 at12' hne
    refine ⟨fun us w2 => ∃ (j : Nat) (a2 : Option Addr) (k2 c2 : Nat), j ≤ 8 ∧ us = [.slice a2 k2 c2, .int .i64 (8 * j : Nat)] ∧ k2 = n + 1 + j ∧ w2.ownsRow base 5 1 (.slice a2 k2 c2) k2 (xs ++ bv (0 :: (encI d.int).take j)) ∧ w.grownBy w2 (Value.slice a0 n c).ownBlock ∧
        Nxt w.heap.size (.slice a0 n c) (.slice a2 k2 c2) ∧ w2.heap[w.heap.size]? = some (.cells #[.bool d.ctor, .int .i64 d.int, .string d.name, .slice a d.args.length m] 24 (0, 0)),
      fun us _ => match us with | [_, .int _ j] => 64 - j.toNat | _ => 0, ⟨0, a16, _, d16, by omega, rfl, rfl, own16, G16, hx16.elim (fun h => .inl h) (fun ⟨k, h1, h2⟩ => .inr ⟨k, by omega, h2⟩), at16⟩, ?_⟩
    rintro _ us w19 ⟨j, a2, k2, c2, hj, rfl, rfl, own19, G19, hx19, at19⟩
    refine ⟨_, _, _, _, rfl, ifD (fun hlt => ?_) (fun hge => ?_)⟩
    · have hj8 : j < 8 := by omega
      refine ⟨_, cell_of_block at19 rfl, by omega, ?_⟩
      rw [ib_cell d.int j hj8]
      refine box fun w27 at27 hb27 hs27 => ?_
      have own27 := own_below own19 hb27 (Nat.le_refl _)
      have hsz19 := G19.size
      obtain ⟨a31, k31, d31, w31, hr31, rfl, own31, hg31, hx31⟩ := append_own (P := Tryd.prog) (ty := 30) ty30 rfl ty5 (by decide) own27 (m := 1) (c := 1) (news := [.int .u8 ((ib d.int j).toNat : Int)]) rfl (cellsAt_of_block at27 [.int .u8 ((ib d.int j).toNat : Int)] 0 rfl) rfl (by dsimp only; omega) (by omega) (by omega)
      refine ⟨a31, _, d31, w31, hr31, ?_⟩
      have hx31' : Nxt w.heap.size (.slice a0 n c) (.slice a31 (n + 1 + j + 1) d31) := hx19.trans hx31 (by omega)
      have hgr : w19.grownBy w31 (Value.slice a2 (n + 1 + j) c2).ownBlock := then_grown hb27 hg31
      have G31 := grown_next G19 hgr hx19
      have at31 : w31.heap[w.heap.size]? = _ := grown_block hgr at19 (by
        rcases hx19 with h | ⟨q, h1, h2⟩
        · rw [h]; exact hne
        · have := own_ne own19 (b := q)
          intro he
          rw [h2] at he
          have := Option.some.inj he
          subst this
          obtain ⟨_, ⟨h3, _⟩ | ⟨g, cap, cur, h3, _, h4, _⟩⟩ := own19
          · rw [h3] at h2; cases h2
          · rw [h3] at h2; have := Option.some.inj h2; subst this; rw [at19] at h4; cases h4)
      rw [w64 (x := ((8 * j : Nat) : Int) + 8) (by omega) (by omega)]
      refine ⟨⟨j + 1, a31, _, d31, by omega, ?_, rfl, ?_, G31, hx31', at31⟩, ?_⟩
      · congr 2
      · have e1 : (encI d.int).take (j + 1) = (encI d.int).take j ++ [ib d.int j] := by
          rw [List.take_add_one]
          congr 1
          simp [encI, hj8]
        have e2 : xs ++ bv (0 :: (encI d.int).take (j + 1)) = xs ++ bv (0 :: (encI d.int).take j) ++ [.int .u8 ((ib d.int j).toNat : Int)] := by
          rw [e1]; simp [bv]
        rw [e2]; exact own31
      · simp only [Int.toNat_natCast]; omega
    · have : j = 8 := by omega
      subst this
      have e1 : (encI d.int).take 8 = encI d.int := List.take_of_length_le (by rw [encI_length]; exact Nat.le_refl _)
      rw [e1] at own19
      exact ⟨G19, .inl ⟨_, a2, _, c2, enc_int hc, rfl, by simp [encI_length], own19, hx19⟩⟩
  · -- a constructor
    have hnn := nodes_ctor hc
    have henc := enc_ctor hc
    rw [hnn] at hsz
    have cE : ∀ w', Below w10.heap.size w10 w' → w'.cell? ⟨2, 0, none⟩ = some (.iface tE xE) := fun w' hb => cell_below (hb10.trans (hb.mono (by omega))) (by omega) hE
    have fail : ∀ w', Below w10.heap.size w10 w' → ¬ (1 ≤ d.name.size ∧ d.name.size ≤ 32 ∧ d.args.length ≤ 8) → PutPost base w (.slice a0 n c) n xs d (.iface tE xE) (.returned (.tuple #[.slice none 0 0, .iface tE xE])) w' :=
      fun w' hb hno => ⟨grown_below (hb10.trans (hb.mono (by omega))), .inr ⟨by rw [henc, if_neg hno], rfl⟩⟩
    refine ⟨_, cell_of_block at10 rfl, ifD (fun h => ?_) (fun hs1 => ?_)⟩
    · exact drewStep fun w33 _ hb33 => ⟨_, cE _ hb33, fail _ hb33 (by omega)⟩
    refine ⟨_, cell_of_block at10 rfl, ifD (fun h => ?_) (fun hs2 => ?_)⟩
    · exact drewStep fun w33 _ hb33 => ⟨_, cE _ hb33, fail _ hb33 (by omega)⟩
    refine ⟨_, _, _, cell_of_block at10 rfl, ifD (fun h => ?_) (fun hs3 => ?_)⟩
    · exact drewStep fun w33 _ hb33 => ⟨_, cE _ hb33, fail _ hb33 (by omega)⟩
    have hok : 1 ≤ d.name.size ∧ d.name.size ≤ 32 ∧ d.args.length ≤ 8 := by omega
    rw [if_pos hok] at henc
    refine ⟨_, cell_of_block at10 rfl, box fun w44 at44 hb44 hs44 => ?_⟩
    rw [w8 (x := (d.name.size : Int)) (by omega) (by omega)] at at44
    have own44 := own_below own10 hb44 (Nat.le_refl _)
    obtain ⟨a48, k48, d48, w48, hr48, rfl, own48, hg48, hx48⟩ := append_own (P := Tryd.prog) (ty := 30) ty30 rfl ty5 (by decide) own44 (m := 2) (c := 2) (news := [.int .u8 1, .int .u8 (d.name.size : Int)]) rfl (cellsAt_of_block at44 [.int .u8 1, .int .u8 (d.name.size : Int)] 0 rfl) rfl (by dsimp only; omega) (by omega) (by omega)
    refine ⟨a48, _, d48, w48, hr48, ?_⟩
    have at44' : w44.heap[w.heap.size]? = _ := block_below hb44 (by omega) at10
    have at48 := grown_block hg48 at44' hne
    have G48 : w.grownBy w48 (Value.slice a0 n c).ownBlock := then_grown (hb10.trans (hb44.mono (by omega))) hg48
    have X48 : Nxt w.heap.size (.slice a0 n c) (.slice a48 (n + 2) d48) := hx48.elim (fun h => .inl h) (fun ⟨k, h1, h2⟩ => .inr ⟨k, by omega, h2⟩)
    refine ⟨_, cell_of_block at48 rfl, ?_⟩
    -- the block of the parameter is no row of bytes
    have par : ∀ {w2 : World} {v2 : Value} {n2 : Nat} {xs2 : List Value}, w2.ownsRow base 5 1 v2 n2 xs2 → w2.heap[w.heap.size]? = some (.cells #[.bool d.ctor, .int .i64 d.int, .string d.name, .slice a d.args.length m] 24 (0, 0)) → some w.heap.size ≠ v2.ownBlock := by
      intro w2 v2 n2 xs2 ho hat he
      obtain ⟨_, ⟨rfl, _⟩ | ⟨g, cap, cur, rfl, _, h4, _⟩⟩ := ho
      · cases he
      · have := Option.some.inj he
        change w.heap.size = g at this
        rw [← this, hat] at h4
        cases h4
    have hs48 := G48.size
    obtain ⟨a53, k53, d53, w53, hr53, rfl, own53, hg53, hx53⟩ := append_str (P := Tryd.prog) (ty := 30) ty30 rfl ty9 rfl ty5 zero5 rfl rfl own48 d.name (by omega) (by omega)
    refine ⟨a53, _, d53, w53, hr53, ?_⟩
    have at53 := grown_block hg53 at48 (par own48 at48)
    have G53 := grown_next G48 hg53 X48
    have X53 := X48.trans hx53 (by omega)
    have hs53 := G53.size
    refine ⟨_, _, _, cell_of_block at53 rfl, box fun w57 at57 hb57 hs57 => ?_⟩
    rw [w8 (x := (d.args.length : Int)) (by omega) (by omega)] at at57
    have own57 := own_below own53 hb57 (Nat.le_refl _)
    obtain ⟨a61, k61, d61, w61, hr61, rfl, own61, hg61, hx61⟩ := append_own (P := Tryd.prog) (ty := 30) ty30 rfl ty5 (by decide) own57 (m := 1) (c := 1) (news := [.int .u8 (d.args.length : Int)]) rfl (cellsAt_of_block at57 [.int .u8 (d.args.length : Int)] 0 rfl) rfl (by dsimp only; omega) (by omega) (by omega)
    refine ⟨a61, _, d61, w61, hr61, ?_⟩
    have at57' : w57.heap[w.heap.size]? = _ := block_below hb57 (by
      rcases Nat.lt_or_ge w.heap.size w53.heap.size with h | h
      · exact h
      · rw [Array.getElem?_eq_none h] at at53; cases at53) at53
    have at61 := grown_block hg61 at57' (par own57 at57')
    have hg61' : w53.grownBy w61 (Value.slice a53 (n + 2 + d.name.size) d53).ownBlock := then_grown hb57 hg61
    have G61 := grown_next G53 hg61' X53
    have X61 := X53.trans hx61 (by omega)
    refine ⟨_, _, _, cell_of_block at61 rfl, ?_⟩
    refine ⟨fun us w2 => ∃ (j : Nat) (a2 : Option Addr) (k2 c2 : Nat) (r : List UInt8), j ≤ d.args.length ∧ us = [.slice a2 k2 c2, .int .i64 (j : Nat)] ∧ encL (d.args.take j) = some r ∧ k2 = n + 3 + d.name.size + r.length ∧ r.length ≤ 35 * nodesL (d.args.take j) ∧
        w2.ownsRow base 5 1 (.slice a2 k2 c2) k2 (xs ++ bv ([1, UInt8.ofNat d.name.size] ++ d.name.data.toList ++ [UInt8.ofNat d.args.length] ++ r)) ∧ w.grownBy w2 (Value.slice a0 n c).ownBlock ∧
        Nxt w.heap.size (.slice a0 n c) (.slice a2 k2 c2) ∧ w2.heap[w.heap.size]? = some (.cells #[.bool d.ctor, .int .i64 d.int, .string d.name, .slice a d.args.length m] 24 (0, 0)),
      fun us _ => match us with | [_, .int _ j] => d.args.length - j.toNat | _ => 0, ⟨0, a61, _, d61, [], by omega, rfl, rfl, by simp; omega, by simp, ?_, G61, X61, at61⟩, ?_⟩
    · have e1 : (n + 2 + d.name.size + 1) = n + 3 + d.name.size + ([] : List UInt8).length := by simp; omega
      have e2 : xs ++ [.int .u8 1, .int .u8 (d.name.size : Int)] ++ Lib.strCells d.name ++ [.int .u8 (d.args.length : Int)] = xs ++ bv ([1, UInt8.ofNat d.name.size] ++ d.name.data.toList ++ [UInt8.ofNat d.args.length] ++ []) := by
        have u1 : (UInt8.ofNat d.name.size).toNat = d.name.size := UInt8.toNat_ofNat_of_lt' (show _ < 256 by omega)
        have u2 : (UInt8.ofNat d.args.length).toNat = d.args.length := UInt8.toNat_ofNat_of_lt' (show _ < 256 by omega)
        have u3 : (1 : UInt8).toNat = 1 := rfl
        rw [strCells_bv]
        simp only [bv, List.append_nil, List.map_append, List.map_cons, List.map_nil, u1, u2, u3, List.append_assoc]
        rfl
      rw [← e2]
      exact own61
    rintro _ us w67 ⟨j, a2, k2, c2, r, hj, rfl, hej, rfl, hrl, own67, G67, X67, at67⟩
    refine ⟨_, _, _, _, rfl, ifD (fun hlt => ?_) (fun hge => ?_)⟩
    · have hlt' : j < d.args.length := by omega
      have hs67 := G67.size
      have hbB : Below base w w67 := own_grown hown G67 (Nat.le_refl _) hbase
      obtain ⟨b, o, rfl, hbl, hcells⟩ := ha j hlt'
      obtain ⟨a', m', cs', hcs', _⟩ := (hrs j hlt').form
      have hc67 := cellsAt_below hbB (by omega) hcells
      have hr67 := (hrs j hlt').kept hbB hB
      rw [hcs'] at hc67 hr67
      have ht := nodesL_take d.args j hlt'
      have hle := nodesL_take_le d.args (j + 1)
      refine ⟨b, o, rfl, by omega, hlt, _, _, _, _, _, _, hc67, copyStep rfl rfl fun w83 at83 hb83 hs83 => ?_⟩
      refine ⟨_, _, _, _, _, _, cellsAt_of_block at83 [.bool d.args[j].ctor, .int .i64 d.args[j].int, .string d.args[j].name, .slice a' d.args[j].args.length m'] 0 rfl, ?_⟩
      have own83 := own_below own67 hb83 (Nat.le_refl _)
      have at83' : w83.heap[w.heap.size]? = _ := block_below hb83 (by
        rcases Nat.lt_or_ge w.heap.size w67.heap.size with h | h
        · exact h
        · rw [Array.getElem?_eq_none h] at at67; cases at67) at67
      refine (ih d.args[j] (by have := sizeOf_arg d j hlt'; omega) B base w83 _ a2 _ c2 _ (hr67.kept hb83 (by omega)) hB (by omega) own83 (by omega) (cell_below (hbB.trans (hb83.mono (by omega))) h2b hE) h2b).mono ?_
      rintro e w90 ⟨hg90, hpost⟩
      have hg90' : w67.grownBy w90 (Value.slice a2 (n + 3 + d.name.size + r.length) c2).ownBlock := then_grown hb83 hg90
      have G90 := grown_next G67 hg90' X67
      rcases hpost with ⟨bs, a92, k92, c92, heb, rfl, rfl, own90, X90⟩ | ⟨heb, rfl⟩
      · refine ⟨_, _, _, _, rfl, true, .inl ⟨rfl, rfl⟩, ?_⟩
        have at90 := grown_block hg90 at83' (par own83 at83')
        have hlen := enc_length _ d.args[j] (Nat.lt_succ_self _) bs heb
        show _ ∧ _
        rw [w64 (x := (j : Int) + 1) (by omega) (by omega)]
        refine ⟨⟨j + 1, a92, _, c92, r ++ bs, hlt', rfl, encL_take_some d.args j hlt' r bs hej heb, by simp; omega, by simp; omega, ?_, G90, X67.trans X90 (by omega), at90⟩, ?_⟩
        · have e2 : xs ++ bv ([1, UInt8.ofNat d.name.size] ++ d.name.data.toList ++ [UInt8.ofNat d.args.length] ++ (r ++ bs)) = xs ++ bv ([1, UInt8.ofNat d.name.size] ++ d.name.data.toList ++ [UInt8.ofNat d.args.length] ++ r) ++ bv bs := by
            rw [← List.append_assoc _ r bs, bv_append (_ ++ r) bs, ← List.append_assoc]
          rw [e2]; exact own90
        · simp only [Int.toNat_natCast]; omega
      · refine ⟨_, _, _, _, rfl, false, .inr ⟨_, _, rfl, rfl⟩, ?_⟩
        exact ⟨G90, .inr ⟨by rw [henc, encL_none d.args j hlt' heb], rfl⟩⟩
    · have : j = d.args.length := by omega
      subst this
      rw [List.take_length] at hej
      exact ⟨G67, .inl ⟨_, a2, _, c2, by rw [henc, hej], rfl, by simp; omega, own67, X67⟩⟩

end Go.Proofs.YtkplhlciocbecaaDoor.Vf
