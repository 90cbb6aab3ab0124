/- Data: the bytes' grammar, in plain Lean. -/
import Derived.Test.YtkplhlciocbecaaDoorD1V
namespace Go.Vx.Da

def num8 : List UInt8 → Nat
  | [] => 0
  | b :: r => b.toNat + 256 * num8 r

def many (f : List UInt8 → Option (D × List UInt8)) : Nat → List UInt8 → Option (List D × List UInt8)
  | 0, l => some ([], l)
  | n + 1, l => (many f n l).bind fun x => (f x.2).map fun y => (x.1 ++ [y.1], y.2)

def gr : Nat → List UInt8 → Option (D × List UInt8)
  | 0, _ => none
  | _ + 1, [] => none
  | k + 1, h :: l =>
    if h.toNat = 0 then (if l.length < 8 then none else some (⟨false, IntKind.i64.wrap (num8 (l.take 8)), ⟨#[]⟩, []⟩, l.drop 8))
    else if h.toNat = 1 then match l with
      | [] => none
      | s :: l => if s.toNat < 1 ∨ 32 < s.toNat ∨ l.length < s.toNat then none else match l.drop s.toNat with
        | [] => none
        | c :: r => if 8 < c.toNat then none else (many (gr k) c.toNat r).map fun x => (⟨true, 0, ⟨(l.take s.toNat).toArray⟩, x.1⟩, x.2)
    else none

theorem many_cons (f : List UInt8 → Option (D × List UInt8)) : ∀ (n : Nat) (l : List UInt8), many f (n + 1) l = (f l).bind fun y => (many f n y.2).map fun x => (y.1 :: x.1, x.2)
  | 0, l => by
    show (f l).map (fun y => (([] : List D) ++ [y.1], y.2)) = (f l).bind fun y => (some (([] : List D), y.2)).map fun x => (y.1 :: x.1, x.2)
    cases f l <;> rfl
  | n + 1, l => by
    have ih := many_cons f n l
    show (many f (n + 1) l).bind _ = _
    rw [ih]
    cases f l with
    | none => rfl
    | some y =>
      show ((many f n y.2).map fun x => (y.1 :: x.1, x.2)).bind _ = ((many f n y.2).bind fun x => (f x.2).map fun y => (x.1 ++ [y.1], y.2)).map _
      cases many f n y.2 with
      | none => rfl
      | some x =>
        show (f x.2).map _ = ((f x.2).map _).map _
        cases f x.2 <;> rfl

theorem many_len {f : List UInt8 → Option (D × List UInt8)} : ∀ {n : Nat} {l : List UInt8} {x : List D × List UInt8}, many f n l = some x → x.1.length = n
  | 0, l, x, h => by cases h; rfl
  | n + 1, l, x, h => by
    obtain ⟨y, h1, h2⟩ := Option.bind_eq_some_iff.1 h
    obtain ⟨z, h3, rfl⟩ := Option.map_eq_some_iff.1 h2
    simp [many_len h1]

/-- once it fails, it fails -/
theorem many_none {f : List UInt8 → Option (D × List UInt8)} {j : Nat} {l : List UInt8} {x : List D × List UInt8} (h : many f j l = some x) (hf : f x.2 = none) : ∀ {n : Nat}, j < n → many f n l = none := by
  intro n
  induction n with
  | zero => intro h; omega
  | succ n ih =>
    intro hj
    rcases Nat.lt_or_ge j n with h1 | h1
    · show (many f n l).bind _ = none
      rw [ih h1]; rfl
    · have : j = n := by omega
      subst this
      show (many f j l).bind _ = none
      rw [h]
      show (f x.2).map _ = none
      rw [hf]; rfl

/-- what was read first stays -/
theorem many_pre {f : List UInt8 → Option (D × List UInt8)} {j : Nat} {l : List UInt8} {x : List D × List UInt8} (h : many f j l = some x) : ∀ {n : Nat} {z : List D × List UInt8}, j ≤ n → many f n l = some z → ∃ t, z.1 = x.1 ++ t := by
  intro n
  induction n with
  | zero =>
    intro z hj hz
    have : j = 0 := by omega
    subst this
    rw [h] at hz; cases hz
    exact ⟨[], by simp⟩
  | succ n ih =>
    intro z hj hz
    rcases Nat.lt_or_ge n j with h1 | h1
    · have : j = n + 1 := by omega
      subst this
      rw [h] at hz; cases hz
      exact ⟨[], by simp⟩
    · obtain ⟨y, h3, h2⟩ := Option.bind_eq_some_iff.1 hz
      obtain ⟨u, _, rfl⟩ := Option.map_eq_some_iff.1 h2
      obtain ⟨t, ht⟩ := ih h1 h3
      exact ⟨t ++ [u.1], by rw [ht]; simp⟩

theorem num8_lt : ∀ (l : List UInt8), num8 l < 256 ^ l.length
  | [] => by decide
  | b :: r => by
    have := num8_lt r
    have hb := b.toNat_lt
    simp only [num8, List.length_cons, Nat.pow_succ]
    omega

theorem num8_take : ∀ (l : List UInt8) (i : Nat) (h : i < l.length), num8 (l.take (i + 1)) = num8 (l.take i) + l[i].toNat * 256 ^ i
  | b :: r, 0, _ => by simp [num8]
  | b :: r, i + 1, h => by
    have hi : i < r.length := by simpa using h
    have := num8_take r i hi
    simp only [List.take_succ_cons, num8, List.getElem_cons_succ, Nat.pow_succ]
    rw [this, Nat.mul_add, ← Nat.mul_assoc, ← Nat.mul_assoc, Nat.mul_comm 256 r[i].toNat, Nat.mul_assoc r[i].toNat, Nat.mul_comm 256 (256 ^ i), ← Nat.mul_assoc]
    omega

theorem wrap_mod (N : Nat) (h : N < 18446744073709551616) : (IntKind.i64.wrap (N : Int)) % 18446744073709551616 = N := by
  unfold IntKind.wrap; simp [IntKind.signed, IntKind.bits]; omega

theorem enc_num8 {t : List UInt8} (h : t.length = 8) : encI (IntKind.i64.wrap (num8 t)) = t := by
  match t, h with
  | [a, b, c, d, e, f, g, i], _ =>
    have hN := num8_lt [a, b, c, d, e, f, g, i]
    have ha := a.toNat_lt; have hb := b.toNat_lt; have hc := c.toNat_lt; have hd := d.toNat_lt
    have he := e.toNat_lt; have hf := f.toNat_lt; have hg := g.toNat_lt; have hi := i.toNat_lt
    have hm := wrap_mod (num8 [a, b, c, d, e, f, g, i]) (by simpa using hN)
    unfold encI
    have hib : ∀ j, ib (IntKind.i64.wrap (num8 [a, b, c, d, e, f, g, i])) j = UInt8.ofNat (num8 [a, b, c, d, e, f, g, i] / 2 ^ (8 * j) % 256) := fun j => by unfold ib; rw [hm, Int.toNat_natCast]
    have key : ∀ (j : Nat) (x : UInt8), num8 [a, b, c, d, e, f, g, i] / 2 ^ (8 * j) % 256 = x.toNat → ib (IntKind.i64.wrap (num8 [a, b, c, d, e, f, g, i])) j = x := fun j x hx => by rw [hib, hx]; exact UInt8.ofNat_toNat
    simp only [num8] at key
    show [_, _, _, _, _, _, _, _] = _
    simp only [num8, List.cons.injEq, and_true]
    refine ⟨key 0 a ?_, key 1 b ?_, key 2 c ?_, key 3 d ?_, key 4 e ?_, key 5 f ?_, key 6 g ?_, key 7 i ?_⟩ <;> simp only [Nat.mul_zero, Nat.pow_zero, Nat.reduceMul, Nat.reducePow, Nat.div_one] <;> omega

theorem encL_cons {a : D} {r : List D} {x y : List UInt8} (h : enc a = some x) (h' : encL r = some y) : encL (a :: r) = some (x ++ y) := by
  simp only [encL, h, h']

theorem gr_ctor {k : Nat} {h s c : UInt8} {nm r : List UInt8} (h1 : h.toNat = 1) (hs : s.toNat = nm.length) (h0 : 1 ≤ nm.length) (h2 : nm.length ≤ 32) (h8 : c.toNat ≤ 8) :
    gr (k + 1) (h :: s :: (nm ++ c :: r)) = (many (gr k) c.toNat r).map fun x => (⟨true, 0, ⟨nm.toArray⟩, x.1⟩, x.2) := by
  have e1 : (nm ++ c :: r).drop s.toNat = c :: r := by rw [hs]; exact List.drop_left
  have e2 : (nm ++ c :: r).take s.toNat = nm := by rw [hs]; exact List.take_left
  simp only [gr]
  rw [if_neg (by omega), if_pos h1, if_neg (by simp; omega), e1, e2]
  show (if 8 < c.toNat then none else _) = _
  rw [if_neg (by omega)]

/-- all that a reading tells -/
theorem gr_form {k : Nat} {l : List UInt8} {d : D} {r : List UInt8} (h : gr (k + 1) l = some (d, r)) :
    (∃ b t, l = b :: (t ++ r) ∧ b.toNat = 0 ∧ t.length = 8 ∧ d = ⟨false, IntKind.i64.wrap (num8 t), ⟨#[]⟩, []⟩) ∨
    ∃ b s nm c q ds, l = b :: s :: (nm ++ c :: q) ∧ b.toNat = 1 ∧ s.toNat = nm.length ∧ 1 ≤ nm.length ∧ nm.length ≤ 32 ∧ c.toNat ≤ 8 ∧ many (gr k) c.toNat q = some (ds, r) ∧ d = ⟨true, 0, ⟨nm.toArray⟩, ds⟩ := by
  match l with
  | [] => cases h
  | b :: l =>
    simp only [gr] at h
    split at h
    · rename_i hb
      split at h
      · cases h
      · rename_i h8
        cases h
        exact .inl ⟨b, l.take 8, by rw [List.take_append_drop], hb, by rw [List.length_take]; omega, rfl⟩
    · split at h
      · rename_i _ hb
        split at h
        · cases h
        · rename_i s l'
          split at h
          · cases h
          · rename_i hs
            split at h
            · cases h
            · rename_i c q hq
              split at h
              · cases h
              · rename_i hc
                obtain ⟨⟨ds, r'⟩, h1, h2⟩ := Option.map_eq_some_iff.1 h
                cases h2
                have e : l' = l'.take s.toNat ++ c :: q := by rw [← hq, List.take_append_drop]
                refine .inr ⟨b, s, l'.take s.toNat, c, q, ds, by rw [← e], hb, by rw [List.length_take]; omega, by rw [List.length_take]; omega, by rw [List.length_take]; omega, by omega, h1, rfl⟩
      · cases h

theorem gr_enc : ∀ (k : Nat) {l : List UInt8} {d : D} {r : List UInt8}, gr k l = some (d, r) → ∃ bs, enc d = some bs ∧ l = bs ++ r ∧ Wf d ∧ d.args.length ≤ 8 := by
  intro k
  induction k with
  | zero => intro l d r h; cases h
  | succ k ih =>
  intro l d r h
  rcases gr_form h with ⟨b, t, rfl, hb, ht, rfl⟩ | ⟨b, s, nm, c, q, ds, rfl, hb, hs, h0, h2, hc, hm, rfl⟩
  · refine ⟨0 :: t, ?_, ?_, ?_, by simp⟩
    · rw [enc_int rfl, enc_num8 ht]
    · have : b = 0 := UInt8.toNat_inj.1 hb
      subst this; rfl
    · have h1 := wrap_mod (num8 t) (by have := num8_lt t; rw [ht] at this; simpa using this)
      refine .mk _ _ _ _ ?_ ?_ (by decide) (fun j h => by simp at h)
      all_goals (unfold IntKind.wrap; simp [IntKind.signed, IntKind.bits]; omega)
  · have key : ∀ (n : Nat) (q : List UInt8) (ds : List D), many (gr k) n q = some (ds, r) → ∃ bs, encL ds = some bs ∧ q = bs ++ r ∧ ∀ j (h : j < ds.length), Wf ds[j] := by
      intro n
      induction n with
      | zero => intro q ds h; cases h; exact ⟨[], rfl, rfl, fun j h => by simp at h⟩
      | succ n ihn =>
        intro q ds h
        rw [many_cons] at h
        obtain ⟨⟨d, q'⟩, h1, h2⟩ := Option.bind_eq_some_iff.1 h
        obtain ⟨⟨ds', r'⟩, h3, h4⟩ := Option.map_eq_some_iff.1 h2
        cases h4
        obtain ⟨x, hx, rfl, hw, _⟩ := ih h1
        obtain ⟨y, hy, e, hws⟩ := ihn q' ds' h3
        refine ⟨x ++ y, encL_cons hx hy, by rw [List.append_assoc, ← e], fun j hj => ?_⟩
        cases j with
        | zero => exact hw
        | succ j => exact hws j (by simpa using hj)
    obtain ⟨bs, hbs, rfl, hws⟩ := key _ _ _ hm
    have hl := many_len hm
    simp only at hl
    have hb1 : b = 1 := UInt8.toNat_inj.1 hb
    subst hb1
    have hs1 : UInt8.ofNat nm.length = s := by rw [← hs]; exact UInt8.ofNat_toNat
    have hc1 : UInt8.ofNat ds.length = c := by rw [hl]; exact UInt8.ofNat_toNat
    have hsz : (⟨nm.toArray⟩ : ByteArray).size = nm.length := by simp [ByteArray.size]
    refine ⟨[1, s] ++ nm ++ [c] ++ bs, ?_, by simp, .mk _ _ _ _ (by decide) (by decide) (by rw [hsz]; simp only [maxLen]; omega) hws, by simp only; omega⟩
    rw [enc_ctor rfl, hsz, if_pos ⟨h0, h2, by simp only; omega⟩]
    simp only [hbs, hs1, hc1]

theorem gr_lt {k : Nat} {l : List UInt8} {d : D} {r : List UInt8} (h : gr k l = some (d, r)) : r.length < l.length := by
  cases k with
  | zero => cases h
  | succ k =>
  obtain ⟨bs, h1, rfl, _⟩ := gr_enc _ h
  cases hc : d.ctor with
  | false => rw [enc_int hc] at h1; cases h1; simp; omega
  | true =>
    rw [enc_ctor hc] at h1
    split at h1
    · split at h1
      · cases h1; simp; omega
      · cases h1
    · cases h1
theorem many_le {k : Nat} : ∀ {n : Nat} {l : List UInt8} {x : List D × List UInt8}, many (gr k) n l = some x → x.2.length ≤ l.length
  | 0, l, x, h => by cases h; exact Nat.le_refl _
  | n + 1, l, x, h => by
    obtain ⟨y, h1, h2⟩ := Option.bind_eq_some_iff.1 h
    obtain ⟨z, h3, rfl⟩ := Option.map_eq_some_iff.1 h2
    have := many_le h1
    have := gr_lt h3
    simp only; omega

theorem gr_mono : ∀ (k : Nat) {l : List UInt8} {d : D} {r : List UInt8} (m : List UInt8), gr k l = some (d, r) → gr k (l ++ m) = some (d, r ++ m) := by
  intro k
  induction k with
  | zero => intro l d r m h; cases h
  | succ k ih =>
  intro l d r m h
  rcases gr_form h with ⟨b, t, rfl, hb, ht, rfl⟩ | ⟨b, s, nm, c, q, ds, rfl, hb, hs, h0, h2, hc, hm, rfl⟩
  · simp only [List.cons_append, List.append_assoc, gr]
    rw [if_pos hb, if_neg (by simp; omega), ← ht, List.take_left, List.drop_left]
  · have key : ∀ (n : Nat) {q : List UInt8} {x : List D × List UInt8}, many (gr k) n q = some x → many (gr k) n (q ++ m) = some (x.1, x.2 ++ m) := by
      intro n
      induction n with
      | zero => intro q x h; cases h; rfl
      | succ n ihn =>
        intro q x h
        obtain ⟨y, h1, h2⟩ := Option.bind_eq_some_iff.1 h
        obtain ⟨z, h3, rfl⟩ := Option.map_eq_some_iff.1 h2
        show (many (gr k) n (q ++ m)).bind _ = _
        rw [ihn h1]
        show (gr k (y.2 ++ m)).map _ = _
        rw [ih m h3]; rfl
    have e : b :: s :: (nm ++ c :: q) ++ m = b :: s :: (nm ++ c :: (q ++ m)) := by simp
    rw [e, gr_ctor hb hs h0 h2 hc, key _ hm]; rfl

theorem enc_gr : ∀ (k : Nat) (d : D) (bs m : List UInt8), enc d = some bs → bs.length ≤ k → ∃ d', gr k (bs ++ m) = some (d', m) ∧ nodes d' = nodes d ∧ depth d' = depth d := by
  intro k
  induction k with
  | zero =>
    intro d bs m h hl
    cases hc : d.ctor with
    | false => rw [enc_int hc] at h; cases h; simp at hl
    | true =>
      rw [enc_ctor hc] at h
      split at h
      · split at h
        · cases h; simp at hl
        · cases h
      · cases h
  | succ k ih =>
  intro d bs m h hl
  cases hc : d.ctor with
  | false =>
    rw [enc_int hc] at h; cases h
    refine ⟨⟨false, IntKind.i64.wrap (num8 (encI d.int)), ⟨#[]⟩, []⟩, ?_, by rw [nodes_int hc]; rfl, by rw [depth_int hc]; rfl⟩
    have hl8 := encI_length d.int
    simp only [List.cons_append, gr]
    rw [if_pos (by decide), if_neg (by simp; omega), ← hl8, List.take_left, List.drop_left]
  | true =>
    rw [enc_ctor hc] at h
    split at h
    · rename_i hn
      split at h
      · rename_i r hr
        cases h
        have key : ∀ (ds : List D) (r : List UInt8), encL ds = some r → r.length ≤ k → ∃ ds', many (gr k) ds.length (r ++ m) = some (ds', m) ∧ nodesL ds' = nodesL ds ∧ depthL ds' = depthL ds := by
          intro ds
          induction ds with
          | nil => intro r h _; cases h; exact ⟨[], rfl, rfl, rfl⟩
          | cons a t iht =>
            intro r h hk
            simp only [encL] at h
            split at h
            · rename_i x hx
              split at h
              · rename_i y hy
                cases h
                simp only [List.length_append] at hk
                obtain ⟨a', h1, h2, h3⟩ := ih a x (y ++ m) hx (by omega)
                obtain ⟨t', h4, h5, h6⟩ := iht y hy (by omega)
                refine ⟨a' :: t', ?_, by simp only [nodesL]; omega, by simp only [depthL]; omega⟩
                rw [List.length_cons, many_cons, List.append_assoc, h1]
                show (many (gr k) t.length (y ++ m)).map _ = _
                rw [h4]; rfl
              · cases h
            · cases h
        obtain ⟨ds', h1, h2, h3⟩ := key _ _ hr (by simp at hl; omega)
        refine ⟨⟨true, 0, ⟨d.name.data.toList.toArray⟩, ds'⟩, ?_, by rw [nodes_ctor hc, nodes_ctor rfl]; simp only; omega, by rw [depth_ctor hc, depth_ctor rfl]; simp only; omega⟩
        have hsz : d.name.data.toList.length = d.name.size := Array.length_toList
        have e : [1, UInt8.ofNat d.name.size] ++ d.name.data.toList ++ [UInt8.ofNat d.args.length] ++ r ++ m = 1 :: UInt8.ofNat d.name.size :: (d.name.data.toList ++ UInt8.ofNat d.args.length :: (r ++ m)) := by simp
        have t1 : (UInt8.ofNat d.name.size).toNat = d.name.size := UInt8.toNat_ofNat_of_lt' (by show d.name.size < 256; omega)
        have t2 : (UInt8.ofNat d.args.length).toNat = d.args.length := UInt8.toNat_ofNat_of_lt' (by show d.args.length < 256; omega)
        rw [e, gr_ctor (by decide) (by rw [t1, hsz]) (by omega) (by omega) (by omega), t2, h1]; rfl
      · cases h
    · cases h

end Go.Vx.Da
