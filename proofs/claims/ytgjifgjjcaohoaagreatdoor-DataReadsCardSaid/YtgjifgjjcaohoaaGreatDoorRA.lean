/- DataReads at the model's run. -/
import Derived.Test.YtgjifgjjcaohoaaGreatDoorR9
import Derived.Test.YtgjifgjjcaohoaaGreatDoorR8
import Derived.Lib.AppendIntMem
import Derived.Test.YtgjifgjjcaohoaaGreatDoorR4
/- part Z3D -/
section
namespace Go.Proofs.YtgjifgjjcaohoaaGreatDoor.Va
open Go.Vx Go.Av Go.Lx Go.RowKit

theorem Alive_spec : PCalls ax 5 [] fun r => r = [.bool true] := by
  refine pcalls_below fun G w F β vals hE hS hr => ?_
  obtain rfl := hr.nil_inv
  obtain ⟨c0, _, _, t0, b0, e0, l0, _⟩ := hS.glob 0 (by decide)
  obtain ⟨c1, f1, _, t1, b1, e1, _⟩ := hS.glob 1 (by decide)
  have hlt : 1 < w.heap.size := hS.lt _ _ f1
  rw [e0] at c0
  rw [e1] at c1
  refine (Vd.alive_spec t0 t1 _ _ w ⟨c0, c1, by omega⟩).mono ?_
  rintro e w' ⟨rfl, hb⟩
  exact ⟨_, [.bool true], rfl, rfl, .cons (.mk_bool _) .nil, hb⟩
end Go.Proofs.YtgjifgjjcaohoaaGreatDoor.Va
end

/- part Z5A -/
section
namespace Go.Lx
open Go.Proofs.YtgjifgjjcaohoaaGreatDoor.Va
/-- what may stand behind a token: nothing, or no letter and no digit -/
def Sep2 (y : List UInt8) : Prop := ∀ c, y.head? = some c → isInner c = false
theorem sep_inner2 {y : List UInt8} (h : Sep2 y) : ∀ c, y.head? = some c → isInner c = false := h
theorem sep_digit2 {y : List UInt8} (h : Sep2 y) : ∀ c, y.head? = some c → isDigit c = false := fun c hc => by
  have := h c hc
  unfold isInner at this
  simp only [Bool.or_eq_false_iff] at this
  exact this.2
theorem numSpan_app2 {l y : List UInt8} (hl : l ≠ []) (h : Sep2 y) : numSpan (l ++ y) = numSpan l := by
  cases l with
  | nil => exact absurd rfl hl
  | cons c r =>
    simp only [List.cons_append, numSpan]
    split
    · rw [span_app' r y (sep_digit2 h)]
    · rw [← List.cons_append, span_app' (c :: r) y (sep_digit2 h)]
theorem tokL_app2 {l y : List UInt8} (h : Sep2 y) (ht : (tokL l).2 = true) : tokL (l ++ y) = tokL l := by
  cases l with
  | nil => cases ht
  | cons c r =>
    cases hl : isLetter c with
    | true =>
      rw [List.cons_append, tokL_letter hl, tokL_letter hl]
      have := span_app' (c :: r) y (sep_inner2 h)
      rw [← List.cons_append, this, take_app (span_le _ _)]
    | false =>
      cases hd : (isDigit c || decide (c.toNat = 45)) with
      | true =>
        rw [List.cons_append, tokL_num hl hd, tokL_num hl hd]
        rw [tokL_num hl hd] at ht
        obtain ⟨h1, v, h2, h3, h4⟩ := numL_ok ht
        rw [h3, ← List.cons_append]
        have hns := numSpan_app2 (l := c :: r) (y := y) (by simp) h
        have hle := numSpan_le (c :: r)
        have hx : ∀ x, ((c :: r) ++ y)[numSpan (c :: r)]? = some x → isInner x = false := fun x hx => by
          rcases Nat.lt_or_ge (numSpan (c :: r)) (c :: r).length with hlt | hge
          · rw [List.getElem?_append_left hlt] at hx; exact h4 x hx
          · rw [List.getElem?_append_right hge] at hx
            have : numSpan (c :: r) - (c :: r).length = 0 := by omega
            rw [this] at hx
            exact sep_inner2 h x (by rw [List.head?_eq_getElem?]; exact hx)
        unfold numL
        rw [hns, take_app hle, h2]
        simp only
        cases hn : ((c :: r) ++ y)[numSpan (c :: r)]? with
        | none => rfl
        | some x => simp only [hx x hn, Bool.false_eq_true, if_false]
      | false =>
        by_cases hm : c.toNat = 58 ∧ r.head?.map (·.toNat) = some 45
        · have hm' : c.toNat = 58 ∧ (r ++ y).head?.map (·.toNat) = some 45 := by
            cases r with
            | nil => simp at hm
            | cons d r => exact hm
          rw [List.cons_append, tokL_two hl hd hm, tokL_two hl hd hm']
        · by_cases hk : c ∈ marksL
          · have hm' : ¬ (c.toNat = 58 ∧ (r ++ y).head?.map (·.toNat) = some 45) := fun hh => by
              have : c = 58 := UInt8.toNat_inj.1 hh.1
              subst this
              revert hk; decide
            rw [List.cons_append, tokL_mark hl hd hm hk, tokL_mark hl hd hm' hk]
          · rw [tokL_none hl hd hm hk] at ht; cases ht
theorem retok2 {x : Tok} (hx : Valid x) {y : List UInt8} (hy : Sep2 y) : tokL (x.t ++ y) = (x, true) := by
  obtain ⟨l, hl⟩ := hx
  have h2 : (tokL l).2 = true := by rw [hl]
  have h3 := tokL_self h2
  rw [hl] at h3
  simp only at h3
  rw [tokL_app2 hy (by rw [h3]), h3]
/-- a token's text, with a blank or a comment or nothing behind -/
theorem allL_tok2 {x : Tok} (hx : Valid x) {y : List UInt8} (hy : Sep2 y) : allL (x.t ++ y) = (x :: (allL y).1, (allL y).2) := by
  have hr := retok2 hx hy
  obtain ⟨c, r, hc⟩ := valid_cons hx
  rw [hc, List.cons_append] at hr ⊢
  obtain ⟨h1, h2⟩ := tok_head (c := c) (r := r ++ y) (by rw [hr])
  have hsk : skipC false (c :: (r ++ y)) = 0 := by simp [skipC, h1, h2]
  have hd : (c :: (r ++ y)).drop (skipC false (c :: (r ++ y))) = c :: (r ++ y) := by rw [hsk]; rfl
  rw [allL_cons hd (by rw [hr]), hr]
  simp only
  rw [hc, ← List.cons_append, List.drop_left]

theorem mark_valid (c : UInt8) (h : c = 40 ∨ c = 41 ∨ c = 44) (y : List UInt8) : tokL (c :: y) = (⟨4, [c], 0⟩, true) := by
  rcases h with rfl | rfl | rfl
  · exact tokL_mark (by decide) (by decide) (fun hh => absurd hh.1 (by decide)) (by decide)
  · exact tokL_mark (by decide) (by decide) (fun hh => absurd hh.1 (by decide)) (by decide)
  · exact tokL_mark (by decide) (by decide) (fun hh => absurd hh.1 (by decide)) (by decide)
theorem allL_mark (c : UInt8) (h : c = 40 ∨ c = 41 ∨ c = 44) (y : List UInt8) : allL (c :: y) = (⟨4, [c], 0⟩ :: (allL y).1, (allL y).2) := by
  have hm := mark_valid c h y
  obtain ⟨h1, h2⟩ := tok_head (c := c) (r := y) (by rw [hm])
  have hsk : skipC false (c :: y) = 0 := by simp [skipC, h1, h2]
  have hd : (c :: y).drop (skipC false (c :: y)) = c :: y := by rw [hsk]; rfl
  rw [allL_cons hd (by rw [hm]), hm]
  rfl
theorem allL_blank (y : List UInt8) : allL (32 :: y) = allL y := by
  have h32 : skipC false (32 :: y) = 1 + skipC false y := by show (if isBlank 32 then 1 + skipC false _ else _) = _; rw [if_pos (by decide)]
  rw [← allL_drop, h32, Nat.add_comm, List.drop_succ_cons, allL_drop]
/-- what kinds of tokens are -/
theorem valid_name {x : Tok} (h : Valid x) (hk : x.k = 1) : x = ⟨1, x.t, 0⟩ ∧ x.t.length ≤ 32 := by
  obtain ⟨l, hl⟩ := h
  cases l with
  | nil => simp [tokL] at hl
  | cons c r =>
    cases h1 : isLetter c with
    | true =>
      rw [tokL_letter h1] at hl
      simp only [Prod.mk.injEq, decide_eq_true_eq] at hl
      obtain ⟨rfl, h2⟩ := hl
      simp only at hk
      refine ⟨by rw [hk], ?_⟩
      simp only [List.length_take]; omega
    | false =>
      cases h2 : (isDigit c || decide (c.toNat = 45)) with
      | true =>
        rw [tokL_num h1 h2] at hl
        obtain ⟨_, v, _, h3, _⟩ := numL_ok (l := c :: r) (by rw [hl])
        rw [h3] at hl
        cases hl; cases hk
      | false =>
        by_cases h3 : c.toNat = 58 ∧ r.head?.map (·.toNat) = some 45
        · rw [tokL_two h1 h2 h3] at hl; cases hl; cases hk
        · by_cases h4 : c ∈ marksL
          · rw [tokL_mark h1 h2 h3 h4] at hl; cases hl; cases hk
          · rw [tokL_none h1 h2 h3 h4] at hl; cases hl
theorem valid_int {x : Tok} (h : Valid x) (hk : x.k = 3) : x = ⟨3, Lib.itoa x.n, x.n⟩ := by
  obtain ⟨l, hl⟩ := h
  cases l with
  | nil => simp [tokL] at hl
  | cons c r =>
    cases h1 : isLetter c with
    | true =>
      rw [tokL_letter h1] at hl
      simp only [Prod.mk.injEq, decide_eq_true_eq] at hl
      obtain ⟨rfl, h2⟩ := hl
      simp only at hk
      split at hk <;> cases hk
    | false =>
      cases h2 : (isDigit c || decide (c.toNat = 45)) with
      | true =>
        rw [tokL_num h1 h2] at hl
        obtain ⟨_, v, hv, h3, _⟩ := numL_ok (l := c :: r) (by rw [hl])
        rw [h3] at hl
        cases hl
        have : Lib.itoa v = List.take (numSpan (c :: r)) (c :: r) := by
          unfold canon at hv
          split at hv
          · rename_i u hu
            split at hv
            · rename_i hi; cases hv; exact hi
            · cases hv
          · cases hv
        simp only
        rw [this]
      | false =>
        by_cases h3 : c.toNat = 58 ∧ r.head?.map (·.toNat) = some 45
        · rw [tokL_two h1 h2 h3] at hl; cases hl; cases hk
        · by_cases h4 : c ∈ marksL
          · rw [tokL_mark h1 h2 h3 h4] at hl; cases hl; cases hk
          · rw [tokL_none h1 h2 h3 h4] at hl; cases hl
end Go.Lx
end

/- part Z5B -/
section
namespace Go.Dr
open Go.Av Go.Lx

mutual
/-- the text of data -/
def textD : Dt → List UInt8
  | .mk c n s zs => if c then s ++ (if zs = [] then [] else 40 :: (Lib.join (textDs zs) [44, 32] ++ [41])) else Lib.itoa n
def textDs : List Dt → List (List UInt8)
  | [] => []
  | t :: r => textD t :: textDs r
end
theorem textDs_eq : ∀ zs, textDs zs = zs.map textD
  | [] => rfl
  | t :: r => by rw [textDs, textDs_eq r]; rfl
mutual
/-- the tokens of data -/
def tokD : Dt → List Tok
  | .mk c n s zs => if c then ⟨1, s, 0⟩ :: (if zs = [] then [] else ⟨4, [40], 0⟩ :: (tokDs zs ++ [⟨4, [41], 0⟩])) else [⟨3, Lib.itoa n, n⟩]
def tokDs : List Dt → List Tok
  | [] => []
  | t :: r => tokD t ++ (if r = [] then [] else ⟨4, [44], 0⟩ :: tokDs r)
end
mutual
/-- names and numbers as a text may have them -/
def okN : Dt → Prop
  | .mk c n s zs => (c = true → Valid ⟨1, s, 0⟩ ∧ isRes s = false ∧ n = 0) ∧ (c = false → Valid ⟨3, Lib.itoa n, n⟩ ∧ s = [] ∧ zs = []) ∧ okNs zs
def okNs : List Dt → Prop
  | [] => True
  | t :: r => okN t ∧ okNs r
end
theorem okNs_iff : ∀ zs, okNs zs ↔ ∀ z ∈ zs, okN z
  | [] => by simp [okNs]
  | t :: r => by simp [okNs, okNs_iff r]
mutual
def ofD : Dt → Tr
  | .mk c n s zs => if c then .mk 3 s 0 (ofDs zs) else .mk 2 [] n []
def ofDs : List Dt → List Tr
  | [] => []
  | t :: r => ofD t :: ofDs r
end
theorem ofT_ofD : ∀ x, okN x → ofT (ofD x) = some x := by
  refine Dt.ind fun c n s zs ih => ?_
  intro h
  rw [okN] at h
  obtain ⟨h1, h2, h3⟩ := h
  cases c with
  | false =>
    obtain ⟨_, rfl, rfl⟩ := h2 rfl
    simp [ofD, ofT]
  | true =>
    obtain ⟨_, _, rfl⟩ := h1 rfl
    have hs : ∀ l : List Dt, (∀ a ∈ l, okN a → ofT (ofD a) = some a) → okNs l → ofTs (ofDs l) = some l := by
      intro l
      induction l with
      | nil => intro _ _; simp [ofDs, ofTs]
      | cons t r ihr =>
        intro k1 k2
        rw [okNs] at k2
        rw [ofDs, ofTs, k1 t List.mem_cons_self k2.1]
        simp only
        rw [ihr (fun a ha => k1 a (List.mem_cons_of_mem _ ha)) k2.2]; rfl
    simp only [ofD, if_true, ofT]
    rw [if_neg (by decide), if_neg (by decide), hs zs ih h3]; rfl

/-! ### the text's tokens -/
theorem sep2_mark {c : UInt8} (h : c = 40 ∨ c = 41 ∨ c = 44) (y : List UInt8) : Sep2 (c :: y) := fun d hd => by
  simp at hd; subst hd
  rcases h with rfl | rfl | rfl <;> decide
theorem join_text (x : Dt) (r : List Dt) : Lib.join (textDs (x :: r)) [44, 32] = textD x ++ (if r = [] then [] else [44, 32] ++ Lib.join (textDs r) [44, 32]) := by
  rw [textDs, Lib.join_cons]
  cases r with
  | nil => simp [textDs, Lib.joinTail]
  | cons y r => rw [if_neg (by simp), textDs, Lib.join_cons]; simp [Lib.joinTail]
theorem lexD : ∀ x, okN x → ∀ y, Sep2 y → allL (textD x ++ y) = (tokD x ++ (allL y).1, (allL y).2) := by
  refine Dt.ind fun c n s zs ih => ?_
  intro h y hy
  rw [okN] at h
  obtain ⟨h1, h2, h3⟩ := h
  cases c with
  | false =>
    obtain ⟨hv, rfl, rfl⟩ := h2 rfl
    have := allL_tok2 hv hy
    simpa [textD, tokD] using this
  | true =>
    obtain ⟨hv, hres, rfl⟩ := h1 rfl
    by_cases hz : zs = []
    · subst hz
      have := allL_tok2 hv hy
      simpa [textD, tokD] using this
    have row : ∀ l : List Dt, l ≠ [] → (∀ a ∈ l, okN a → ∀ y, Sep2 y → allL (textD a ++ y) = (tokD a ++ (allL y).1, (allL y).2)) → okNs l → ∀ y, Sep2 y → allL (Lib.join (textDs l) [44, 32] ++ y) = (tokDs l ++ (allL y).1, (allL y).2) := by
      intro l
      induction l with
      | nil => intro h; exact absurd rfl h
      | cons t r ihr =>
        intro _ k1 k2 y hy
        rw [okNs] at k2
        rw [join_text, tokDs]
        by_cases hr : r = []
        · subst hr
          simpa using k1 t List.mem_cons_self k2.1 y hy
        · rw [if_neg hr, if_neg hr, List.append_assoc]
          have e : [44, 32] ++ Lib.join (textDs r) [44, 32] ++ y = 44 :: 32 :: (Lib.join (textDs r) [44, 32] ++ y) := rfl
          rw [e, k1 t List.mem_cons_self k2.1 _ (sep2_mark (.inr (.inr rfl)) _), allL_mark 44 (.inr (.inr rfl)), allL_blank, ihr hr (fun a ha => k1 a (List.mem_cons_of_mem _ ha)) k2.2 y hy]
          simp
    have e : textD (.mk true 0 s zs) ++ y = s ++ 40 :: (Lib.join (textDs zs) [44, 32] ++ 41 :: y) := by simp [textD, hz]
    have ht := allL_tok2 hv (sep2_mark (.inl rfl) (Lib.join (textDs zs) [44, 32] ++ 41 :: y))
    simp only at ht
    rw [e, ht, allL_mark 40 (.inl rfl), row zs hz ih h3 _ (sep2_mark (.inr (.inl rfl)) y), allL_mark 41 (.inr (.inl rfl))]
    simp [tokD, hz]

/-! ### the tokens' data -/
def HeadOk (r : List Tok) : Prop := ∀ p, r.head? = some p → isP [40] p = false
theorem tokD_ne (x : Dt) : tokD x ≠ [] := by
  obtain ⟨c, n, s, zs⟩ := x
  rw [tokD]; cases c <;> simp
theorem parD : ∀ (x : Dt) (d : Nat), okD d x → okN x → ∀ (f n : Nat) (r : List Tok), n + d ≤ 64 → 2 * (tokD x).length ≤ f + 1 → HeadOk r → parT f n (tokD x ++ r) = (0, ofD x, r) := by
  refine Dt.ind fun c n s zs ih => ?_
  intro d hd hn f m r hm hf hr
  rw [okN] at hn
  obtain ⟨h1, h2, h3⟩ := hn
  rw [okD] at hd
  obtain ⟨d1, d2, d3, d4, d5⟩ := hd
  have hlen : 1 ≤ (tokD (.mk c n s zs)).length := by
    cases hq : tokD (.mk c n s zs) with
    | nil => exact absurd hq (tokD_ne _)
    | cons a b => simp
  obtain ⟨f, rfl⟩ : ∃ g, f = g + 1 := ⟨f - 1, by omega⟩
  have hm' : ¬ 64 < m := by omega
  cases c with
  | false =>
    obtain ⟨_, rfl, rfl⟩ := h2 rfl
    show parT (f + 1) m (⟨3, Lib.itoa n, n⟩ :: r) = _
    rw [parT_int hm' rfl]; simp [ofD]
  | true =>
    obtain ⟨hv, hres, rfl⟩ := h1 rfl
    have hk : (⟨1, s, 0⟩ : Tok).k = 1 ∧ isRes (⟨1, s, 0⟩ : Tok).t = false := ⟨rfl, hres⟩
    by_cases hz : zs = []
    · subst hz
      have e : tokD (.mk true 0 s []) ++ r = ⟨1, s, 0⟩ :: r := by simp [tokD]
      have eo : ofD (.mk true 0 s []) = .mk 3 s 0 [] := by simp [ofD, ofDs]
      rw [e, eo]
      cases r with
      | nil => exact parT_one hm' hk
      | cons p r => exact parT_name hm' hk (hr p rfl)
    have hd0 := d2 hz
    have e : tokD (.mk true 0 s zs) ++ r = ⟨1, s, 0⟩ :: ⟨4, [40], 0⟩ :: (tokDs zs ++ ⟨4, [41], 0⟩ :: r) := by simp [tokD, hz]
    have el : (tokD (.mk true 0 s zs)).length = (tokDs zs).length + 3 := by simp [tokD, hz]
    have eo : ofD (.mk true 0 s zs) = .mk 3 s 0 (ofDs zs) := by simp [ofD]
    have row : ∀ l : List Dt, l ≠ [] → (∀ a ∈ l, ∀ d, okD d a → okN a → ∀ (f n : Nat) (r : List Tok), n + d ≤ 64 → 2 * (tokD a).length ≤ f + 1 → HeadOk r → parT f n (tokD a ++ r) = (0, ofD a, r)) → okDs (d - 1) l → okNs l →
        ∀ (f : Nat) (acc : List Tr), acc.length + l.length ≤ 8 → 2 * (tokDs l).length ≤ f → parR f (m + 1) acc (tokDs l ++ ⟨4, [41], 0⟩ :: r) = (0, acc ++ ofDs l, r) := by
      intro l
      induction l with
      | nil => intro h; exact absurd rfl h
      | cons t q ihq =>
        intro _ k1 k2 k3 f acc ha hf
        rw [okDs] at k2
        rw [okNs] at k3
        have hnt := tokD_ne t
        have hlt : 1 ≤ (tokD t).length := by
          cases hq : tokD t with
          | nil => exact absurd hq hnt
          | cons a b => simp
        have hb : ∀ ts, ¬ (acc.length = 8 ∧ ts ≠ ([] : List Tok)) := fun ts h => by simp only [List.length_cons] at ha; omega
        by_cases hq : q = []
        · subst hq
          have e1 : tokDs [t] = tokD t := by simp [tokDs]
          rw [e1] at hf ⊢
          obtain ⟨g, rfl⟩ : ∃ g, f = g + 1 := ⟨f - 1, by omega⟩
          have := k1 t List.mem_cons_self (d - 1) k2.1 k3.1 g (m + 1) (⟨4, [41], 0⟩ :: r) (by omega) (by omega) (fun p hp => by simp at hp; subst hp; rfl)
          rw [parR_end (hb _) this rfl]
          simp [ofDs]
        · have e1 : tokDs (t :: q) = tokD t ++ ⟨4, [44], 0⟩ :: tokDs q := by rw [tokDs, if_neg hq]
          rw [e1] at hf ⊢
          simp only [List.length_append, List.length_cons] at hf
          obtain ⟨g, rfl⟩ : ∃ g, f = g + 1 := ⟨f - 1, by omega⟩
          have := k1 t List.mem_cons_self (d - 1) k2.1 k3.1 g (m + 1) (⟨4, [44], 0⟩ :: (tokDs q ++ ⟨4, [41], 0⟩ :: r)) (by omega) (by omega) (fun p hp => by simp at hp; subst hp; rfl)
          rw [List.append_assoc, List.cons_append, parR_more (hb _) this rfl rfl, ihq hq (fun a ha => k1 a (List.mem_cons_of_mem _ ha)) k2.2 k3.2 g (acc ++ [ofD t]) (by simp only [List.length_append, List.length_cons, List.length_nil] at *; omega) (by omega)]
          simp [ofDs]
    rw [e, eo]
    have hrow := row zs hz ih d4 h3 f [] (by simpa using d1) (by rw [el] at hf; omega)
    rw [List.nil_append] at hrow
    exact (parT_row (f := f) (n := m) (t := ⟨1, s, 0⟩) (p := ⟨4, [40], 0⟩) hm' hk rfl).2 _ _ hrow
end Go.Dr
end

/- part Z5C -/
section
namespace Go.Dr
open Go.Av Go.Lx Go.Proofs.YtgjifgjjcaohoaaGreatDoor.Va
mutual
/-- names and numbers of a term are ones of valid tokens -/
def okW : Tr → Prop
  | .mk k s n zs => (k ≠ 1 → k ≠ 2 → Valid ⟨1, s, 0⟩ ∧ isRes s = false) ∧ (k = 2 → Valid ⟨3, Lib.itoa n, n⟩) ∧ okWs zs
def okWs : List Tr → Prop
  | [] => True
  | t :: r => okW t ∧ okWs r
end
theorem okWs_append : ∀ (a : List Tr) (x : Tr), okWs a → okW x → okWs (a ++ [x])
  | [], _x, _, h => ⟨h, trivial⟩
  | _t :: r, x, h, k => ⟨h.1, okWs_append r x h.2 k⟩
theorem par_okW : ∀ f, (∀ n ts x r, parT f n ts = (0, x, r) → (∀ t ∈ ts, Valid t) → okW x ∧ ∀ t ∈ r, t ∈ ts) ∧
    (∀ n acc ts xs r, parR f n acc ts = (0, xs, r) → (∀ t ∈ ts, Valid t) → okWs acc → okWs xs ∧ ∀ t ∈ r, t ∈ ts) := by
  intro f
  induction f with
  | zero =>
    refine ⟨fun n ts x r h => ?_, fun n acc ts xs r h => ?_⟩
    · simp [parT] at h
    · simp [parR] at h
  | succ f ih =>
    obtain ⟨ihT, ihR⟩ := ih
    refine ⟨fun n ts x r h hr => ?_, fun n acc ts xs r h hr hok => ?_⟩
    · by_cases hn : 64 < n ∧ ts ≠ []
      · have := parT_nest (f := f) hn
        rw [h] at this; cases this
      cases ts with
      | nil =>
        have := parT_nil (f := f) (n := n)
        rw [h] at this; cases this
      | cons t ts =>
        have hn64 : ¬ 64 < n := fun hh => hn ⟨hh, by simp⟩
        by_cases h2 : t.k = 2
        · rw [parT_var hn64 h2] at h
          cases h
          exact ⟨⟨fun h => absurd rfl h, fun h => absurd h (by decide), trivial⟩, fun t ht => List.mem_cons_of_mem _ ht⟩
        by_cases h3 : t.k = 3
        · rw [parT_int hn64 h3] at h
          cases h
          refine ⟨⟨fun _ h => absurd rfl h, fun _ => ?_, trivial⟩, fun t ht => List.mem_cons_of_mem _ ht⟩
          have hv := hr t List.mem_cons_self
          rw [← valid_int hv h3]; exact hv
        by_cases hk : t.k = 1 ∧ isRes t.t = false
        · have hv := hr t List.mem_cons_self
          have hnm : Valid ⟨1, t.t, 0⟩ ∧ isRes t.t = false := ⟨by rw [← (valid_name hv hk.1).1]; exact hv, hk.2⟩
          cases ts with
          | nil =>
            rw [parT_one hn64 hk] at h
            cases h
            exact ⟨⟨fun _ _ => hnm, fun h => absurd h (by decide), trivial⟩, fun t ht => by cases ht⟩
          | cons p ts =>
            cases hp : isP [40] p with
            | false =>
              rw [parT_name hn64 hk hp] at h
              cases h
              exact ⟨⟨fun _ _ => hnm, fun h => absurd h (by decide), trivial⟩, fun t ht => List.mem_cons_of_mem _ ht⟩
            | true =>
              obtain ⟨r1, r2⟩ := parT_row (f := f) (n := n) (r := ts) hn64 hk hp
              generalize hq : parR f (n + 1) [] ts = q at r1 r2
              obtain ⟨e, xs, q2⟩ := q
              by_cases he : e = 0
              · subst he
                have h5 := r2 xs q2 rfl
                rw [h] at h5
                cases h5
                obtain ⟨g1, g2⟩ := ihR (n + 1) [] ts xs r hq (fun t ht => hr t (List.mem_cons_of_mem _ (List.mem_cons_of_mem _ ht))) trivial
                exact ⟨⟨fun _ _ => hnm, fun h => absurd h (by decide), g1⟩, fun t ht => List.mem_cons_of_mem _ (List.mem_cons_of_mem _ (g2 t ht))⟩
              · have h5 := r1 he
                rw [h] at h5
                exact absurd h5.symm he
        · have := parT_bad (f := f) (r := ts) hn64 h2 h3 hk
          rw [h] at this; cases this
    · by_cases hb : acc.length = 8 ∧ ts ≠ []
      · rw [parR_big hb] at h; cases h
      generalize hq : parT f n ts = q
      obtain ⟨e, x, q2⟩ := q
      by_cases he : e = 0
      · subst he
        obtain ⟨g2, g3⟩ := ihT n ts x q2 hq hr
        have hok2 := okWs_append acc x hok g2
        cases q2 with
        | nil =>
          have := parR_nil hb hq
          rw [h] at this; cases this
        | cons p q3 =>
          cases h41 : isP [41] p with
          | true =>
            rw [parR_end hb hq h41] at h
            cases h
            exact ⟨hok2, fun t ht => g3 t (List.mem_cons_of_mem _ ht)⟩
          | false =>
            cases h44 : isP [44] p with
            | true =>
              rw [parR_more hb hq h41 h44] at h
              obtain ⟨k4, k5⟩ := ihR n (acc ++ [x]) q3 xs r h (fun t ht => hr t (g3 t (List.mem_cons_of_mem _ ht))) hok2
              exact ⟨k4, fun t ht => g3 t (List.mem_cons_of_mem _ (k5 t ht))⟩
            | false =>
              have := parR_bad hb hq h41 h44
              rw [h] at this; cases this
      · have h5 := parR_err hb (by rw [hq]; exact he)
        rw [h, hq] at h5
        exact absurd h5.symm he
theorem ofT_okN : ∀ (t : Tr) (x : Dt), okW t → ofT t = some x → okN x := by
  refine Tr.ind fun k s n xs ih => ?_
  intro x hw h
  rw [okW] at hw
  obtain ⟨w1, w2, w3⟩ := hw
  rw [ofT] at h
  split at h
  · cases h
  · rename_i h1
    split at h
    · rename_i h2
      cases h
      exact ⟨fun h => (by cases h), fun _ => ⟨w2 h2, rfl, rfl⟩, trivial⟩
    · rename_i h2
      simp only [Option.map_eq_some_iff] at h
      obtain ⟨l, hl, rfl⟩ := h
      have hx := w1 h1 h2
      refine ⟨fun _ => ⟨hx.1, hx.2, rfl⟩, fun h => (by cases h), ?_⟩
      have : ∀ (q : List Tr) (l : List Dt), (∀ a ∈ q, ∀ x, okW a → ofT a = some x → okN x) → okWs q → ofTs q = some l → okNs l := by
        intro q
        induction q with
        | nil => intro l _ _ h; simp [ofTs] at h; subst h; trivial
        | cons t r ihr =>
          intro l k1 k2 h
          rw [ofTs] at h
          cases ht : ofT t with
          | none => rw [ht] at h; cases h
          | some y =>
            rw [ht] at h
            simp only [Option.map_eq_some_iff] at h
            obtain ⟨l', h3, rfl⟩ := h
            exact ⟨k1 t List.mem_cons_self y k2.1 ht, ihr l' (fun a ha => k1 a (List.mem_cons_of_mem _ ha)) k2.2 h3⟩
      exact this xs l ih w3 hl
theorem lexR_valid (l : List UInt8) : ∀ t ∈ (lexR l).1, Valid t := by
  unfold lexR
  split
  · intro t ht; simp at ht
  · split
    · intro t ht; exact allL_valid _ l (Nat.le_refl _) t ht
    · intro t ht; simp at ht
theorem lexR_rng (l : List UInt8) : ∀ t ∈ (lexR l).1, rngZ t.n := fun t ht => valid_rng (lexR_valid l t ht)
/-- data that were read -/
theorem readZ_ok {s : List UInt8} {x : Dt} (h : readZ s = (0, x)) : okD 63 x ∧ okN x ∧ sizeD x ≤ 4096 := by
  unfold readZ at h
  split at h
  · rename_i h1; simp only [Prod.mk.injEq] at h; exact absurd h.1 h1
  · rename_i h1
    have h1 : (parZ s).1 = 0 := Decidable.byContradiction h1
    have hok := parZ_ok (lexR_rng s) h1
    have hw : okW (parZ s).2 := by
      unfold parZ at h1 ⊢
      by_cases hn : (lexR s).2 = none
      · rw [if_pos hn] at h1 ⊢
        generalize hq : parT (2 * (lexR s).1.length + 3) 1 (lexR s).1 = q at h1 ⊢
        obtain ⟨e, y, r⟩ := q
        unfold endP at h1 ⊢
        simp only at h1 ⊢
        by_cases he : e = 0
        · rw [if_pos he] at h1 ⊢
          by_cases hr0 : r = []
          · rw [if_pos hr0]
            subst he
            exact ((par_okW _).1 1 _ _ _ hq (lexR_valid s)).1
          · rw [if_neg hr0] at h1; cases h1
        · rw [if_neg he] at h1; exact absurd h1 he
      · rw [if_neg hn] at h1
        rcases lexR_err s with h2 | h2 | h2
        · exact absurd h2 hn
        · rw [h2] at h1; cases h1
        · rw [h2] at h1; cases h1
    cases ho : ofT (parZ s).2 with
    | none => rw [ho] at h; cases h
    | some y =>
      rw [ho] at h
      simp only at h
      split at h
      · rename_i hs
        cases h
        exact ⟨ofT_ok _ _ _ hok ho, ofT_okN _ _ hw ho, hs⟩
      · cases h
/-- written and read again -/
theorem readZ_again {x : Dt} (h1 : okD 63 x) (h2 : okN x) (h3 : sizeD x ≤ 4096) : readZ (textD x) = if 16384 < (textD x).length then (4, zeroD) else (0, x) := by
  have hx := lexD x h2 [] (fun c hc => by simp at hc)
  rw [List.append_nil] at hx
  have h0 : allL ([] : List UInt8) = ([], true) := rfl
  rw [h0] at hx
  simp only [List.append_nil] at hx
  by_cases hl : 16384 < (textD x).length
  · rw [if_pos hl]
    have : lexR (textD x) = ([], some 0) := by unfold lexR; rw [if_pos hl]
    unfold readZ parZ
    rw [this]; rfl
  · rw [if_neg hl]
    have : lexR (textD x) = (tokD x, none) := by rw [lexR_good (by omega) (by rw [hx]), hx]
    have hp := parD x 63 h1 h2 (2 * (tokD x).length + 3) 1 [] (by omega) (by omega) (fun p hp => by simp at hp)
    rw [List.append_nil] at hp
    have hz : parZ (textD x) = (0, ofD x) := by
      unfold parZ
      rw [this, if_pos rfl, hp]; rfl
    unfold readZ
    rw [hz]
    simp only [ne_eq, not_true_eq_false, if_false]
    rw [ofT_ofD x h2]
    simp only
    rw [if_pos h3]
/-! ### how long the text is -/
theorem decDigits_len {u : Nat} (h : u < 10000000000000000000) : (Lib.decDigits u).length ≤ 19 := by
  obtain ⟨⟨k1, k2, k3⟩, k4, k5⟩ := decDigits_spec _ u (Nat.le_refl _)
  rcases Nat.lt_or_ge 19 (Lib.decDigits u).length with hl | hl
  · have h48 : (Lib.decDigits u).head? ≠ some 48 := fun h => by have := k3 h; omega
    have h1 := valD_lt _ k2 h48 k1
    rw [k4] at h1
    have h2 : 10 ^ 19 ≤ 10 ^ ((Lib.decDigits u).length - 1) := Nat.pow_le_pow_right (by omega) (by omega)
    have h3 : (10 : Nat) ^ 19 = 10000000000000000000 := by decide
    omega
  · exact hl
theorem itoa_len {n : Int} (h0 : -9223372036854775808 ≤ n) (h1 : n ≤ 9223372036854775807) : (Lib.itoa n).length ≤ 20 := by
  by_cases hn : n < 0
  · rw [itoa_neg hn, List.length_cons]
    have := decDigits_len (u := n.natAbs) (by omega); omega
  · rw [itoa_pos hn]
    have := decDigits_len (u := n.toNat) (by omega); omega
mutual
def wtD : Dt → Nat
  | .mk _ _ s zs => s.length + 24 + wtDs zs
def wtDs : List Dt → Nat
  | [] => 0
  | t :: r => wtD t + wtDs r
end
mutual
def rngD : Dt → Prop
  | .mk _ n _ zs => (-9223372036854775808 ≤ n ∧ n ≤ 9223372036854775807) ∧ rngDs zs
def rngDs : List Dt → Prop
  | [] => True
  | t :: r => rngD t ∧ rngDs r
end
theorem rngDs_iff : ∀ zs, rngDs zs ↔ ∀ z ∈ zs, rngD z
  | [] => by simp [rngDs]
  | t :: r => by simp [rngDs, rngDs_iff r]
theorem okD_rng : ∀ (x : Dt) (d : Nat), okD d x → rngD x := by
  refine Dt.ind fun c n s zs ih => ?_
  rintro d ⟨_, _, _, h, hn⟩
  rw [okDs_iff] at h
  exact ⟨hn, (rngDs_iff zs).2 fun z hz => ih z hz _ (h z hz)⟩
theorem wtD_mem : ∀ {zs : List Dt} {z : Dt}, z ∈ zs → wtD z ≤ wtDs zs
  | t :: r, z, h => by
    rw [wtDs]
    rcases List.mem_cons.1 h with rfl | h
    · omega
    · have := wtD_mem h; omega
theorem length_wtDs : ∀ zs : List Dt, 24 * zs.length ≤ wtDs zs
  | [] => Nat.le_refl _
  | t :: r => by
    have := length_wtDs r
    obtain ⟨c, n, s, zs⟩ := t
    simp only [wtDs, wtD, List.length_cons]; omega
theorem text_len : ∀ x : Dt, rngD x → (textD x).length + 4 ≤ wtD x := by
  refine Dt.ind fun c n s zs ih => ?_
  rintro ⟨hn, hz⟩
  rw [textD, wtD]
  cases c with
  | false =>
    have := itoa_len hn.1 hn.2
    simp only [Bool.false_eq_true, if_false]; omega
  | true =>
    have row : ∀ l : List Dt, (∀ a ∈ l, rngD a → (textD a).length + 4 ≤ wtD a) → rngDs l → (Lib.join (textDs l) [44, 32]).length ≤ wtDs l := by
      intro l
      induction l with
      | nil => intro _ _; simp [textDs, Lib.join_nil]
      | cons t r ihr =>
        intro k1 k2
        rw [rngDs] at k2
        have h1 := k1 t List.mem_cons_self k2.1
        have h2 := ihr (fun a ha => k1 a (List.mem_cons_of_mem _ ha)) k2.2
        rw [join_text, wtDs]
        split
        · simp only [List.append_nil]; omega
        · simp only [List.length_append, List.length_cons, List.length_nil]; omega
    have h := row zs ih hz
    simp only [if_true]
    split
    · simp only [List.append_nil]; omega
    · simp only [List.length_append, List.length_cons, List.length_nil]; omega
theorem okN_wt : ∀ x : Dt, okN x → wtD x ≤ 56 * sizeD x := by
  refine Dt.ind fun c n s zs ih => ?_
  intro h
  rw [okN] at h
  obtain ⟨h1, h2, h3⟩ := h
  have hs : s.length ≤ 32 := by
    cases c with
    | false => obtain ⟨_, rfl, _⟩ := h2 rfl; simp
    | true => exact (valid_name (h1 rfl).1 rfl).2
  have row : ∀ l : List Dt, (∀ a ∈ l, okN a → wtD a ≤ 56 * sizeD a) → okNs l → wtDs l ≤ 56 * sizeDs l := by
    intro l
    induction l with
    | nil => intro _ _; simp [wtDs, sizeDs]
    | cons t r ihr =>
      intro k1 k2
      rw [okNs] at k2
      have h1 := k1 t List.mem_cons_self k2.1
      have h2 := ihr (fun a ha => k1 a (List.mem_cons_of_mem _ ha)) k2.2
      rw [wtDs, sizeDs]; omega
  have h := row zs ih h3
  rw [wtD, sizeD]; omega
end Go.Dr
end

/- part Z5D -/
section
namespace Go.Proofs.YtgjifgjjcaohoaaGreatDoor.Va
open Go.Vx Go.Av Go.Lx Go.Dr Go.RowKit

theorem Itoa_spec (n : Int) (h0 : -9223372036854775808 ≤ n) (h1 : n ≤ 9223372036854775807) : PCalls ax 38 [.int .i64 n] fun r => r = [.str (bs (Lib.itoa n))] := by
  refine pcalls_below fun G w F β vals hE hS hr => ?_
  obtain ⟨v0, r0, rfl, e0, hr⟩ := hr.cons_inv
  obtain rfl := hr.nil_inv
  rw [e0.int_inv]
  obtain ⟨g1, ⟨tt, pp, g2⟩, g3⟩ := hS.tab 16 _ (hE.tab (16, (Lib.pow10Tab.map fun z => Value.int .u64 z).toArray) (by simp))
  have htab : Lib.TabIs Tryz.prog w "internal/strconv.uint64pow10" .u64 Lib.pow10Tab := by
    unfold Lib.TabIs World.var?
    rw [show Tryz.prog.globalNamed "internal/strconv.uint64pow10" = some 16 by kernel_rfl]
    simp only [Option.bind_some, g2]
  refine (Tryz.strconv_Itoa n h0 h1 w htab).mono ?_
  rintro e w' ⟨rfl, k, os, rfl⟩
  exact ⟨_, [.string (bs (Lib.itoa n))], rfl, rfl, .cons (.mk_str _) .nil, Lib.below_grow _ _ (Nat.le_refl _) _ _⟩

theorem StrJoin_spec (xs : List (List UInt8)) (sep : List UInt8) (hn : xs.length ≤ big) (hl : (Lib.join xs sep).length ≤ 140737488355328) : PCalls ax 55 [.sl 1 (xs.map fun x => [.str (bs x)]), .str (bs sep)] fun r => r = [.str (bs (Lib.join xs sep))] := by
  have hb : big = 1099511627776 := rfl
  refine pcalls_below fun G w F β vals hE hS hr => ?_
  obtain ⟨v0, r0, rfl, h0, hr⟩ := hr.cons_inv
  obtain ⟨v1, r1, rfl, h1, hr⟩ := hr.cons_inv
  obtain rfl := hr.nil_inv
  rw [h1.str_inv]
  have hf := h0.sl_inv
  cases hf with
  | sl z l a c val k1 k2 hz hc hv =>
    rw [List.length_map]
    by_cases hne : xs = []
    · subst hne
      refine (Tryz.strings_Join_none a c (bs sep) w).mono ?_
      rintro e w' ⟨rfl, rfl⟩
      exact ⟨_, [.string (bs (Lib.join [] sep))], rfl, rfl, .cons (.mk_str _) .nil, Below.refl _ _⟩
    · obtain ⟨b, o, rfl, hcell⟩ := hc (fun h => hne (List.map_eq_nil_iff.1 h))
      have hcells : ∀ (j : Nat) x, (xs.map bs)[j]? = some x → w.cell? ⟨b, o + j, none⟩ = some (.string x) := fun j x hx => by
        rw [List.getElem?_map] at hx
        cases hxj : xs[j]? with
        | none => rw [hxj] at hx; cases hx
        | some y =>
          rw [hxj] at hx
          cases hx
          have hrow : (xs.map fun x => [V.str (bs x)])[j]? = some [.str (bs y)] := by rw [List.getElem?_map, hxj]; rfl
          obtain ⟨c1, _⟩ := hcell j _ 0 _ hrow rfl
          have c2 := hv j _ 0 _ hrow rfl
          have e0 : j * 1 + 0 = j := by omega
          rw [e0] at c1
          rw [c1]
          exact congrArg some (RV.str_inv (RV.fz (β := β) (σ := mkS []) _ _ c2))
      have hbk : b < w.heap.size := by
        cases xs with
        | nil => exact absurd rfl hne
        | cons y ys =>
          have := hcells 0 (bs y) rfl
          exact Lib.lt_of_cell this
      have hmm : (xs.map bs).map (fun x => x.data.toList) = xs := by
        rw [List.map_map]
        conv => rhs; rw [← List.map_id xs]
        exact List.map_congr_left fun x _ => bs_data x
      have key := Tryz.strings_Join b o c (xs.map bs) (bs sep) w hcells hbk (by rw [List.length_map]; omega) (by rw [List.length_map]; rw [List.length_map] at k1; exact k1) (by rw [hmm, bs_data]; exact hl)
      rw [hmm, bs_data, List.length_map] at key
      refine key.mono ?_
      rintro e w' ⟨rfl, hbel⟩
      exact ⟨_, [.string (bs (Lib.join xs sep))], rfl, rfl, .cons (.mk_str _) .nil, hbel⟩



theorem app_bs (a b : List UInt8) : bs a ++ bs b = bs (a ++ b) := by
  apply ByteArray.ext
  simp [bs]
theorem zset {l : List (List UInt8)} {n i : Nat} {x : List UInt8} (hl : l.length = i) (hi : i < n) : List.set (l.map (fun y => [V.str (bs y)]) ++ List.replicate (n - i) [V.str ⟨#[]⟩]) ((i : Int)).toNat [.str (bs x)] = (l ++ [x]).map (fun y => [V.str (bs y)]) ++ List.replicate (n - (i + 1)) [V.str ⟨#[]⟩] := by
  rw [Int.toNat_natCast, List.set_append_right _ _ (by rw [List.length_map, hl]; exact Nat.le_refl _), List.length_map, hl, Nat.sub_self]
  have h1 : n - i = (n - (i + 1)) + 1 := by omega
  rw [h1, List.replicate_succ, List.set_cons_zero]
  simp
theorem ofDs_eq : ∀ zs, ofDs zs = zs.map ofD
  | [] => rfl
  | t :: r => by rw [ofDs, ofDs_eq r]; rfl
theorem ofD_get {zs : List Dt} {i : Nat} {c : Bool} {n : Int} {s : List UInt8} {l : List Dt} (h : zs[i]? = some (.mk c n s l)) : ∃ k q m l', (ofDs zs)[i]? = some (.mk k q m l') ∧ ofD (.mk c n s l) = .mk k q m l' := by
  obtain ⟨k, q, m, l', e⟩ := tr_cases (ofD (.mk c n s l))
  exact ⟨k, q, m, l', by rw [ofDs_eq, List.getElem?_map, h]; exact congrArg some e, e⟩

theorem term_spec : ∀ x : Dt, wtD x ≤ big → PCalls ax 25 [.agg (encD x)] fun r => r = [.agg (encR (ofD x))] := by
  refine Dt.ind fun c n s zs ih => ?_
  intro hw
  have hb := big9
  have hl := length_wtDs zs
  simp only [wtD] at hw
  refine term.calls (K := fun r => r = [.agg (encR (ofD (.mk c n s zs)))]) ?_
  unfold term.W
  cases c with
  | false => exact ifN (fun _ => rfl) (fun h => by cases h)
  | true =>
    refine ifN (fun h => by cases h) (fun _ => ?_)
    rw [encDs_length]
    refine ⟨fun us => ∃ i : Nat, i ≤ zs.length ∧ us = [.int .i64 i, .int .i64 3, .str (bs s), .int .i64 0, .sl 4 (encRs (ofDs (zs.take i)))], fun us => match us with | .int _ i :: _ => zs.length - i.toNat | _ => 0, ⟨0, Nat.zero_le _, rfl⟩, ?_⟩
    rintro n31 n32 s33 n34 l35 ⟨i, hi, e⟩
    cases e
    refine ifD (fun hlt => ?_) (fun hge => ?_)
    · have hi' : i < zs.length := by omega
      obtain ⟨c', m', s', l', he⟩ := getDt hi'
      have hm := List.mem_of_getElem? he
      have hwm := wtD_mem hm
      refine ⟨by omega, hlt, c', m', bs s', encDs l', drow he, ?_⟩
      obtain ⟨k, q, m, l2, e1, e2⟩ := ofD_get he
      refine (ih _ hm (by omega)).mono fun r hr => ⟨k, bs q, m, encRs l2, by rw [e2] at hr; exact hr, ?_⟩
      have hap : encRs (ofDs (zs.take i)) ++ [[.int .i64 k, .str (bs q), .int .i64 m, .sl 4 (encRs l2)]] = encRs (ofDs (zs.take (i + 1))) := by
        have : [[V.int .i64 k, .str (bs q), .int .i64 m, .sl 4 (encRs l2)]] = encRs [.mk k q m l2] := rfl
        rw [this, ← encRs_append, ofDs_eq, ofDs_eq, List.take_add_one, he, List.map_append, ← e2]; rfl
      have hlen : (ofDs (zs.take i)).length = i := by rw [ofDs_eq]; simp; omega
      rw [hap, encRs_length, hlen, zstep (by omega)]
      simp only [List.length_cons, List.length_nil]
      exact ⟨by omega, by omega, ⟨i + 1, by omega, rfl⟩, by simp only [Int.toNat_natCast]; omega⟩
    · rw [List.take_of_length_le (by omega)]
      simp [ofD, encR]

theorem PTerm_spec : ∀ x : Dt, wtD x ≤ big → rngD x → PCalls ax 24 [.agg (encR (ofD x))] fun r => r = [.str (bs (textD x))] := by
  refine Dt.ind fun c n s zs ih => ?_
  rintro hw ⟨hn, hz⟩
  have hb := big9
  have hmx : IntKind.i64.max = 9223372036854775807 := rfl
  have hl := length_wtDs zs
  rw [rngDs_iff] at hz
  have htl := text_len (.mk c n s zs) ⟨hn, (rngDs_iff zs).2 hz⟩
  have h40 : (⟨#[40]⟩ : ByteArray) = bs [40] := rfl
  have h41 : (⟨#[41]⟩ : ByteArray) = bs [41] := rfl
  have h44 : (⟨#[44, 32]⟩ : ByteArray) = bs [44, 32] := rfl
  rw [wtD] at hw htl
  -- the arguments
  have args : ∀ l : List Dt, (∀ a ∈ l, a ∈ zs) → wtDs l ≤ wtDs zs → (Lib.join (textDs l) [44, 32]).length ≤ big → PCalls ax 39 [.sl 4 (encRs (ofDs l)), .fn 24 [] []] fun r => r = [.str (bs (if l = [] then [] else 40 :: (Lib.join (textDs l) [44, 32] ++ [41])))] := by
    intro l hmem hwl hjl
    have hll := length_wtDs l
    have hle : (ofDs l).length = l.length := by rw [ofDs_eq]; simp
    refine pargs.calls (K := fun r => r = [.str (bs (if l = [] then [] else 40 :: (Lib.join (textDs l) [44, 32] ++ [41])))]) ?_
    unfold pargs.W
    rw [encRs_length, hle]
    refine ifE (fun h0 => ?_) (fun h0 => ?_)
    · have : l = [] := List.eq_nil_of_length_eq_zero (by omega)
      rw [if_pos this]; rfl
    have hne : l ≠ [] := fun h => h0 (by rw [h]; rfl)
    rw [if_neg hne]
    refine ⟨by omega, by omega, by omega, by omega, ?_⟩
    refine ⟨fun us => ∃ i : Nat, i ≤ l.length ∧ us = [.int .i64 i, .sl 1 ((textDs (l.take i)).map (fun y => [V.str (bs y)]) ++ List.replicate (l.length - i) [.str ⟨#[]⟩])], fun us => match us with | .int _ i :: _ => l.length - i.toNat | _ => 0, ⟨0, Nat.zero_le _, by simp [textDs]⟩, ?_⟩
    rintro n19 l20 ⟨i, hi, e⟩
    cases e
    refine ifD (fun hlt => ?_) (fun hge => ?_)
    · have hi' : i < l.length := by omega
      obtain ⟨c', m', s', l', he⟩ := getDt hi'
      have hm := List.mem_of_getElem? he
      have hwm := wtD_mem hm
      obtain ⟨k, q, m, l2, e1, e2⟩ := ofD_get he
      refine ⟨by omega, hlt, k, bs q, m, encRs l2, trow e1, ?_⟩
      have hc := ih _ (hmem _ hm) (by omega) (hz _ (hmem _ hm))
      rw [e2] at hc
      refine hc.mono fun r hr => ⟨_, hr, ?_⟩
      have htx : (textDs (l.take i)).length = i := by rw [textDs_eq]; simp; omega
      have hlen : ((textDs (l.take i)).map (fun y => [V.str (bs y)]) ++ List.replicate (l.length - i) [V.str ⟨#[]⟩]).length = l.length := by rw [List.length_append, List.length_map, htx, List.length_replicate]; omega
      have hsn : textDs (l.take i) ++ [textD (.mk c' m' s' l')] = textDs (l.take (i + 1)) := by
        rw [textDs_eq, textDs_eq, List.take_add_one, he, List.map_append]; rfl
      rw [hlen, zstep (by omega), zset htx hi', hsn]
      exact ⟨by omega, hlt, by omega, ⟨i + 1, by omega, rfl⟩, by simp only [Int.toNat_natCast]; omega⟩
    · have hfull : l.take i = l := List.take_of_length_le (by omega)
      have h00 : l.length - i = 0 := by omega
      have hnx : (textDs l).length = l.length := by rw [textDs_eq]; simp
      rw [hfull, h00, List.replicate_zero, List.append_nil, h44]
      refine (StrJoin_spec (textDs l) [44, 32] (by omega) (by omega)).mono fun r hr => ⟨_, hr, ?_⟩
      rw [h40, app_bs, h41, app_bs]
      simp only [bs_size, List.length_append, List.length_cons, List.length_nil, hmx]
      exact ⟨by omega, by omega, by simp⟩
  have hjz : (Lib.join (textDs zs) [44, 32]).length ≤ big ∨ c = false := by
    cases c with
    | false => exact .inr rfl
    | true =>
      left
      simp only [textD, if_true] at htl
      split at htl
      · rename_i h; subst h; simp [textDs, Lib.join_nil]
      · simp only [List.length_append, List.length_cons, List.length_nil] at htl; omega
  cases c with
  | false =>
    show PCalls ax 24 [.agg [.int .i64 2, .str (bs []), .int .i64 n, .sl 4 (encRs (ofDs []))]] _
    refine PTerm.calls (K := fun r => r = [.str (bs (textD (.mk false n s zs)))]) ?_
    unfold PTerm.W
    refine ifE (fun _ => ?_) (fun h => absurd rfl h)
    have hil := itoa_len hn.1 hn.2
    refine (Itoa_spec n hn.1 hn.2).mono fun r hr => ⟨_, hr, ?_⟩
    refine (args [] (by simp) (by simp [wtDs]) (by simp [textDs, Lib.join_nil])).mono fun r hr => ⟨_, hr, ?_⟩
    rw [if_pos rfl, app_bs, bs_size, bs_size, hmx]
    exact ⟨by simp only [List.length_nil]; omega, by simp [textD]⟩
  | true =>
    show PCalls ax 24 [.agg [.int .i64 3, .str (bs s), .int .i64 0, .sl 4 (encRs (ofDs zs))]] _
    refine PTerm.calls (K := fun r => r = [.str (bs (textD (.mk true n s zs)))]) ?_
    unfold PTerm.W
    refine ifE (fun h => absurd h (by decide)) (fun _ => ?_)
    refine (args zs (fun _ h => h) (Nat.le_refl _) (hjz.resolve_right (by simp))).mono fun r hr => ⟨_, hr, ?_⟩
    rw [app_bs, bs_size, bs_size, hmx]
    have e : textD (.mk true n s zs) = s ++ (if zs = [] then [] else 40 :: (Lib.join (textDs zs) [44, 32] ++ [41])) := by rw [textD]; rfl
    rw [e] at htl
    rw [List.length_append] at htl
    exact ⟨by omega, by rw [e]⟩
end Go.Proofs.YtgjifgjjcaohoaaGreatDoor.Va
end

/- part Z3F -/
section
namespace Go.Proofs.YtgjifgjjcaohoaaGreatDoor.Va
open Go.Vx Go.Av
/-! ### whA: a piece of function 32, augur/parse.whole[augur/api.Term] -/
def whA.ah : AH := ⟨[(3, seqO [0, 1, 2, 3])], [], [], [(41, ⟨[some [.str]], [.c (.sl 3), .c (.err)], []⟩)], [], [], [], []⟩
noncomputable def whA.c : Code := Av.part [.pre 2] (Tryz.f32.body.getD .skip)
set_option maxRecDepth 100000 in
def whA.W (s : ByteArray) (K : Exit → List V → Store → Prop) : Prop :=
 (PCalls ax 41 [(.str s)] fun r3 => ∃ (l1 : List (List V)) (x2 : Option Nat), r3 = [(.sl 3 l1), (.err x2)] ∧ (bif (!(Option.isNone x2)) then
 (K .ret [(.fn 33 [] []), (.ptr 0 0), (.ptr 1 0), (.sl 3 l1)] [⟨1, (.box [(.int .i64 0), (.str (⟨#[]⟩ : ByteArray)), (.int .i64 0), .nls])⟩, ⟨2, (.box [(.err x2)])⟩])
 else
 (K .normal [(.fn 33 [] []), (.ptr 0 0), (.ptr 1 0), (.sl 3 l1)] [⟨0, (.box [(.int .i64 0), (.str (⟨#[]⟩ : ByteArray)), (.int .i64 0), .nls])⟩, ⟨1, (.box [(.err x2)])⟩])))
set_option maxRecDepth 100000 in
theorem whA.eq (s : ByteArray) (K : Exit → List V → Store → Prop) : whA.W s K = acW ax whA.ah whA.c (fun ex e σ => K ex [e 1, e 4, e 5, e 6] σ) (envL [(0, (.str s)), (1, (.fn 33 [] []))]) [] := by kernel_rfl
theorem whA.ok : codeOk tys (hintsOf whA.ah) Tryz.f32.ntmps whA.c = true := by kernel_rfl
theorem whA.calm : calmC whA.c = true := by kernel_rfl
/-! ### whB: a piece of function 32, augur/parse.whole[augur/api.Term] -/
def whB.ah : AH := ⟨[], [], [], [(33, ⟨[none], [.ag [.int .i64, .str, .int .i64, .sl 4]], [.box [.d (.sl 3), .d (.int .i64)]]⟩), (43, ⟨[none, some [.err]], [], [.box [.d (.sl 3), .d (.int .i64)]]⟩)], [], [], [], []⟩
noncomputable def whB.c : Code := Av.part [.post 3] (Tryz.f32.body.getD .skip)
set_option maxRecDepth 100000 in
def whB.W (tk : List (List V)) (K : Exit → List V → Store → Prop) (T : Nat → List V → Store → Prop) : Prop :=
 (SCallsT ax 33 [(.ptr 0 0)] [(.box [(.sl 3 tk), (.int .i64 0)])] (fun r5 o8 => ∃ (n1 : Int) (s2 : ByteArray) (n3 : Int) (l4 : List (List V)) (l6 : List (List V)) (n7 : Int), r5 = [(.agg [(.int .i64 n1), (.str s2), (.int .i64 n3), (.sl 4 l4)])] ∧ o8 = [(.box [(.sl 3 l6), (.int .i64 n7)])] ∧ (bif (decide (n7 < (List.length tk : Int))) then
 (SCallsT ax 43 [(.ptr 0 0), (.err (some 3))] [(.box [(.sl 3 l6), (.int .i64 n7)])] (fun r14 o17 => ∃ (l15 : List (List V)) (n16 : Int), r14 = [] ∧ o17 = [(.box [(.sl 3 l15), (.int .i64 n16)])] ∧ (K .ret [] [⟨2, (.box [(.int .i64 n1), (.str s2), (.int .i64 n3), (.sl 4 l4)])⟩, ⟨1, (.box [(.err none)])⟩, ⟨2, (.box [(.sl 3 l15), (.int .i64 n16)])⟩])) (fun t20 u21 o22 => ∃ (l18 : List (List V)) (n19 : Int), o22 = [(.box [(.sl 3 l18), (.int .i64 n19)])] ∧ (T t20 u21 [⟨1, (.box [(.int .i64 n1), (.str s2), (.int .i64 n3), (.sl 4 l4)])⟩, ⟨0, (.box [(.err none)])⟩, ⟨2, (.box [(.sl 3 l18), (.int .i64 n19)])⟩])))
 else
 (K .ret [] [⟨2, (.box [(.int .i64 n1), (.str s2), (.int .i64 n3), (.sl 4 l4)])⟩, ⟨1, (.box [(.err none)])⟩, ⟨1, (.box [(.sl 3 l6), (.int .i64 n7)])⟩]))) (fun t11 u12 o13 => ∃ (l9 : List (List V)) (n10 : Int), o13 = [(.box [(.sl 3 l9), (.int .i64 n10)])] ∧ (T t11 u12 [⟨0, (.box [(.int .i64 0), (.str (⟨#[]⟩ : ByteArray)), (.int .i64 0), .nls])⟩, ⟨0, (.box [(.err none)])⟩, ⟨1, (.box [(.sl 3 l9), (.int .i64 n10)])⟩])))
set_option maxRecDepth 100000 in
theorem whB.eq (tk : List (List V)) (K : Exit → List V → Store → Prop) (T : Nat → List V → Store → Prop) : whB.W tk K T = acW { ax with T := some T } whB.ah whB.c (fun ex _e σ => K ex [] σ) (envL [(1, (.fn 33 [] [])), (4, (.ptr 0 0)), (5, (.ptr 1 0)), (6, (.sl 3 tk))]) [⟨0, (.box [(.int .i64 0), (.str (⟨#[]⟩ : ByteArray)), (.int .i64 0), .nls])⟩, ⟨0, (.box [(.err none)])⟩] := by kernel_rfl
theorem whB.ok : codeOk tys (hintsOf whB.ah) Tryz.f32.ntmps whB.c = true := by kernel_rfl
theorem whB.calm : calmC whB.c = true := by kernel_rfl
/-! ### whC: a piece of function 42, augur/parse.whole[augur/api.Term]$1 -/
def whC.ah : AH := ⟨[(3, seqO [0, 1, 2, 3, 4])], [], [], [], [], [], [], []⟩
noncomputable def whC.c : Code := Av.part [.drp 2] (Tryz.f42.body.getD .skip)
set_option maxRecDepth 100000 in
def whC.W (x : Option Nat) (b : Bool) (k : Int) (t : ByteArray) (n : Int) (l : List (List V)) (tk : List (List V)) (pos : Int) (K : Exit → List V → Store → Prop) : Prop :=
 (bif b then
 (K .normal [(.ptr 0 0), (.ptr 1 0)] [⟨1, (.box [(.int .i64 0), (.str (⟨#[]⟩ : ByteArray)), (.int .i64 0), .nls])⟩, ⟨1, (.box [(.err x)])⟩, ⟨0, (.box [(.sl 3 tk), (.int .i64 pos)])⟩, ⟨1, (.box [(.err x)])⟩, ⟨0, (.box [(.int .i64 0), (.str (⟨#[]⟩ : ByteArray)), (.int .i64 0), .nls])⟩])
 else
 (K .normal [(.ptr 0 0), (.ptr 1 0)] [⟨0, (.box [(.int .i64 k), (.str t), (.int .i64 n), (.sl 4 l)])⟩, ⟨0, (.box [(.err none)])⟩, ⟨0, (.box [(.sl 3 tk), (.int .i64 pos)])⟩, ⟨1, (.box [(.err x)])⟩]))
set_option maxRecDepth 100000 in
theorem whC.eq (x : Option Nat) (b : Bool) (k : Int) (t : ByteArray) (n : Int) (l : List (List V)) (tk : List (List V)) (pos : Int) (K : Exit → List V → Store → Prop) : whC.W x b k t n l tk pos K = acW ax whC.ah whC.c (fun ex e σ => K ex [e 0, e 1] σ) (envL [(0, (.ptr 0 0)), (1, (.ptr 1 0)), (7, (.tup [(.agg [(.err x)]), (.bool b)]))]) [⟨0, (.box [(.int .i64 k), (.str t), (.int .i64 n), (.sl 4 l)])⟩, ⟨0, (.box [(.err none)])⟩, ⟨0, (.box [(.sl 3 tk), (.int .i64 pos)])⟩] := by kernel_rfl
theorem whC.ok : codeOk tys (hintsOf whC.ah) Tryz.f42.ntmps whC.c = true := by kernel_rfl
theorem whC.calm : calmC whC.c = true := by kernel_rfl
/-! ### whC0: a piece of function 42, augur/parse.whole[augur/api.Term]$1 -/
def whC0.ah : AH := ⟨[(3, seqO [0, 1, 2, 3, 4])], [], [], [], [], [], [], []⟩
noncomputable def whC0.c : Code := Av.part [.drp 2] (Tryz.f42.body.getD .skip)
set_option maxRecDepth 100000 in
def whC0.W (x : Option Nat) (b : Bool) (tk : List (List V)) (pos : Int) (K : Exit → List V → Store → Prop) : Prop :=
 (bif b then
 (K .normal [(.ptr 0 0), (.ptr 1 0)] [⟨1, (.box [(.int .i64 0), (.str (⟨#[]⟩ : ByteArray)), (.int .i64 0), .nls])⟩, ⟨1, (.box [(.err x)])⟩, ⟨0, (.box [(.sl 3 tk), (.int .i64 pos)])⟩, ⟨1, (.box [(.err x)])⟩, ⟨0, (.box [(.int .i64 0), (.str (⟨#[]⟩ : ByteArray)), (.int .i64 0), .nls])⟩])
 else
 (K .normal [(.ptr 0 0), (.ptr 1 0)] [⟨0, (.box [(.int .i64 0), (.str (⟨#[]⟩ : ByteArray)), (.int .i64 0), .nls])⟩, ⟨0, (.box [(.err none)])⟩, ⟨0, (.box [(.sl 3 tk), (.int .i64 pos)])⟩, ⟨1, (.box [(.err x)])⟩]))
set_option maxRecDepth 100000 in
theorem whC0.eq (x : Option Nat) (b : Bool) (tk : List (List V)) (pos : Int) (K : Exit → List V → Store → Prop) : whC0.W x b tk pos K = acW ax whC0.ah whC0.c (fun ex e σ => K ex [e 0, e 1] σ) (envL [(0, (.ptr 0 0)), (1, (.ptr 1 0)), (7, (.tup [(.agg [(.err x)]), (.bool b)]))]) [⟨0, (.box [(.int .i64 0), (.str (⟨#[]⟩ : ByteArray)), (.int .i64 0), .nls])⟩, ⟨0, (.box [(.err none)])⟩, ⟨0, (.box [(.sl 3 tk), (.int .i64 pos)])⟩] := by kernel_rfl
theorem whC0.ok : codeOk tys (hintsOf whC0.ah) Tryz.f42.ntmps whC0.c = true := by kernel_rfl
theorem whC0.calm : calmC whC0.c = true := by kernel_rfl
/-! ### what goes back -/
def whR.ah : AH := ⟨[], [], [], [], [], [some [.int .i64, .str, .int .i64, .sl 4], some [.err]], [], []⟩
theorem whR.eq (k : Int) (t : ByteArray) (n : Int) (l : List (List V)) (e : Option Nat) (a b : Nat) (σ : Store) (K : List V → Prop) : K [.agg [.int .i64 k, .str t, .int .i64 n, .sl 4 l], .err e] = aret ax whR.ah 0 Tryz.f32 (onlyV K) (envL [(4, .ptr 0 0), (5, .ptr 1 0)]) (⟨a, .box [.int .i64 k, .str t, .int .i64 n, .sl 4 l]⟩ :: ⟨b, .box [.err e]⟩ :: σ) := by kernel_rfl
theorem whR.eq0 (k : Int) (t : ByteArray) (n : Int) (e : Option Nat) (a b : Nat) (σ : Store) (K : List V → Prop) : K [.agg [.int .i64 k, .str t, .int .i64 n, .sl 4 []], .err e] = aret ax whR.ah 0 Tryz.f32 (onlyV K) (envL [(4, .ptr 0 0), (5, .ptr 1 0)]) (⟨a, .box [.int .i64 k, .str t, .int .i64 n, .nls]⟩ :: ⟨b, .box [.err e]⟩ :: σ) := by kernel_rfl
end Go.Proofs.YtgjifgjjcaohoaaGreatDoor.Va
end

/- part Z3G -/
section
namespace Go.Proofs.YtgjifgjjcaohoaaGreatDoor.Va
open Go.Vx Go.Av Go.Lx Go.Dr Go.RowKit

/-- the error of a code -/
def errZ (c : Int) : Option Nat := if c = 0 then none else if c = 1 then some 2 else some (errG c)

theorem rdTerm_spec (ts : List Tok) (hl : ts.length ≤ big) : SCallsT ax 33 [.ptr 0 0] [PBx ts 0] (fun r o => ∃ x j, parT (2 * ts.length + 3) 1 ts = (0, x, ts.drop j) ∧ j ≤ ts.length ∧ r = [.agg (encR x)] ∧ o = [PBx ts j])
    fun t us o => ∃ c, (parT (2 * ts.length + 3) 1 ts).1 = c ∧ c ≠ 0 ∧ ErrZ ts c t us o := by
  refine rdTerm.calls ?_
  unfold rdTerm.W
  refine (pterm_spec (2 * ts.length + 3) 1 ts 0 (by omega) hl (Nat.zero_le _) (by omega)).mono (fun r o ⟨x, j, h1, _, h3, hr, ho⟩ => ?_) (fun t us o ⟨c, h1, h2, ht, hu, jj, ho⟩ => ?_)
  · obtain ⟨k, q, n, zs, rfl⟩ := tr_cases x
    exact ⟨k, bs q, n, encRs zs, encTs ts, j, hr, ho, _, j, h1, h3, rfl, rfl⟩
  · exact ⟨encTs ts, jj, ho, c, h1, h2, ht, hu, jj, rfl⟩

theorem whole_fin {K : List V → Prop} {G : Nat → Value} {w w' : World} {F F' : Nat → Nat → Prop} {β β' : Nat → Value} {a : Act} {k : Int} {t : ByteArray} {n : Int} {l : List (List V)} {x4 : V} {er : Option Nat} {va vb : Nat} {rest : Store}
    (hx : x4 = .sl 4 l ∨ x4 = .nls ∧ l = []) (h4 : RV ax.gs G w' F' β' (⟨va, .box [.int .i64 k, .str t, .int .i64 n, x4]⟩ :: ⟨vb, .box [.err er]⟩ :: rest) (.ptr 0 0) (a.tmps.getD 4 undef))
    (h5 : RV ax.gs G w' F' β' (⟨va, .box [.int .i64 k, .str t, .int .i64 n, x4]⟩ :: ⟨vb, .box [.err er]⟩ :: rest) (.ptr 1 0) (a.tmps.getD 5 undef))
    (hS : Sim ax.gs G w' F' β' (⟨va, .box [.int .i64 k, .str t, .int .i64 n, x4]⟩ :: ⟨vb, .box [.err er]⟩ :: rest)) (hst : Step w F β (mkS []) w' F' β' (⟨va, .box [.int .i64 k, .str t, .int .i64 n, x4]⟩ :: ⟨vb, .box [.err er]⟩ :: rest))
    (hk : K [.agg [.int .i64 k, .str t, .int .i64 n, .sl 4 l], .err er]) :
    ∃ v, (results Tryz.f32 a.tmps).run Tryz.prog w' = .ok v w' ∧ ∃ rs obs' F' β' rvals, onlyV K rs obs' ∧ v = oneOr rvals ∧ Rl (RV ax.gs G w' F' β' (mkS1 obs')) rs rvals ∧ Sim ax.gs G w' F' β' (mkS1 obs') ∧ Step w F β (mkS []) w' F' β' (mkS1 obs') := by
  have hre : RE ax.gs G w' F' β' (⟨va, .box [.int .i64 k, .str t, .int .i64 n, x4]⟩ :: ⟨vb, .box [.err er]⟩ :: rest) (envL [(4, .ptr 0 0), (5, .ptr 1 0)]) (fun t => a.tmps.getD t undef) := fun t => by
    show RV _ _ _ _ _ _ (cond (Nat.beq t 4) (.ptr 0 0) (cond (Nat.beq t 5) (.ptr 1 0) .junk)) _
    cases hb : Nat.beq t 4 with
    | true => rw [Nat.eq_of_beq_eq_true hb]; exact h4
    | false =>
      cases hb : Nat.beq t 5 with
      | true => rw [Nat.eq_of_beq_eq_true hb]; exact h5
      | false => exact .junk _
  have hrel : RelD [] a.tmps.size (fun t => a.tmps.getD t undef) { a with defers := [] } := ⟨rfl, fun _ => rfl, rfl⟩
  rcases hx with rfl | ⟨rfl, rfl⟩
  · exact aret_run (ax := ax) (ah := whR.ah) (obs := []) tysOk hrel (Eq.mp (whR.eq k t n l er va vb rest K) hk) hre hS hst
  · exact aret_run (ax := ax) (ah := whR.ah) (obs := []) tysOk hrel (Eq.mp (whR.eq0 k t n er va vb rest K) hk) hre hS hst

noncomputable abbrev B32 : Code := Tryz.f32.body.getD .skip
noncomputable abbrev B42 : Code := Tryz.f42.body.getD .skip
theorem preA : Av.pre 2 B32 = whA.c := by kernel_rfl
theorem postA : Av.post 2 B32 = .seq (.region 4 ⟨[opAt (Av.post 2 B32) 0, opAt (Av.post 2 B32) 1]⟩ false) whB.c := by kernel_rfl

/-- what is known of the objects when a struct is thrown -/
def TB (s : List UInt8) : Nat → List V → Store → Prop := fun t us σ => t = 87 ∧ us = [.err (errZ (parZ s).1)] ∧ (parZ s).1 ≠ 0 ∧ (parZ s).2 = zeroTr ∧
  ∃ k tt n x4 i va vb vc, ((x4 = .nls ∧ k = 0 ∧ tt = (⟨#[]⟩ : ByteArray) ∧ n = 0) ∨ ∃ l, x4 = .sl 4 l) ∧ σ = [⟨va, .box [.int .i64 k, .str tt, .int .i64 n, x4]⟩, ⟨vb, .box [.err none]⟩, ⟨vc, PBx (lexR s).1 i⟩]
def KB (s : List UInt8) : Exit → List V → Store → Prop := fun ex _ σ => ex = .ret ∧ (parZ s).1 = 0 ∧ ∃ i va vb vc, σ = [⟨va, .box (encR (parZ s).2)⟩, ⟨vb, .box [.err none]⟩, ⟨vc, PBx (lexR s).1 i⟩]

theorem errZ_of {c : Int} (h : c ≠ 0) (h1 : c ≠ 1) : errZ c = some (errG c) := by unfold errZ; rw [if_neg h, if_neg h1]
theorem parT_code : ∀ f, (∀ n ts, (parT f n ts).1 ≠ 1) ∧ ∀ n acc ts, (parR f n acc ts).1 ≠ 1 := by
  intro f
  induction f with
  | zero => exact ⟨fun n ts => by simp [parT], fun n acc ts => by simp [parR]⟩
  | succ f ih =>
    obtain ⟨i1, i2⟩ := ih
    refine ⟨fun n ts => ?_, fun n acc ts => ?_⟩
    · rw [parT.eq_def]
      dsimp only
      repeat' split
      all_goals first | (simp; done) | exact i2 _ _ _ | skip
    · rw [parR.eq_def]
      dsimp only
      repeat' split
      all_goals first | (simp; done) | exact i2 _ _ _ | exact i1 _ _ | skip
theorem whB_holds (s : List UInt8) (hn : (lexR s).2 = none) : whB.W (encTs (lexR s).1) (KB s) (TB s) := by
  have hl := lexR_len s
  have hb := big9
  have hz : parZ s = endP (parT (2 * (lexR s).1.length + 3) 1 (lexR s).1) := by unfold parZ; rw [if_pos hn]
  have hc1 := (parT_code (2 * (lexR s).1.length + 3)).1 1 (lexR s).1
  unfold whB.W KB TB
  rw [hz]
  generalize (lexR s).1 = ts at hl hc1 ⊢
  refine (rdTerm_spec ts (by omega)).mono (fun r o ⟨x, j, h1, h2, hr, ho⟩ => ?_) fun t us o ⟨c, h1, h2, ht, hu, jj, ho⟩ => ?_
  · obtain ⟨k, q, n, zs, rfl⟩ := tr_cases x
    refine ⟨k, bs q, n, encRs zs, encTs ts, j, hr, ho, ?_⟩
    rw [h1, encTs_length]
    refine ifD (fun hlt => ?_) (fun hge => ?_)
    · have he : endP (0, .mk k q n zs, ts.drop j) = (2, zeroTr) := by
        unfold endP
        rw [if_pos rfl, if_neg (by rw [drop_nil_iff]; omega)]
      rw [he]
      refine (give_spec 3 ts j).mono (fun _ _ h => h.elim) fun t us o ⟨g1, g2, g3⟩ => ?_
      exact ⟨_, _, g3, g1, by rw [g2]; rfl, by decide, rfl, _, _, _, _, j, _, _, _, .inr ⟨_, rfl⟩, rfl⟩
    · have he : endP (0, .mk k q n zs, ts.drop j) = (0, .mk k q n zs) := by
        unfold endP
        rw [if_pos rfl, if_pos (by rw [drop_nil_iff]; omega)]
      rw [he]
      exact ⟨rfl, rfl, j, _, _, _, rfl⟩
  · have he : endP (parT (2 * ts.length + 3) 1 ts) = (c, zeroTr) := by
      unfold endP
      rw [if_neg (by rw [h1]; exact h2), h1]
    rw [he]
    refine ⟨_, _, ho, ht, ?_, h2, rfl, _, _, _, _, jj, _, _, _, .inl ⟨rfl, rfl, rfl, rfl⟩, rfl⟩
    rw [hu, errZ_of h2 (by rw [← h1]; exact hc1)]
end Go.Proofs.YtgjifgjjcaohoaaGreatDoor.Va
end

/- part Z3H -/
section
namespace Go.Proofs.YtgjifgjjcaohoaaGreatDoor.Va
open Go.Vx Go.Av Go.Lx Go.Dr Go.RowKit

noncomputable abbrev o42 (i : Nat) : Oper := opAt B42 i
noncomputable abbrev l42 : List Oper := (opsOf B42).drop 2
noncomputable abbrev r42 : Code := Av.part [.snd] B42
theorem body42 : B42 = .seq (.region 0 ⟨o42 0 :: o42 1 :: l42⟩ false) r42 := by kernel_rfl
theorem cC : whC.c = .seq (.region 0 ⟨l42⟩ false) r42 := by kernel_rfl
theorem cC0 : whC0.c = .seq (.region 0 ⟨l42⟩ false) r42 := by kernel_rfl
theorem zero87 : ((Tryz.prog.info? 87).bind (·.zero)) = some (.agg #[.nilIface]) := by kernel_rfl

/-- what the closure does, by what was thrown -/
theorem catch42 {G : Nat → Value} (hE : ErrOk ax.P ax.gs ax.ift ax.tabs G) {w : World} {F : Nat → Nat → Prop} {β : Nat → Value} {k : Int} {tt : ByteArray} {n : Int} {x4 : V} {ts : List Tok} {i : Nat} {v4 v5 : Value} {u u' : FrameMode} {tv : Value} {x : Option Nat} {b : Bool}
    (hx : (x4 = .nls ∧ k = 0 ∧ tt = (⟨#[]⟩ : ByteArray) ∧ n = 0) ∨ ∃ l, x4 = .sl 4 l)
    (hS : Sim ax.gs G w F β (mkS [.box [.int .i64 k, .str tt, .int .i64 n, x4], .box [.err none], PBx ts i])) (h4 : RV ax.gs G w F β (mkS [.box [.int .i64 k, .str tt, .int .i64 n, x4], .box [.err none], PBx ts i]) (.ptr 0 0) v4) (h5 : RV ax.gs G w F β (mkS [.box [.int .i64 k, .str tt, .int .i64 n, x4], .box [.err none], PBx ts i]) (.ptr 1 0) v5)
    (hmode : (u = .returning ∧ u' = .returning ∧ tv = .tuple #[.agg #[.nilIface], .bool false]) ∨ ∃ x, u = .panicking [{ v := .iface 87 x, recovered := false }] ∧ u' = .panicking [{ v := .iface 87 x, recovered := true }] ∧ tv = .tuple #[x, .bool true])
    (h7 : RV ax.gs G w F β (mkS [.box [.int .i64 k, .str tt, .int .i64 n, x4], .box [.err none], PBx ts i]) (.tup [.agg [.err x], .bool b]) tv) :
    CallsD Tryz.prog 42 #[v4, v5] u w fun en u2 w' => en = .returned (.tuple #[]) ∧ u2 = u' ∧ ∃ σ' F' β' va vb r, Sim ax.gs G w' F' β' σ' ∧ Step w F β (mkS [.box [.int .i64 k, .str tt, .int .i64 n, x4], .box [.err none], PBx ts i]) w' F' β' σ' ∧
      σ' = cond b (⟨va, .box [.int .i64 0, .str (⟨#[]⟩ : ByteArray), .int .i64 0, .nls]⟩ :: ⟨vb, .box [.err x]⟩ :: r) (⟨va, .box [.int .i64 k, .str tt, .int .i64 n, x4]⟩ :: ⟨vb, .box [.err none]⟩ :: r) := by
  let KC : Exit → List V → Store → Prop := fun ex _ σ => ex = .normal ∧ ∃ va vb r, σ = cond b (⟨va, .box [.int .i64 0, .str (⟨#[]⟩ : ByteArray), .int .i64 0, .nls]⟩ :: ⟨vb, .box [.err x]⟩ :: r) (⟨va, .box [.int .i64 k, .str tt, .int .i64 n, x4]⟩ :: ⟨vb, .box [.err none]⟩ :: r)
  have main : ∀ (ah : AH), codeOk tys (hintsOf ah) Tryz.f42.ntmps (.seq (.region 0 ⟨l42⟩ false) r42) = true → ah.joins = [] →
      acW ax ah (.seq (.region 0 ⟨l42⟩ false) r42) (fun ex e σ => KC ex [e 0, e 1] σ) (envL [(0, .ptr 0 0), (1, .ptr 1 0), (7, .tup [.agg [.err x], .bool b])]) (mkS [.box [.int .i64 k, .str tt, .int .i64 n, x4], .box [.err none], PBx ts i]) → _ := fun ah hok hj h =>
    catch_calls (ax := ax) (ah := ah) (o0 := o42 0) (o1 := o42 1) (l := l42) (rest := r42) (d0 := 6) (d1 := 7) (T := 87) (xT := 20) (vals := [v4, v5]) (args := [.ptr 0 0, .ptr 1 0]) (e7 := .tup [.agg [.err x], .bool b]) (e := envL [(0, .ptr 0 0), (1, .ptr 1 0), (7, .tup [.agg [.err x], .bool b])]) (K := fun ex e σ => KC ex [e 0, e 1] σ) tysOk fnsOk follows eqOk hE rfl Tryz.func42 (by kernel_rfl : Tryz.f42.body = some B42) body42 (by kernel_rfl) (by kernel_rfl) (by kernel_rfl) (by kernel_rfl) (by kernel_rfl) (by kernel_rfl) (by kernel_rfl)
      Tryz.underlying87 zero87 (by decide) (by decide) (by kernel_rfl) hok (by kernel_rfl) hj hS (.cons h4 (.cons h5 .nil)) (by decide) hmode h7
      (fun t => match t with | 0 => .inl rfl | 1 => .inl rfl | 2 => .inr rfl | 3 => .inr rfl | 4 => .inr rfl | 5 => .inr rfl | 6 => .inl rfl | 7 => .inl rfl | _ + 8 => .inr rfl) h (fun ex e' σ' hk => .inl hk.1)
  have hfin := fun (ah : AH) h1 h2 h3 => (main ah h1 h2 h3).mono (R' := fun en u2 w' => en = .returned (.tuple #[]) ∧ u2 = u' ∧ ∃ σ' F' β' va vb r, Sim ax.gs G w' F' β' σ' ∧ Step w F β (mkS [.box [.int .i64 k, .str tt, .int .i64 n, x4], .box [.err none], PBx ts i]) w' F' β' σ' ∧
      σ' = cond b (⟨va, .box [.int .i64 0, .str (⟨#[]⟩ : ByteArray), .int .i64 0, .nls]⟩ :: ⟨vb, .box [.err x]⟩ :: r) (⟨va, .box [.int .i64 k, .str tt, .int .i64 n, x4]⟩ :: ⟨vb, .box [.err none]⟩ :: r)) (by
    rintro en u2 w' ⟨h1, h2, ex, e', σ', F', β', ⟨_, va, vb, r, hk⟩, h3, h4⟩
    exact ⟨h1, h2, σ', F', β', va, vb, r, h3, h4, hk⟩)
  rcases hx with ⟨rfl, rfl, rfl, rfl⟩ | ⟨l, rfl⟩
  · refine hfin whC0.ah (cC0 ▸ whC0.ok) rfl ?_
    have h := Eq.mp (whC0.eq x b (encTs ts) i KC) (by
      unfold whC0.W
      cases b
      · exact ⟨rfl, _, _, _, rfl⟩
      · exact ⟨rfl, _, _, _, rfl⟩)
    rw [cC0] at h
    exact h
  · refine hfin whC.ah (cC ▸ whC.ok) rfl ?_
    have h := Eq.mp (whC.eq x b k tt n l (encTs ts) i KC) (by
      unfold whC.W
      cases b
      · exact ⟨rfl, _, _, _, rfl⟩
      · exact ⟨rfl, _, _, _, rfl⟩)
    rw [cC] at h
    exact h
end Go.Proofs.YtgjifgjjcaohoaaGreatDoor.Va
end

/- part Z3I -/
section
namespace Go.Proofs.YtgjifgjjcaohoaaGreatDoor.Va
open Go.Vx Go.Av Go.Lx Go.Dr Go.RowKit

theorem not_asg {l : List Nat} {t : Nat} (h : hasB l t = false) : t ∉ l := fun hm => by rw [hasB_iff.2 hm] at h; cases h
theorem enc0 (s : List UInt8) (h : (parZ s).2 = zeroTr) : encR (parZ s).2 = [.int .i64 0, .str (⟨#[]⟩ : ByteArray), .int .i64 0, .sl 4 []] := by rw [h]; rfl

theorem whole_spec (s : List UInt8) : PCalls ax 32 [.str (bs s), .fn 33 [] []] fun r => r = [.agg (encR (parZ s).2), .err (errZ (parZ s).1)] := by
  intro G w F β vals hE hS hr
  have hl := lexR_len s
  have hb := big9
  generalize hK : (fun r : List V => r = [.agg (encR (parZ s).2), .err (errZ (parZ s).1)]) = K
  let R : Ending → World → Prop := fun e w' => ∃ rs obs' F' β' rvals, onlyV K rs obs' ∧ e = .returned (oneOr rvals) ∧ Rl (RV ax.gs G w' F' β' (mkS1 obs')) rs rvals ∧ Sim ax.gs G w' F' β' (mkS1 obs') ∧ Step w F β (mkS []) w' F' β' (mkS1 obs')
  refine calls_of_wp_defers (R := R) Tryz.func32 (by kernel_rfl : Tryz.f32.body = some B32) ?_
  have hst : St ax G w F β (mkS []) [] Tryz.f32.ntmps (envL [(0, .str (bs s)), (1, .fn 33 [] [])]) [] { tmps := vals.toArray ++ Array.replicate (Tryz.f32.ntmps - vals.toArray.size) undef, defers := [] } w :=
    St.env (St.start (n := Tryz.f32.ntmps) hS hr (Nat.le_of_ble_eq_true (by kernel_rfl))) fun t => match t with | 0 => .inl rfl | 1 => .inl rfl | _ + 2 => .inr rfl
  let KA : Exit → List V → Store → Prop := fun ex vs σ => ((lexR s).2 ≠ none ∧ ex = .ret ∧ vs = [.fn 33 [] [], .ptr 0 0, .ptr 1 0, .sl 3 (encTs (lexR s).1)] ∧ σ = [⟨1, .box [.int .i64 0, .str (⟨#[]⟩ : ByteArray), .int .i64 0, .nls]⟩, ⟨2, .box [.err (lexR s).2]⟩]) ∨
    ((lexR s).2 = none ∧ ex = .normal ∧ vs = [.fn 33 [] [], .ptr 0 0, .ptr 1 0, .sl 3 (encTs (lexR s).1)] ∧ σ = [⟨0, .box [.int .i64 0, .str (⟨#[]⟩ : ByteArray), .int .i64 0, .nls]⟩, ⟨1, .box [.err none]⟩])
  have hA : whA.W (bs s) KA := by
    unfold whA.W
    refine (Lex_spec s).mono fun r hr => ⟨_, _, hr, ?_⟩
    cases hn : (lexR s).2 with
    | none => exact .inr ⟨hn, rfl, rfl, rfl⟩
    | some g => exact .inl ⟨by rw [hn]; simp, rfl, rfl, by rw [hn]⟩
  refine St.chainD (ax := ax) (ah := whA.ah) tysOk fnsOk follows eqOk hE (fx := ⟨ax.fns, none⟩) ⟨rfl, rfl⟩ rfl (K := fun ex e σ => KA ex [e 1, e 4, e 5, e 6] σ) 2 (by kernel_rfl) (by rw [preA]; exact whA.ok) (by rw [preA]; exact whA.calm) (by rw [preA]; exact Eq.mp (whA.eq (bs s) KA) hA) hst (fun ch a' w' _ _ h => False.elim h) ?_
  intro ex e' σ' a' w' hk hs' _
  obtain ⟨ρ, F1, β1, r1, r2, r3, r4⟩ := hs'
  have vals4 : ∀ {t : Nat} {v : V}, e' t = v → RV ax.gs G w' F1 β1 σ' v (a'.tmps.getD t undef) := fun {t v} h => by
    have := r2 t; rw [h, ← r1.at_ t] at this; exact this
  rcases hk with ⟨hn, rfl, hv, rfl⟩ | ⟨hn, rfl, hv, rfl⟩
  · -- the lexer's error
    simp only [List.cons.injEq, and_true] at hv
    obtain ⟨_, e4, e5, _⟩ := hv
    have hz : parZ s = (lexE (lexR s).2, zeroTr) := by unfold parZ; rw [if_neg hn]
    have he : errZ (lexE (lexR s).2) = (lexR s).2 := by
      rcases lexR_err s with h | h | h
      · exact absurd h hn
      · rw [h]; rfl
      · rw [h]; rfl
    show Leaves Tryz.prog Tryz.f32 a'.tmps R a'.defers .returning w'
    rw [r1.defers]
    obtain ⟨v, hv1, rs, obs', F2, β2, rvals, q1, q2, q3, q4, q5⟩ := whole_fin (K := K) (.inr ⟨rfl, rfl⟩) (vals4 e4) (vals4 e5) r3 r4 (by rw [← hK, hz, he]; rfl)
    exact ⟨v, hv1, rs, obs', F2, β2, rvals, q1, by rw [q2], q3, q4, q5⟩
  · -- the parser
    simp only [List.cons.injEq, and_true] at hv
    obtain ⟨e1, e4, e5, e6⟩ := hv
    have z0 := r3.zero
    let obs0 : List Ob := [.box [.int .i64 0, .str (⟨#[]⟩ : ByteArray), .int .i64 0, .nls], .box [.err none]]
    have s0 : Sim ax.gs G w' F1 β1 (mkS obs0) := z0.1
    have st0 : Step w F β (mkS []) w' F1 β1 (mkS obs0) := Step.trim0 (σ1 := Av.zero _) r4 (fun i _ => zero_get _ i)
    have rv0 : ∀ {t : Nat} {v : V}, e' t = v → RV ax.gs G w' F1 β1 (mkS obs0) v (a'.tmps.getD t undef) := fun h => z0.2 (vals4 h)
    show (Av.post 2 B32).wp Tryz.prog _ a' w'
    have hsz : a'.tmps.size = Tryz.f32.ntmps := r1.size
    refine defer_wp (d0 := 17) (g := 42) (caps := #[.tmp 4, .tmp 5]) postA (by kernel_rfl) (by kernel_rfl) (by kernel_rfl) (by kernel_rfl) (by kernel_rfl) (by kernel_rfl) (by rw [hsz]; decide) ?_
    rw [r1.defers]
    have hcaps : (#[.tmp 4, .tmp 5] : Array Operand).map a'.eval = #[a'.tmps.getD 4 undef, a'.tmps.getD 5 undef] := by simp [Act.eval]
    rw [hcaps]
    generalize hv4 : a'.tmps.getD 4 undef = v4
    generalize hv5 : a'.tmps.getD 5 undef = v5
    generalize hd : ({ target := .fn (.func 42) #[v4, v5], args := #[] } : Deferred) = d
    generalize ha2 : a'.put (some 17) (.func (.func 42) #[] #[v4, v5]) = a2
    have q4 : a2.tmps.getD 4 undef = v4 := by rw [← ha2, put_getD (by decide)]; exact hv4
    have q5 : a2.tmps.getD 5 undef = v5 := by rw [← ha2, put_getD (by decide)]; exact hv5
    have g4 : RV ax.gs G w' F1 β1 (mkS obs0) (.ptr 0 0) v4 := hv4 ▸ rv0 e4
    have g5 : RV ax.gs G w' F1 β1 (mkS obs0) (.ptr 1 0) v5 := hv5 ▸ rv0 e5
    have hst2 : St ax G w' F1 β1 (mkS obs0) [d] Tryz.f32.ntmps (envL [(1, .fn 33 [] []), (4, .ptr 0 0), (5, .ptr 1 0), (6, .sl 3 (encTs (lexR s).1))]) (mkS obs0) { a2 with defers := [d] } w' := by
      have hp := (show Rel Tryz.f32.ntmps ρ { a' with defers := [] } from ⟨r1.size, r1.at_, rfl⟩).put (some 17) (.func (.func 42) #[] #[v4, v5]) (fun x hx => by cases hx; decide)
      refine ⟨ρ.put (some 17) (.func (.func 42) #[] #[v4, v5]), F1, β1, ⟨?_, fun t => ?_, rfl⟩, fun t => ?_, s0, Step.refl _ _ _ _⟩
      · rw [← ha2]; exact hp.size
      · rw [← ha2]; exact hp.at_ t
      · have hnj : ∀ {t : Nat} {v : V}, e' t = v → t ≠ 17 → RV ax.gs G w' F1 β1 (mkS obs0) v (ρ.put (some 17) (.func (.func 42) #[] #[v4, v5]) t) := fun {t v} h ht => by
          rw [put_ne (fun hh => ht (by cases hh; rfl)), ← r1.at_ t]; exact rv0 h
        match t with
        | 0 => exact .junk _
        | 1 => exact hnj e1 (by decide)
        | 2 => exact .junk _
        | 3 => exact .junk _
        | 4 => exact hnj e4 (by decide)
        | 5 => exact hnj e5 (by decide)
        | 6 => exact hnj e6 (by decide)
        | _ + 7 => exact .junk _
    let X : List PanicEntry → World → Prop := fun ch w2 => ∃ t us xs F2 β2 σ2, TB s t us σ2 ∧ ch = [{ v := .iface t (.agg xs.toArray), recovered := false }] ∧ Rl (FV ax.gs G w2 F2) us xs ∧ Sim ax.gs G w2 F2 β2 σ2 ∧ Step w' F1 β1 (mkS obs0) w2 F2 β2 σ2
    have hX : ThrOk { ax with T := some (TB s) } ⟨ax.fns, some X⟩ G w' F1 β1 (mkS obs0) := ⟨rfl, X, rfl, fun t us xs w2 F2 β2 σ2 k1 k2 k3 k4 => ⟨t, us, xs, F2, β2, σ2, k1, rfl, k2, k3, k4⟩⟩
    refine wp_mono (St.pieceD (ax := { ax with T := some (TB s) }) (ah := whB.ah) tysOk fnsOk follows eqOk hE hX whB.ok whB.calm (Eq.mp (whB.eq (encTs (lexR s).1) (KB s) (TB s)) (whB_holds s hn)) hst2) ?_
    have n4 : 4 ∉ assigned (hintsOf whB.ah) whB.c := not_asg (by kernel_rfl)
    have n5 : 5 ∉ assigned (hintsOf whB.ah) whB.c := not_asg (by kernel_rfl)
    have hinv : ∀ w2 : World, (invoke (.fn (.func 42) #[v4, v5]) #[]).run Tryz.prog w2 = .ok (.enter 42 #[v4, v5]) w2 := fun w2 => by
      have h1 := Tryz.func42
      have h2 : (Tryz.f42.name == "runtime.NumGoroutine") = false := by kernel_rfl
      have h3 : Tryz.f42.body.isNone = false := by kernel_rfl
      simp only [invoke, callFunc, Sem.run_bind, Sem.run_pure, Result.andThen_ok, run_program, h1, h2, h3, Bool.false_eq_true, if_false]
      rfl
    rintro ex a3 w3 (⟨ch, rfl, hdf, hfr, t, us, xs, F2, β2, σ2, ⟨rfl, hus, hc0, hz0, k, tt, n, x4, i, va, vb, vc, hx, rfl⟩, rfl, h2, h3, h4⟩ | ⟨e3, σ3, ⟨rfl, hc0, i, va, vb, vc, rfl⟩, ⟨ρ3, F2, β2, m1, m2, m3, m4⟩, hfr⟩)
    · -- thrown
      subst hus
      obtain ⟨x1, xs', rfl, hx1, hx2⟩ := h2.cons_inv
      obtain rfl := hx2.nil_inv
      have z3 := h3.zero
      have p4 := z3.2 (g4.mono h4.carry)
      have p5 := z3.2 (g5.mono h4.carry)
      have st3 : Step w F β (mkS []) w3 F2 β2 (Av.zero [⟨va, .box [.int .i64 k, .str tt, .int .i64 n, x4]⟩, ⟨vb, .box [.err none]⟩, ⟨vc, PBx (lexR s).1 i⟩]) := Step.trim0 (σ1 := Av.zero _) (st0.trans h4) (fun i _ => zero_get _ i)
      show Leaves Tryz.prog Tryz.f32 a3.tmps R a3.defers (.panicking [{ v := .iface 87 (.agg #[x1]), recovered := false }]) w3
      rw [hdf, ← hd]
      refine leaves_cons (by simp) (hinv w3) ((catch42 (b := true) hE hx z3.1 p4 p5 (.inr ⟨.agg #[x1], rfl, rfl, rfl⟩) (.tup _ [.agg #[x1], .bool true] rfl (Rl.cons (.agg _ [x1] rfl (Rl.cons (.fz _ _ hx1) .nil).2) (.cons (.fz _ _ (.bool true)) .nil)).2)).mono ?_)
      rintro en u2 w4 ⟨rfl, rfl, σ4, F4, β4, va4, vb4, r, S4, st4, hσ⟩
      rw [cond_true] at hσ
      subst hσ
      show Leaves Tryz.prog Tryz.f32 a3.tmps R [] .returning w4
      have t4 : a3.tmps.getD 4 undef = v4 := (hfr 4 n4).trans q4
      have t5 : a3.tmps.getD 5 undef = v5 := (hfr 5 n5).trans q5
      obtain ⟨v, hv1, rs, obs', F5, β5, rvals, y1, y2, y3, y4, y5⟩ := whole_fin (K := K) (a := a3) (.inr ⟨rfl, rfl⟩) (t4 ▸ p4.mono st4.carry) (t5 ▸ p5.mono st4.carry) S4 (st3.trans st4) (by rw [← hK, enc0 s hz0])
      exact ⟨v, hv1, rs, obs', F5, β5, rvals, y1, by rw [y2], y3, y4, y5⟩
    · -- returned
      obtain ⟨k, q, n, zs, hq⟩ := tr_cases (parZ s).2
      rw [hq] at m2 m3 m4
      have m3' : Sim ax.gs G w3 F2 β2 [⟨va, .box [.int .i64 k, .str (bs q), .int .i64 n, .sl 4 (encRs zs)]⟩, ⟨vb, .box [.err none]⟩, ⟨vc, PBx (lexR s).1 i⟩] := m3
      have m4' : Step w' F1 β1 (mkS obs0) w3 F2 β2 [⟨va, .box [.int .i64 k, .str (bs q), .int .i64 n, .sl 4 (encRs zs)]⟩, ⟨vb, .box [.err none]⟩, ⟨vc, PBx (lexR s).1 i⟩] := m4
      have z3 := m3'.zero
      have p4 := z3.2 (g4.mono m4'.carry)
      have p5 := z3.2 (g5.mono m4'.carry)
      have st3 : Step w F β (mkS []) w3 F2 β2 (Av.zero [⟨va, .box [.int .i64 k, .str (bs q), .int .i64 n, .sl 4 (encRs zs)]⟩, ⟨vb, .box [.err none]⟩, ⟨vc, PBx (lexR s).1 i⟩]) := Step.trim0 (σ1 := Av.zero _) (st0.trans m4') (fun i _ => zero_get _ i)
      show Leaves Tryz.prog Tryz.f32 a3.tmps R a3.defers .returning w3
      rw [show a3.defers = [d] from m1.defers, ← hd]
      refine leaves_cons (by simp) (hinv w3) ((catch42 (b := false) (x := none) hE (.inr ⟨_, rfl⟩) z3.1 p4 p5 (.inl ⟨rfl, rfl, rfl⟩) (.tup _ [.agg #[.nilIface], .bool false] rfl (Rl.cons (.agg _ [.nilIface] rfl (Rl.cons (.fz _ _ .errn) .nil).2) (.cons (.fz _ _ (.bool false)) .nil)).2)).mono ?_)
      rintro en u2 w4 ⟨rfl, rfl, σ4, F4, β4, va4, vb4, r, S4, st4, hσ⟩
      rw [cond_false] at hσ
      subst hσ
      show Leaves Tryz.prog Tryz.f32 a3.tmps R [] .returning w4
      have t4 : a3.tmps.getD 4 undef = v4 := (hfr 4 n4).trans q4
      have t5 : a3.tmps.getD 5 undef = v5 := (hfr 5 n5).trans q5
      obtain ⟨v, hv1, rs, obs', F5, β5, rvals, y1, y2, y3, y4, y5⟩ := whole_fin (K := K) (a := a3) (.inl rfl) (t4 ▸ p4.mono st4.carry) (t5 ▸ p5.mono st4.carry) S4 (st3.trans st4) (by rw [← hK, hq, hc0]; rfl)
      exact ⟨v, hv1, rs, obs', F5, β5, rvals, y1, by rw [y2], y3, y4, y5⟩
end Go.Proofs.YtgjifgjjcaohoaaGreatDoor.Va
end

/- part Z5E -/
section
namespace Go.Proofs.YtgjifgjjcaohoaaGreatDoor.Va
open Go.Vx Go.Av Go.Lx Go.Dr Go.RowKit

def codeOk4 (c : Int) : Prop := c = 0 ∨ c = 2 ∨ c = 3 ∨ c = 4
theorem parT_codes : ∀ f, (∀ n ts, codeOk4 (parT f n ts).1) ∧ ∀ n acc ts, codeOk4 (parR f n acc ts).1 := by
  intro f
  induction f with
  | zero => exact ⟨fun n ts => by simp [parT, codeOk4], fun n acc ts => by simp [parR, codeOk4]⟩
  | succ f ih =>
    obtain ⟨i1, i2⟩ := ih
    refine ⟨fun n ts => ?_, fun n acc ts => ?_⟩
    · rw [parT.eq_def]
      dsimp only
      repeat' split
      all_goals first | (simp [codeOk4]; done) | exact i2 _ _ _ | skip
    · rw [parR.eq_def]
      dsimp only
      repeat' split
      all_goals first | (simp [codeOk4]; done) | exact i2 _ _ _ | exact i1 _ _ | skip
theorem parZ_codes (s : List UInt8) : codeOk4 (parZ s).1 ∨ (parZ s).1 = 1 := by
  unfold parZ
  split
  · left
    have := (parT_codes (2 * (lexR s).1.length + 3)).1 1 (lexR s).1
    generalize parT (2 * (lexR s).1.length + 3) 1 (lexR s).1 = q at this
    obtain ⟨e, x, r⟩ := q
    unfold endP
    dsimp only
    split
    · split
      · left; rfl
      · right; left; rfl
    · exact this
  · rename_i hn
    rcases lexR_err s with h | h | h
    · exact absurd h hn
    · rw [h]; left; right; right; right; rfl
    · rw [h]; right; rfl
/-- the error of a code -/
def errD (c : Int) : Option Nat := if c = 10 then some 1 else errZ c
theorem NumD_spec (c : Int) (h : codeOk4 c ∨ c = 1 ∨ c = 10) : PCalls ax 8 [.err (errD c)] fun r => r = [.int .i64 c] := by
  rcases h with (rfl | rfl | rfl | rfl) | rfl | rfl
  · exact Num_none
  · exact Num_spec 1 (by decide)
  · exact Num_spec 2 (by decide)
  · exact Num_spec 3 (by decide)
  · exact Num_spec 0 (by decide)
  · exact Num_spec 9 (by decide)
theorem readZ_codes (s : List UInt8) : codeOk4 (readZ s).1 ∨ (readZ s).1 = 1 ∨ (readZ s).1 = 10 := by
  unfold readZ
  split
  · rcases parZ_codes s with h | h
    · exact .inl h
    · exact .inr (.inl h)
  · split
    · right; right; rfl
    · split
      · left; left; rfl
      · left; right; right; right; rfl
theorem Term_spec (s : List UInt8) : PCalls ax 19 [.str (bs s)] fun r => r = [.agg (encR (parZ s).2), .err (errZ (parZ s).1)] := by
  refine Term.calls (K := fun r => r = [.agg (encR (parZ s).2), .err (errZ (parZ s).1)]) ?_
  unfold Term.W
  refine (whole_spec s).mono fun r hr => ?_
  obtain ⟨k, q, n, zs, e⟩ := tr_cases (parZ s).2
  rw [e] at hr ⊢
  exact ⟨k, bs q, n, encRs zs, _, hr, rfl⟩
theorem Read_spec (s : List UInt8) : PCalls ax 6 [.str (bs s)] fun r => r = [.agg (encD (readZ s).2), .err (errD (readZ s).1)] := by
  refine Read.calls (K := fun r => r = [.agg (encD (readZ s).2), .err (errD (readZ s).1)]) ?_
  unfold Read.W
  have hok := parZ_ok (Lx.lexR_rng s)
  have hcd := parZ_codes s
  unfold readZ
  refine (Term_spec s).mono fun r hr => ?_
  generalize parZ s = p at hok hcd hr ⊢
  obtain ⟨c, t⟩ := p
  obtain ⟨k, q, n, zs, rfl⟩ := tr_cases t
  refine ⟨k, bs q, n, encRs zs, _, hr, ?_⟩
  by_cases h : c = 0
  · subst h
    refine ifN (fun h => by cases h) (fun _ => ?_)
    rw [if_neg (by simp)]
    have hok := hok rfl
    refine (of_spec (.mk k q n zs) 63 hok).mono fun r hr => ?_
    cases hof : ofT (.mk k q n zs) with
    | none =>
      rw [hof] at hr
      exact ⟨_, _, _, _, _, hr, ifN (fun _ => rfl) (fun h => by cases h)⟩
    | some x =>
      rw [hof] at hr
      obtain ⟨c', n', s', zs', rfl⟩ := dt_cases x
      refine ⟨c', n', bs s', encDs zs', true, hr, ifN (fun h => by cases h) (fun _ => ?_)⟩
      have hd := ofT_ok _ _ _ hok hof
      refine (Good_spec (.mk c' n' s' zs') 63 hd (by omega)).mono fun r hr => ⟨_, hr, ifN (fun h => ?_) (fun h => ?_)⟩
      · dsimp only; rw [if_neg (of_decide_eq_false h)]; rfl
      · dsimp only; rw [if_pos (of_decide_eq_true h)]; rfl
  · have he : errZ c ≠ none := by
      unfold errZ; rw [if_neg h]; split <;> simp
    have he2 : errD c = errZ c := by
      unfold errD
      rw [if_neg]
      rintro rfl
      rcases hcd with (h | h | h | h) | h <;> cases h
    refine ifN (fun _ => ?_) (fun hh => ?_)
    · rw [if_pos h, he2]; rfl
    · cases hz : errZ c with
      | none => exact absurd hz he
      | some g => rw [hz] at hh; cases hh
theorem Text_spec (x : Dt) (h1 : okD 63 x) (h2 : okN x) (h3 : sizeD x ≤ 4096) : PCalls ax 10 [.agg (encD x)] fun r => r = [.str (bs (textD x)), .err none] := by
  have hb := big9
  have hw := okN_wt x h2
  have hrn := okD_rng x 63 h1
  obtain ⟨c, n, s, zs, rfl⟩ := dt_cases x
  refine Text.calls (K := fun r => r = [.str (bs (textD (.mk c n s zs))), .err none]) ?_
  unfold Text.W
  refine (Good_spec (.mk c n s zs) 63 h1 (by omega)).mono fun r hr => ⟨_, hr, ifN (fun h => ?_) (fun _ => ?_)⟩
  · exact absurd h3 (of_decide_eq_false h)
  refine (term_spec (.mk c n s zs) (by omega)).mono fun r hr => ?_
  have hp := PTerm_spec (.mk c n s zs) (by omega) hrn
  obtain ⟨k, q, m, l, e⟩ := tr_cases (ofD (.mk c n s zs))
  rw [e] at hr hp
  exact ⟨k, bs q, m, encRs l, hr, hp.mono fun r hr => ⟨_, hr, rfl⟩⟩
theorem readZ_cases (s : List UInt8) : (∃ x, readZ s = (0, x)) ∨ (readZ s).1 ≠ 0 ∧ (readZ s).2 = zeroD := by
  unfold readZ
  split
  · rename_i h; exact .inr ⟨h, rfl⟩
  · split
    · exact .inr ⟨by simp, rfl⟩
    · split
      · exact .inl ⟨_, rfl⟩
      · exact .inr ⟨by simp, rfl⟩
theorem Reads_spec (s : List UInt8) : PCalls ax 3 [.str (bs s)] fun r => r = [.bool true] := by
  refine Reads.calls (K := fun r => r = [.bool true]) ?_
  unfold Reads.W
  refine Alive_spec.mono fun r hr => ⟨true, hr, ifN (fun h => by cases h) (fun _ => ?_)⟩
  have hcd := readZ_codes s
  have r1 := Read_spec s
  have r2 := RRead_spec s (Lx.lexR_rng s)
  have hz0 : okD 63 zeroD := ⟨by simp, fun h => absurd rfl h, fun _ => rfl, trivial, by decide⟩
  rcases readZ_cases s with ⟨x, hx⟩ | ⟨hc, hz⟩
  · obtain ⟨o1, o2, o3⟩ := readZ_ok hx
    have again := readZ_again o1 o2 o3
    rw [hx] at r1 r2
    have hT := Text_spec x o1 o2 o3
    have hS := Same_refl x 63 o1
    have hR := Read_spec (textD x)
    rw [again] at hR
    obtain ⟨c, n, q, zs, rfl⟩ := dt_cases x
    refine r1.mono fun r hr => ⟨c, n, bs q, encDs zs, errD 0, hr, ?_⟩
    refine r2.mono fun r hr => ⟨c, n, bs q, encDs zs, 0, hr, ?_⟩
    refine (NumD_spec 0 (.inl (.inl rfl))).mono fun r hr => ⟨0, hr, ifNE (fun h => absurd rfl h) (fun _ => ?_)⟩
    refine hS.mono fun r hr => ⟨true, hr, ifN (fun h => by cases h) (fun _ => ifNE (fun h => absurd rfl h) (fun _ => ?_))⟩
    refine hT.mono fun r hr => ⟨bs (textD (.mk c n q zs)), none, hr, ?_⟩
    by_cases hl : 16384 < (textD (.mk c n q zs)).length
    · rw [if_pos hl] at hR
      refine hR.mono fun r hr => ⟨_, _, _, _, errD 4, hr, ?_⟩
      show [V.bool (decide (((bs (textD (.mk c n q zs))).size : Int) > (16384 : Int)))] = [V.bool true]
      rw [bs_size, decide_eq_true (by omega)]
    · rw [if_neg hl] at hR
      refine hR.mono fun r hr => ⟨c, n, bs q, encDs zs, errD 0, hr, ?_⟩
      show PCalls ax 9 _ _
      exact hS.mono fun r hr => ⟨true, hr, rfl⟩
  · rw [hz] at r1 r2
    have hS := Same_refl zeroD 63 hz0
    refine r1.mono fun r hr => ⟨false, 0, bs [], encDs [], _, hr, ?_⟩
    refine r2.mono fun r hr => ⟨false, 0, bs [], encDs [], _, hr, ?_⟩
    refine (NumD_spec (readZ s).1 hcd).mono fun r hr => ⟨_, hr, ifNE (fun h => absurd rfl h) (fun _ => ?_)⟩
    refine hS.mono fun r hr => ⟨true, hr, ifN (fun h => by cases h) (fun _ => ifNE (fun _ => rfl) (fun h => absurd h hc))⟩
end Go.Proofs.YtgjifgjjcaohoaaGreatDoor.Va
end
