/- LexInts, LexJoins, LexBlanks at the model's run. -/
import Derived.Test.YtadgcpjobhgkiaaDoorM8
/- part L1Z -/
section
namespace Go.Proofs.YtadgcpjobhgkiaaDoor.Va
open Go.Vx Go.Av Go.Lx Go.RowKit

/-! ### reserved words -/
def wordsB : List ByteArray := [⟨#[116, 121, 112, 101]⟩, ⟨#[112, 114, 101, 100]⟩, ⟨#[109, 111, 100, 101]⟩, ⟨#[105, 115]⟩, ⟨#[100, 101, 116]⟩, ⟨#[115, 101, 109, 105, 100, 101, 116]⟩, ⟨#[109, 117, 108, 116, 105]⟩, ⟨#[110, 111, 110, 100, 101, 116]⟩, ⟨#[105, 110]⟩, ⟨#[111, 117, 116]⟩, ⟨#[116, 114, 117, 101]⟩, ⟨#[102, 97, 105, 108]⟩, ⟨#[110, 111, 116]⟩, ⟨#[116, 104, 114, 111, 119]⟩, ⟨#[116, 114, 121]⟩, ⟨#[99, 97, 116, 99, 104]⟩, ⟨#[116, 104, 101, 110]⟩, ⟨#[105, 110, 116]⟩]
/-- is a text one of these? -/
def isIn (s : ByteArray) : List ByteArray → Bool
  | [] => false
  | w :: r => bif strEq s w then true else isIn s r
theorem Reserved_spec (s : ByteArray) : PCalls ax 19 [.str s] fun r => r = [.bool (isIn s wordsB)] := by
  refine Reserved.calls (K := fun r => r = [.bool (isIn s wordsB)]) ?_
  unfold Reserved.W
  show cond (strEq s _) ([V.bool true] = [V.bool (isIn s wordsB)]) _
  unfold wordsB
  simp only [isIn]
  generalize strEq s ⟨#[116, 121, 112, 101]⟩ = b1
  cases b1 with
  | true => rfl
  | false =>
  show cond _ _ _
  generalize strEq s ⟨#[112, 114, 101, 100]⟩ = b1
  cases b1 with
  | true => rfl
  | false =>
  show cond _ _ _
  generalize strEq s ⟨#[109, 111, 100, 101]⟩ = b1
  cases b1 with
  | true => rfl
  | false =>
  show cond _ _ _
  generalize strEq s ⟨#[105, 115]⟩ = b1
  cases b1 with
  | true => rfl
  | false =>
  show cond _ _ _
  generalize strEq s ⟨#[100, 101, 116]⟩ = b1
  cases b1 with
  | true => rfl
  | false =>
  show cond _ _ _
  generalize strEq s ⟨#[115, 101, 109, 105, 100, 101, 116]⟩ = b1
  cases b1 with
  | true => rfl
  | false =>
  show cond _ _ _
  generalize strEq s ⟨#[109, 117, 108, 116, 105]⟩ = b1
  cases b1 with
  | true => rfl
  | false =>
  show cond _ _ _
  generalize strEq s ⟨#[110, 111, 110, 100, 101, 116]⟩ = b1
  cases b1 with
  | true => rfl
  | false =>
  show cond _ _ _
  generalize strEq s ⟨#[105, 110]⟩ = b1
  cases b1 with
  | true => rfl
  | false =>
  show cond _ _ _
  generalize strEq s ⟨#[111, 117, 116]⟩ = b1
  cases b1 with
  | true => rfl
  | false =>
  show cond _ _ _
  generalize strEq s ⟨#[116, 114, 117, 101]⟩ = b1
  cases b1 with
  | true => rfl
  | false =>
  show cond _ _ _
  generalize strEq s ⟨#[102, 97, 105, 108]⟩ = b1
  cases b1 with
  | true => rfl
  | false =>
  show cond _ _ _
  generalize strEq s ⟨#[110, 111, 116]⟩ = b1
  cases b1 with
  | true => rfl
  | false =>
  show cond _ _ _
  generalize strEq s ⟨#[116, 104, 114, 111, 119]⟩ = b1
  cases b1 with
  | true => rfl
  | false =>
  show cond _ _ _
  generalize strEq s ⟨#[116, 114, 121]⟩ = b1
  cases b1 with
  | true => rfl
  | false =>
  show cond _ _ _
  generalize strEq s ⟨#[99, 97, 116, 99, 104]⟩ = b1
  cases b1 with
  | true => rfl
  | false =>
  show cond _ _ _
  generalize strEq s ⟨#[116, 104, 101, 110]⟩ = b1
  cases b1 with
  | true => rfl
  | false =>
  show cond _ _ _
  generalize strEq s ⟨#[105, 110, 116]⟩ = b1
  cases b1 with
  | true => rfl
  | false => rfl
theorem isIn_mem {s : ByteArray} : ∀ {l : List ByteArray}, isIn s l = true ↔ s ∈ l
  | [] => by simp [isIn]
  | w :: r => by
    have ih := isIn_mem (s := s) (l := r)
    simp only [isIn, strEq, List.mem_cons]
    by_cases h : s = w
    · simp [h]
    · simp [h, ih]
theorem RReserved_spec (s : ByteArray) : PCalls ax 20 [.str s] fun r => r = [.bool (isIn s wordsB)] := by
  refine RReserved.calls (K := fun r => r = [.bool (isIn s wordsB)]) ?_
  unfold RReserved.W
  have hlen : ((wordsB.map fun w => [V.str w]).length : Int) = 18 := rfl
  have hl0 : (wordsB.map fun w => [V.str w]) = [[(.str (⟨#[116, 121, 112, 101]⟩ : ByteArray))], [(.str (⟨#[112, 114, 101, 100]⟩ : ByteArray))], [(.str (⟨#[109, 111, 100, 101]⟩ : ByteArray))], [(.str (⟨#[105, 115]⟩ : ByteArray))], [(.str (⟨#[100, 101, 116]⟩ : ByteArray))], [(.str (⟨#[115, 101, 109, 105, 100, 101, 116]⟩ : ByteArray))], [(.str (⟨#[109, 117, 108, 116, 105]⟩ : ByteArray))], [(.str (⟨#[110, 111, 110, 100, 101, 116]⟩ : ByteArray))], [(.str (⟨#[105, 110]⟩ : ByteArray))], [(.str (⟨#[111, 117, 116]⟩ : ByteArray))], [(.str (⟨#[116, 114, 117, 101]⟩ : ByteArray))], [(.str (⟨#[102, 97, 105, 108]⟩ : ByteArray))], [(.str (⟨#[110, 111, 116]⟩ : ByteArray))], [(.str (⟨#[116, 104, 114, 111, 119]⟩ : ByteArray))], [(.str (⟨#[116, 114, 121]⟩ : ByteArray))], [(.str (⟨#[99, 97, 116, 99, 104]⟩ : ByteArray))], [(.str (⟨#[116, 104, 101, 110]⟩ : ByteArray))], [(.str (⟨#[105, 110, 116]⟩ : ByteArray))]] := rfl
  rw [← hl0, hlen]
  refine ⟨fun us => ∃ i : Nat, i ≤ 18 ∧ us = [.int .i64 i] ∧ ∀ k < i, wordsB[k]? ≠ some s, fun us => match us with | .int _ i :: _ => 18 - i.toNat | _ => 0, ⟨0, by omega, rfl, fun k h => by omega⟩, ?_⟩
  rintro n ⟨i, hi, e, hno⟩
  cases e
  refine ifD (fun hlt => ?_) (fun hge => ?_)
  · obtain ⟨w, hw⟩ : ∃ w, wordsB[i]? = some w := ⟨_, List.getElem?_eq_getElem (show i < wordsB.length by show i < 18; omega)⟩
    have hrow : List.take 1 (Av.rowAt (wordsB.map fun w => [V.str w]) ((i : Int)).toNat) = [.str w] := by
      rw [Int.toNat_natCast, Av.rowAt, List.getD_eq_getElem?_getD, List.getElem?_map, hw]; rfl
    refine ⟨by omega, hlt, w, hrow, ifB (fun h => ?_) (fun h => ?_)⟩
    · have : w = s := by simpa [strEq] using h
      subst this
      rw [isIn_mem.2 (List.mem_of_getElem? hw)]
    · have : w ≠ s := by simpa [strEq] using h
      rw [wadd1 (by omega)]
      refine ⟨⟨i + 1, by omega, rfl, fun k hk => ?_⟩, by simp only [Int.toNat_natCast]; omega⟩
      rcases Nat.lt_or_ge k i with h | h
      · exact hno k h
      · have : k = i := by omega
        subst this
        rw [hw]
        intro h2
        exact absurd (Option.some.inj h2) ‹w ≠ s›
  · have : s ∉ wordsB := fun hm => by
      obtain ⟨k, hk, hk2⟩ := List.getElem_of_mem hm
      have hk18 : k < 18 := hk
      exact hno k (by omega) (by rw [List.getElem?_eq_getElem hk, hk2])
    rw [show isIn s wordsB = false from Bool.eq_false_iff.2 fun h => this (isIn_mem.1 h)]
theorem Words_spec (l : List UInt8) : PCalls ax 9 [.str (bs l)] fun r => r = [.bool true] := by
  refine Words.calls (K := fun r => r = [.bool true]) ?_
  unfold Words.W
  refine alive_spec.mono fun r hr => ⟨true, hr, ifN (fun h => by cases h) (fun _ => ?_)⟩
  refine (Reserved_spec (bs l)).mono fun r hr => ⟨_, hr, ?_⟩
  refine (RReserved_spec (bs l)).mono fun r hr => ⟨_, hr, ifB (fun _ => ?_) (fun h => by simp at h)⟩
  refine (Reserved_spec ⟨#[116, 104, 101, 110]⟩).mono fun r hr => ⟨true, by rw [hr]; rfl, ?_⟩
  show PCalls _ _ _ _
  exact (Reserved_spec ⟨#[]⟩).mono fun r hr => ⟨false, by rw [hr]; rfl, rfl⟩
end Go.Proofs.YtadgcpjobhgkiaaDoor.Va
end

/- part L2K -/
section
namespace Go.Lx
open Go.Proofs.YtadgcpjobhgkiaaDoor.Va

/-- a token that is read somewhere -/
def Valid (x : Tok) : Prop := ∃ l, tokL l = (x, true)
theorem span_take {p : UInt8 → Bool} : ∀ l : List UInt8, span p (l.take (span p l)) = span p l
  | [] => rfl
  | c :: r => by
    rw [span_cons]
    by_cases h : p c = true
    · rw [if_pos h, Nat.add_comm, List.take_succ_cons, span_cons, if_pos h, span_take r, Nat.add_comm]
    · rw [if_neg h]; rfl
theorem numSpan_take : ∀ l : List UInt8, numSpan (l.take (numSpan l)) = numSpan l
  | [] => rfl
  | c :: r => by
    by_cases h : c.toNat = 45
    · have e : numSpan (c :: r) = 1 + span isDigit r := by simp only [numSpan]; rw [if_pos h]
      rw [e, Nat.add_comm, List.take_succ_cons]
      simp only [numSpan]
      rw [if_pos h, span_take, Nat.add_comm]
    · have e : numSpan (c :: r) = span isDigit (c :: r) := by simp only [numSpan]; rw [if_neg h]
      rw [e]
      by_cases hd : isDigit c = true
      · have e2 : span isDigit (c :: r) = span isDigit r + 1 := by rw [span_cons, if_pos hd, Nat.add_comm]
        have e3 := span_take (p := isDigit) (c :: r)
        rw [e2, List.take_succ_cons] at e3 ⊢
        simp only [numSpan]
        rw [if_neg h]; exact e3
      · have e2 : span isDigit (c :: r) = 0 := by rw [span_cons, if_neg hd]
        rw [e2]; rfl
/-- a token's own text is that token -/
theorem tokL_self {l : List UInt8} (h : (tokL l).2 = true) : tokL (tokL l).1.t = tokL l := by
  cases l with
  | nil => cases h
  | cons c r =>
    cases hl : isLetter c with
    | true =>
      have hi : isInner c = true := by rw [inner_or, hl]; rfl
      rw [tokL_letter hl] at h ⊢
      simp only
      have e2 : span isInner (c :: r) = span isInner r + 1 := by rw [span_cons, if_pos hi, Nat.add_comm]
      have e3 := span_take (p := isInner) (c :: r)
      rw [e2, List.take_succ_cons] at e3 ⊢
      rw [tokL_letter hl, e3]
      have : (c :: r.take (span isInner r)).take (span isInner r + 1) = c :: r.take (span isInner r) := by rw [List.take_succ_cons, List.take_take, Nat.min_self]
      rw [this]
    | false =>
      cases hd : (isDigit c || decide (c.toNat = 45)) with
      | true =>
        rw [tokL_num hl hd] at h ⊢
        obtain ⟨h1, v, h2, h3, _⟩ := numL_ok h
        rw [h3]
        simp only
        have hns := numSpan_take (c :: r)
        obtain ⟨m, hm⟩ : ∃ m, numSpan (c :: r) = m + 1 := ⟨numSpan (c :: r) - 1, by omega⟩
        rw [hm, List.take_succ_cons] at hns h2 ⊢
        rw [tokL_num hl hd]
        have hle := numSpan_le (c :: r)
        have hlen : (c :: r.take m).length = m + 1 := by simp only [List.length_cons, List.length_take] at *; omega
        have htk : (c :: r.take m).take (m + 1) = c :: r.take m := List.take_of_length_le (by omega)
        unfold numL
        rw [hns, htk, h2]
        simp only
        rw [List.getElem?_eq_none (by omega)]
      | false =>
        by_cases hm : c.toNat = 58 ∧ r.head?.map (·.toNat) = some 45
        · rw [tokL_two hl hd hm]; rfl
        · by_cases hk : c ∈ marksL
          · rw [tokL_mark hl hd hm hk]
            have hm' : ¬ (c.toNat = 58 ∧ ([] : List UInt8).head?.map (·.toNat) = some 45) := fun hh => by simp at hh
            exact tokL_mark hl hd hm' hk
          · rw [tokL_none hl hd hm hk] at h; cases h
theorem retok {x : Tok} (hx : Valid x) {y : List UInt8} (hy : Sep y) : tokL (x.t ++ y) = (x, true) := by
  obtain ⟨l, hl⟩ := hx
  have h2 : (tokL l).2 = true := by rw [hl]
  have h3 := tokL_self h2
  rw [hl] at h3
  simp only at h3
  rw [tokL_app hy (by rw [h3]), h3]
theorem tok_head {c : UInt8} {r : List UInt8} (h : (tokL (c :: r)).2 = true) : isBlank c = false ∧ c.toNat ≠ 37 := by
  have key : isLetter c = true ∨ (isDigit c || decide (c.toNat = 45)) = true ∨ c.toNat = 58 ∨ c ∈ marksL := by
    cases hl : isLetter c with
    | true => exact .inl rfl
    | false =>
      cases hd : (isDigit c || decide (c.toNat = 45)) with
      | true => exact .inr (.inl rfl)
      | false =>
        by_cases hm : c.toNat = 58 ∧ r.head?.map (·.toNat) = some 45
        · exact .inr (.inr (.inl hm.1))
        · by_cases hk : c ∈ marksL
          · exact .inr (.inr (.inr hk))
          · rw [tokL_none hl hd hm hk] at h; cases h
  have hn : ¬ (isBlank c = true ∨ c.toNat = 37) := fun hb => by
    obtain ⟨h1, h2, h3⟩ := sep_not hb
    have hv : c.toNat = 9 ∨ c.toNat = 10 ∨ c.toNat = 13 ∨ c.toNat = 32 ∨ c.toNat = 37 := by
      rcases hb with h | h
      · simp only [isBlank, Bool.or_eq_true, decide_eq_true_eq] at h; omega
      · omega
    rcases key with h | h | h | h
    · rw [inner_or, h] at h1; cases h1
    · rw [h2] at h; simp at h; exact h3 h
    · omega
    · simp only [marksL, List.mem_cons, List.not_mem_nil, or_false] at h
      rcases h with rfl | rfl | rfl | rfl | rfl | rfl | rfl <;> revert hv <;> decide
  exact ⟨by rw [Bool.eq_false_iff]; intro h; exact hn (.inl h), fun h => hn (.inr h)⟩
theorem valid_cons {x : Tok} (hx : Valid x) : ∃ c r, x.t = c :: r := by
  obtain ⟨l, hl⟩ := hx
  have := tokL_text (l := l) (by rw [hl])
  rw [hl] at this
  simp only at this
  cases h : x.t with
  | nil => rw [h] at this; simp at this
  | cons c r => exact ⟨c, r, rfl⟩
/-- a token's text, with a blank or a comment or nothing behind -/
theorem allL_tok {x : Tok} (hx : Valid x) {y : List UInt8} (hy : Sep y) : allL (x.t ++ y) = (x :: (allL y).1, (allL y).2) := by
  have hr := retok hx hy
  obtain ⟨c, r, hc⟩ := valid_cons hx
  rw [hc, List.cons_append] at hr ⊢
  obtain ⟨h1, h2⟩ := tok_head (c := c) (r := r ++ y) (by rw [hr])
  have hsk : skipC false (c :: (r ++ y)) = 0 := by simp [skipC, h1, h2]
  have hd : (c :: (r ++ y)).drop (skipC false (c :: (r ++ y))) = c :: (r ++ y) := by rw [hsk]; rfl
  rw [allL_cons hd (by rw [hr]), hr]
  simp only
  rw [hc, ← List.cons_append, List.drop_left]
theorem allL_valid : ∀ (n : Nat) (l : List UInt8), l.length ≤ n → ∀ t ∈ (allL l).1, Valid t := by
  intro n
  induction n with
  | zero => intro l h t ht; have : l = [] := List.eq_nil_of_length_eq_zero (by omega); subst this; simp [allL, allF] at ht
  | succ n ih =>
    intro l h t ht
    cases hd : l.drop (skipC false l) with
    | nil => rw [allL_nil hd] at ht; simp at ht
    | cons c r =>
      have hl : (c :: r).length ≤ l.length := by rw [← hd, List.length_drop]; omega
      cases hk : (tokL (c :: r)).2 with
      | false => rw [allL_bad hd hk] at ht; simp at ht
      | true =>
        obtain ⟨t1, t2, _⟩ := tokL_text hk
        rw [allL_cons hd hk] at ht
        rcases List.mem_cons.1 ht with rfl | hm
        · exact ⟨c :: r, by rw [← hk]⟩
        · exact ih _ (by rw [List.length_drop]; omega) t hm
/-! ### joined texts -/
def joinT : List Tok → List UInt8
  | [] => []
  | [x] => x.t
  | x :: y :: r => x.t ++ 32 :: joinT (y :: r)
theorem joinT_lib : ∀ l : List Tok, Lib.join (l.map (·.t)) [32] = joinT l
  | [] => rfl
  | [x] => Lib.join_one _ _
  | x :: y :: r => by
    have ih := joinT_lib (y :: r)
    have h := Lib.join_cons x.t ((y :: r).map (·.t)) [32]
    have h2 := Lib.join_cons y.t (r.map (·.t)) [32]
    rw [List.map_cons, h]
    rw [List.map_cons] at ih
    rw [h2] at ih
    show x.t ++ Lib.joinTail [32] (y.t :: r.map (·.t)) = x.t ++ 32 :: joinT (y :: r)
    rw [← ih]
    simp [Lib.joinTail]
theorem relex : ∀ ts : List Tok, (∀ t ∈ ts, Valid t) → allL (joinT ts) = (ts, true)
  | [], _ => rfl
  | [x], h => by
    have := allL_tok (h x List.mem_cons_self) (y := []) (fun c hc => by simp at hc)
    rw [List.append_nil] at this
    exact this
  | x :: y :: r, h => by
    have ih := relex (y :: r) fun t ht => h t (List.mem_cons_of_mem _ ht)
    have hsep : Sep (32 :: joinT (y :: r)) := fun c hc => by simp at hc; subst hc; left; decide
    show allL (x.t ++ 32 :: joinT (y :: r)) = _
    rw [allL_tok (h x List.mem_cons_self) hsep]
    have h32 : skipC false (32 :: joinT (y :: r)) = 1 + skipC false (joinT (y :: r)) := by show (if isBlank 32 then 1 + skipC false _ else _) = _; rw [if_pos (by decide)]
    have : allL (32 :: joinT (y :: r)) = allL (joinT (y :: r)) := by rw [← allL_drop, h32, Nat.add_comm, List.drop_succ_cons, allL_drop]
    rw [this, ih]
/-! ### blanks put between -/
def build : List (List UInt8 × Tok) → List UInt8
  | [] => []
  | (b, x) :: r => b ++ 10 :: (x.t ++ build r)
/-- nothing but blanks and comments -/
def Empty (b : List UInt8) : Prop := skipC false b = b.length
theorem empty_of {b : List UInt8} (h : allL (b ++ [10]) = ([], true)) : Empty b := by
  obtain ⟨k1, k2⟩ := skip_append b [] false
  have hle := skipC_le b false
  rcases Nat.lt_or_ge (skipC false b) b.length with hlt | hge
  · exfalso
    cases hd : (b ++ [10]).drop (skipC false (b ++ [10])) with
    | nil =>
      have := congrArg List.length hd
      rw [k1 hlt] at this
      simp at this
      omega
    | cons c r =>
      cases ht : (tokL (c :: r)).2 with
      | false => rw [allL_bad hd ht] at h; cases h
      | true => rw [allL_cons hd ht] at h; cases h
  · exact Nat.le_antisymm hle hge
theorem empty_sep {b : List UInt8} (h : Empty b) (y : List UInt8) : Sep (b ++ 10 :: y) := by
  cases b with
  | nil => exact sep_nl y
  | cons c r =>
    intro d hd
    simp at hd
    subst hd
    unfold Empty at h
    simp only [skipC, List.length_cons] at h
    by_cases hb : isBlank c = true
    · exact .inl hb
    · rw [if_neg hb] at h
      by_cases h37 : c.toNat = 37
      · exact .inr h37
      · rw [if_neg h37] at h; omega
theorem build_sep : ∀ l : List (List UInt8 × Tok), (∀ p ∈ l, Empty p.1) → Sep (build l)
  | [], _ => fun c hc => by simp [build] at hc
  | (b, x) :: r, h => empty_sep (h (b, x) List.mem_cons_self) _
theorem build_all : ∀ l : List (List UInt8 × Tok), (∀ p ∈ l, Empty p.1 ∧ Valid p.2) → allL (build l) = (l.map (·.2), true)
  | [], _ => rfl
  | (b, x) :: r, h => by
    have ih := build_all r fun p hp => h p (List.mem_cons_of_mem _ hp)
    obtain ⟨h1, h2⟩ := h (b, x) List.mem_cons_self
    have hsep := build_sep r fun p hp => (h p (List.mem_cons_of_mem _ hp)).1
    show allL (b ++ 10 :: (x.t ++ build r)) = _
    have hsk := (skip_append b (x.t ++ build r) false).2 h1
    have : (b ++ 10 :: (x.t ++ build r)).drop (b.length + 1 + skipC false (x.t ++ build r)) = (x.t ++ build r).drop (skipC false (x.t ++ build r)) := by
      rw [Nat.add_assoc, ← List.drop_drop, List.drop_left, Nat.add_comm, List.drop_succ_cons]
    rw [← allL_drop (b ++ 10 :: (x.t ++ build r)), hsk, this, allL_drop, allL_tok h2 hsep, ih]
    rfl
theorem build_snoc : ∀ (l : List (List UInt8 × Tok)) (p : List UInt8 × Tok), build (l ++ [p]) = build l ++ (p.1 ++ 10 :: p.2.t)
  | [], (b, x) => by simp [build]
  | (b, x) :: r, p => by
    rw [List.cons_append]
    simp only [build]
    rw [build_snoc r p]
    simp
end Go.Lx
end

/- part L2L -/
section
namespace Go.Lx
open Go.Proofs.YtadgcpjobhgkiaaDoor.Va
theorem decDigits_len {u : Nat} (h : u < 10000000000000000000) : (Lib.decDigits u).length ≤ 19 := by
  obtain ⟨⟨k1, k2, k3⟩, k4, k5⟩ := decDigits_spec _ u (Nat.le_refl _)
  rcases Nat.lt_or_ge 19 (Lib.decDigits u).length with hl | hl
  · have h48 : (Lib.decDigits u).head? ≠ some 48 := fun h => by have := k3 h; omega
    have h1 := valD_lt _ k2 h48 k1
    rw [k4] at h1
    have h2 : 10 ^ 19 ≤ 10 ^ ((Lib.decDigits u).length - 1) := Nat.pow_le_pow_right (by omega) (by omega)
    have h3 : (10 : Nat) ^ 19 = 10000000000000000000 := by decide
    omega
  · exact hl
theorem itoa_len {n : Int} (h0 : -9223372036854775808 ≤ n) (h1 : n ≤ 9223372036854775807) : (Lib.itoa n).length ≤ 20 := by
  by_cases hn : n < 0
  · rw [itoa_neg hn, List.length_cons]
    have := decDigits_len (u := n.natAbs) (by omega); omega
  · rw [itoa_pos hn]
    have := decDigits_len (u := n.toNat) (by omega); omega
theorem canon_itoa {n : Int} (h0 : -9223372036854775808 ≤ n) (h1 : n ≤ 9223372036854775807) : canon (Lib.itoa n) = some n := by
  apply canon_iff.2
  by_cases hn : n < 0
  · obtain ⟨k1, k2, k3⟩ := decDigits_spec _ n.natAbs (Nat.le_refl _)
    exact .inl ⟨_, itoa_neg hn, k1, k3 (by omega), by omega, by omega⟩
  · obtain ⟨k1, k2, k3⟩ := decDigits_spec _ n.toNat (Nat.le_refl _)
    right
    rw [itoa_pos hn]
    refine ⟨?_, k1, by omega, by omega⟩
    obtain ⟨c, r, e, hd⟩ := canonD_head k1
    rw [e, List.head?_cons]
    intro h45
    cases h45
    revert hd; decide
theorem span_all {p : UInt8 → Bool} : ∀ {l : List UInt8}, (∀ c ∈ l, p c = true) → span p l = l.length
  | [], _ => rfl
  | c :: r, h => by
    rw [span_cons, if_pos (h c List.mem_cons_self), span_all fun x hx => h x (List.mem_cons_of_mem _ hx), List.length_cons, Nat.add_comm]
theorem digit_noletter {c : UInt8} (h : isDigit c = true) : isLetter c = false ∧ isBlank c = false ∧ c.toNat ≠ 37 ∧ c.toNat ≠ 45 := by
  obtain ⟨h1, h2⟩ := digit_bounds h
  refine ⟨?_, ?_, by omega, by omega⟩
  · rw [Bool.eq_false_iff]
    simp only [isLetter, isSmall, isGreat, ne_eq, Bool.or_eq_true, Bool.and_eq_true, decide_eq_true_eq]
    omega
  · rw [Bool.eq_false_iff]
    simp only [isBlank, ne_eq, Bool.or_eq_true, decide_eq_true_eq]
    omega
/-- digits alone: one number, or none -/
theorem allL_num {c : UInt8} {r : List UInt8} (hl : isLetter c = false) (hb : isBlank c = false) (h37 : c.toNat ≠ 37) (hd : (isDigit c || decide (c.toNat = 45)) = true) (hs : numSpan (c :: r) = (c :: r).length) :
    allL (c :: r) = match canon (c :: r) with | some v => ([⟨3, c :: r, v⟩], true) | none => ([], false) := by
  have hsk : skipC false (c :: r) = 0 := by simp [skipC, hb, h37]
  have hd0 : (c :: r).drop (skipC false (c :: r)) = c :: r := by rw [hsk]; rfl
  have hn : numL (c :: r) = match canon (c :: r) with | some v => (⟨3, c :: r, v⟩, true) | none => (zeroT, false) := by
    unfold numL
    rw [hs, List.take_length, List.getElem?_eq_none (Nat.le_refl _)]
    cases canon (c :: r) <;> rfl
  have htk := tokL_num (r := r) hl hd
  rw [hn] at htk
  cases hc : canon (c :: r) with
  | none =>
    rw [hc] at htk
    rw [allL_bad hd0 (by rw [htk])]
  | some v =>
    rw [hc] at htk
    rw [allL_cons hd0 (by rw [htk]), htk]
    simp only [List.drop_length]
    rfl
theorem lex_itoa {n : Int} (h0 : -9223372036854775808 ≤ n) (h1 : n ≤ 9223372036854775807) : allL (Lib.itoa n) = ([⟨3, Lib.itoa n, n⟩], true) := by
  have hc := canon_itoa h0 h1
  by_cases hn : n < 0
  · obtain ⟨⟨_, k2, _⟩, _, _⟩ := decDigits_spec _ n.natAbs (Nat.le_refl _)
    rw [itoa_neg hn] at hc ⊢
    rw [allL_num (by decide) (by decide) (by decide) (by decide) (by
      simp only [numSpan]
      rw [if_pos (by decide), span_all k2, List.length_cons, Nat.add_comm]), hc]
  · obtain ⟨k1, _, _⟩ := decDigits_spec _ n.toNat (Nat.le_refl _)
    rw [itoa_pos hn] at hc ⊢
    obtain ⟨c, r, e, hd⟩ := canonD_head k1
    rw [e] at hc k1 ⊢
    obtain ⟨g1, g2, g3, g4⟩ := digit_noletter hd
    rw [allL_num g1 g2 g3 (by rw [hd]; rfl) (by simp only [numSpan]; rw [if_neg g4, span_all k1.2.1]), hc]
theorem lex_zero {n : Int} (hn : ¬ n < 0) : (allL (48 :: Lib.itoa n)).2 = false := by
  obtain ⟨k1, _, _⟩ := decDigits_spec _ n.toNat (Nat.le_refl _)
  rw [itoa_pos hn]
  have hall : ∀ c ∈ (48 : UInt8) :: Lib.decDigits n.toNat, isDigit c = true := fun c hc => by
    rcases List.mem_cons.1 hc with rfl | h
    · decide
    · exact k1.2.1 c h
  rw [allL_num (by decide) (by decide) (by decide) (by decide) (by simp only [numSpan]; rw [if_neg (by decide), span_all hall])]
  cases hc : canon (48 :: Lib.decDigits n.toNat) with
  | none => rfl
  | some v =>
    exfalso
    rcases canon_iff.1 hc with ⟨r, e, _⟩ | ⟨_, h2, _⟩
    · cases e
    · have := h2.2.2 rfl
      have hne := List.length_pos_iff.2 k1.1
      simp at this
      exact k1.1 this
end Go.Lx
namespace Go.Proofs.YtadgcpjobhgkiaaDoor.Va
open Go.Vx Go.Av Go.Lx Go.RowKit

theorem decimal_spec (n : Int) (h0 : -9223372036854775808 ≤ n) (h1 : n ≤ 9223372036854775807) : PCalls ax 17 [.int .i64 n] fun r => r = [.str (bs (Lib.itoa n))] := by
  refine decimal.calls (K := fun r => r = [.str (bs (Lib.itoa n))]) ?_
  unfold decimal.W
  have hlen := decDigits_len (u := n.natAbs) (by omega)
  have hmx : IntKind.i64.max = 9223372036854775807 := rfl
  refine ⟨fun us => ∃ (s : List UInt8) (m : Int), us = [.str (bs s), .int .i64 m] ∧ -9223372036854775808 ≤ m ∧ m ≤ 9223372036854775807 ∧ Lib.decDigits n.natAbs = Lib.decDigits m.natAbs ++ s, fun us => match us with | [_, .int _ m] => m.natAbs | _ => 0, ⟨[], n, rfl, h0, h1, by simp⟩, ?_⟩
  rintro s8 m ⟨s, m', e, g0, g1, hdec⟩
  cases e
  -- one digit more
  have hsl : s.length ≤ 19 := by rw [hdec, List.length_append] at hlen; omega
  have hdiv : (Int.tdiv m 10).natAbs = m.natAbs / 10 := by rw [Int.natAbs_tdiv]; rfl
  have hmod : (Int.tmod m 10).natAbs = m.natAbs % 10 := by rw [Int.natAbs_tmod]; rfl
  have hdb : -9223372036854775808 ≤ Int.tdiv m 10 ∧ Int.tdiv m 10 ≤ 9223372036854775807 := by omega
  have hfin : ∀ x : Int, x = ((m.natAbs % 10 : Nat) : Int) → ∃ s10 : ByteArray, [[V.int .u8 (IntKind.u8.wrap (IntKind.i64.wrap (48 + x)))]] = rowsOf s10 ∧ (((s10.size + (bs s).size : Nat) : Int) ≤ IntKind.i64.max ∧ (IntKind.i64 = IntKind.i64 ∧ (10 : Int) ≠ 0 ∧ (bif ((IntKind.i64.wrap (Int.tdiv m (10 : Int))) == (0 : Int)) then
 (bif (decide (n < (0 : Int))) then
 ((((⟨#[45]⟩ : ByteArray).size + (s10 ++ bs s).size : Nat) : Int) ≤ IntKind.i64.max ∧ ((fun r => r = [V.str (bs (Lib.itoa n))]) [(.str ((⟨#[45]⟩ : ByteArray) ++ (s10 ++ bs s)))]))
 else
 ((fun r => r = [V.str (bs (Lib.itoa n))]) [(.str (s10 ++ bs s))]))
 else
 ((fun us => ∃ (s : List UInt8) (m : Int), us = [V.str (bs s), .int .i64 m] ∧ -9223372036854775808 ≤ m ∧ m ≤ 9223372036854775807 ∧ Lib.decDigits n.natAbs = Lib.decDigits m.natAbs ++ s) [(.str (s10 ++ bs s)), (.int .i64 (IntKind.i64.wrap (Int.tdiv m (10 : Int))))] ∧ (fun us => match us with | [_, V.int _ m] => m.natAbs | _ => 0) [(.str (s10 ++ bs s)), (.int .i64 (IntKind.i64.wrap (Int.tdiv m (10 : Int))))] < (fun us => match us with | [_, V.int _ m] => m.natAbs | _ => 0) [(.str (bs s)), (.int .i64 m)])))) := fun x hx => by
    subst hx
    have hlt : m.natAbs % 10 < 10 := Nat.mod_lt _ (by omega)
    have hw : IntKind.u8.wrap (IntKind.i64.wrap (48 + ((m.natAbs % 10 : Nat) : Int))) = (((UInt8.ofNat (48 + m.natAbs % 10)).toNat : Nat) : Int) := by
      rw [w64 (by omega) (by omega), Go.Vx.w8 (by omega) (by omega), ofNat_digit hlt]; push_cast; rfl
    refine ⟨bs [UInt8.ofNat (48 + m.natAbs % 10)], by rw [hw]; rfl, ?_⟩
    rw [app_bs, bs_size, bs_size, bs_size, hmx, w64 hdb.1 hdb.2]
    have h45 : (⟨#[45]⟩ : ByteArray) = bs [45] := rfl
    refine ⟨by simp only [List.length_cons, List.length_nil]; omega, rfl, by decide, ifE (fun hz => ?_) (fun hnz => ?_)⟩
    · have hsm : m.natAbs < 10 := by omega
      have hm10 : m.natAbs % 10 = m.natAbs := Nat.mod_eq_of_lt hsm
      rw [decDigits_small hsm] at hdec
      rw [hm10]
      refine ifD (fun hneg => ?_) (fun hpos => ?_)
      · rw [h45, app_bs, bs_size]
        refine ⟨by simp only [List.length_append, List.length_cons, List.length_nil]; omega, ?_⟩
        rw [itoa_neg hneg, hdec]; rfl
      · rw [itoa_pos hpos, show n.toNat = n.natAbs by omega, hdec]
    · have hbig : ¬ m.natAbs < 10 := by omega
      rw [decDigits_big hbig, List.append_assoc] at hdec
      exact ⟨⟨_, _, rfl, hdb.1, hdb.2, by rw [hdiv]; exact hdec⟩, by simp only [hdiv]; omega⟩
  refine ⟨rfl, by decide, ifD (fun hneg => ?_) (fun hpos => ?_)⟩
  · exact hfin _ (by rw [w64 (by omega) (by omega)]; omega)
  · exact hfin _ (by omega)

theorem Ints_spec (n : Int) (h : -9223372036854775808 ≤ n ∧ n ≤ 9223372036854775807) : PCalls ax 5 [.int .i64 n] fun r => r = [.bool true] := by
  obtain ⟨h0, h1⟩ := h
  refine Ints.calls (K := fun r => r = [.bool true]) ?_
  unfold Ints.W
  have hl := itoa_len h0 h1
  refine alive_spec.mono fun r hr => ⟨true, hr, ifN (fun h => by cases h) (fun _ => ?_)⟩
  refine (decimal_spec n h0 h1).mono fun r hr => ⟨_, hr, ?_⟩
  have hL := Lex_spec (Lib.itoa n)
  rw [lexR_good (by omega) (by rw [lex_itoa h0 h1]), lex_itoa h0 h1] at hL
  refine hL.mono fun r hr => ⟨_, _, hr, ?_⟩
  have h48 : (⟨#[48]⟩ : ByteArray) = bs [48] := rfl
  have hmx : IntKind.i64.max = 9223372036854775807 := rfl
  rw [h48, app_bs, bs_size, bs_size, hmx]
  refine ⟨by simp only [List.length_cons, List.length_nil]; omega, (Lex_spec ([48] ++ Lib.itoa n)).mono fun r hr => ⟨_, _, hr, ?_⟩⟩
  show cond true _ _
  show cond true _ _
  refine ⟨by decide, by rw [encTs_length]; simp, _, _, _, rfl, ?_⟩
  have he : Av.eqL [.int .i64 3, .str (bs (Lib.itoa n)), .int .i64 n] [.int .i64 3, .str (bs (Lib.itoa n)), .int .i64 n] = true := by
    have := eqL_tok ⟨3, Lib.itoa n, n⟩ ⟨3, Lib.itoa n, n⟩
    simpa [encT] using this
  rw [he]
  show cond (errEq _ _) _ _
  by_cases hn : n < 0
  · exact ifB (fun _ => rfl) (fun _ => by simp [hn])
  · have hz := lex_zero hn
    have hlr : (lexR ([48] ++ Lib.itoa n)).2 = some 0 := by
      show (lexR (48 :: Lib.itoa n)).2 = some 0
      unfold lexR
      rw [if_neg (by simp only [List.length_cons]; omega), if_neg (by rw [hz]; simp)]
    rw [hlr]; rfl

/-! ### joined texts -/
theorem StrJoin_spec (xs : List (List UInt8)) (sep : List UInt8) (hn : xs.length ≤ big) (hl : (Lib.join xs sep).length ≤ 140737488355328) : PCalls ax 27 [.sl 1 (xs.map fun x => [.str (bs x)]), .str (bs sep)] fun r => r = [.str (bs (Lib.join xs sep))] := by
  have hb : big = 1099511627776 := rfl
  refine pcalls_below fun G w F β vals hE hS hr => ?_
  obtain ⟨v0, r0, rfl, h0, hr⟩ := hr.cons_inv
  obtain ⟨v1, r1, rfl, h1, hr⟩ := hr.cons_inv
  obtain rfl := hr.nil_inv
  rw [h1.str_inv]
  have hf := h0.sl_inv
  cases hf with
  | sl z l a c val k1 k2 hz hc hv =>
    rw [List.length_map]
    by_cases hne : xs = []
    · subst hne
      refine (Tryd.strings_Join_none a c (bs sep) w).mono ?_
      rintro e w' ⟨rfl, rfl⟩
      exact ⟨_, [.string (bs (Lib.join [] sep))], rfl, rfl, .cons (.mk_str _) .nil, Below.refl _ _⟩
    · obtain ⟨b, o, rfl, hcell⟩ := hc (fun h => hne (List.map_eq_nil_iff.1 h))
      have hcells : ∀ (j : Nat) x, (xs.map bs)[j]? = some x → w.cell? ⟨b, o + j, none⟩ = some (.string x) := fun j x hx => by
        rw [List.getElem?_map] at hx
        cases hxj : xs[j]? with
        | none => rw [hxj] at hx; cases hx
        | some y =>
          rw [hxj] at hx
          cases hx
          have hrow : (xs.map fun x => [V.str (bs x)])[j]? = some [.str (bs y)] := by rw [List.getElem?_map, hxj]; rfl
          obtain ⟨c1, _⟩ := hcell j _ 0 _ hrow rfl
          have c2 := hv j _ 0 _ hrow rfl
          have e0 : j * 1 + 0 = j := by omega
          rw [e0] at c1
          rw [c1]
          exact congrArg some (RV.str_inv (RV.fz (β := β) (σ := mkS []) _ _ c2))
      have hbk : b < w.heap.size := by
        cases xs with
        | nil => exact absurd rfl hne
        | cons y ys =>
          have := hcells 0 (bs y) rfl
          exact Lib.lt_of_cell this
      have hmm : (xs.map bs).map (fun x => x.data.toList) = xs := by
        rw [List.map_map]
        conv => rhs; rw [← List.map_id xs]
        exact List.map_congr_left fun x _ => bs_data x
      have key := Tryd.strings_Join b o c (xs.map bs) (bs sep) w hcells hbk (by rw [List.length_map]; omega) (by rw [List.length_map]; rw [List.length_map] at k1; exact k1) (by rw [hmm, bs_data]; exact hl)
      rw [hmm, bs_data, List.length_map] at key
      refine key.mono ?_
      rintro e w' ⟨rfl, hbel⟩
      exact ⟨_, [.string (bs (Lib.join xs sep))], rfl, rfl, .cons (.mk_str _) .nil, hbel⟩

theorem Join_spec (ts : List Lx.Tok) (hn : ts.length ≤ big) (hl : (joinT ts).length ≤ 140737488355328) : PCalls ax 21 [.sl 3 (encTs ts)] fun r => r = [.str (bs (joinT ts))] := by
  have hb : big = 1099511627776 := rfl
  refine Join.calls (K := fun r => r = [.str (bs (joinT ts))]) ?_
  unfold Join.W
  rw [encTs_length]
  refine ⟨by omega, by omega, by omega, by omega, ?_⟩
  refine ⟨fun us => ∃ i : Nat, i ≤ ts.length ∧ us = [.int .i64 i, .sl 1 ((ts.take i).map (fun t => [V.str (bs t.t)]) ++ List.replicate (ts.length - i) [.str ⟨#[]⟩])], fun us => match us with | .int _ i :: _ => ts.length - i.toNat | _ => 0, ⟨0, Nat.zero_le _, by simp⟩, ?_⟩
  rintro n l14 ⟨i, hi, e⟩
  cases e
  refine ifD (fun hlt => ?_) (fun hge => ?_)
  · obtain ⟨t, ht⟩ : ∃ t, ts[i]? = some t := ⟨_, List.getElem?_eq_getElem (by omega)⟩
    have hlen : ((ts.take i).map (fun t => [V.str (bs t.t)]) ++ List.replicate (ts.length - i) [V.str ⟨#[]⟩]).length = ts.length := by simp; omega
    rw [hlen, wadd1 (by omega)]
    have hset : List.set ((ts.take i).map (fun t => [V.str (bs t.t)]) ++ List.replicate (ts.length - i) [V.str ⟨#[]⟩]) ((i : Int)).toNat [.str (bs t.t)] = (ts.take (i + 1)).map (fun t => [V.str (bs t.t)]) ++ List.replicate (ts.length - (i + 1)) [V.str ⟨#[]⟩] := by
      rw [Int.toNat_natCast, List.set_append_right _ _ (by simp; omega), List.take_add_one, ht, List.map_append]
      have h1 : ts.length - i = (ts.length - (i + 1)) + 1 := by omega
      have h2 : i - ((ts.take i).map fun t => [V.str (bs t.t)]).length = 0 := by simp; omega
      rw [h2, h1, List.replicate_succ]
      simp
    exact ⟨by omega, hlt, t.k, bs t.t, t.n, by rw [Int.toNat_natCast]; exact rowT ht, by omega, by omega, by omega, ⟨i + 1, by omega, by rw [hset]⟩, by simp only [Int.toNat_natCast]; omega⟩
  · have hfull : ts.take i = ts := List.take_of_length_le (by omega)
    have h0 : ts.length - i = 0 := by omega
    rw [hfull, h0, List.replicate_zero, List.append_nil]
    have hj := StrJoin_spec (ts.map (·.t)) [32] (by rw [List.length_map]; exact hn) (by rw [joinT_lib]; exact hl)
    rw [joinT_lib, List.map_map] at hj
    exact hj.mono fun r hr => ⟨_, hr, rfl⟩
theorem joinT_snoc : ∀ (a : List Lx.Tok) (x : Lx.Tok), joinT (a ++ [x]) = if a = [] then x.t else joinT a ++ 32 :: x.t
  | [], x => rfl
  | [y], x => rfl
  | y :: z :: r, x => by
    have ih := joinT_snoc (z :: r) x
    rw [if_neg (by simp)] at ih ⊢
    show y.t ++ 32 :: joinT (z :: r ++ [x]) = (y.t ++ 32 :: joinT (z :: r)) ++ 32 :: x.t
    rw [ih]; simp
theorem joinT_len : ∀ ts : List Lx.Tok, (joinT ts).length ≤ (ts.map fun x => x.t.length + 1).sum
  | [] => Nat.le_refl _
  | [x] => by simp [joinT]
  | x :: y :: r => by
    have := joinT_len (y :: r)
    simp only [joinT, List.length_append, List.length_cons, List.map_cons, List.sum_cons] at *
    omega
theorem joinT_take {ts : List Lx.Tok} (i : Nat) : ((ts.take i).map fun x => x.t.length + 1).sum ≤ (ts.map fun x => x.t.length + 1).sum := by
  conv => rhs; rw [← List.take_append_drop i ts, List.map_append, List.sum_append]
  omega
theorem RJoin_spec (ts : List Lx.Tok) (hl : (ts.map fun x => x.t.length + 1).sum ≤ big) : PCalls ax 22 [.sl 3 (encTs ts)] fun r => r = [.str (bs (joinT ts))] := by
  have hb : big = 1099511627776 := rfl
  have hmx : IntKind.i64.max = 9223372036854775807 := rfl
  have hn : ts.length ≤ (ts.map fun x => x.t.length + 1).sum := by
    clear hl
    induction ts with
    | nil => simp
    | cons x r ih => simp only [List.map_cons, List.sum_cons, List.length_cons]; omega
  refine RJoin.calls (K := fun r => r = [.str (bs (joinT ts))]) ?_
  unfold RJoin.W
  rw [encTs_length]
  refine ⟨fun us => ∃ i : Nat, i ≤ ts.length ∧ us = [.str (bs (joinT (ts.take i))), .int .i64 i], fun us => match us with | [_, .int _ i] => ts.length - i.toNat | _ => 0, ⟨0, Nat.zero_le _, rfl⟩, ?_⟩
  rintro s n ⟨i, hi, e⟩
  cases e
  refine ifD (fun hlt => ?_) (fun hge => ?_)
  · obtain ⟨t, ht⟩ : ∃ t, ts[i]? = some t := ⟨_, List.getElem?_eq_getElem (by omega)⟩
    have hsn := joinT_snoc (ts.take i) t
    have htk : ts.take (i + 1) = ts.take i ++ [t] := by rw [List.take_add_one, ht]; rfl
    rw [← htk] at hsn
    have hlen1 := joinT_len (ts.take (i + 1))
    have hle1 := joinT_take (ts := ts) (i + 1)
    rw [hsn] at hlen1
    have h32 : (⟨#[32]⟩ : ByteArray) = bs [32] := rfl
    refine ⟨by omega, hlt, t.k, bs t.t, t.n, by rw [Int.toNat_natCast]; exact rowT ht, ?_⟩
    rw [wadd1 (by omega), h32, app_bs, app_bs, app_bs, hmx]
    simp only [bs_size]
    have hi0 : ts.take i = [] ↔ i = 0 := by
      constructor
      · intro h
        have := congrArg List.length h
        rw [List.length_take, List.length_nil] at this
        omega
      · rintro rfl; rfl
    refine ifD (fun hpos => ?_) (fun hz => ?_)
    · rw [if_neg (fun h => by have := hi0.1 h; omega)] at hsn hlen1
      rw [List.length_append, List.length_cons] at hlen1
      refine ⟨by simp only [List.length_cons, List.length_nil]; omega, by simp only [List.length_append, List.length_cons, List.length_nil]; omega, ⟨i + 1, by omega, ?_⟩, by simp only [Int.toNat_natCast]; omega⟩
      rw [hsn]; simp
    · have h0 : i = 0 := by omega
      subst h0
      rw [if_pos (by rfl)] at hsn hlen1
      refine ⟨by simp only [List.take_zero, joinT, List.length_nil]; omega, ⟨1, by omega, ?_⟩, by simp only [Int.toNat_natCast]; omega⟩
      rw [hsn]; rfl
  · have hfull : ts.take i = ts := List.take_of_length_le (by omega)
    rw [hfull]
theorem sum_bound {ts : List Lx.Tok} {m : Nat} (h : ∀ t ∈ ts, t.t.length ≤ m) : (ts.map fun x => x.t.length + 1).sum ≤ ts.length * (m + 1) := by
  induction ts with
  | nil => simp
  | cons x r ih =>
    have := h x List.mem_cons_self
    have := ih fun t ht => h t (List.mem_cons_of_mem _ ht)
    simp only [List.map_cons, List.sum_cons, List.length_cons, Nat.add_mul, Nat.one_mul]; omega
theorem toks_sum {l : List UInt8} (h : l.length ≤ 16384) : ((allL l).1.map fun x => x.t.length + 1).sum ≤ 16384 * 16385 := by
  obtain ⟨h1, h2⟩ := allL_len _ l (Nat.le_refl _)
  have := sum_bound (ts := (allL l).1) (m := 16384) (fun t ht => Nat.le_trans (h2 t ht) h)
  have h3 : (allL l).1.length * (16384 + 1) ≤ 16384 * 16385 := Nat.mul_le_mul (Nat.le_trans h1 h) (Nat.le_refl _)
  exact Nat.le_trans this h3

theorem Joins_spec (l : List UInt8) (ts : List Lx.Tok) (hs : l.length ≤ big) (ht : (ts.map fun x => x.t.length + 1).sum ≤ big) : PCalls ax 10 [.str (bs l), .sl 3 (encTs ts)] fun r => r = [.bool true] := by
  have hb : big = 1099511627776 := rfl
  have hn : ts.length ≤ (ts.map fun x => x.t.length + 1).sum := by
    clear ht
    induction ts with
    | nil => simp
    | cons x r ih => simp only [List.map_cons, List.sum_cons, List.length_cons]; omega
  have hjl := joinT_len ts
  refine Joins.calls (K := fun r => r = [.bool true]) ?_
  unfold Joins.W
  refine alive_spec.mono fun r hr => ⟨true, hr, ifN (fun h => by cases h) (fun _ => ?_)⟩
  refine (Join_spec ts (by omega) (by omega)).mono fun r hr => ⟨_, hr, ?_⟩
  refine (RJoin_spec ts ht).mono fun r hr => ⟨_, hr, ifN (fun h => by simp [strEq] at h) (fun _ => ?_)⟩
  refine (Lex_spec l).mono fun r hr => ⟨_, _, hr, ifN (fun h => rfl) (fun h1 => ?_)⟩
  obtain ⟨a1, a2, a3⟩ := lexR_ok (l := l) (by simpa using h1)
  rw [a3]
  have hsum := toks_sum a1
  have hjl2 := joinT_len (allL l).1
  obtain ⟨la, _⟩ := allL_len _ l (Nat.le_refl _)
  refine (Join_spec (allL l).1 (by omega) (by omega)).mono fun r hr => ⟨_, hr, ?_⟩
  have hrl := relex (allL l).1 (allL_valid _ l (Nat.le_refl _))
  refine (Lex_spec (joinT (allL l).1)).mono fun r hr => ⟨_, _, hr, ?_⟩
  rw [bs_size]
  refine ifD (fun hbig => ?_) (fun hsm => ?_)
  · have : (lexR (joinT (allL l).1)).2 = some 1 := by unfold lexR; rw [if_pos (by omega)]
    rw [this]; rfl
  · rw [lexR_good (by omega) (by rw [hrl]), hrl]
    show cond true _ _
    exact (Same_spec _ _ (by omega)).mono fun r hr => ⟨_, hr, by simp⟩

theorem Blanks_spec (l : List UInt8) (bl : List (List UInt8)) (hs : l.length ≤ big) (ht : (bl.map fun x => x.length + 1).sum ≤ big) : PCalls ax 4 [.str (bs l), .sl 1 (bl.map fun x => [.str (bs x)])] fun r => r = [.bool true] := by
  have hb : big = 1099511627776 := rfl
  have hmx : IntKind.i64.max = 9223372036854775807 := rfl
  have hn : bl.length ≤ (bl.map fun x => x.length + 1).sum := by
    clear ht
    induction bl with
    | nil => simp
    | cons x r ih => simp only [List.map_cons, List.sum_cons, List.length_cons]; omega
  have hmem : ∀ x ∈ bl, x.length + 1 ≤ (bl.map fun x => x.length + 1).sum := by
    clear ht hn
    induction bl with
    | nil => intro x hx; simp at hx
    | cons y r ih =>
      intro x hx
      simp only [List.map_cons, List.sum_cons]
      rcases List.mem_cons.1 hx with rfl | h
      · omega
      · have := ih x h; omega
  refine Blanks.calls (K := fun r => r = [.bool true]) ?_
  unfold Blanks.W
  refine alive_spec.mono fun r hr => ⟨true, hr, ifN (fun h => by cases h) (fun _ => ?_)⟩
  refine (Lex_spec l).mono fun r hr => ⟨_, _, hr, ifN (fun h => rfl) (fun h1 => ?_)⟩
  obtain ⟨a1, a2, a3⟩ := lexR_ok (l := l) (by simpa using h1)
  rw [a3]
  obtain ⟨la, lt⟩ := allL_len _ l (Nat.le_refl _)
  have hval := allL_valid _ l (Nat.le_refl _)
  generalize (allL l).1 = ts at *
  simp only [List.length_map, encTs_length]
  refine ifE (fun h => trivial) (fun hne => ?_)
  have h10 : (⟨#[10]⟩ : ByteArray) = bs [10] := rfl
  have h00 : (⟨#[]⟩ : ByteArray) = bs [] := rfl
  -- what has been put together
  refine ⟨fun us => ∃ (i : Nat) (ps : List (List UInt8 × Lx.Tok)), i ≤ ts.length ∧ us = [.str (bs (build ps)), .int .i64 i] ∧ ps.map (·.2) = ts.take i ∧ (∀ p ∈ ps, Empty p.1) ∧ (build ps).length ≤ i * 16485, fun us => match us with | [_, .int _ i] => ts.length - i.toNat | _ => 0, ⟨0, [], Nat.zero_le _, rfl, rfl, fun p hp => by simp at hp, by simp [build]⟩, ?_⟩
  rintro s n ⟨i, ps, hi, e, hps, hemp, hlen⟩
  cases e
  refine ifD (fun hlt => ?_) (fun hge => ?_)
  · obtain ⟨t, ht'⟩ : ∃ t, ts[i]? = some t := ⟨_, List.getElem?_eq_getElem (by omega)⟩
    have htl := lt t (List.mem_of_getElem? ht')
    have hmod : Int.tmod (i : Int) (bl.length : Int) = ((i % bl.length : Nat) : Int) := rfl
    rw [hmod]
    have hpos : 0 < bl.length := by omega
    have hml : i % bl.length < bl.length := Nat.mod_lt _ hpos
    obtain ⟨x, hx⟩ : ∃ x, bl[i % bl.length]? = some x := ⟨_, List.getElem?_eq_getElem hml⟩
    have hxl := hmem x (List.mem_of_getElem? hx)
    have hrow : List.take 1 (Av.rowAt (bl.map fun x => [V.str (bs x)]) (((i % bl.length : Nat) : Int)).toNat) = [.str (bs x)] := by
      rw [Int.toNat_natCast, Av.rowAt, List.getD_eq_getElem?_getD, List.getElem?_map, hx]; rfl
    have hi' : i * 16485 ≤ 16384 * 16485 := Nat.mul_le_mul_right _ (by omega)
    -- one step with a blank
    have step : ∀ b : List UInt8, Empty b → b.length ≤ 100 → ((∃ (i' : Nat) (ps' : List (List UInt8 × Lx.Tok)), i' ≤ ts.length ∧ [V.str (bs (build ps ++ (b ++ [10] ++ t.t))), .int .i64 ((i + 1 : Nat) : Int)] = [.str (bs (build ps')), .int .i64 i'] ∧ ps'.map (·.2) = ts.take i' ∧ (∀ p ∈ ps', Empty p.1) ∧ (build ps').length ≤ i' * 16485)) ∧ ts.length - (((i + 1 : Nat) : Int)).toNat < ts.length - ((i : Int)).toNat := fun b hbe hbl => by
      refine ⟨⟨i + 1, ps ++ [(b, t)], by omega, ?_, ?_, ?_, ?_⟩, by simp only [Int.toNat_natCast]; omega⟩
      · rw [build_snoc]; simp
      · rw [List.map_append, hps, List.take_add_one, ht']; rfl
      · intro p hp
        rcases List.mem_append.1 hp with h | h
        · exact hemp p h
        · simp at h; subst h; exact hbe
      · rw [build_snoc]
        simp only [List.length_append, List.length_cons, Nat.add_mul, Nat.one_mul]
        omega
    refine ⟨by omega, hlt, t.k, bs t.t, t.n, by rw [Int.toNat_natCast]; exact rowT ht', trivial, by omega, by omega, by omega, bs x, hrow, ?_⟩
    rw [wadd1 (by omega), h10, h00]
    simp only [app_bs, bs_size, hmx]
    refine ⟨by simp only [List.length_cons, List.length_nil]; omega, ?_⟩
    have none : ((((([] : List UInt8).length + [10].length : Nat) : Int) ≤ 9223372036854775807 ∧ (((([] : List UInt8) ++ [10]).length + t.t.length : Nat) : Int) ≤ 9223372036854775807 ∧ (((build ps).length + (([] : List UInt8) ++ [10] ++ t.t).length : Nat) : Int) ≤ 9223372036854775807)) := by
      simp only [List.length_append, List.length_cons, List.length_nil]
      exact ⟨by omega, by omega, by omega⟩
    have e0 : Empty [] := rfl
    refine (RAll_spec (x ++ [10]) (by simp only [List.length_append, List.length_cons, List.length_nil]; omega)).mono fun r ⟨P, hr⟩ => ⟨_, _, _, hr, ?_⟩
    rw [encTs_length]
    refine ifN (fun h => ⟨none.1, none.2.1, none.2.2, step [] e0 (by simp)⟩) (fun hok => ifD (fun h => ⟨none.1, none.2.1, none.2.2, step [] e0 (by simp)⟩) (fun hno => ifD (fun h => ⟨none.1, none.2.1, none.2.2, step [] e0 (by simp)⟩) (fun h100 => ?_)))
    have hemp2 : Empty x := empty_of (by
      have h1 : (allL (x ++ [10])).1 = [] := List.eq_nil_of_length_eq_zero (by omega)
      exact Prod.ext h1 hok)
    refine ⟨by simp only [List.length_cons, List.length_nil]; omega, by simp only [List.length_append, List.length_cons, List.length_nil]; omega, by simp only [List.length_append, List.length_cons, List.length_nil]; omega, step x hemp2 (by omega)⟩
  · have hfull : ts.take i = ts := List.take_of_length_le (by omega)
    rw [hfull] at hps
    rw [bs_size]
    refine ifD (fun h => trivial) (fun hsm => ?_)
    have hall := build_all ps fun p hp => ⟨hemp p hp, hval p.2 (by rw [← hps]; exact List.mem_map_of_mem hp)⟩
    rw [hps] at hall
    have hL := Lex_spec (build ps)
    rw [lexR_good (by omega) (by rw [hall]), hall] at hL
    refine hL.mono fun r hr => ⟨_, _, hr, ?_⟩
    show cond true _ _
    exact (Same_spec _ _ (by omega)).mono fun r hr => ⟨_, hr, by simp⟩
theorem wf_i64 {n : Int} (h : (Lit.int .i64 n).wf = true) : -9223372036854775808 ≤ n ∧ n ≤ 9223372036854775807 := by
  simp only [Lit.wf, IntKind.min, IntKind.max, IntKind.signed, IntKind.bits] at h
  revert h
  simp
end Go.Proofs.YtadgcpjobhgkiaaDoor.Va
end
