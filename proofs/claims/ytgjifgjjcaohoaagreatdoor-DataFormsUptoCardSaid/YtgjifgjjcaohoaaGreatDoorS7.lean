/- The reference's All and Lex; Same; texts put together. -/
import Derived.Test.YtgjifgjjcaohoaaGreatDoorS2
import Derived.Lib.ItoaNum
import Derived.Lib.AtoiAll
import Derived.Lib.Bytealg
import Derived.Lib.Strings
import Derived.Lib.Join
import Derived.Test.YtgjifgjjcaohoaaGreatDoorS5
import Derived.Test.YtgjifgjjcaohoaaGreatDoorS6
import Derived.Test.YtgjifgjjcaohoaaGreatDoorS1
import Derived.Test.YtgjifgjjcaohoaaGreatDoorProg
import Derived.Test.YtgjifgjjcaohoaaGreatDoorS3
import Derived.Lib.AppendIntMem
/- part L1M -/
section
namespace Go.Lx
open Go.Av

structure Tok where
  k : Int
  t : List UInt8
  n : Int
deriving DecidableEq

def bs (l : List UInt8) : ByteArray := ⟨l.toArray⟩
@[simp] theorem bs_data (l : List UInt8) : (bs l).data.toList = l := by simp [bs]
@[simp] theorem bs_size (l : List UInt8) : (bs l).size = l.length := by simp [bs, ByteArray.size]
theorem bs_of (s : ByteArray) : bs s.data.toList = s := by cases s; simp [bs]
theorem bs_inj {a b : List UInt8} (h : bs a = bs b) : a = b := by
  have := congrArg (fun s => s.data.toList) h
  simpa using this
theorem bs_get (l : List UInt8) (i : Nat) : (bs l)[i]? = l[i]? := by
  by_cases h : i < l.length
  · have h' : i < (bs l).size := by simpa using h
    rw [getElem?_pos (bs l) i h', List.getElem?_eq_getElem h]
    rfl
  · have h' : ¬ i < (bs l).size := by simpa using h
    rw [getElem?_neg (bs l) i h', List.getElem?_eq_none (by omega)]
theorem bs_extract (l : List UInt8) (a b : Nat) : (bs l).extract a b = bs ((l.drop a).take (b - a)) := by
  apply ByteArray.ext
  simp [bs]

def encT (t : Tok) : List V := [.int .i64 t.k, .str (bs t.t), .int .i64 t.n]
def encTs (l : List Tok) : List (List V) := l.map encT
@[simp] theorem encTs_length (l : List Tok) : (encTs l).length = l.length := by simp [encTs]
theorem encT_inj {a b : Tok} (h : encT a = encT b) : a = b := by
  obtain ⟨k, t, n⟩ := a
  obtain ⟨k', t', n'⟩ := b
  simp only [encT, List.cons.injEq, V.int.injEq, V.str.injEq, true_and, and_true] at h
  obtain ⟨rfl, h2, rfl⟩ := h
  rw [bs_inj h2]

def isSmall (c : UInt8) : Bool := decide (97 ≤ c.toNat) && decide (c.toNat ≤ 122)
def isGreat (c : UInt8) : Bool := (decide (65 ≤ c.toNat) && decide (c.toNat ≤ 90)) || decide (c.toNat = 95)
def isDigit (c : UInt8) : Bool := decide (48 ≤ c.toNat) && decide (c.toNat ≤ 57)
def isLetter (c : UInt8) : Bool := isSmall c || isGreat c
def isInner (c : UInt8) : Bool := isSmall c || isGreat c || isDigit c
def isBlank (c : UInt8) : Bool := decide (c.toNat = 9) || decide (c.toNat = 10) || decide (c.toNat = 13) || decide (c.toNat = 32)
def marksL : List UInt8 := [40, 41, 44, 46, 59, 124, 61]

/-- how many bytes from here on are of a kind -/
def span (p : UInt8 → Bool) (l : List UInt8) : Nat := (l.takeWhile p).length
/-- how many bytes lie ahead of the next token; within a comment or not -/
def skipC : Bool → List UInt8 → Nat
  | _, [] => 0
  | true, c :: r => 1 + skipC (decide (c.toNat ≠ 10)) r
  | false, c :: r => if isBlank c then 1 + skipC false r else if c.toNat = 37 then 1 + skipC true r else 0

/-- the number that a canonical numeral says -/
def canon (l : List UInt8) : Option Int := match Lib.atoiAll l with
  | .ok v => if Lib.itoa v = l then some v else none
  | _ => none
/-- the bytes of a numeral from here on -/
def numSpan (l : List UInt8) : Nat := match l with
  | [] => 0
  | c :: r => if c.toNat = 45 then 1 + span isDigit r else span isDigit (c :: r)
def zeroT : Tok := ⟨0, [], 0⟩
def numL (l : List UInt8) : Tok × Bool :=
  match canon (l.take (numSpan l)) with
  | none => (zeroT, false)
  | some v => match l[numSpan l]? with
    | none => (⟨3, l.take (numSpan l), v⟩, true)
    | some c => if isInner c then (zeroT, false) else (⟨3, l.take (numSpan l), v⟩, true)
/-- the token that stands here -/
def tokL : List UInt8 → Tok × Bool
  | [] => (zeroT, false)
  | c :: r =>
    if isLetter c then (⟨if isGreat c then 2 else 1, (c :: r).take (span isInner (c :: r)), 0⟩, decide ((span isInner (c :: r)) ≤ 32))
    else if isDigit c || decide (c.toNat = 45) then numL (c :: r)
    else if c.toNat = 58 ∧ r.head?.map (·.toNat) = some 45 then (⟨4, [58, 45], 0⟩, true)
    else if c ∈ marksL then (⟨4, [c], 0⟩, true)
    else (zeroT, false)
/-- all tokens; whether the end was met -/
def allF : Nat → List UInt8 → List Tok × Bool
  | 0, _ => ([], true)
  | n + 1, l => match l.drop (skipC false l) with
    | [] => ([], true)
    | c :: r => if (tokL (c :: r)).2 then ((tokL (c :: r)).1 :: (allF n ((c :: r).drop (tokL (c :: r)).1.t.length)).1, (allF n ((c :: r).drop (tokL (c :: r)).1.t.length)).2) else ([], false)
def allL (l : List UInt8) : List Tok × Bool := allF (l.length + 1) l
end Go.Lx
end

/- part L1O -/
section
namespace Go.Lx

/-! ### spans -/
theorem span_le (p : UInt8 → Bool) (l : List UInt8) : span p l ≤ l.length := by
  unfold span
  exact (List.takeWhile_sublist p).length_le
theorem span_cons {p : UInt8 → Bool} {c : UInt8} {r : List UInt8} : span p (c :: r) = if p c then 1 + span p r else 0 := by
  unfold span
  rw [List.takeWhile_cons]
  split <;> simp <;> omega
/-- a place within the text: how far a span goes on from there -/
theorem span_drop {p : UInt8 → Bool} {l : List UInt8} {i : Nat} {c : UInt8} (h : l[i]? = some c) : span p (l.drop i) = if p c then 1 + span p (l.drop (i + 1)) else 0 := by
  have hi := (List.getElem?_eq_some_iff.1 h).1
  rw [List.drop_eq_getElem_cons hi, span_cons]
  have : l[i] = c := Option.some.inj ((List.getElem?_eq_getElem hi).symm.trans h)
  rw [this]
theorem span_end {p : UInt8 → Bool} {l : List UInt8} {i : Nat} (h : l.length ≤ i) : span p (l.drop i) = 0 := by
  rw [List.drop_eq_nil_of_le h]; rfl

/-! ### what lies between tokens -/
theorem skipC_le : ∀ (l : List UInt8) (b : Bool), skipC b l ≤ l.length
  | [], b => by cases b <;> simp [skipC]
  | c :: r, true => by have := skipC_le r (decide (c.toNat ≠ 10)); simp only [skipC, List.length_cons]; omega
  | c :: r, false => by
    have h1 := skipC_le r false
    have h2 := skipC_le r true
    simp only [skipC, List.length_cons]
    split
    · omega
    · split <;> omega
theorem skipC_at {l : List UInt8} {i : Nat} {c : UInt8} (h : l[i]? = some c) (b : Bool) : skipC b (l.drop i) = match b with
    | true => 1 + skipC (decide (c.toNat ≠ 10)) (l.drop (i + 1))
    | false => if isBlank c then 1 + skipC false (l.drop (i + 1)) else if c.toNat = 37 then 1 + skipC true (l.drop (i + 1)) else 0 := by
  have hi := (List.getElem?_eq_some_iff.1 h).1
  rw [List.drop_eq_getElem_cons hi]
  have : l[i] = c := Option.some.inj ((List.getElem?_eq_getElem hi).symm.trans h)
  rw [this]
  cases b <;> rfl
theorem skipC_end {l : List UInt8} {i : Nat} (h : l.length ≤ i) (b : Bool) : skipC b (l.drop i) = 0 := by
  rw [List.drop_eq_nil_of_le h]; cases b <;> rfl
/-- behind what lies between tokens nothing more lies between -/
theorem skipC_skip : ∀ (l : List UInt8) (b : Bool), skipC false (l.drop (skipC b l)) = 0
  | [], b => by cases b <;> rfl
  | c :: r, true => by
    have := skipC_skip r (decide (c.toNat ≠ 10))
    simp only [skipC]
    rw [Nat.add_comm, List.drop_succ_cons]; exact this
  | c :: r, false => by
    simp only [skipC]
    split
    · rw [Nat.add_comm, List.drop_succ_cons]; exact skipC_skip r false
    · split
      · rw [Nat.add_comm, List.drop_succ_cons]; exact skipC_skip r true
      · rename_i h1 h2
        simp [skipC, h1, h2]
/-- a comment goes on to the next end of line -/
theorem skipC_comment : ∀ (l : List UInt8), skipC true l = if Lib.indexByte l 10 < 0 then l.length else skipC false (l.drop (Lib.indexByte l 10).toNat) + (Lib.indexByte l 10).toNat
  | [] => rfl
  | c :: r => by
    have ih := skipC_comment r
    have hge := Lib.indexByte_ge r 10
    simp only [skipC, Lib.indexByte]
    by_cases hc : c = 10
    · subst hc
      have h1 : isBlank (10 : UInt8) = true := by decide
      simp [skipC, h1]
    · have hn : c.toNat ≠ 10 := fun h => hc (UInt8.toNat_inj.1 (by simpa using h))
      have hne : (c == (10 : UInt8)) = false := by simpa using hc
      simp only [hn, ne_eq, not_false_eq_true, decide_true, hne, Bool.false_eq_true, if_false]
      rw [ih]
      by_cases h : Lib.indexByte r 10 = -1
      · simp [h]; omega
      · have h0 : ¬ Lib.indexByte r 10 < 0 := by omega
        have h1 : (Lib.indexByte r 10 == -1) = false := by simpa using h
        have h2 : ¬ Lib.indexByte r 10 + 1 < 0 := by omega
        rw [if_neg h0, h1]
        simp only [Bool.false_eq_true, if_false, h2]
        have h3 : (Lib.indexByte r 10 + 1).toNat = (Lib.indexByte r 10).toNat + 1 := by omega
        rw [h3, List.drop_succ_cons]
        omega

/-! ### tokens -/
theorem span_pos {p : UInt8 → Bool} {c : UInt8} {r : List UInt8} (h : p c = true) : 1 ≤ span p (c :: r) := by rw [span_cons, if_pos h]; omega
theorem numSpan_le : ∀ l : List UInt8, numSpan l ≤ l.length
  | [] => Nat.le_refl _
  | c :: r => by
    have h1 := span_le isDigit r
    have h2 := span_le isDigit (c :: r)
    simp only [numSpan]
    split
    · simp only [List.length_cons]; omega
    · exact h2
theorem canon_nil : canon [] = none := rfl
theorem tokL_letter {c : UInt8} {r : List UInt8} (h : isLetter c = true) : tokL (c :: r) = (⟨if isGreat c then 2 else 1, (c :: r).take (span isInner (c :: r)), 0⟩, decide ((span isInner (c :: r)) ≤ 32)) := by
  show (if isLetter c then _ else _) = _
  rw [if_pos h]
theorem tokL_num {c : UInt8} {r : List UInt8} (h : isLetter c = false) (h2 : (isDigit c || decide (c.toNat = 45)) = true) : tokL (c :: r) = numL (c :: r) := by
  show (if isLetter c then _ else if _ then _ else _) = _
  rw [if_neg (by simp [h]), if_pos h2]
theorem tokL_two {c : UInt8} {r : List UInt8} (h : isLetter c = false) (h2 : (isDigit c || decide (c.toNat = 45)) = false) (h3 : c.toNat = 58 ∧ r.head?.map (·.toNat) = some 45) : tokL (c :: r) = (⟨4, [58, 45], 0⟩, true) := by
  show (if isLetter c then _ else if _ then _ else if _ then _ else _) = _
  rw [if_neg (by simp [h]), if_neg (by simp [h2]), if_pos h3]
theorem tokL_mark {c : UInt8} {r : List UInt8} (h : isLetter c = false) (h2 : (isDigit c || decide (c.toNat = 45)) = false) (h3 : ¬ (c.toNat = 58 ∧ r.head?.map (·.toNat) = some 45)) (h4 : c ∈ marksL) : tokL (c :: r) = (⟨4, [c], 0⟩, true) := by
  show (if isLetter c then _ else if _ then _ else if _ then _ else if _ then _ else _) = _
  rw [if_neg (by simp [h]), if_neg (by simp [h2]), if_neg h3, if_pos h4]
theorem tokL_none {c : UInt8} {r : List UInt8} (h : isLetter c = false) (h2 : (isDigit c || decide (c.toNat = 45)) = false) (h3 : ¬ (c.toNat = 58 ∧ r.head?.map (·.toNat) = some 45)) (h4 : c ∉ marksL) : tokL (c :: r) = (zeroT, false) := by
  show (if isLetter c then _ else if _ then _ else if _ then _ else if _ then _ else _) = _
  rw [if_neg (by simp [h]), if_neg (by simp [h2]), if_neg h3, if_neg h4]
theorem numL_ok {l : List UInt8} (h : (numL l).2 = true) : 1 ≤ numSpan l ∧ ∃ v, canon (l.take (numSpan l)) = some v ∧ numL l = (⟨3, l.take (numSpan l), v⟩, true) ∧ ∀ c, l[numSpan l]? = some c → isInner c = false := by
  have hpos : canon (l.take (numSpan l)) ≠ none → 1 ≤ numSpan l := fun hne => by
    rcases Nat.eq_zero_or_pos (numSpan l) with h0 | h0
    · rw [h0] at hne; exact absurd canon_nil hne
    · exact h0
  unfold numL at h ⊢
  cases hc : canon (l.take (numSpan l)) with
  | none => rw [hc] at h; cases h
  | some v =>
    rw [hc] at h hpos
    refine ⟨hpos (by simp), v, rfl, ?_⟩
    simp only at h ⊢
    cases hn : l[numSpan l]? with
    | none => exact ⟨rfl, fun c hc => by cases hc⟩
    | some c =>
      rw [hn] at h
      simp only at h ⊢
      cases hi : isInner c with
      | true => rw [hi] at h; cases h
      | false => exact ⟨rfl, fun d hd => by cases hd; exact hi⟩
/-- the token that stands here is the text's head, and not empty -/
theorem tokL_text {l : List UInt8} (h : (tokL l).2 = true) : 1 ≤ (tokL l).1.t.length ∧ (tokL l).1.t.length ≤ l.length ∧ (tokL l).1.t = l.take (tokL l).1.t.length := by
  cases l with
  | nil => cases h
  | cons c r =>
    cases hl : isLetter c with
    | true =>
      rw [tokL_letter hl] at h ⊢
      have h1 : 1 ≤ span isInner (c :: r) := span_pos (by unfold isLetter at hl; unfold isInner; simp [hl])
      have h2 := span_le isInner (c :: r)
      simp only [List.length_take]
      exact ⟨by omega, by omega, by rw [Nat.min_eq_left h2]⟩
    | false =>
      cases hd : (isDigit c || decide (c.toNat = 45)) with
      | true =>
        rw [tokL_num hl hd] at h ⊢
        obtain ⟨h1, v, _, e, _⟩ := numL_ok h
        have hle := numSpan_le (c :: r)
        rw [e]
        simp only [List.length_take]
        exact ⟨by omega, by omega, by rw [Nat.min_eq_left hle]⟩
      | false =>
        by_cases hm : c.toNat = 58 ∧ r.head?.map (·.toNat) = some 45
        · rw [tokL_two hl hd hm]
          cases r with
          | nil => simp at hm
          | cons d r =>
            have hc : c = 58 := UInt8.toNat_inj.1 (by simpa using hm.1)
            have hd2 : d = 45 := UInt8.toNat_inj.1 (by simpa using hm.2)
            subst hc
            subst hd2
            simp
        · by_cases hk : c ∈ marksL
          · rw [tokL_mark hl hd hm hk]; simp
          · rw [tokL_none hl hd hm hk] at h; cases h
theorem allF_fuel : ∀ (n m : Nat) (l : List UInt8), l.length < n → l.length < m → allF n l = allF m l
  | 0, _, l, h, _ => by omega
  | _, 0, l, _, h => by omega
  | n + 1, m + 1, l, h1, h2 => by
    simp only [allF]
    cases hd : l.drop (skipC false l) with
    | nil => rfl
    | cons c r =>
      simp only
      by_cases ht : (tokL (c :: r)).2 = true
      · obtain ⟨t1, t2, _⟩ := tokL_text ht
        have hl : (c :: r).length ≤ l.length := by rw [← hd, List.length_drop]; omega
        have := allF_fuel n m ((c :: r).drop (tokL (c :: r)).1.t.length) (by rw [List.length_drop]; omega) (by rw [List.length_drop]; omega)
        rw [if_pos ht, if_pos ht, this]
      · rw [if_neg ht, if_neg ht]
theorem allL_nil {l : List UInt8} (h : l.drop (skipC false l) = []) : allL l = ([], true) := by simp [allL, allF, h]
theorem allL_bad {l : List UInt8} {c : UInt8} {r : List UInt8} (h : l.drop (skipC false l) = c :: r) (ht : (tokL (c :: r)).2 = false) : allL l = ([], false) := by simp [allL, allF, h, ht]
theorem allL_cons {l : List UInt8} {c : UInt8} {r : List UInt8} (h : l.drop (skipC false l) = c :: r) (ht : (tokL (c :: r)).2 = true) :
    allL l = ((tokL (c :: r)).1 :: (allL ((c :: r).drop (tokL (c :: r)).1.t.length)).1, (allL ((c :: r).drop (tokL (c :: r)).1.t.length)).2) := by
  obtain ⟨t1, t2, _⟩ := tokL_text ht
  have hl : (c :: r).length ≤ l.length := by rw [← h, List.length_drop]; omega
  conv => lhs; unfold allL allF
  simp only [h, ht, if_true]
  unfold allL
  rw [allF_fuel l.length (((c :: r).drop (tokL (c :: r)).1.t.length).length + 1) _ (by rw [List.length_drop]; omega) (by omega)]
theorem allL_skip {l : List UInt8} (b : Bool) (n : Nat) (h : skipC b l = n) : allL (l.drop n) = allL ((l.drop n).drop (skipC false (l.drop n))) := by
  subst h
  rw [skipC_skip, List.drop_zero]
theorem allL_drop (l : List UInt8) : allL (l.drop (skipC false l)) = allL l := by
  have h0 := skipC_skip l false
  cases hd : l.drop (skipC false l) with
  | nil => rw [allL_nil hd]; rfl
  | cons c r =>
    rw [hd] at h0
    have hd0 : (c :: r).drop (skipC false (c :: r)) = c :: r := by rw [h0]; rfl
    cases ht : (tokL (c :: r)).2 with
    | false => rw [allL_bad hd ht, allL_bad hd0 ht]
    | true => rw [allL_cons hd ht, allL_cons hd0 ht]
end Go.Lx
end

/- part L1P -/
section
namespace Go.Lx
open Go.Lib

def valF (a : Nat) (d : List UInt8) : Nat := d.foldl (fun a c => a * 10 + (c.toNat - 48)) a
abbrev valD (d : List UInt8) : Nat := valF 0 d
def canonD (d : List UInt8) : Prop := d ≠ [] ∧ (∀ c ∈ d, isDigit c = true) ∧ (d.head? = some 48 → d.length = 1)
theorem valF_nil (a : Nat) : valF a [] = a := rfl
theorem valF_cons (a : Nat) (c : UInt8) (r : List UInt8) : valF a (c :: r) = valF (a * 10 + (c.toNat - 48)) r := by unfold valF; rw [List.foldl_cons]
theorem valF_snoc (a : Nat) (d : List UInt8) (c : UInt8) : valF a (d ++ [c]) = valF a d * 10 + (c.toNat - 48) := by simp [valF, List.foldl_append]
theorem valF_append (a : Nat) (d e : List UInt8) : valF a (d ++ e) = valF (valF a d) e := by simp [valF, List.foldl_append]
theorem valF_ge : ∀ (d : List UInt8) (a : Nat), a ≤ valF a d
  | [], a => Nat.le_refl _
  | c :: r, a => by have := valF_ge r (a * 10 + (c.toNat - 48)); rw [valF_cons]; omega
theorem digit_bounds {c : UInt8} (h : isDigit c = true) : 48 ≤ c.toNat ∧ c.toNat ≤ 57 := by
  simp only [isDigit, Bool.and_eq_true, decide_eq_true_eq] at h; exact h
theorem digit_of {c : UInt8} (h1 : 48 ≤ c.toNat) (h2 : c.toNat ≤ 57) : isDigit c = true := by simp [isDigit, h1, h2]
theorem ofNat_digit {x : Nat} (h : x < 10) : (UInt8.ofNat (48 + x)).toNat = 48 + x := UInt8.toNat_ofNat_of_lt' (by show 48 + x < 256; omega)
theorem digit_eq {c : UInt8} (h : isDigit c = true) : UInt8.ofNat (48 + (c.toNat - 48)) = c := by
  obtain ⟨h1, h2⟩ := digit_bounds h
  apply UInt8.toNat_inj.1
  rw [ofNat_digit (by omega)]; omega

/-- the digits of a number -/
theorem decDigits_small {u : Nat} (h : u < 10) : decDigits u = [UInt8.ofNat (48 + u)] := by rw [decDigits, dif_pos h]
theorem decDigits_big {u : Nat} (h : ¬ u < 10) : decDigits u = decDigits (u / 10) ++ [UInt8.ofNat (48 + u % 10)] := by rw [decDigits, dif_neg h]
theorem decDigits_spec : ∀ (n u : Nat), u ≤ n → canonD (decDigits u) ∧ valD (decDigits u) = u ∧ (0 < u → (decDigits u).head? ≠ some 48) := by
  intro n
  induction n with
  | zero =>
    intro u h
    have : u = 0 := by omega
    subst this
    rw [decDigits_small (by omega)]
    exact ⟨⟨by simp, by decide, fun _ => rfl⟩, rfl, fun h => by omega⟩
  | succ n ih =>
    intro u h
    by_cases hu : u < 10
    · rw [decDigits_small hu]
      have e := ofNat_digit hu
      refine ⟨⟨by simp, fun c hc => ?_, fun _ => rfl⟩, ?_, fun h0 h1 => ?_⟩
      · simp only [List.mem_singleton] at hc
        subst hc
        exact digit_of (by omega) (by omega)
      · show 0 * 10 + ((UInt8.ofNat (48 + u)).toNat - 48) = u
        rw [e]; omega
      · simp only [List.head?_cons, Option.some.injEq] at h1
        have := congrArg UInt8.toNat h1
        rw [e] at this
        simp at this
        omega
    · rw [decDigits_big hu]
      obtain ⟨⟨k1, k2, k3⟩, k4, k5⟩ := ih (u / 10) (by omega)
      have h10 : 0 < u / 10 := by omega
      have e := ofNat_digit (show u % 10 < 10 by omega)
      have hh : (decDigits (u / 10) ++ [UInt8.ofNat (48 + u % 10)]).head? = (decDigits (u / 10)).head? := by
        cases hd : decDigits (u / 10) with
        | nil => exact absurd hd k1
        | cons => rfl
      refine ⟨⟨by simp, fun c hc => ?_, fun h1 => ?_⟩, ?_, fun _ => ?_⟩
      · rcases List.mem_append.1 hc with h | h
        · exact k2 c h
        · simp only [List.mem_singleton] at h
          subst h
          exact digit_of (by omega) (by omega)
      · rw [hh] at h1; exact absurd h1 (k5 h10)
      · have k4' : valF 0 (decDigits (u / 10)) = u / 10 := k4
        show valF 0 _ = u
        rw [valF_snoc, k4', e]; omega
      · rw [hh]; exact k5 h10
theorem valD_pos {d : List UInt8} (h : ∀ c ∈ d, isDigit c = true) (hne : d ≠ []) (h0 : d.head? ≠ some 48) : 0 < valD d := by
  cases d with
  | nil => exact absurd rfl hne
  | cons c r =>
    obtain ⟨h1, h2⟩ := digit_bounds (h c List.mem_cons_self)
    have hc : c.toNat ≠ 48 := fun e => h0 (by rw [List.head?_cons]; congr 1; exact UInt8.toNat_inj.1 (by simpa using e))
    have := valF_ge r (0 * 10 + (c.toNat - 48))
    show 0 < valF 0 (c :: r)
    rw [valF_cons]; omega
theorem decDigits_val : ∀ (n : Nat) (d : List UInt8), d.length ≤ n → canonD d → decDigits (valD d) = d := by
  intro n
  induction n with
  | zero => intro d h hc; exact absurd (List.eq_nil_of_length_eq_zero (by omega)) hc.1
  | succ n ih =>
    intro d h ⟨h1, h2, h3⟩
    rcases List.eq_nil_or_concat d with e | ⟨e, c, he⟩
    · exact absurd e h1
    · have he : d = e ++ [c] := by rw [he]; simp
      subst he
      have hc := h2 c (by simp)
      obtain ⟨b1, b2⟩ := digit_bounds hc
      rw [valD, valF_snoc]
      by_cases h0 : e = []
      · subst h0
        rw [valF_nil, decDigits_small (by omega)]
        have := digit_eq hc
        simp only [Nat.zero_mul, Nat.zero_add, List.nil_append]
        rw [this]
      · have hhd : (e ++ [c]).head? = e.head? := by cases e with
          | nil => exact absurd rfl h0
          | cons => rfl
        have hne48 : e.head? ≠ some 48 := fun h4 => by
          have := h3 (hhd.trans h4)
          have hl : 1 ≤ e.length := by cases e with
            | nil => exact absurd rfl h0
            | cons => simp
          rw [List.length_append, List.length_singleton] at this
          omega
        have hpos := valD_pos (fun x hx => h2 x (List.mem_append.2 (.inl hx))) h0 hne48
        have hih := ih e (by simp at h; omega) ⟨h0, fun x hx => h2 x (List.mem_append.2 (.inl hx)), fun h4 => absurd h4 hne48⟩
        have hdiv : (valF 0 e * 10 + (c.toNat - 48)) / 10 = valD e := by show _ = valF 0 e; omega
        have hmod : (valF 0 e * 10 + (c.toNat - 48)) % 10 = c.toNat - 48 := by omega
        rw [decDigits_big (by show ¬ valF 0 e * 10 + (c.toNat - 48) < 10; have : 0 < valF 0 e := hpos; omega), hdiv, hmod, hih, digit_eq hc]
theorem itoa_neg {v : Int} (h : v < 0) : itoa v = 45 :: decDigits v.natAbs := by unfold itoa; rw [if_pos h]
theorem itoa_pos {v : Int} (h : ¬ v < 0) : itoa v = decDigits v.toNat := by unfold itoa; rw [if_neg h]

/-- digits are parsed -/
theorem parse_ok : ∀ (d : List UInt8) (a : Nat), (∀ c ∈ d, isDigit c = true) → valF a d < 18446744073709551616 → parseUint10 a d = .ok (valF a d)
  | [], a, _, _ => rfl
  | c :: r, a, h, hv => by
    obtain ⟨h1, h2⟩ := digit_bounds (h c List.mem_cons_self)
    rw [valF_cons] at hv ⊢
    have hge := valF_ge r (a * 10 + (c.toNat - 48))
    simp only [parseUint10]
    rw [if_pos ⟨h1, h2⟩, if_neg (by omega), if_neg (by omega)]
    exact parse_ok r _ (fun x hx => h x (List.mem_cons_of_mem _ hx)) hv
theorem ok_parse : ∀ (d : List UInt8) (a u : Nat), parseUint10 a d = .ok u → (∀ c ∈ d, isDigit c = true) ∧ valF a d = u
  | [], a, u, h => by simp only [parseUint10] at h; injection h with h; exact ⟨fun c hc => by simp at hc, h⟩
  | c :: r, a, u, h => by
    simp only [parseUint10] at h
    split at h
    · rename_i hd
      split at h
      · cases h
      · split at h
        · cases h
        · obtain ⟨k1, k2⟩ := ok_parse r _ u h
          refine ⟨fun x hx => ?_, k2⟩
          rcases List.mem_cons.1 hx with rfl | hx
          · exact digit_of hd.1 hd.2
          · exact k1 x hx
    · cases h

/-- a canonical numeral, by its form -/
def CanonN (l : List UInt8) (v : Int) : Prop :=
  (∃ r, l = 45 :: r ∧ canonD r ∧ r.head? ≠ some 48 ∧ valD r ≤ 9223372036854775808 ∧ v = -(valD r : Int)) ∨
  (l.head? ≠ some 45 ∧ canonD l ∧ valD l < 9223372036854775808 ∧ v = (valD l : Int))
theorem atoi_neg {r : List UInt8} {u : Nat} (h : parseMag r = .ok u) (hu : u ≤ 9223372036854775808) : atoiAll (45 :: r) = .ok (-(u : Int)) := by
  show (match parseMag (if (45 : UInt8).toNat = 43 ∨ (45 : UInt8).toNat = 45 then r else 45 :: r) with
    | NumEnd.syntax => NumEnd.syntax
    | .range => .range
    | .ok u => if ¬ ((45 : UInt8).toNat = 45) ∧ 9223372036854775808 ≤ u then .range else if (45 : UInt8).toNat = 45 ∧ 9223372036854775808 < u then .range else .ok (if (45 : UInt8).toNat = 45 then -(u : Int) else u)) = _
  rw [if_pos (.inr rfl), h]
  simp only
  rw [if_neg (by simp), if_neg (by omega), if_pos (show (45 : UInt8).toNat = 45 by decide)]
theorem canonD_head {l : List UInt8} (h : canonD l) : ∃ c r, l = c :: r ∧ isDigit c = true := by
  cases l with
  | nil => exact absurd rfl h.1
  | cons c r => exact ⟨c, r, rfl, h.2.1 c List.mem_cons_self⟩
theorem atoi_pos {l : List UInt8} {u : Nat} (hc : canonD l) (h : parseMag l = .ok u) (hu : u < 9223372036854775808) : atoiAll l = .ok (u : Int) := by
  obtain ⟨c, r, rfl, hd⟩ := canonD_head hc
  obtain ⟨h1, h2⟩ := digit_bounds hd
  show (match parseMag (if c.toNat = 43 ∨ c.toNat = 45 then r else c :: r) with
    | NumEnd.syntax => NumEnd.syntax
    | .range => .range
    | .ok u => if ¬ (c.toNat = 45) ∧ 9223372036854775808 ≤ u then .range else if c.toNat = 45 ∧ 9223372036854775808 < u then .range else .ok (if c.toNat = 45 then -(u : Int) else u)) = _
  rw [if_neg (by omega), h]
  simp only
  rw [if_neg (by omega), if_neg (by omega), if_neg (by omega)]
theorem atoi_range {l : List UInt8} {v : Int} (h : atoiAll l = .ok v) : -9223372036854775808 ≤ v ∧ v ≤ 9223372036854775807 := by
  unfold atoiAll at h
  split at h
  · cases h
  · dsimp only at h
    split at h
    · cases h
    · cases h
    · rename_i u hu
      split at h
      · cases h
      · split at h
        · cases h
        · injection h with h
          subst h
          rename_i h1 h2
          split <;> omega
theorem canon_iff {l : List UInt8} {v : Int} : canon l = some v ↔ CanonN l v := by
  constructor
  · intro h
    unfold canon at h
    split at h
    · rename_i v' ha
      split at h
      · rename_i hi
        cases h
        obtain ⟨r1, r2⟩ := atoi_range ha
        by_cases hv : v < 0
        · obtain ⟨k1, k2, k3⟩ := decDigits_spec _ v.natAbs (Nat.le_refl _)
          left
          refine ⟨decDigits v.natAbs, ?_, k1, k3 (by omega), by omega, by omega⟩
          rw [← hi, itoa_neg hv]
        · obtain ⟨k1, k2, k3⟩ := decDigits_spec _ v.toNat (Nat.le_refl _)
          right
          rw [itoa_pos hv] at hi
          subst hi
          refine ⟨?_, k1, by omega, by omega⟩
          obtain ⟨c, r, e, hd⟩ := canonD_head k1
          rw [e, List.head?_cons]
          intro h45
          cases h45
          revert hd; decide
      · cases h
    · cases h
  · rintro (⟨r, rfl, hc, h48, hv, rfl⟩ | ⟨h45, hc, hv, rfl⟩)
    · have hp : parseMag r = .ok (valD r) := by unfold parseMag; rw [if_neg hc.1]; exact parse_ok r 0 hc.2.1 (by show valD r < _; omega)
      have hpos := valD_pos hc.2.1 hc.1 h48
      unfold canon
      rw [atoi_neg hp hv]
      simp only
      have hd := decDigits_val _ r (Nat.le_refl _) hc
      rw [itoa_neg (by omega), show (-(valD r : Int)).natAbs = valD r by omega, hd, if_pos rfl]
    · have hp : parseMag l = .ok (valD l) := by unfold parseMag; rw [if_neg hc.1]; exact parse_ok l 0 hc.2.1 (by show valD l < _; omega)
      unfold canon
      rw [atoi_pos hc hp hv]
      simp only
      have hd := decDigits_val _ l (Nat.le_refl _) hc
      rw [itoa_pos (by omega), show ((valD l : Int)).toNat = valD l by omega, hd, if_pos rfl]
end Go.Lx
end

/- part Z1K -/
section
namespace Go.Av
open Go.Vx Go.RowKit
/-- a function whose run is known, and that leaves all that was there -/
theorem pcalls_below {ax : Ax} {N : Nat} {args : List V} {K : List V → Prop}
    (h : ∀ (G : Nat → Value) (w : World) (F : Nat → Nat → Prop) (β : Nat → Value) (vals : List Value), ErrOk ax.P ax.gs ax.ift ax.tabs G → Sim ax.gs G w F β (mkS []) → Rl (RV ax.gs G w F β (mkS [])) args vals →
      Calls ax.P N vals.toArray w fun e w' => ∃ rs rvals, K rs ∧ e = .returned (oneOr rvals) ∧ Rl (RV ax.gs G w F β (mkS [])) rs rvals ∧ Below w.heap.size w w') : PCalls ax N args K := by
  intro G w F β vals hE hS hr
  refine (h G w F β vals hE hS hr).mono ?_
  rintro e w' ⟨rs, rvals, k, e1, r, hb⟩
  obtain ⟨s1, s2⟩ := hS.below hb
  exact ⟨rs, [], F, β, rvals, k, e1, r.mono fun u v hv => RV.mono s2.carry hv, s1, s2⟩
end Go.Av
namespace Go.Proofs.YtgjifgjjcaohoaaGreatDoor.Va
open Go.Vx Go.Av Go.Lx Go.RowKit

theorem IndexByte_spec (l : List UInt8) (c : UInt8) : PCalls ax 81 [.str (bs l), .int .u8 (c.toNat : Int)] fun r => r = [.int .i64 (Lib.indexByte l c)] := by
  refine pcalls_below fun G w F β vals hE hS hr => ?_
  obtain ⟨v0, r0, rfl, h0, hr⟩ := hr.cons_inv
  obtain ⟨v1, r1, rfl, h1, hr⟩ := hr.cons_inv
  obtain rfl := hr.nil_inv
  rw [h0.str_inv, h1.int_inv]
  refine (Tryz.strings_IndexByte (bs l) (c.toNat : Int) w).mono ?_
  rintro e w' ⟨rfl, rfl⟩
  have hc : ((c.toNat : Int)).toNat.toUInt8 = c := by simp
  rw [hc, bs_data]
  exact ⟨_, [.int .i64 (Lib.indexByte l c)], rfl, rfl, .cons (.mk_int _ _) .nil, Below.refl _ _⟩
theorem HasPrefix_spec (l p : List UInt8) : PCalls ax 88 [.str (bs l), .str (bs p)] fun r => r = [.bool (Lib.hasPrefix l p)] := by
  refine pcalls_below fun G w F β vals hE hS hr => ?_
  obtain ⟨v0, r0, rfl, h0, hr⟩ := hr.cons_inv
  obtain ⟨v1, r1, rfl, h1, hr⟩ := hr.cons_inv
  obtain rfl := hr.nil_inv
  rw [h0.str_inv, h1.str_inv]
  refine (Tryz.strings_HasPrefix (bs l) (bs p) w).mono ?_
  rintro e w' ⟨rfl, rfl⟩
  rw [bs_data, bs_data]
  exact ⟨_, [.bool (Lib.hasPrefix l p)], rfl, rfl, .cons (.mk_bool _) .nil, Below.refl _ _⟩
end Go.Proofs.YtgjifgjjcaohoaaGreatDoor.Va
end

/- part Z1N -/
section
set_option linter.unusedVariables false
namespace Go.Proofs.YtgjifgjjcaohoaaGreatDoor.Vf
open Go.Vx
def tys : Tys := [(3, ⟨(.int .i64), 1, 8, [.int .i64 0], [.int .i64]⟩),
  (4, ⟨.bool, 1, 1, [.bool false], [.bool]⟩),
  (5, ⟨(.int .u8), 1, 1, [.int .u8 0], [.int .u8]⟩),
  (9, ⟨.str, 1, 16, [.string (⟨#[]⟩ : ByteArray)], [.str]⟩),
  (27, ⟨.iface, 1, 16, [.nilIface], [.any]⟩),
  (94, ⟨(.agg [(0, 3), (1, 9), (2, 3)]), 3, 32, [.int .i64 0, .string (⟨#[]⟩ : ByteArray), .int .i64 0], [.int .i64, .str, .int .i64]⟩)]
theorem ty3 : Ty.Ok Tryz.prog 3 ⟨(.int .i64), 1, 8, [.int .i64 0], [.int .i64]⟩ := ⟨Tryz.underlying3, by kernel_rfl, by kernel_rfl, rfl⟩
theorem ty4 : Ty.Ok Tryz.prog 4 ⟨.bool, 1, 1, [.bool false], [.bool]⟩ := ⟨Tryz.underlying4, by kernel_rfl, by kernel_rfl, rfl⟩
theorem ty5 : Ty.Ok Tryz.prog 5 ⟨(.int .u8), 1, 1, [.int .u8 0], [.int .u8]⟩ := ⟨Tryz.underlying5, by kernel_rfl, by kernel_rfl, rfl⟩
theorem ty9 : Ty.Ok Tryz.prog 9 ⟨.str, 1, 16, [.string (⟨#[]⟩ : ByteArray)], [.str]⟩ := ⟨Tryz.underlying9, by kernel_rfl, by kernel_rfl, rfl⟩
theorem ty27 : Ty.Ok Tryz.prog 27 ⟨.iface, 1, 16, [.nilIface], [.any]⟩ := ⟨⟨_, Tryz.underlying27⟩, by kernel_rfl, by kernel_rfl, rfl⟩
theorem ty94 : Ty.Ok Tryz.prog 94 ⟨(.agg [(0, 3), (1, 9), (2, 3)]), 3, 32, [.int .i64 0, .string (⟨#[]⟩ : ByteArray), .int .i64 0], [.int .i64, .str, .int .i64]⟩ := ⟨⟨_, Tryz.underlying94, rfl⟩, by kernel_rfl, by kernel_rfl, rfl⟩
theorem tysOk : AllOk Tryz.prog tys := ⟨ty3, ty4, ty5, ty9, ty27, ty94, trivial⟩
def fns : Fns := [(38, [9]), (84, [3]), (85, [4]), (100, [3, 27])]
theorem fnOk38 : ∃ fn, Tryz.prog.funcs[38]? = some fn ∧ (fn.name == "runtime.NumGoroutine") = false ∧ fn.body.isNone = false := ⟨_, Tryz.func38, by kernel_rfl, by kernel_rfl⟩
theorem fnOk84 : ∃ fn, Tryz.prog.funcs[84]? = some fn ∧ (fn.name == "runtime.NumGoroutine") = false ∧ fn.body.isNone = false := ⟨_, Tryz.func84, by kernel_rfl, by kernel_rfl⟩
theorem fnOk85 : ∃ fn, Tryz.prog.funcs[85]? = some fn ∧ (fn.name == "runtime.NumGoroutine") = false ∧ fn.body.isNone = false := ⟨_, Tryz.func85, by kernel_rfl, by kernel_rfl⟩
theorem fnOk100 : ∃ fn, Tryz.prog.funcs[100]? = some fn ∧ (fn.name == "runtime.NumGoroutine") = false ∧ fn.body.isNone = false := ⟨_, Tryz.func100, by kernel_rfl, by kernel_rfl⟩
theorem fnsOk : FnsOk Tryz.prog fns := ⟨fnOk38, fnOk84, fnOk85, fnOk100, trivial⟩
theorem follows : Tryz.prog.follows .mixedOrders = true := by kernel_rfl
/-! ### number: function 87 -/
def number.hs : Hints := ⟨[], []⟩
set_option maxRecDepth 100000 in
def number.W (s1 : ByteArray) (n2 : Int) (w : World) (R : Value → World → Prop) : Prop :=
 (withW (World.alloc w (.cells #[.int .i64 0, .string (⟨#[]⟩ : ByteArray), .int .i64 0] 94)) fun w3 =>
 (0 ≤ n2 ∧ ∃ u4 : UInt8, s1[(n2 : Int).toNat]? = some u4 ∧ (bif ((u4.toNat : Int) == (45 : Int)) then
 (Calls Tryz.prog 84 #[(.string s1), (.int .i64 (IntKind.i64.wrap (n2 + 1))), (.func (.func 86) #[] #[])] w3 fun e6 w5 => ∃ (n7 : Int), e6 = .returned (.int .i64 n7) ∧ (0 ≤ n2 ∧ n2 ≤ (IntKind.i64.wrap (n2 + (IntKind.i64.wrap (1 + n7)))) ∧ (IntKind.i64.wrap (n2 + (IntKind.i64.wrap (1 + n7)))) ≤ (s1.size : Int) ∧ (Calls Tryz.prog 100 #[(.string (s1.extract (n2 : Int).toNat ((IntKind.i64.wrap (n2 + (IntKind.i64.wrap (1 + n7)))) : Int).toNat))] w5 fun e9 w8 => ∃ (n10 : Int) (v11 : Value), e9 = .returned (.tuple #[(.int .i64 n10), v11]) ∧ (∃ r12, IsNil v11 r12 ∧ (bif (!r12) then (canSt w8 w.heap.size 0 [(.int .i64 0), (.string (⟨#[]⟩ : ByteArray)), (.int .i64 0)] ∧ withW (setL w8 w.heap.size 0 [(.int .i64 0), (.string (⟨#[]⟩ : ByteArray)), (.int .i64 0)]) fun w13 =>
 (∃ (n14 : Int) (s15 : ByteArray) (n16 : Int), cellsAt w13 w.heap.size 0 [(.int .i64 n14), (.string s15), (.int .i64 n16)] ∧ (R (.tuple #[(.agg #[(.int .i64 n14), (.string s15), (.int .i64 n16)]), (.bool false)]) w13))) else (Calls Tryz.prog 38 #[(.int .i64 n10)] w8 fun e18 w17 => ∃ (s19 : ByteArray), e18 = .returned (.string s19) ∧ (bif (!(s19.toList == (s1.extract (n2 : Int).toNat ((IntKind.i64.wrap (n2 + (IntKind.i64.wrap (1 + n7)))) : Int).toNat).toList)) then
 (canSt w17 w.heap.size 0 [(.int .i64 0), (.string (⟨#[]⟩ : ByteArray)), (.int .i64 0)] ∧ withW (setL w17 w.heap.size 0 [(.int .i64 0), (.string (⟨#[]⟩ : ByteArray)), (.int .i64 0)]) fun w20 =>
 (∃ (n21 : Int) (s22 : ByteArray) (n23 : Int), cellsAt w20 w.heap.size 0 [(.int .i64 n21), (.string s22), (.int .i64 n23)] ∧ (R (.tuple #[(.agg #[(.int .i64 n21), (.string s22), (.int .i64 n23)]), (.bool false)]) w20)))
 else
 (bif (decide ((IntKind.i64.wrap (n2 + (IntKind.i64.wrap (1 + n7)))) < (s1.size : Int))) then (0 ≤ (IntKind.i64.wrap (n2 + (IntKind.i64.wrap (1 + n7)))) ∧ ∃ u24 : UInt8, s1[((IntKind.i64.wrap (n2 + (IntKind.i64.wrap (1 + n7)))) : Int).toNat]? = some u24 ∧ (Calls Tryz.prog 85 #[(.int .u8 (u24.toNat : Int))] w17 fun e26 w25 => ∃ (b27 : Bool), e26 = .returned (.bool b27) ∧ (bif b27 then
 (canSt w25 w.heap.size 0 [(.int .i64 0), (.string (⟨#[]⟩ : ByteArray)), (.int .i64 0)] ∧ withW (setL w25 w.heap.size 0 [(.int .i64 0), (.string (⟨#[]⟩ : ByteArray)), (.int .i64 0)]) fun w28 =>
 (∃ (n29 : Int) (s30 : ByteArray) (n31 : Int), cellsAt w28 w.heap.size 0 [(.int .i64 n29), (.string s30), (.int .i64 n31)] ∧ (R (.tuple #[(.agg #[(.int .i64 n29), (.string s30), (.int .i64 n31)]), (.bool false)]) w28)))
 else
 (canSt w25 w.heap.size 0 [(.int .i64 3), (.string (s1.extract (n2 : Int).toNat ((IntKind.i64.wrap (n2 + (IntKind.i64.wrap (1 + n7)))) : Int).toNat)), (.int .i64 n10)] ∧ withW (setL w25 w.heap.size 0 [(.int .i64 3), (.string (s1.extract (n2 : Int).toNat ((IntKind.i64.wrap (n2 + (IntKind.i64.wrap (1 + n7)))) : Int).toNat)), (.int .i64 n10)]) fun w32 =>
 (∃ (n33 : Int) (s34 : ByteArray) (n35 : Int), cellsAt w32 w.heap.size 0 [(.int .i64 n33), (.string s34), (.int .i64 n35)] ∧ (R (.tuple #[(.agg #[(.int .i64 n33), (.string s34), (.int .i64 n35)]), (.bool true)]) w32)))))) else (canSt w17 w.heap.size 0 [(.int .i64 3), (.string (s1.extract (n2 : Int).toNat ((IntKind.i64.wrap (n2 + (IntKind.i64.wrap (1 + n7)))) : Int).toNat)), (.int .i64 n10)] ∧ withW (setL w17 w.heap.size 0 [(.int .i64 3), (.string (s1.extract (n2 : Int).toNat ((IntKind.i64.wrap (n2 + (IntKind.i64.wrap (1 + n7)))) : Int).toNat)), (.int .i64 n10)]) fun w36 =>
 (∃ (n37 : Int) (s38 : ByteArray) (n39 : Int), cellsAt w36 w.heap.size 0 [(.int .i64 n37), (.string s38), (.int .i64 n39)] ∧ (R (.tuple #[(.agg #[(.int .i64 n37), (.string s38), (.int .i64 n39)]), (.bool true)]) w36)))))))))))
 else
 (Calls Tryz.prog 84 #[(.string s1), (.int .i64 (IntKind.i64.wrap (n2 + 0))), (.func (.func 86) #[] #[])] w3 fun e41 w40 => ∃ (n42 : Int), e41 = .returned (.int .i64 n42) ∧ (0 ≤ n2 ∧ n2 ≤ (IntKind.i64.wrap (n2 + (IntKind.i64.wrap (0 + n42)))) ∧ (IntKind.i64.wrap (n2 + (IntKind.i64.wrap (0 + n42)))) ≤ (s1.size : Int) ∧ (Calls Tryz.prog 100 #[(.string (s1.extract (n2 : Int).toNat ((IntKind.i64.wrap (n2 + (IntKind.i64.wrap (0 + n42)))) : Int).toNat))] w40 fun e44 w43 => ∃ (n45 : Int) (v46 : Value), e44 = .returned (.tuple #[(.int .i64 n45), v46]) ∧ (∃ r47, IsNil v46 r47 ∧ (bif (!r47) then (canSt w43 w.heap.size 0 [(.int .i64 0), (.string (⟨#[]⟩ : ByteArray)), (.int .i64 0)] ∧ withW (setL w43 w.heap.size 0 [(.int .i64 0), (.string (⟨#[]⟩ : ByteArray)), (.int .i64 0)]) fun w48 =>
 (∃ (n49 : Int) (s50 : ByteArray) (n51 : Int), cellsAt w48 w.heap.size 0 [(.int .i64 n49), (.string s50), (.int .i64 n51)] ∧ (R (.tuple #[(.agg #[(.int .i64 n49), (.string s50), (.int .i64 n51)]), (.bool false)]) w48))) else (Calls Tryz.prog 38 #[(.int .i64 n45)] w43 fun e53 w52 => ∃ (s54 : ByteArray), e53 = .returned (.string s54) ∧ (bif (!(s54.toList == (s1.extract (n2 : Int).toNat ((IntKind.i64.wrap (n2 + (IntKind.i64.wrap (0 + n42)))) : Int).toNat).toList)) then
 (canSt w52 w.heap.size 0 [(.int .i64 0), (.string (⟨#[]⟩ : ByteArray)), (.int .i64 0)] ∧ withW (setL w52 w.heap.size 0 [(.int .i64 0), (.string (⟨#[]⟩ : ByteArray)), (.int .i64 0)]) fun w55 =>
 (∃ (n56 : Int) (s57 : ByteArray) (n58 : Int), cellsAt w55 w.heap.size 0 [(.int .i64 n56), (.string s57), (.int .i64 n58)] ∧ (R (.tuple #[(.agg #[(.int .i64 n56), (.string s57), (.int .i64 n58)]), (.bool false)]) w55)))
 else
 (bif (decide ((IntKind.i64.wrap (n2 + (IntKind.i64.wrap (0 + n42)))) < (s1.size : Int))) then (0 ≤ (IntKind.i64.wrap (n2 + (IntKind.i64.wrap (0 + n42)))) ∧ ∃ u59 : UInt8, s1[((IntKind.i64.wrap (n2 + (IntKind.i64.wrap (0 + n42)))) : Int).toNat]? = some u59 ∧ (Calls Tryz.prog 85 #[(.int .u8 (u59.toNat : Int))] w52 fun e61 w60 => ∃ (b62 : Bool), e61 = .returned (.bool b62) ∧ (bif b62 then
 (canSt w60 w.heap.size 0 [(.int .i64 0), (.string (⟨#[]⟩ : ByteArray)), (.int .i64 0)] ∧ withW (setL w60 w.heap.size 0 [(.int .i64 0), (.string (⟨#[]⟩ : ByteArray)), (.int .i64 0)]) fun w63 =>
 (∃ (n64 : Int) (s65 : ByteArray) (n66 : Int), cellsAt w63 w.heap.size 0 [(.int .i64 n64), (.string s65), (.int .i64 n66)] ∧ (R (.tuple #[(.agg #[(.int .i64 n64), (.string s65), (.int .i64 n66)]), (.bool false)]) w63)))
 else
 (canSt w60 w.heap.size 0 [(.int .i64 3), (.string (s1.extract (n2 : Int).toNat ((IntKind.i64.wrap (n2 + (IntKind.i64.wrap (0 + n42)))) : Int).toNat)), (.int .i64 n45)] ∧ withW (setL w60 w.heap.size 0 [(.int .i64 3), (.string (s1.extract (n2 : Int).toNat ((IntKind.i64.wrap (n2 + (IntKind.i64.wrap (0 + n42)))) : Int).toNat)), (.int .i64 n45)]) fun w67 =>
 (∃ (n68 : Int) (s69 : ByteArray) (n70 : Int), cellsAt w67 w.heap.size 0 [(.int .i64 n68), (.string s69), (.int .i64 n70)] ∧ (R (.tuple #[(.agg #[(.int .i64 n68), (.string s69), (.int .i64 n70)]), (.bool true)]) w67)))))) else (canSt w52 w.heap.size 0 [(.int .i64 3), (.string (s1.extract (n2 : Int).toNat ((IntKind.i64.wrap (n2 + (IntKind.i64.wrap (0 + n42)))) : Int).toNat)), (.int .i64 n45)] ∧ withW (setL w52 w.heap.size 0 [(.int .i64 3), (.string (s1.extract (n2 : Int).toNat ((IntKind.i64.wrap (n2 + (IntKind.i64.wrap (0 + n42)))) : Int).toNat)), (.int .i64 n45)]) fun w71 =>
 (∃ (n72 : Int) (s73 : ByteArray) (n74 : Int), cellsAt w71 w.heap.size 0 [(.int .i64 n72), (.string s73), (.int .i64 n74)] ∧ (R (.tuple #[(.agg #[(.int .i64 n72), (.string s73), (.int .i64 n74)]), (.bool true)]) w71))))))))))))))
set_option maxRecDepth 100000 in
theorem number.eq (s1 : ByteArray) (n2 : Int) (w : World) (R : Value → World → Prop) : number.W s1 n2 w R = fnW Tryz.prog tys fns number.hs Tryz.f87 [(.string s1), (.int .i64 n2)] w R := by kernel_rfl
theorem number.ok : codeOk tys number.hs Tryz.f87.ntmps (Tryz.f87.body.getD .skip) = true := by kernel_rfl
theorem number.calls {s1 n2 w R} (h : number.W s1 n2 w R) : Calls Tryz.prog 87 ([(.string s1), (.int .i64 n2)] : List Value).toArray w fun e w' => ∃ v, e = .returned v ∧ R v w' :=
  fnW_calls tysOk fnsOk follows Tryz.func87 (by kernel_rfl) number.ok (by kernel_rfl) (number.eq s1 n2 w R ▸ h)
end Go.Proofs.YtgjifgjjcaohoaaGreatDoor.Vf
end

/- part Z1Q -/
section
namespace Go.Av
open Go.Vx Go.RowKit
/-- a function of data, run -/
theorem PCalls.run {ax : Ax} {N : Nat} {args : List V} {K : List V → Prop} (h : PCalls ax N args K) {G : Nat → Value} {w : World} {F : Nat → Nat → Prop} {β : Nat → Value} {vals : List Value} (hE : ErrOk ax.P ax.gs ax.ift ax.tabs G) (hS : Sim ax.gs G w F β (mkS [])) (hr : Rl (RV ax.gs G w F β (mkS [])) args vals) :
    Calls ax.P N vals.toArray w fun e w' => ∃ rs rvals F' β', K rs ∧ e = .returned (oneOr rvals) ∧ Rl (RV ax.gs G w' F' β' (mkS [])) rs rvals ∧ Sim ax.gs G w' F' β' (mkS []) ∧ Below w.heap.size w w' := by
  refine (h G w F β vals hE hS hr).mono ?_
  rintro e w' ⟨rs, obs', F', β', rvals, k, e1, r, s1, s2⟩
  cases obs' with
  | cons => exact k.elim
  | nil =>
    have no : ∀ (b : Nat) i, ¬ Has β i (getO (mkS []) i) b := fun b i hi => by have := hi.1; simp [mkS, getO, Live] at this
    exact ⟨rs, rvals, F', β', k, e1, r, s1, s2.os, s2.tape, s2.output, s2.size, fun b hb => s2.block b hb (no b)⟩
end Go.Av
namespace Go.Proofs.YtgjifgjjcaohoaaGreatDoor.Va
open Go.Vx Go.Av Go.Lx Go.RowKit

/-- the bulk that a law reads is at most this -/
abbrev big : Nat := 1099511627776

theorem small_spec (c : UInt8) : PCalls ax 82 [.int .u8 (c.toNat : Int)] fun r => r = [.bool (isSmall c)] := by
  refine small.calls (K := fun r => r = [.bool (isSmall c)]) ?_
  unfold small.W
  refine ifD (fun h => ?_) (fun h => ?_)
  · have : 97 ≤ c.toNat := by omega
    simp [isSmall, this]; omega
  · have : ¬ 97 ≤ c.toNat := by omega
    simp [isSmall, this]
theorem great_spec (c : UInt8) : PCalls ax 83 [.int .u8 (c.toNat : Int)] fun r => r = [.bool (isGreat c)] := by
  refine great.calls (K := fun r => r = [.bool (isGreat c)]) ?_
  unfold great.W
  have he : (((c.toNat : Int) == 95) = decide (c.toNat = 95)) := by rw [Bool.eq_iff_iff]; simp; omega
  refine ifD (fun h => ifD (fun h2 => ?_) (fun h2 => ?_)) (fun h => ?_)
  · have h1 : 65 ≤ c.toNat := by omega
    have h2 : c.toNat ≤ 90 := by omega
    simp [isGreat, h1, h2]
  · have h2 : ¬ c.toNat ≤ 90 := by omega
    rw [he]; simp [isGreat, h2]
  · have h1 : ¬ 65 ≤ c.toNat := by omega
    rw [he]; simp [isGreat, h1]
theorem digit_spec (c : UInt8) : PCalls ax 86 [.int .u8 (c.toNat : Int)] fun r => r = [.bool (isDigit c)] := by
  refine digit.calls (K := fun r => r = [.bool (isDigit c)]) ?_
  unfold digit.W
  refine ifD (fun h => ?_) (fun h => ?_)
  · have : 48 ≤ c.toNat := by omega
    simp [isDigit, this]; omega
  · have : ¬ 48 ≤ c.toNat := by omega
    simp [isDigit, this]
theorem inner_spec (c : UInt8) : PCalls ax 85 [.int .u8 (c.toNat : Int)] fun r => r = [.bool (isInner c)] := by
  refine inner.calls (K := fun r => r = [.bool (isInner c)]) ?_
  unfold inner.W
  refine (small_spec c).mono fun r hr => ⟨_, hr, ifB (fun h => by simp [isInner, h]) (fun h => ?_)⟩
  refine (great_spec c).mono fun r hr => ⟨_, hr, ifB (fun h2 => by simp [isInner, h2]) (fun h2 => ?_)⟩
  exact (digit_spec c).mono fun r hr => ⟨_, hr, by simp [isInner, h, h2]⟩
theorem rletter_spec (c : UInt8) : PCalls ax 89 [.int .u8 (c.toNat : Int)] fun r => r = [.bool (isLetter c)] := by
  refine rletter.calls (K := fun r => r = [.bool (isLetter c)]) ?_
  unfold rletter.W
  have he : (((c.toNat : Int) == 95) = decide (c.toNat = 95)) := by rw [Bool.eq_iff_iff]; simp; omega
  have hw : isLetter c = ((decide (97 ≤ c.toNat) && decide (c.toNat ≤ 122)) || ((decide (65 ≤ c.toNat) && decide (c.toNat ≤ 90)) || decide (c.toNat = 95))) := rfl
  rw [he, hw]
  refine ifD (fun h1 => ifD (fun h2 => ?_) (fun h2 => ifD (fun h3 => ifD (fun h4 => ?_) (fun h4 => ?_)) (fun h3 => ?_))) (fun h1 => ifD (fun h3 => ifD (fun h4 => ?_) (fun h4 => ?_)) (fun h3 => ?_))
  all_goals
    simp only [List.cons.injEq, V.bool.injEq, and_true]
    rw [Bool.eq_iff_iff]
    simp only [Bool.or_eq_true, Bool.and_eq_true, decide_eq_true_eq, true_iff]
    omega
theorem rdigit_spec (c : UInt8) : PCalls ax 90 [.int .u8 (c.toNat : Int)] fun r => r = [.bool (isDigit c)] := by
  refine rdigit.calls (K := fun r => r = [.bool (isDigit c)]) ?_
  unfold rdigit.W
  refine ifD (fun h => ?_) (fun h => ?_)
  · have : 48 ≤ c.toNat := by omega
    simp [isDigit, this]; omega
  · have : ¬ 48 ≤ c.toNat := by omega
    simp [isDigit, this]

theorem indexByte_lt {c : UInt8} : ∀ {l : List UInt8} {k : Nat}, Lib.indexByte l c = k → k < l.length
  | [], k, h => by simp only [Lib.indexByte] at h; omega
  | b :: l, k, h => by
    simp only [Lib.indexByte] at h
    split at h
    · simp only [List.length_cons]; omega
    · split at h
      · omega
      · rename_i h1 h2
        have hge := Lib.indexByte_ge l c
        have h3 : Lib.indexByte l c ≠ -1 := by simpa using h2
        have := indexByte_lt (c := c) (l := l) (k := (Lib.indexByte l c).toNat) (by omega)
        simp only [List.length_cons]; omega
theorem wadd {a b : Nat} (h : a + b ≤ 9223372036854775807) : IntKind.i64.wrap ((a : Int) + (b : Int)) = ((a + b : Nat) : Int) := by rw [w64 (by omega) (by omega)]; push_cast; rfl
theorem wadd1 {a : Nat} (h : a + 1 ≤ 9223372036854775807) : IntKind.i64.wrap ((a : Int) + 1) = ((a + 1 : Nat) : Int) := by rw [w64 (by omega) (by omega)]; push_cast; rfl
theorem get_lt {l : List UInt8} {i : Nat} (h : i < l.length) : ∃ c, l[i]? = some c ∧ (bs l)[((i : Nat) : Int).toNat]? = some c := ⟨l[i], List.getElem?_eq_getElem h, by rw [Int.toNat_natCast, bs_get, List.getElem?_eq_getElem h]⟩

theorem spanD_spec (l : List UInt8) (hl : l.length ≤ big) (i : Nat) (hi : i ≤ l.length) : PCalls ax 84 [.str (bs l), .int .i64 i, .fn 86 [] []] fun r => r = [.int .i64 (span isDigit (l.drop i))] := by
  refine spanD.calls (K := fun r => r = [.int .i64 (span isDigit (l.drop i))]) ?_
  unfold spanD.W
  have hb : big = 1099511627776 := rfl
  refine ⟨fun us => ∃ j : Nat, i ≤ j ∧ j ≤ l.length ∧ us = [.int .i64 j] ∧ span isDigit (l.drop i) = (j - i) + span isDigit (l.drop j), fun us => match us with | .int _ j :: _ => l.length - j.toNat | _ => 0, ⟨i, Nat.le_refl _, hi, rfl, by omega⟩, ?_⟩
  rintro n ⟨j, h1, h2, e, h3⟩
  cases e
  have fin : span isDigit (l.drop j) = 0 → [V.int .i64 (IntKind.i64.wrap ((j : Int) - (i : Int)))] = [.int .i64 (span isDigit (l.drop i))] := fun h => by
    rw [w64 (by omega) (by omega), h3, h]; congr 2; omega
  rw [bs_size]
  refine ifD (fun hlt => ?_) (fun hge => fin (span_end (by omega)))
  obtain ⟨c, hc, hg⟩ := get_lt (l := l) (i := j) (by omega)
  refine ⟨by omega, c, hg, (digit_spec c).mono fun r hr => ⟨_, hr, ifB (fun h => ?_) (fun h => fin (by rw [span_drop hc, h]; rfl))⟩⟩
  rw [span_drop hc, if_pos h] at h3
  rw [wadd1 (by omega)]
  exact ⟨⟨j + 1, by omega, by omega, rfl, by omega⟩, by simp only [Int.toNat_natCast]; omega⟩
theorem spanI_spec (l : List UInt8) (hl : l.length ≤ big) (i : Nat) (hi : i ≤ l.length) : PCalls ax 84 [.str (bs l), .int .i64 i, .fn 85 [] []] fun r => r = [.int .i64 (span isInner (l.drop i))] := by
  refine spanI.calls (K := fun r => r = [.int .i64 (span isInner (l.drop i))]) ?_
  unfold spanI.W
  have hb : big = 1099511627776 := rfl
  refine ⟨fun us => ∃ j : Nat, i ≤ j ∧ j ≤ l.length ∧ us = [.int .i64 j] ∧ span isInner (l.drop i) = (j - i) + span isInner (l.drop j), fun us => match us with | .int _ j :: _ => l.length - j.toNat | _ => 0, ⟨i, Nat.le_refl _, hi, rfl, by omega⟩, ?_⟩
  rintro n ⟨j, h1, h2, e, h3⟩
  cases e
  have fin : span isInner (l.drop j) = 0 → [V.int .i64 (IntKind.i64.wrap ((j : Int) - (i : Int)))] = [.int .i64 (span isInner (l.drop i))] := fun h => by
    rw [w64 (by omega) (by omega), h3, h]; congr 2; omega
  rw [bs_size]
  refine ifD (fun hlt => ?_) (fun hge => fin (span_end (by omega)))
  obtain ⟨c, hc, hg⟩ := get_lt (l := l) (i := j) (by omega)
  refine ⟨by omega, c, hg, (inner_spec c).mono fun r hr => ⟨_, hr, ifB (fun h => ?_) (fun h => fin (by rw [span_drop hc, h]; rfl))⟩⟩
  rw [span_drop hc, if_pos h] at h3
  rw [wadd1 (by omega)]
  exact ⟨⟨j + 1, by omega, by omega, rfl, by omega⟩, by simp only [Int.toNat_natCast]; omega⟩

theorem skip_spec (l : List UInt8) (hl : l.length ≤ big) (i : Nat) (hi : i ≤ l.length) : PCalls ax 70 [.str (bs l), .int .i64 i] fun r => r = [.int .i64 ((i + skipC false (l.drop i) : Nat) : Int)] := by
  refine skip.calls (K := fun r => r = [.int .i64 ((i + skipC false (l.drop i) : Nat) : Int)]) ?_
  unfold skip.W
  have hb : big = 1099511627776 := rfl
  refine ⟨fun us => ∃ j : Nat, i ≤ j ∧ j ≤ l.length ∧ us = [.int .i64 j] ∧ i + skipC false (l.drop i) = j + skipC false (l.drop j), fun us => match us with | .int _ j :: _ => 2 * (l.length - j.toNat) + (if l[j.toNat]? = some 37 then 1 else 0) | _ => 0, ⟨i, Nat.le_refl _, hi, rfl, rfl⟩, ?_⟩
  rintro n ⟨j, h1, h2, e, h3⟩
  cases e
  rw [bs_size, h3]
  refine ifD (fun hlt => ?_) (fun hge => by rw [skipC_end (by omega)]; rfl)
  obtain ⟨c, hc, hg⟩ := get_lt (l := l) (i := j) (by omega)
  have hat := skipC_at hc false
  simp only at hat
  refine ⟨by omega, c, hg, fun us => us = [.bool (isBlank c)], ?_, ?_⟩
  · have he : ∀ k : Nat, (((c.toNat : Int) == (k : Int)) = decide (c.toNat = k)) := fun k => by rw [Bool.eq_iff_iff]; simp; omega
    refine ifE (fun h => ?_) (fun h => ifE (fun h2 => ?_) (fun h2 => ifE (fun h3 => ?_) (fun h3 => ?_)))
    · have : c.toNat = 9 := by omega
      simp [isBlank, this]
    · have : c.toNat = 10 := by omega
      simp [isBlank, this]
    · have : c.toNat = 13 := by omega
      simp [isBlank, this]
    · have e1 : ¬ c.toNat = 9 := by omega
      have e2 : ¬ c.toNat = 10 := by omega
      have e3 : ¬ c.toNat = 13 := by omega
      have h32 : ((c.toNat : Int) == 32) = decide (c.toNat = 32) := he 32
      simp [isBlank, e1, e2, e3, h32]
  · rintro b hb'
    cases hb'
    refine ifB (fun hbl => ?_) (fun hnb => ifE (fun h37 => ?_) (fun h37 => ?_))
    · rw [hbl, if_pos rfl] at hat
      rw [wadd1 (by omega)]
      refine ⟨⟨j + 1, by omega, by omega, rfl, by omega⟩, ?_⟩
      simp only [Int.toNat_natCast]
      split <;> split <;> omega
    · have hc37 : c.toNat = 37 := by omega
      rw [hnb, if_neg (by simp), if_pos hc37] at hat
      have hceq : c = 37 := UInt8.toNat_inj.1 (by simpa using hc37)
      subst hceq
      have hx : (bs l).extract ((j : Int)).toNat l.length = bs (l.drop j) := by
        rw [Int.toNat_natCast, bs_extract]; congr 1
        exact List.take_of_length_le (by rw [List.length_drop]; omega)
      rw [hx]
      have hcm := skipC_comment (l.drop (j + 1))
      have hidx : Lib.indexByte (l.drop j) 10 = if Lib.indexByte (l.drop (j + 1)) 10 < 0 then -1 else Lib.indexByte (l.drop (j + 1)) 10 + 1 := by
        rw [List.drop_eq_getElem_cons (by omega : j < l.length)]
        have e0 : l[j] = 37 := Option.some.inj ((List.getElem?_eq_getElem (by omega)).symm.trans hc)
        rw [e0]
        have hge := Lib.indexByte_ge (l.drop (j + 1)) 10
        show (if (37 : UInt8) == 10 then (0 : Int) else if Lib.indexByte (l.drop (j + 1)) 10 == -1 then -1 else Lib.indexByte (l.drop (j + 1)) 10 + 1) = _
        rw [if_neg (by decide)]
        by_cases h : Lib.indexByte (l.drop (j + 1)) 10 = -1
        · rw [h]; rfl
        · rw [if_neg (by simpa using h), if_neg (by omega)]
      refine ⟨by omega, by omega, (IndexByte_spec (l.drop j) 10).mono fun r hr => ⟨_, hr, ifD (fun hneg => ?_) (fun hpos => ?_)⟩⟩
      · rw [hidx] at hneg
        have hno : Lib.indexByte (l.drop (j + 1)) 10 < 0 := by
          rcases Int.lt_or_le (Lib.indexByte (l.drop (j + 1)) 10) 0 with h | h
          · exact h
          · rw [if_neg (by omega)] at hneg; omega
        rw [if_pos hno, List.length_drop] at hcm
        rw [hat, hcm]
        congr 2; omega
      · rw [hidx] at hpos ⊢
        have hyes : ¬ Lib.indexByte (l.drop (j + 1)) 10 < 0 := fun h => by rw [if_pos h] at hpos; omega
        rw [if_neg hyes] at hpos ⊢ hcm
        obtain ⟨k, hk⟩ : ∃ k : Nat, Lib.indexByte (l.drop (j + 1)) 10 = k := ⟨_, (Int.toNat_of_nonneg (by omega)).symm⟩
        rw [hk] at hcm ⊢
        have hklt := indexByte_lt hk
        rw [List.length_drop] at hklt
        have e1 : IntKind.i64.wrap ((j : Int) + ((k : Int) + 1)) = ((j + (k + 1) : Nat) : Int) := by rw [w64 (by omega) (by omega)]; push_cast; rfl
        rw [e1]
        simp only [Int.toNat_natCast] at hcm ⊢
        rw [List.drop_drop] at hcm
        have e2 : j + 1 + k = j + (k + 1) := by omega
        rw [e2] at hcm
        refine ⟨⟨j + (k + 1), by omega, by omega, rfl, by omega⟩, ?_⟩
        have hc' : l[j]? = some 37 := hc
        rw [if_pos hc']
        split <;> omega
    · have hc37 : ¬ c.toNat = 37 := by omega
      rw [hnb, if_neg (by simp), if_neg hc37] at hat
      rw [hat]; rfl
end Go.Proofs.YtgjifgjjcaohoaaGreatDoor.Va
end

/- part Z1R -/
section
namespace Go.Proofs.YtgjifgjjcaohoaaGreatDoor.Va
open Go.Vx Go.Av Go.Lx Go.RowKit

/-- the token's variable is written and read -/
theorem put3 {w w8 : World} {B : Nat} {cs : Array Value} (hb : w8.heap[B]? = some (.cells cs 94 (0, 0))) (hcs : cs.size = 3) (hB : w.heap.size ≤ B) (hbel : Below w.heap.size w w8) (k : Int) (t : ByteArray) (n : Int) (b : Bool) {R : Value → World → Prop}
    (h : ∀ w13, Below w.heap.size w w13 → R (.tuple #[(.agg #[.int .i64 k, .string t, .int .i64 n]), .bool b]) w13) :
    canSt w8 B 0 [(.int .i64 k), (.string t), (.int .i64 n)] ∧ withW (setL w8 B 0 [(.int .i64 k), (.string t), (.int .i64 n)]) fun w13 => (∃ (n14 : Int) (s15 : ByteArray) (n16 : Int), cellsAt w13 B 0 [(.int .i64 n14), (.string s15), (.int .i64 n16)] ∧ (R (.tuple #[(.agg #[(.int .i64 n14), (.string s15), (.int .i64 n16)]), (.bool b)]) w13)) := by
  refine ⟨canSt_of_block hb _ _ (by simp [hcs]) rfl, ?_⟩
  obtain ⟨h1, _⟩ := setL_block [(.int .i64 k), (.string t), (.int .i64 n)] 0 w8 cs hb
  refine ⟨k, t, n, cellsAt_of_block h1 _ _ ?_, h _ (hbel.trans (below_setL _ _ hb hB))⟩
  have := setAt_all [(.int .i64 k), (.string t), (.int .i64 n)] [] cs.toList (by simp [hcs])
  simp only [List.nil_append, List.length_nil] at this
  rw [this]; rfl

/-- a token and whether it is one, as the model has them -/
def tokV (p : Tok × Bool) : Value := .tuple #[.agg #[.int .i64 p.1.k, .string (bs p.1.t), .int .i64 p.1.n], .bool p.2]

set_option maxHeartbeats 1000000 in
/-- a numeral's end in number -/
theorem number_tail (l : List UInt8) (hl : l.length ≤ big) (i m : Nat) (him : i + m ≤ l.length) (hm : m = numSpan (l.drop i)) {G : Nat → Value} {F : Nat → Nat → Prop} {β : Nat → Value} {w w3 w5 : World} (hE : ErrOk ax.P ax.gs ax.ift ax.tabs G) (hw3 : w3 = w.alloc (.cells #[.int .i64 0, .string (⟨#[]⟩ : ByteArray), .int .i64 0] 94)) (hS : Sim ax.gs G w5 F β (mkS [])) (h35 : Below w3.heap.size w3 w5) :
    let R : Value → World → Prop := fun v w' => v = tokV (numL (l.drop i)) ∧ Below w.heap.size w w'
    (0 ≤ (i : Int) ∧ (i : Int) ≤ ((i + m : Nat) : Int) ∧ ((i + m : Nat) : Int) ≤ ((bs l).size : Int) ∧ (Calls Tryz.prog 100 #[(.string ((bs l).extract ((i : Int) : Int).toNat (((i + m : Nat) : Int) : Int).toNat))] w5 fun e9 w8 => ∃ (n10 : Int) (v11 : Value), e9 = .returned (.tuple #[(.int .i64 n10), v11]) ∧ (∃ r12, IsNil v11 r12 ∧ (bif (!r12) then (canSt w8 w.heap.size 0 [(.int .i64 0), (.string (⟨#[]⟩ : ByteArray)), (.int .i64 0)] ∧ withW (setL w8 w.heap.size 0 [(.int .i64 0), (.string (⟨#[]⟩ : ByteArray)), (.int .i64 0)]) fun w13 =>
 (∃ (n14 : Int) (s15 : ByteArray) (n16 : Int), cellsAt w13 w.heap.size 0 [(.int .i64 n14), (.string s15), (.int .i64 n16)] ∧ (R (.tuple #[(.agg #[(.int .i64 n14), (.string s15), (.int .i64 n16)]), (.bool false)]) w13))) else (Calls Tryz.prog 38 #[(.int .i64 n10)] w8 fun e18 w17 => ∃ (s19 : ByteArray), e18 = .returned (.string s19) ∧ (bif (!(s19.toList == ((bs l).extract ((i : Int) : Int).toNat (((i + m : Nat) : Int) : Int).toNat).toList)) then
 (canSt w17 w.heap.size 0 [(.int .i64 0), (.string (⟨#[]⟩ : ByteArray)), (.int .i64 0)] ∧ withW (setL w17 w.heap.size 0 [(.int .i64 0), (.string (⟨#[]⟩ : ByteArray)), (.int .i64 0)]) fun w20 =>
 (∃ (n21 : Int) (s22 : ByteArray) (n23 : Int), cellsAt w20 w.heap.size 0 [(.int .i64 n21), (.string s22), (.int .i64 n23)] ∧ (R (.tuple #[(.agg #[(.int .i64 n21), (.string s22), (.int .i64 n23)]), (.bool false)]) w20)))
 else
 (bif (decide (((i + m : Nat) : Int) < ((bs l).size : Int))) then (0 ≤ ((i + m : Nat) : Int) ∧ ∃ u24 : UInt8, (bs l)[(((i + m : Nat) : Int) : Int).toNat]? = some u24 ∧ (Calls Tryz.prog 85 #[(.int .u8 (u24.toNat : Int))] w17 fun e26 w25 => ∃ (b27 : Bool), e26 = .returned (.bool b27) ∧ (bif b27 then
 (canSt w25 w.heap.size 0 [(.int .i64 0), (.string (⟨#[]⟩ : ByteArray)), (.int .i64 0)] ∧ withW (setL w25 w.heap.size 0 [(.int .i64 0), (.string (⟨#[]⟩ : ByteArray)), (.int .i64 0)]) fun w28 =>
 (∃ (n29 : Int) (s30 : ByteArray) (n31 : Int), cellsAt w28 w.heap.size 0 [(.int .i64 n29), (.string s30), (.int .i64 n31)] ∧ (R (.tuple #[(.agg #[(.int .i64 n29), (.string s30), (.int .i64 n31)]), (.bool false)]) w28)))
 else
 (canSt w25 w.heap.size 0 [(.int .i64 3), (.string ((bs l).extract ((i : Int) : Int).toNat (((i + m : Nat) : Int) : Int).toNat)), (.int .i64 n10)] ∧ withW (setL w25 w.heap.size 0 [(.int .i64 3), (.string ((bs l).extract ((i : Int) : Int).toNat (((i + m : Nat) : Int) : Int).toNat)), (.int .i64 n10)]) fun w32 =>
 (∃ (n33 : Int) (s34 : ByteArray) (n35 : Int), cellsAt w32 w.heap.size 0 [(.int .i64 n33), (.string s34), (.int .i64 n35)] ∧ (R (.tuple #[(.agg #[(.int .i64 n33), (.string s34), (.int .i64 n35)]), (.bool true)]) w32)))))) else (canSt w17 w.heap.size 0 [(.int .i64 3), (.string ((bs l).extract ((i : Int) : Int).toNat (((i + m : Nat) : Int) : Int).toNat)), (.int .i64 n10)] ∧ withW (setL w17 w.heap.size 0 [(.int .i64 3), (.string ((bs l).extract ((i : Int) : Int).toNat (((i + m : Nat) : Int) : Int).toNat)), (.int .i64 n10)]) fun w36 =>
 (∃ (n37 : Int) (s38 : ByteArray) (n39 : Int), cellsAt w36 w.heap.size 0 [(.int .i64 n37), (.string s38), (.int .i64 n39)] ∧ (R (.tuple #[(.agg #[(.int .i64 n37), (.string s38), (.int .i64 n39)]), (.bool true)]) w36)))))))))) := by
  intro R
  have hb : big = 1099511627776 := rfl
  have hx : (bs l).extract ((i : Int)).toNat (((i + m : Nat) : Int)).toNat = bs ((l.drop i).take m) := by
    rw [Int.toNat_natCast, Int.toNat_natCast, bs_extract]; congr 2; omega
  rw [hx, bs_size]
  have hT : ((l.drop i).take m).length = m := by rw [List.length_take, List.length_drop]; omega
  have hN : numL (l.drop i) = match canon ((l.drop i).take m) with
      | none => (zeroT, false)
      | some v => match (l.drop i)[m]? with
        | none => (⟨3, (l.drop i).take m, v⟩, true)
        | some c => if isInner c then (zeroT, false) else (⟨3, (l.drop i).take m, v⟩, true) := by rw [hm]; rfl
  have b3 : Below w.heap.size w w3 := by rw [hw3]; exact (Below.refl _ w).alloc (Nat.le_refl _) _
  have c3 : w3.heap[w.heap.size]? = some (.cells #[.int .i64 0, .string (⟨#[]⟩ : ByteArray), .int .i64 0] 94 (0, 0)) := by rw [hw3]; show (w.heap.push _)[w.heap.size]? = _; simp
  have lt3 : w.heap.size < w3.heap.size := by
    rcases Nat.lt_or_ge w.heap.size w3.heap.size with h | h
    · exact h
    · rw [Array.getElem?_eq_none h] at c3; cases c3
  have blk : ∀ w', Below w3.heap.size w3 w' → w'.heap[w.heap.size]? = some (.cells #[.int .i64 0, .string (⟨#[]⟩ : ByteArray), .int .i64 0] 94 (0, 0)) := fun w' h => (h.block _ lt3).trans c3
  have tot : ∀ w', Below w3.heap.size w3 w' → Below w.heap.size w w' := fun w' h => b3.trans (h.mono b3.size)
  have ch : ∀ w8, Below w5.heap.size w5 w8 → Below w3.heap.size w3 w8 := fun w8 h => h35.trans (h.mono h35.size)
  have badR : canon ((l.drop i).take m) = none → ∀ w', Below w.heap.size w w' → R (.tuple #[(.agg #[.int .i64 0, .string (⟨#[]⟩ : ByteArray), .int .i64 0]), .bool false]) w' := fun h w' hb' => ⟨by rw [hN, h]; rfl, hb'⟩
  have hnone : ∀ x, (∀ v, x ≠ Lib.NumEnd.ok v) → Lib.atoiAll ((l.drop i).take m) = x → canon ((l.drop i).take m) = none := fun x hx h => by
    unfold canon; rw [h]
    cases x with
    | ok v => exact absurd rfl (hx v)
    | _ => rfl
  refine ⟨by omega, by omega, by omega, ?_⟩
  cases ha : Lib.atoiAll ((l.drop i).take m) with
  | ok v =>
    obtain ⟨r1, r2⟩ := atoi_range ha
    refine (Tryz.strconv_Atoi_ok (bs ((l.drop i).take m)) (by rw [bs_size]; omega) v (by rw [bs_data]; exact ha) w5).mono ?_
    rintro e8 w8 ⟨rfl, hw8⟩
    have h58 : Below w5.heap.size w5 w8 := by
      rcases hw8 with rfl | ⟨t, rfl⟩
      · exact Below.refl _ _
      · exact Lib.bytesWorld_below _ _ _
    obtain ⟨S8, _⟩ := hS.below h58
    obtain ⟨g1, ⟨tt, pp, g2⟩, g3⟩ := S8.tab 16 _ (hE.tab (16, (Lib.pow10Tab.map fun z => Value.int .u64 z).toArray) (by simp))
    have htab : Lib.TabIs Tryz.prog w8 "internal/strconv.uint64pow10" .u64 Lib.pow10Tab := by
      unfold Lib.TabIs World.var?
      rw [show Tryz.prog.globalNamed "internal/strconv.uint64pow10" = some 16 by kernel_rfl]
      simp only [Option.bind_some, g2]
    refine ⟨v, .nilIface, rfl, true, .inl ⟨rfl, rfl⟩, ?_⟩
    show Calls Tryz.prog 38 _ _ _
    refine (Tryz.strconv_Itoa v r1 r2 w8 htab).mono ?_
    rintro e9 w17 ⟨rfl, k, os, rfl⟩
    have h817 : Below w8.heap.size w8 (Sort.grow (w8.drewN k) os) := Lib.below_grow _ _ (Nat.le_refl _) _ _
    generalize Sort.grow (w8.drewN k) os = w17 at *
    have h17 := ch w17 (h58.trans (h817.mono h58.size))
    obtain ⟨S17, _⟩ := S8.below h817
    refine ⟨bs (Lib.itoa v), rfl, ?_⟩
    rw [strEq_list]
    refine ifN (fun hne => ?_) (fun heq => ?_)
    · have hc : canon ((l.drop i).take m) = none := by
        unfold canon; rw [ha]
        have : Lib.itoa v ≠ (l.drop i).take m := fun h => by rw [h] at hne; simp [strEq] at hne
        simp [this]
      exact put3 (blk _ h17) rfl (Nat.le_refl _) (tot _ h17) 0 _ 0 false (badR hc)
    · have hit : Lib.itoa v = (l.drop i).take m := bs_inj (by simpa [strEq] using heq)
      have hc : canon ((l.drop i).take m) = some v := by unfold canon; rw [ha]; simp [hit]
      rw [hc] at hN
      simp only at hN
      refine ifD (fun hlt => ?_) (fun hge => ?_)
      · obtain ⟨c, hcc, hg⟩ := get_lt (l := l) (i := i + m) (by omega)
        have hd : (l.drop i)[m]? = some c := by rw [List.getElem?_drop]; exact hcc
        rw [hd] at hN
        simp only at hN
        refine ⟨by omega, c, hg, ?_⟩
        refine ((inner_spec c).run (G := G) (F := F) (β := β) (w := w17) (vals := [.int .u8 (c.toNat : Int)]) hE S17 (.cons (.mk_int _ _) .nil)).mono ?_
        rintro e10 w25 ⟨rs, rvals, F', β', rfl, rfl, rr, S25, b25⟩
        obtain ⟨x, xs, rfl, x1, x2⟩ := rr.cons_inv
        obtain rfl := x2.nil_inv
        have h25 := ch w25 ((h58.trans (h817.mono h58.size)).trans (b25.mono (Nat.le_trans h58.size h817.size)))
        rw [x1.bool_inv]
        refine ⟨isInner c, rfl, ifB (fun hi => ?_) (fun hi => ?_)⟩
        · rw [hi, if_pos rfl] at hN
          exact put3 (blk _ h25) rfl (Nat.le_refl _) (tot _ h25) 0 _ 0 false fun w' hb' => ⟨by rw [hN]; rfl, hb'⟩
        · rw [hi, if_neg (by simp)] at hN
          exact put3 (blk _ h25) rfl (Nat.le_refl _) (tot _ h25) 3 _ v true fun w' hb' => ⟨by rw [hN]; rfl, hb'⟩
      · have hd : (l.drop i)[m]? = none := List.getElem?_eq_none (by rw [List.length_drop]; omega)
        rw [hd] at hN
        exact put3 (blk _ h17) rfl (Nat.le_refl _) (tot _ h17) 3 _ v true fun w' hb' => ⟨by rw [hN]; rfl, hb'⟩
  | range =>
    obtain ⟨g1, _, _, t, b, g4, _⟩ := hS.glob 21 (by simp)
    refine (Tryz.strconv_Atoi_range (bs ((l.drop i).take m)) (by rw [bs_size]; omega) (by rw [bs_data]; exact ha) _ w5 g1 (.inr ⟨t, _, g4⟩)).mono ?_
    rintro e8 w8 ⟨N, rfl, _, _, h58⟩
    refine ⟨_, _, rfl, false, .inr ⟨_, _, rfl, rfl⟩, ?_⟩
    have h8 := ch w8 h58
    exact put3 (blk _ h8) rfl (Nat.le_refl _) (tot _ h8) 0 _ 0 false (badR (hnone _ (fun v h => by cases h) ha))
  | _ =>
    obtain ⟨g1, _, _, t, b, g4, _⟩ := hS.glob 20 (by simp)
    refine (Tryz.strconv_Atoi_syntax (bs ((l.drop i).take m)) (by rw [bs_size]; omega) (by rw [bs_data]; exact ha) _ w5 g1 (.inr ⟨t, _, g4⟩)).mono ?_
    rintro e8 w8 ⟨N, rfl, _, _, h58⟩
    refine ⟨0, _, rfl, false, .inr ⟨_, _, rfl, rfl⟩, ?_⟩
    have h8 := ch w8 h58
    exact put3 (blk _ h8) rfl (Nat.le_refl _) (tot _ h8) 0 _ 0 false (badR (hnone _ (fun v h => by cases h) ha))
end Go.Proofs.YtgjifgjjcaohoaaGreatDoor.Va
namespace Go.Proofs.YtgjifgjjcaohoaaGreatDoor.Va
open Go.Vx Go.Av Go.Lx Go.RowKit
theorem number_spec (l : List UInt8) (hl : l.length ≤ big) (i : Nat) (hi : i < l.length) : PCalls ax 87 [.str (bs l), .int .i64 i] fun r => r = [.agg (encT (numL (l.drop i)).1), .bool (numL (l.drop i)).2] := by
  refine pcalls_below fun G w F β vals hE hS hr => ?_
  obtain ⟨v0, r0, rfl, h0, hr⟩ := hr.cons_inv
  obtain ⟨v1, r1, rfl, h1, hr⟩ := hr.cons_inv
  obtain rfl := hr.nil_inv
  rw [h0.str_inv, h1.int_inv]
  have hb : big = 1099511627776 := rfl
  obtain ⟨c, hc, hg⟩ := get_lt (l := l) (i := i) hi
  have hd : l.drop i = c :: l.drop (i + 1) := by
    rw [List.drop_eq_getElem_cons hi]; congr 1
    exact Option.some.inj ((List.getElem?_eq_getElem hi).symm.trans hc)
  have b3 : Below w.heap.size w (w.alloc (.cells #[.int .i64 0, .string (⟨#[]⟩ : ByteArray), .int .i64 0] 94)) := (Below.refl _ w).alloc (Nat.le_refl _) _
  obtain ⟨S3, _⟩ := hS.below b3
  refine (Vf.number.calls (R := fun v w' => v = tokV (numL (l.drop i)) ∧ Below w.heap.size w w') ?_).mono ?_
  · unfold Vf.number.W
    refine ⟨by omega, c, hg, ifE (fun h => ?_) (fun h => ?_)⟩
    · have hc45 : c.toNat = 45 := by omega
      have hn : numSpan (l.drop i) = 1 + span isDigit (l.drop (i + 1)) := by rw [hd]; simp only [numSpan]; rw [if_pos hc45]
      have hle := span_le isDigit (l.drop (i + 1))
      rw [List.length_drop] at hle
      rw [wadd1 (by omega)]
      refine ((spanD_spec l hl (i + 1) (by omega)).run (G := G) (F := F) (β := β) (vals := [.string (bs l), .int .i64 ((i + 1 : Nat) : Int), .func (.func 86) #[] #[]]) hE S3 (.cons (.fz _ _ (.str _)) (.cons (.mk_int _ _) (.cons (.fn 86 [] [] [] [] rfl (fun i u v h => by simp at h) rfl (fun i u v h => by simp at h)) .nil)))).mono ?_
      rintro e5 w5 ⟨rs, rvals, F', β', rfl, rfl, rr, S5, b5⟩
      obtain ⟨x, xs, rfl, x1, x2⟩ := rr.cons_inv
      obtain rfl := x2.nil_inv
      rw [x1.int_inv]
      refine ⟨_, rfl, ?_⟩
      have e1 : IntKind.i64.wrap ((i : Int) + IntKind.i64.wrap (1 + (span isDigit (l.drop (i + 1)) : Int))) = ((i + (1 + span isDigit (l.drop (i + 1))) : Nat) : Int) := by
        rw [w64 (x := 1 + (span isDigit (l.drop (i + 1)) : Int)) (by omega) (by omega), w64 (by omega) (by omega)]; push_cast; rfl
      rw [e1]
      exact number_tail l hl i _ (by omega) hn.symm hE rfl S5 b5
    · have hc45 : ¬ c.toNat = 45 := by omega
      have hn : numSpan (l.drop i) = span isDigit (l.drop i) := by rw [hd]; simp only [numSpan]; rw [if_neg hc45]
      have hle := span_le isDigit (l.drop i)
      rw [List.length_drop] at hle
      have e0 : IntKind.i64.wrap ((i : Int) + 0) = ((i : Nat) : Int) := by rw [w64 (by omega) (by omega)]; omega
      rw [e0]
      refine ((spanD_spec l hl i (by omega)).run (G := G) (F := F) (β := β) (vals := [.string (bs l), .int .i64 ((i : Nat) : Int), .func (.func 86) #[] #[]]) hE S3 (.cons (.fz _ _ (.str _)) (.cons (.mk_int _ _) (.cons (.fn 86 [] [] [] [] rfl (fun i u v h => by simp at h) rfl (fun i u v h => by simp at h)) .nil)))).mono ?_
      rintro e5 w5 ⟨rs, rvals, F', β', rfl, rfl, rr, S5, b5⟩
      obtain ⟨x, xs, rfl, x1, x2⟩ := rr.cons_inv
      obtain rfl := x2.nil_inv
      rw [x1.int_inv]
      refine ⟨_, rfl, ?_⟩
      have e1 : IntKind.i64.wrap ((i : Int) + IntKind.i64.wrap (0 + (span isDigit (l.drop i) : Int))) = ((i + span isDigit (l.drop i) : Nat) : Int) := by
        rw [w64 (x := 0 + (span isDigit (l.drop i) : Int)) (by omega) (by omega), w64 (by omega) (by omega)]; push_cast; omega
      rw [e1]
      exact number_tail l hl i _ (by omega) hn.symm hE rfl S5 b5
  · rintro e w' ⟨v, rfl, rfl, hbel⟩
    exact ⟨_, [.agg #[.int .i64 (numL (l.drop i)).1.k, .string (bs (numL (l.drop i)).1.t), .int .i64 (numL (l.drop i)).1.n], .bool (numL (l.drop i)).2], rfl, rfl, .cons (RV.mk_agg (.cons (.mk_int _ _) (.cons (.mk_str _) (.cons (.mk_int _ _) .nil)))) (.cons (.mk_bool _) .nil), hbel⟩
end Go.Proofs.YtgjifgjjcaohoaaGreatDoor.Va
end

/- part Z1U -/
section
namespace Go.Proofs.YtgjifgjjcaohoaaGreatDoor.Va
open Go.Vx Go.Av Go.Lx Go.RowKit

theorem ext_take (l : List UInt8) (a n : Nat) : (bs l).extract ((a : Int)).toNat (((a + n : Nat) : Int)).toNat = bs ((l.drop a).take n) := by
  rw [Int.toNat_natCast, Int.toNat_natCast, bs_extract]; congr 2; omega
theorem indexByte_mem {c : UInt8} : ∀ l : List UInt8, (0 ≤ Lib.indexByte l c ↔ c ∈ l)
  | [] => by simp [Lib.indexByte]
  | b :: l => by
    have ih := indexByte_mem (c := c) l
    have hge := Lib.indexByte_ge l c
    simp only [Lib.indexByte, List.mem_cons]
    by_cases hb : b = c
    · subst hb; simp
    · have h1 : (b == c) = false := by simpa using hb
      have h2 : ¬ c = b := fun h => hb h.symm
      simp only [h1, h2, Bool.false_eq_true, if_false, false_or]
      rw [← ih]
      by_cases h3 : Lib.indexByte l c = -1
      · rw [h3]; simp
      · rw [if_neg (by simpa using h3)]; omega
theorem two_prefix (c : UInt8) (r : List UInt8) : Lib.hasPrefix (c :: r) [58, 45] = decide (c.toNat = 58 ∧ r.head?.map (·.toNat) = some 45) := by
  unfold Lib.hasPrefix
  have e1 : (58 : UInt8) = c ↔ c.toNat = 58 := ⟨fun h => by rw [← h]; rfl, fun h => (UInt8.toNat_inj.1 (by simpa using h)).symm⟩
  cases r with
  | nil => simp [List.isPrefixOf]
  | cons d r =>
    have e2 : (45 : UInt8) = d ↔ d.toNat = 45 := ⟨fun h => by rw [← h]; rfl, fun h => (UInt8.toNat_inj.1 (by simpa using h)).symm⟩
    rw [Bool.eq_iff_iff]
    simp [List.isPrefixOf, e1, e2]

theorem token_spec (l : List UInt8) (hl : l.length ≤ big) (i : Nat) (hi : i < l.length) : PCalls ax 71 [.str (bs l), .int .i64 i] fun r => r = [.agg (encT (tokL (l.drop i)).1), .bool (tokL (l.drop i)).2] := by
  have hb : big = 1099511627776 := rfl
  obtain ⟨c, hc, hg⟩ := get_lt (l := l) (i := i) hi
  have hd : l.drop i = c :: l.drop (i + 1) := by
    rw [List.drop_eq_getElem_cons hi]; congr 1
    exact Option.some.inj ((List.getElem?_eq_getElem hi).symm.trans hc)
  have hsp := span_le isInner (l.drop i)
  rw [List.length_drop] at hsp
  have hspI := spanI_spec l hl i (by omega)
  have hnum := number_spec l hl i hi
  have hx : (bs l).extract ((i : Int)).toNat l.length = bs (l.drop i) := by
    rw [Int.toNat_natCast, bs_extract]; congr 1
    exact List.take_of_length_le (by rw [List.length_drop]; omega)
  have hx1 : (bs l).extract ((i : Int)).toNat (((i + 1 : Nat) : Int)).toNat = bs [c] := by rw [ext_take, hd]; rfl
  rw [hd] at hsp hspI hnum hx ⊢
  refine token.calls (K := fun r => r = [.agg (encT (tokL (c :: l.drop (i + 1))).1), .bool (tokL (c :: l.drop (i + 1))).2]) ?_
  unfold token.W
  refine ⟨by omega, c, hg, fun us => us = [.bool (isLetter c)], ?_, ?_⟩
  · exact (small_spec c).mono fun r hr => ⟨_, hr, ifB (fun h => by simp [isLetter, h]) (fun h => (great_spec c).mono fun r hr => ⟨_, hr, by simp [isLetter, h]⟩)⟩
  rintro b hb'
  cases hb'
  rw [bs_size]
  refine ifB (fun hlt => ?_) (fun hlf => ?_)
  · rw [tokL_letter hlt]
    refine hspI.mono fun r hr => ⟨_, hr, ?_⟩
    rw [wadd (by omega), ext_take, hd, bs_size, List.length_take]
    have hmin : min (span isInner (c :: l.drop (i + 1))) (c :: l.drop (i + 1)).length = span isInner (c :: l.drop (i + 1)) := Nat.min_eq_left (by rw [List.length_cons, List.length_drop]; omega)
    rw [hmin]
    have hdec : decide (((span isInner (c :: l.drop (i + 1)) : Nat) : Int) ≤ 32) = decide (span isInner (c :: l.drop (i + 1)) ≤ 32) := by rw [Bool.eq_iff_iff]; simp; omega
    rw [hdec]
    refine ⟨by omega, by omega, by omega, (great_spec c).mono fun r hr => ⟨_, hr, ifB (fun h => ?_) (fun h => ?_)⟩⟩
    · simp [encT, h]
    · simp [encT, h]
  refine ⟨fun us => us = [.bool (isDigit c || decide (c.toNat = 45))], ?_, ?_⟩
  · have h45 : ((c.toNat : Int) == 45) = decide (c.toNat = 45) := by rw [Bool.eq_iff_iff]; simp; omega
    exact (digit_spec c).mono fun r hr => ⟨_, hr, ifB (fun h => by simp [h]) (fun h => by rw [h45]; simp [h])⟩
  rintro b hb'
  cases hb'
  refine ifB (fun hdt => ?_) (fun hdf => ?_)
  · rw [tokL_num hlf hdt]
    exact hnum.mono fun r hr => ⟨_, _, _, _, hr, rfl⟩
  rw [hx]
  refine ⟨by omega, by omega, (HasPrefix_spec (c :: l.drop (i + 1)) [58, 45]).mono fun r hr => ⟨decide (c.toNat = 58 ∧ (l.drop (i + 1)).head?.map (·.toNat) = some 45), by rw [hr, two_prefix], ifD (fun h2 => ?_) (fun h2 => ?_)⟩⟩
  · rw [tokL_two hlf hdf h2]; rfl
  · refine (IndexByte_spec marksL c).mono fun r hr => ⟨_, hr, ?_⟩
    refine ifD (fun h => ?_) (fun h => ?_)
    · rw [tokL_mark hlf hdf h2 ((indexByte_mem marksL).1 h), wadd1 (by omega), hx1]
      exact ⟨by omega, by omega, by omega, rfl⟩
    · rw [tokL_none hlf hdf h2 (fun hm => h ((indexByte_mem marksL).2 hm))]; rfl

theorem encTs_snoc (a : List Tok) (t : Tok) : encTs a ++ [[.int .i64 t.k, .str (bs t.t), .int .i64 t.n]] = encTs (a ++ [t]) := by simp [encTs, encT]
theorem yield_spec (a : List Tok) (h : a.length ≤ big) (p : Int) (t : Tok) : SCalls ax 57 [.int .i64 p, .agg (encT t), .ptr 0 0] [.box [.own 1], .lst 94 3 false (encTs a)] fun r o => r = [.bool true] ∧ o = [.box [.own 2], .dead, .lst 94 3 false (encTs (a ++ [t]))] := by
  have hb : big = 1099511627776 := rfl
  refine yield.calls (K := fun r o => r = [.bool true] ∧ o = [.box [.own 2], .dead, .lst 94 3 false (encTs (a ++ [t]))]) ?_
  unfold yield.W
  rw [encTs_snoc, encTs_length]
  exact ⟨by simp only [List.length_cons, List.length_nil]; omega, by simp only [List.length_cons, List.length_nil]; omega, rfl, rfl⟩

theorem each_spec (l : List UInt8) (hl : l.length ≤ big) : SCalls ax 56 [.str (bs l), .fn 57 [] [.ptr 0 0]] [.box [.nls]] fun r o => r = [.bool (allL l).2] ∧ o = [.box [.own 1], .lst 94 3 false (encTs (allL l).1)] := by
  have hb : big = 1099511627776 := rfl
  refine each.calls (K := fun r o => r = [.bool (allL l).2] ∧ o = [.box [.own 1], .lst 94 3 false (encTs (allL l).1)]) ?_
  unfold each.W
  have hsk := skipC_le l false
  refine (skip_spec l hl 0 (Nat.zero_le _)).mono fun r hr => ⟨_, hr, ?_⟩
  simp only [List.drop_zero, Nat.zero_add]
  refine ⟨fun us => ∃ (a : Nat) (acc : List Tok), us = [.int .i64 a, .sl 3 (encTs acc)] ∧ a ≤ l.length ∧ acc.length ≤ a ∧ skipC false (l.drop a) = 0 ∧ allL l = (acc ++ (allL (l.drop a)).1, (allL (l.drop a)).2), fun us => match us with | .int _ a :: _ => l.length - a.toNat | _ => 0,
    ⟨skipC false l, [], rfl, hsk, Nat.zero_le _, skipC_skip l false, by rw [allL_drop]; rfl⟩, ?_⟩
  rintro n43 l44 ⟨a, acc, e, ha, hacc, hsk0, hall⟩
  cases e
  rw [bs_size]
  refine ifD (fun hlt => ?_) (fun hge => ?_)
  · obtain ⟨c, hc, hg⟩ := get_lt (l := l) (i := a) (by omega)
    have hd : l.drop a = c :: l.drop (a + 1) := by
      rw [List.drop_eq_getElem_cons (by omega)]; congr 1
      exact Option.some.inj ((List.getElem?_eq_getElem (by omega)).symm.trans hc)
    have hd0 : (l.drop a).drop (skipC false (l.drop a)) = c :: l.drop (a + 1) := by rw [hsk0]; exact hd
    refine (token_spec l hl a (by omega)).mono fun r hr => ⟨_, _, _, _, hr, ?_⟩
    refine ifN (fun hbad => ?_) (fun hok => ?_)
    · rw [hd] at hbad
      rw [hall, allL_bad hd0 hbad]
      simp
    · have htx := tokL_text hok
      have hle := htx.2.1
      rw [List.length_drop] at hle
      rw [hd] at hok
      have hcons := allL_cons hd0 hok
      rw [← hd] at hcons
      rw [List.drop_drop] at hcons
      refine (yield_spec acc (by omega) a (tokL (l.drop a)).1).mono fun r o ⟨hr, ho⟩ => ⟨_, _, hr, ho, ifN (fun h => by cases h) (fun _ => ?_)⟩
      rw [bs_size, wadd (by omega)]
      generalize htl : (tokL (l.drop a)).1.t.length = m at *
      have hsk2 := skipC_le (l.drop (a + m)) false
      rw [List.length_drop] at hsk2
      refine (skip_spec l hl (a + m) (by omega)).mono fun r hr => ⟨_, hr, ?_⟩
      refine ⟨⟨a + m + skipC false (l.drop (a + m)), acc ++ [(tokL (l.drop a)).1], rfl, by omega, by simp; omega, ?_, ?_⟩, by simp only [Int.toNat_natCast]; omega⟩
      · rw [← List.drop_drop]; exact skipC_skip _ false
      · rw [← List.drop_drop, allL_drop, hall, hcons]; simp
  · have hd : l.drop a = [] := List.drop_eq_nil_of_le (by omega)
    rw [hall, hd, allL_nil (by rfl)]
    simp

/-- what Lex comes to: the tokens and the error -/
def lexR (l : List UInt8) : List Tok × Option Nat := if 16384 < l.length then ([], some 0) else if (allL l).2 = true then ((allL l).1, none) else ([], some 2)
theorem Lex_spec (l : List UInt8) : PCalls ax 41 [.str (bs l)] fun r => r = [.sl 3 (encTs (lexR l).1), .err (lexR l).2] := by
  refine Lex.calls (K := fun r => r = [.sl 3 (encTs (lexR l).1), .err (lexR l).2]) ?_
  unfold Lex.W
  rw [bs_size]
  refine ifD (fun h => ?_) (fun h => ?_)
  · have : 16384 < l.length := by omega
    simp [lexR, this, encTs]
  · have h' : ¬ 16384 < l.length := by omega
    refine (each_spec l (by have hb : big = 1099511627776 := rfl; omega)).mono fun r o ⟨hr, ho⟩ => ⟨_, _, hr, ho, ifN (fun h => ?_) (fun h => ?_)⟩
    · simp [lexR, h', h, encTs]
    · simp [lexR, h', h]
end Go.Proofs.YtgjifgjjcaohoaaGreatDoor.Va
end

/- part Z1V -/
section
namespace Go.Lx
/-- the overflow's test of the reference -/
theorem over_iff {n x : Nat} (hx : x ≤ 9) : (-(n : Int) < Int.tdiv (-9223372036854775808 + (x : Int)) 10) ↔ 9223372036854775808 < n * 10 + x := by
  have h : Int.tdiv (-9223372036854775808 + (x : Int)) 10 = -(((9223372036854775808 - x) / 10 : Nat) : Int) := by
    have e : (-9223372036854775808 + (x : Int)) = -((9223372036854775808 - x : Nat) : Int) := by omega
    rw [e, Int.neg_tdiv]
    rfl
  rw [h]
  omega
theorem valD_lt : ∀ (d : List UInt8), (∀ c ∈ d, isDigit c = true) → d.head? ≠ some 48 → d ≠ [] → 10 ^ (d.length - 1) ≤ valD d := by
  intro d
  induction h : d.length generalizing d with
  | zero => intro _ _ hne; exact absurd (List.eq_nil_of_length_eq_zero h) hne
  | succ n ih =>
    intro hd h48 hne
    rcases List.eq_nil_or_concat d with e | ⟨e, c, he⟩
    · exact absurd e hne
    · have he : d = e ++ [c] := by rw [he]; simp
      subst he
      have hl : e.length = n := by simpa using h
      by_cases h0 : e = []
      · subst h0
        have := valD_pos hd (by simp) h48
        simp at hl
        subst hl
        exact this
      · have hhd : (e ++ [c]).head? = e.head? := by cases e with
          | nil => exact absurd rfl h0
          | cons => rfl
        have := ih e hl (fun x hx => hd x (List.mem_append.2 (.inl hx))) (fun h => h48 (hhd.trans h)) h0
        have hn : 1 ≤ n := by rw [← hl]; cases e with
          | nil => exact absurd rfl h0
          | cons => simp
        show 10 ^ (n + 1 - 1) ≤ valF 0 (e ++ [c])
        rw [valF_snoc]
        have hp : 10 ^ (n + 1 - 1) = 10 ^ (n - 1) * 10 := by rw [← Nat.pow_succ]; congr 1; omega
        have : 10 ^ (n - 1) ≤ valF 0 e := this
        omega
theorem valD_take_le {d : List UInt8} (i : Nat) : valD (d.take i) ≤ valD d := by
  conv => rhs; rw [← List.take_append_drop i d, valD, valF_append]
  exact valF_ge _ _
theorem valD_take_succ {d : List UInt8} {i : Nat} {c : UInt8} (h : d[i]? = some c) : valD (d.take (i + 1)) = valD (d.take i) * 10 + (c.toNat - 48) := by
  rw [List.take_add_one, h]
  exact valF_snoc _ _ _
end Go.Lx
namespace Go.Proofs.YtgjifgjjcaohoaaGreatDoor.Va
open Go.Vx Go.Av Go.Lx Go.RowKit

theorem RInt_spec (w : List UInt8) (hl : w.length ≤ big) : PCalls ax 91 [.str (bs w)] fun r => ∃ v, r = [.int .i64 v, .bool (canon w).isSome] ∧ ∀ u, canon w = some u → v = u := by
  have hb : big = 1099511627776 := rfl
  have bad : canon w = none → (∃ v, [V.int .i64 0, .bool false] = [.int .i64 v, .bool (canon w).isSome] ∧ ∀ u, canon w = some u → v = u) := fun h => ⟨0, by rw [h]; rfl, fun u hu => by rw [h] at hu; cases hu⟩
  have bad' : (∀ v, ¬ CanonN w v) → (∃ v, [V.int .i64 0, .bool false] = [.int .i64 v, .bool (canon w).isSome] ∧ ∀ u, canon w = some u → v = u) := fun h => bad (by
    cases hc : canon w with
    | none => rfl
    | some v => exact absurd (canon_iff.1 hc) (h v))
  have good : ∀ v, CanonN w v → (∃ v', [V.int .i64 v, .bool true] = [.int .i64 v', .bool (canon w).isSome] ∧ ∀ u, canon w = some u → v' = u) := fun v h => by
    have := canon_iff.2 h
    exact ⟨v, by rw [this]; rfl, fun u hu => by rw [this] at hu; exact Option.some.inj hu⟩
  refine RInt.calls (K := fun r => ∃ v, r = [.int .i64 v, .bool (canon w).isSome] ∧ ∀ u, canon w = some u → v = u) ?_
  unfold RInt.W
  simp only [bs_size]
  -- the digits
  refine ⟨fun us => ∃ d, us = [.str (bs d)] ∧ ((w.head? = some 45 ∧ w = 45 :: d) ∨ (w.head? ≠ some 45 ∧ w = d)), ?_, ?_⟩
  · refine ifD (fun h => ?_) (fun h => ?_)
    · obtain ⟨c, hc, hg⟩ := get_lt (l := w) (i := 0) (by omega)
      have hw : w = c :: w.drop 1 := by
        cases w with
        | nil => simp at hc
        | cons x r => simp at hc; subst hc; rfl
      refine ⟨by omega, c, hg, ifE (fun h45 => ?_) (fun h45 => ?_)⟩
      · have hce : c = 45 := UInt8.toNat_inj.1 (by show c.toNat = 45; omega)
        have hx : (bs w).extract 1 w.length = bs (w.drop 1) := by
          rw [bs_extract]; congr 1
          exact List.take_of_length_le (by rw [List.length_drop]; omega)
        rw [hx]
        refine ⟨by omega, by omega, w.drop 1, rfl, .inl ⟨?_, ?_⟩⟩
        · rw [hw, hce]; rfl
        · conv => lhs; rw [hw, hce]
      · refine ⟨w, rfl, .inr ⟨?_, rfl⟩⟩
        rw [hw]
        intro h
        simp only [List.head?_cons, Option.some.injEq] at h
        rw [h] at h45; exact h45 rfl
    · have : w = [] := List.eq_nil_of_length_eq_zero (by omega)
      exact ⟨w, rfl, .inr ⟨by rw [this]; simp, rfl⟩⟩
  · rintro s ⟨d, e, hw⟩
    cases e
    simp only [bs_size]
    -- what a canonical numeral asks of the digits
    have asks : ∀ v, CanonN w v → canonD d ∧ valD d ≤ 9223372036854775808 ∧ (w.head? = some 45 → d.head? ≠ some 48 ∧ v = -(valD d : Int)) ∧ (w.head? ≠ some 45 → valD d < 9223372036854775808 ∧ v = (valD d : Int)) := by
      intro v hv
      rcases hv with ⟨r, e1, e2, e3, e4, e5⟩ | ⟨e1, e2, e3, e4⟩
      · rcases hw with ⟨h1, h2⟩ | ⟨h1, h2⟩
        · rw [e1] at h2
          obtain rfl : r = d := by simpa using h2
          exact ⟨e2, e4, fun _ => ⟨e3, e5⟩, fun h => absurd h1 h⟩
        · rw [e1] at h1; exact absurd rfl h1
      · rcases hw with ⟨h1, h2⟩ | ⟨h1, h2⟩
        · exact absurd h1 e1
        · subst h2
          exact ⟨e2, by omega, fun h => absurd h h1, fun _ => ⟨e3, e4⟩⟩
    have hdw : d.length ≤ w.length := by
      rcases hw with ⟨_, h2⟩ | ⟨_, h2⟩ <;> rw [h2] <;> simp
    refine ⟨fun _ => d ≠ [] ∧ d.length ≤ 19 ∧ (d.head? = some 48 → w.length ≤ 1), ?_, ?_⟩
    · refine ifE (fun h0 => ?_) (fun h0 => ifD (fun h19 => ?_) (fun h19 => ?_))
      · exact bad' fun v hv => (asks v hv).1.1 (List.eq_nil_of_length_eq_zero (by omega))
      · refine bad' fun v hv => ?_
        obtain ⟨k1, k2, _, _⟩ := asks v hv
        have h48 : d.head? ≠ some 48 := fun h => by have := k1.2.2 h; omega
        have h1 := valD_lt d k1.2.1 h48 k1.1
        have h2 : 10 ^ 19 ≤ 10 ^ (d.length - 1) := Nat.pow_le_pow_right (by omega) (by omega)
        have h3 : (10 : Nat) ^ 19 = 10000000000000000000 := by decide
        omega
      · obtain ⟨c, hc, hg⟩ := get_lt (l := d) (i := 0) (by omega)
        have hhd : d.head? = some c := by rw [List.head?_eq_getElem?]; exact hc
        have hne : d ≠ [] := fun h => by rw [h] at hc; simp at hc
        refine ⟨by omega, c, hg, ifE (fun h48 => ifD (fun h1 => ?_) (fun h1 => ?_)) (fun h48 => ?_)⟩
        · have hce : c = 48 := UInt8.toNat_inj.1 (by show c.toNat = 48; omega)
          refine bad' fun v hv => ?_
          obtain ⟨k1, _, k3, _⟩ := asks v hv
          rw [hce] at hhd
          have hl1 := k1.2.2 hhd
          rcases hw with ⟨e1, e2⟩ | ⟨e1, e2⟩
          · exact (k3 e1).1 hhd
          · rw [e2] at h1; omega
        · exact ⟨hne, by omega, fun _ => by omega⟩
        · refine ⟨hne, by omega, fun h => ?_⟩
          rw [hhd] at h
          have := Option.some.inj h
          rw [this] at h48; exact absurd rfl h48
    · rintro ⟨hne, h19, h48⟩
      refine ⟨fun us => ∃ i : Nat, i ≤ d.length ∧ us = [.int .i64 (-(valD (d.take i) : Int)), .int .i64 i] ∧ (∀ c ∈ d.take i, isDigit c = true) ∧ valD (d.take i) ≤ 9223372036854775808, fun us => match us with | [_, .int _ i] => d.length - i.toNat | _ => 0, ⟨0, Nat.zero_le _, rfl, fun c hc => by simp at hc, by simp [valF]⟩, ?_⟩
      rintro n31 n32 ⟨i, hi, e, hdig, hval⟩
      cases e
      refine ifD (fun hlt => ?_) (fun hge => ?_)
      · obtain ⟨c, hc, hg⟩ := get_lt (l := d) (i := i) (by omega)
        have hm := List.mem_of_getElem? hc
        have notdig : isDigit c = false → ∀ v, ¬ CanonN w v := fun h v hv => by rw [(asks v hv).1.2.1 c hm] at h; cases h
        refine ⟨by omega, c, hg, by omega, c, hg, ifD (fun h1 => ?_) (fun h1 => ⟨by omega, c, hg, ifD (fun h2 => ?_) (fun h2 => ?_)⟩)⟩
        · refine bad' (notdig ?_)
          have : ¬ 48 ≤ c.toNat := by omega
          simp [isDigit, this]
        · refine bad' (notdig ?_)
          have : ¬ c.toNat ≤ 57 := by omega
          simp [isDigit, this]
        · have hx : IntKind.i64.wrap (IntKind.u8.wrap ((c.toNat : Int) - 48)) = ((c.toNat - 48 : Nat) : Int) := by
            have : IntKind.u8.wrap ((c.toNat : Int) - 48) = ((c.toNat - 48 : Nat) : Int) := by
              rw [Go.Vx.w8 (by omega) (by omega)]; omega
            rw [this, w64 (by omega) (by omega)]
          rw [hx, w64 (x := -9223372036854775808 + ((c.toNat - 48 : Nat) : Int)) (by omega) (by omega)]
          have hov := over_iff (n := valD (d.take i)) (x := c.toNat - 48) (by omega)
          have hq : IntKind.i64.wrap (Int.tdiv (-9223372036854775808 + ((c.toNat - 48 : Nat) : Int)) 10) = Int.tdiv (-9223372036854775808 + ((c.toNat - 48 : Nat) : Int)) 10 := by
            have e : (-9223372036854775808 + ((c.toNat - 48 : Nat) : Int)) = -((9223372036854775808 - (c.toNat - 48) : Nat) : Int) := by omega
            rw [e, Int.neg_tdiv]
            have : Int.tdiv ((9223372036854775808 - (c.toNat - 48) : Nat) : Int) 10 = (((9223372036854775808 - (c.toNat - 48)) / 10 : Nat) : Int) := rfl
            rw [this]
            exact w64 (by omega) (by omega)
          rw [hq]
          have hts := valD_take_succ hc
          have hdc : isDigit c = true := digit_of (by omega) (by omega)
          refine ⟨trivial, by decide, ifD (fun h3 => ?_) (fun h3 => ?_)⟩
          · refine bad' fun v hv => ?_
            have := (asks v hv).2.1
            have hle := valD_take_le (d := d) (i + 1)
            have := hov.1 h3
            omega
          · have h4 : ¬ 9223372036854775808 < valD (d.take i) * 10 + (c.toNat - 48) := fun h => h3 (hov.2 h)
            rw [w64 (x := 10 * -(valD (d.take i) : Int)) (by omega) (by omega), w64 (x := 10 * -(valD (d.take i) : Int) - ((c.toNat - 48 : Nat) : Int)) (by omega) (by omega), wadd1 (by omega)]
            refine ⟨⟨i + 1, by omega, ?_, ?_, by omega⟩, by simp only [Int.toNat_natCast]; omega⟩
            · rw [hts]; congr 2; omega
            · intro x hx
              rw [List.take_add_one, hc] at hx
              rcases List.mem_append.1 hx with h | h
              · exact hdig x h
              · simp at h; subst h; exact hdc
      · have hfull : d.take i = d := List.take_of_length_le (by omega)
        rw [hfull] at hdig hval ⊢
        obtain ⟨c, hc, hg⟩ := get_lt (l := w) (i := 0) (by
          have : 0 < d.length := List.length_pos_iff.2 hne
          omega)
        have hhd : w.head? = some c := by rw [List.head?_eq_getElem?]; exact hc
        have hcan : canonD d := ⟨hne, hdig, fun h => by
          have h1 := h48 h
          have : 0 < d.length := List.length_pos_iff.2 hne
          omega⟩
        refine ⟨by omega, c, hg, ifE (fun h45 => ?_) (fun h45 => ?_)⟩
        · have hce : c = 45 := UInt8.toNat_inj.1 (by show c.toNat = 45; omega)
          rw [hce] at hhd
          rcases hw with ⟨e1, e2⟩ | ⟨e1, e2⟩
          · refine good _ (.inl ⟨d, e2, hcan, fun h => ?_, hval, rfl⟩)
            have h1 := h48 h
            have : 0 < d.length := List.length_pos_iff.2 hne
            rw [e2, List.length_cons] at h1; omega
          · exact absurd hhd e1
        · have hne45 : w.head? ≠ some 45 := fun h => by
            rw [hhd] at h
            have := Option.some.inj h
            rw [this] at h45; exact h45 rfl
          rcases hw with ⟨e1, e2⟩ | ⟨e1, e2⟩
          · exact absurd e1 hne45
          · subst e2
            refine ifE (fun hmin => ?_) (fun hmin => ?_)
            · refine bad' fun v hv => ?_
              have := ((asks v hv).2.2.2 hne45).1
              omega
            · rw [w64 (by omega) (by omega)]
              refine good _ (.inr ⟨hne45, hcan, by omega, by omega⟩)

theorem inner_letter {c : UInt8} (h : isDigit c = false) : isInner c = isLetter c := by simp [isInner, isLetter, h]
theorem inner_or (c : UInt8) : isInner c = (isLetter c || isDigit c) := by simp [isInner, isLetter]
theorem span_stop {p : UInt8 → Bool} : ∀ {l : List UInt8} {c : UInt8}, l[span p l]? = some c → p c = false
  | [], c, h => by simp at h
  | d :: r, c, h => by
    rw [span_cons] at h
    by_cases hd : p d = true
    · rw [if_pos hd, Nat.add_comm] at h
      exact span_stop (by simpa using h)
    · rw [if_neg hd] at h
      simp at h
      subst h
      simpa using hd
/-- the token that begins at a place, and whether it is one -/
theorem RWord_spec (l : List UInt8) (hl : l.length ≤ big) (i : Nat) (hi : i < l.length) : PCalls ax 73 [.str (bs l), .int .i64 i] fun r => ∃ t, r = [.agg (encT t), .bool (tokL (l.drop i)).2] ∧ ((tokL (l.drop i)).2 = true → t = (tokL (l.drop i)).1) := by
  have hb : big = 1099511627776 := rfl
  obtain ⟨c, hc, hg⟩ := get_lt (l := l) (i := i) hi
  have hd : l.drop i = c :: l.drop (i + 1) := by
    rw [List.drop_eq_getElem_cons hi]; congr 1
    exact Option.some.inj ((List.getElem?_eq_getElem hi).symm.trans hc)
  refine RWord.calls (K := fun r => ∃ t, r = [.agg (encT t), .bool (tokL (l.drop i)).2] ∧ ((tokL (l.drop i)).2 = true → t = (tokL (l.drop i)).1)) ?_
  unfold RWord.W
  rw [bs_size]
  have fin : ∀ (t : Tok), (tokL (l.drop i)) = (t, true) → ∃ t', [V.agg (encT t), .bool true] = [.agg (encT t'), .bool (tokL (l.drop i)).2] ∧ ((tokL (l.drop i)).2 = true → t' = (tokL (l.drop i)).1) := fun t h => ⟨t, by rw [h], fun _ => by rw [h]⟩
  have fin2 : ∀ (t : Tok), (tokL (l.drop i)).2 = false → ∃ t', [V.agg (encT t), .bool false] = [.agg (encT t'), .bool (tokL (l.drop i)).2] ∧ ((tokL (l.drop i)).2 = true → t' = (tokL (l.drop i)).1) := fun t h => ⟨t, by rw [h], fun h' => by rw [h] at h'; cases h'⟩
  refine ⟨by omega, c, hg, (rletter_spec c).mono fun r hr => ⟨_, hr, ifB (fun hlt => ?_) (fun hlf => ?_)⟩⟩
  · have htk := tokL_letter (r := l.drop (i + 1)) hlt
    rw [← hd] at htk
    refine ⟨fun us => us = [.int .i64 ((i + span isInner (l.drop i) : Nat) : Int)], ?_, ?_⟩
    · refine ⟨fun us => ∃ j : Nat, i ≤ j ∧ j ≤ l.length ∧ us = [.int .i64 j] ∧ i + span isInner (l.drop i) = j + span isInner (l.drop j), fun us => match us with | .int _ j :: _ => l.length - j.toNat | _ => 0, ⟨i, Nat.le_refl _, by omega, rfl, rfl⟩, ?_⟩
      rintro n ⟨j, h1, h2, e, h3⟩
      cases e
      have fin0 : span isInner (l.drop j) = 0 → [V.int .i64 ((j : Nat) : Int)] = [.int .i64 ((i + span isInner (l.drop i) : Nat) : Int)] := fun h => by rw [h3, h]; rfl
      refine ifD (fun hlt2 => ?_) (fun hge => fin0 (span_end (by omega)))
      obtain ⟨x, hx, hgx⟩ := get_lt (l := l) (i := j) (by omega)
      have step : isInner x = true → (∃ j' : Nat, i ≤ j' ∧ j' ≤ l.length ∧ [V.int .i64 (IntKind.i64.wrap ((j : Int) + 1))] = [.int .i64 j'] ∧ i + span isInner (l.drop i) = j' + span isInner (l.drop j')) ∧ (match [V.int .i64 (IntKind.i64.wrap ((j : Int) + 1))] with | .int _ j :: _ => l.length - j.toNat | _ => 0) < l.length - ((j : Int)).toNat := fun h => by
        rw [span_drop hx, if_pos h] at h3
        rw [wadd1 (by omega)]
        exact ⟨⟨j + 1, by omega, by omega, rfl, by omega⟩, by simp only [Int.toNat_natCast]; omega⟩
      refine ⟨by omega, x, hgx, (rletter_spec x).mono fun r hr => ⟨_, hr, ifB (fun h => step (by rw [inner_or, h]; rfl)) (fun h => ?_)⟩⟩
      refine ⟨by omega, x, hgx, (rdigit_spec x).mono fun r hr => ⟨_, hr, ifB (fun h2 => step (by rw [inner_or, h2]; simp)) (fun h2 => ?_)⟩⟩
      exact fin0 (by rw [span_drop hx, inner_or, h, h2]; rfl)
    · rintro n e
      cases e
      have hle := span_le isInner (l.drop i)
      rw [List.length_drop] at hle
      have hdec : decide (IntKind.i64.wrap (((i + span isInner (l.drop i) : Nat) : Int) - (i : Int)) ≤ 32) = (tokL (l.drop i)).2 := by
        rw [w64 (by omega) (by omega), htk, Bool.eq_iff_iff]; simp; omega
      rw [ext_take]
      have out : ∀ k : Int, k = (if isGreat c then 2 else 1) → ∃ t, [V.agg [.int .i64 k, .str (bs ((l.drop i).take (span isInner (l.drop i)))), .int .i64 0], .bool (decide (IntKind.i64.wrap (((i + span isInner (l.drop i) : Nat) : Int) - (i : Int)) ≤ 32))] = [.agg (encT t), .bool (tokL (l.drop i)).2] ∧ ((tokL (l.drop i)).2 = true → t = (tokL (l.drop i)).1) := fun k hk => by
        rw [hdec]
        exact ⟨⟨k, (l.drop i).take (span isInner (l.drop i)), 0⟩, rfl, fun _ => by rw [htk, hk]⟩
      have hsg : isSmall c = false → isGreat c = true := fun h => by unfold isLetter at hlt; rw [h] at hlt; simpa using hlt
      have hgs : isSmall c = true → isGreat c = false := fun h => by
        simp only [isSmall, Bool.and_eq_true, decide_eq_true_eq] at h
        rw [Bool.eq_false_iff]; intro h2
        simp only [isGreat, Bool.or_eq_true, Bool.and_eq_true, decide_eq_true_eq] at h2
        omega
      refine ifD (fun h1 => ifD (fun h2 => ?_) (fun h2 => ?_)) (fun h1 => ?_)
      · have : isSmall c = true := by simp [isSmall]; omega
        exact ⟨by omega, by omega, by omega, out 1 (by rw [hgs this]; rfl)⟩
      · have : isSmall c = false := by rw [Bool.eq_false_iff]; simp [isSmall]; omega
        exact ⟨by omega, by omega, by omega, out 2 (by rw [hsg this]; rfl)⟩
      · have : isSmall c = false := by rw [Bool.eq_false_iff]; simp [isSmall]; omega
        exact ⟨by omega, by omega, by omega, out 2 (by rw [hsg this]; rfl)⟩
  refine ⟨fun us => us = [.bool (isDigit c || decide (c.toNat = 45))], ?_, ?_⟩
  · have h45 : ((c.toNat : Int) == 45) = decide (c.toNat = 45) := by rw [Bool.eq_iff_iff]; simp; omega
    exact (rdigit_spec c).mono fun r hr => ⟨_, hr, ifB (fun h => by simp [h]) (fun h => by rw [h45]; simp [h])⟩
  rintro b hb'
  cases hb'
  refine ifB (fun hdt => ?_) (fun hdf => ?_)
  · have htk := tokL_num (r := l.drop (i + 1)) hlf hdt
    rw [← hd] at htk
    have hns : numSpan (l.drop i) = 1 + span isDigit (l.drop (i + 1)) := by
      rw [hd]; simp only [numSpan]
      by_cases h45 : c.toNat = 45
      · rw [if_pos h45]
      · have : isDigit c = true := by simpa [h45] using hdt
        rw [if_neg h45, span_cons, if_pos this]
    have hle := numSpan_le (l.drop i)
    rw [List.length_drop] at hle
    refine ⟨fun us => us = [.int .i64 ((i + numSpan (l.drop i) : Nat) : Int)], ?_, ?_⟩
    · rw [wadd1 (by omega)]
      refine ⟨fun us => ∃ j : Nat, i ≤ j ∧ j ≤ l.length ∧ us = [.int .i64 j] ∧ i + numSpan (l.drop i) = j + span isDigit (l.drop j), fun us => match us with | .int _ j :: _ => l.length - j.toNat | _ => 0, ⟨i + 1, by omega, by omega, rfl, by omega⟩, ?_⟩
      rintro n ⟨j, h1, h2, e, h3⟩
      cases e
      have fin0 : span isDigit (l.drop j) = 0 → [V.int .i64 ((j : Nat) : Int)] = [.int .i64 ((i + numSpan (l.drop i) : Nat) : Int)] := fun h => by rw [h3, h]; rfl
      refine ifD (fun hlt2 => ?_) (fun hge => fin0 (span_end (by omega)))
      obtain ⟨x, hx, hgx⟩ := get_lt (l := l) (i := j) (by omega)
      refine ⟨by omega, x, hgx, (rdigit_spec x).mono fun r hr => ⟨_, hr, ifB (fun h => ?_) (fun h => fin0 (by rw [span_drop hx, h]; rfl))⟩⟩
      rw [span_drop hx, if_pos h] at h3
      rw [wadd1 (by omega)]
      exact ⟨⟨j + 1, by omega, by omega, rfl, by omega⟩, by simp only [Int.toNat_natCast]; omega⟩
    · rintro n e
      cases e
      rw [ext_take]
      refine ⟨by omega, by omega, by omega, ?_⟩
      refine (RInt_spec ((l.drop i).take (numSpan (l.drop i))) (by rw [List.length_take]; omega)).mono fun r ⟨v, hr, hv⟩ => ⟨v, _, hr, by omega, by omega, by omega, ?_⟩
      have hN : tokL (l.drop i) = match canon ((l.drop i).take (numSpan (l.drop i))) with
        | none => (zeroT, false)
        | some v => match (l.drop i)[numSpan (l.drop i)]? with
          | none => (⟨3, (l.drop i).take (numSpan (l.drop i)), v⟩, true)
          | some c => if isInner c then (zeroT, false) else (⟨3, (l.drop i).take (numSpan (l.drop i)), v⟩, true) := by rw [htk]; rfl
      cases hcn : canon ((l.drop i).take (numSpan (l.drop i))) with
      | none =>
        rw [hcn] at hN
        exact fin2 ⟨3, (l.drop i).take (numSpan (l.drop i)), v⟩ (by rw [hN])
      | some u =>
        rw [hcn] at hN
        simp only at hN
        have huv := hv u hcn
        subst huv
        show cond true _ _
        refine ifE (fun he => ?_) (fun hne => ?_)
        · have : (l.drop i)[numSpan (l.drop i)]? = none := List.getElem?_eq_none (by rw [List.length_drop]; omega)
          rw [this] at hN
          exact fin ⟨3, (l.drop i).take (numSpan (l.drop i)), v⟩ hN
        · obtain ⟨x, hx, hgx⟩ := get_lt (l := l) (i := i + numSpan (l.drop i)) (by omega)
          have hdx : (l.drop i)[numSpan (l.drop i)]? = some x := by rw [List.getElem?_drop]; exact hx
          rw [hdx] at hN
          simp only at hN
          have hnd : isDigit x = false := by
            have e1 : numSpan (l.drop i) = 1 + span isDigit (l.drop (i + 1)) := hns
            refine span_stop (l := l.drop (i + 1)) ?_
            rw [List.getElem?_drop]
            rw [e1] at hx
            rw [← hx]; congr 1; omega
          refine ⟨by omega, x, hgx, (rletter_spec x).mono fun r hr => ⟨_, hr, ?_⟩⟩
          rw [inner_letter hnd] at hN
          cases hil : isLetter x with
          | true => rw [hil, if_pos rfl] at hN; exact fin2 ⟨3, (l.drop i).take (numSpan (l.drop i)), v⟩ (by rw [hN])
          | false => rw [hil, if_neg (by simp)] at hN; exact fin ⟨3, (l.drop i).take (numSpan (l.drop i)), v⟩ hN
  -- marks
  have hx1 : (bs l).extract ((i : Int)).toNat (((i + 1 : Nat) : Int)).toNat = bs [c] := by rw [ext_take, hd]; rfl
  refine ⟨fun _ => ¬ (c.toNat = 58 ∧ (l.drop (i + 1)).head?.map (·.toNat) = some 45), ?_, ?_⟩
  · refine ifE (fun h58 => ifD (fun hlt => ?_) (fun hge => ?_)) (fun h58 h => h58 (by omega))
    · rw [w64 (by omega) (by omega)] at hlt
      obtain ⟨x, hx, hgx⟩ := get_lt (l := l) (i := i + 1) (by omega)
      have hhd : (l.drop (i + 1)).head? = some x := by rw [List.head?_drop]; exact hx
      rw [wadd1 (by omega)]
      refine ⟨by omega, x, hgx, ifE (fun h45 => ?_) (fun h45 h => ?_)⟩
      · have htk := tokL_two (r := l.drop (i + 1)) hlf hdf ⟨by omega, by rw [hhd]; simp; omega⟩
        rw [← hd] at htk
        exact fin ⟨4, [58, 45], 0⟩ htk
      · rw [hhd] at h
        have := h.2
        simp at this
        omega
    · intro h
      rw [w64 (by omega) (by omega)] at hge
      have : l.drop (i + 1) = [] := List.drop_eq_nil_of_le (by omega)
      rw [this] at h
      simp at h
  intro hn2
  refine ⟨by decide, fun us => ∃ j : Nat, j ≤ 7 ∧ us = [.int .i64 j] ∧ ∀ k < j, marksL[k]? ≠ some c, fun us => match us with | .int _ j :: _ => 7 - j.toNat | _ => 0, ⟨0, by omega, rfl, fun k h => by omega⟩, ?_⟩
  rintro n ⟨j, hj, e, hno⟩
  cases e
  have hlen7 : (([[(.int .u8 40)], [(.int .u8 41)], [(.int .u8 44)], [(.int .u8 46)], [(.int .u8 59)], [(.int .u8 124)], [(.int .u8 61)]] : List (List V)).length : Int) = 7 := rfl
  rw [hlen7]
  have hrow : ∀ k : Nat, k < 7 → ∃ m, marksL[k]? = some m ∧ List.take 1 (Av.rowAt [[(.int .u8 40)], [(.int .u8 41)], [(.int .u8 44)], [(.int .u8 46)], [(.int .u8 59)], [(.int .u8 124)], [(.int .u8 61)]] ((k : Int)).toNat) = [.int .u8 (m.toNat : Int)]
    | 0, _ => ⟨40, rfl, rfl⟩ | 1, _ => ⟨41, rfl, rfl⟩ | 2, _ => ⟨44, rfl, rfl⟩ | 3, _ => ⟨46, rfl, rfl⟩ | 4, _ => ⟨59, rfl, rfl⟩ | 5, _ => ⟨124, rfl, rfl⟩ | 6, _ => ⟨61, rfl, rfl⟩
    | k + 7, h => by omega
  refine ifD (fun hlt => ?_) (fun hge => ?_)
  · obtain ⟨m, hm, hr⟩ := hrow j (by omega)
    refine ⟨by omega, hlt, (m.toNat : Int), hr, ifE (fun he => ?_) (fun hne => ?_)⟩
    · have hmc : m = c := UInt8.toNat_inj.1 (by omega)
      subst hmc
      have htk := tokL_mark (r := l.drop (i + 1)) hlf hdf hn2 (List.mem_of_getElem? hm)
      rw [← hd] at htk
      rw [wadd1 (by omega), hx1]
      exact ⟨by omega, by omega, by omega, fin ⟨4, [m], 0⟩ htk⟩
    · rw [wadd1 (by omega)]
      refine ⟨⟨j + 1, by omega, rfl, fun k hk => ?_⟩, by simp only [Int.toNat_natCast]; omega⟩
      rcases Nat.lt_or_ge k j with h | h
      · exact hno k h
      · have : k = j := by omega
        subst this
        rw [hm]
        intro h2
        exact hne (by rw [Option.some.inj h2])
  · have hnm : c ∉ marksL := fun hm => by
      obtain ⟨k, hk, hk2⟩ := List.getElem_of_mem hm
      have hk7 : k < 7 := hk
      exact hno k (by omega) (by rw [List.getElem?_eq_getElem hk, hk2])
    have htk := tokL_none (r := l.drop (i + 1)) hlf hdf hn2 hnm
    rw [← hd] at htk
    exact fin2 zeroT (by rw [htk])
end Go.Proofs.YtgjifgjjcaohoaaGreatDoor.Va
end

/- part Z1W -/
section
namespace Go.Lx
theorem skip_append : ∀ (s : List UInt8) (t : List UInt8) (b : Bool), (skipC b s < s.length → skipC b (s ++ 10 :: t) = skipC b s) ∧ (skipC b s = s.length → skipC b (s ++ 10 :: t) = s.length + 1 + skipC false t)
  | [], t, b => ⟨fun h => by simp at h, fun _ => by
      cases b with
      | true => show 1 + skipC (decide ((10 : UInt8).toNat ≠ 10)) t = 0 + 1 + skipC false t
                rw [show decide ((10 : UInt8).toNat ≠ 10) = false by decide]
      | false => show (if isBlank 10 then 1 + skipC false t else _) = 0 + 1 + skipC false t
                 rw [if_pos (by decide)]⟩
  | c :: r, t, true => by
    obtain ⟨h1, h2⟩ := skip_append r t (decide (c.toNat ≠ 10))
    simp only [List.cons_append, skipC, List.length_cons]
    exact ⟨fun h => by rw [h1 (by omega)], fun h => by rw [h2 (by omega)]; omega⟩
  | c :: r, t, false => by
    obtain ⟨h1, h2⟩ := skip_append r t false
    obtain ⟨h3, h4⟩ := skip_append r t true
    simp only [List.cons_append, skipC, List.length_cons]
    split
    · exact ⟨fun h => by rw [h1 (by omega)], fun h => by rw [h2 (by omega)]; omega⟩
    · split
      · exact ⟨fun h => by rw [h3 (by omega)], fun h => by rw [h4 (by omega)]; omega⟩
      · exact ⟨fun _ => rfl, fun h => by omega⟩

/-- what may stand behind a token: nothing, or a blank, or a comment -/
def Sep (y : List UInt8) : Prop := ∀ c, y.head? = some c → isBlank c = true ∨ c.toNat = 37
theorem sep_not {c : UInt8} (h : isBlank c = true ∨ c.toNat = 37) : isInner c = false ∧ isDigit c = false ∧ c.toNat ≠ 45 := by
  have h' : c.toNat = 9 ∨ c.toNat = 10 ∨ c.toNat = 13 ∨ c.toNat = 32 ∨ c.toNat = 37 := by
    rcases h with h | h
    · simp only [isBlank, Bool.or_eq_true, decide_eq_true_eq] at h; omega
    · omega
  refine ⟨?_, ?_, by omega⟩
  · rw [Bool.eq_false_iff]
    simp only [isInner, isSmall, isGreat, isDigit, ne_eq, Bool.or_eq_true, Bool.and_eq_true, decide_eq_true_eq]
    omega
  · rw [Bool.eq_false_iff]
    simp only [isDigit, ne_eq, Bool.and_eq_true, decide_eq_true_eq]
    omega
/-- a span goes to the text's end, and what stands behind stops it -/
theorem span_app {p : UInt8 → Bool} : ∀ (l y : List UInt8), (∀ c, y.head? = some c → p c = false) → span p (l ++ y) = if span p l = l.length then l.length else span p l
  | [], y, h => by
    cases y with
    | nil => rfl
    | cons c r => rw [List.nil_append, span_cons, h c rfl]; rfl
  | c :: r, y, h => by
    have ih := span_app r y h
    rw [List.cons_append, span_cons, span_cons, ih]
    by_cases hc : p c = true
    · rw [if_pos hc, if_pos hc]
      have := span_le p r
      simp only [List.length_cons]
      split <;> split <;> omega
    · rw [if_neg hc, if_neg hc]
      simp
theorem span_app' {p : UInt8 → Bool} (l y : List UInt8) (h : ∀ c, y.head? = some c → p c = false) : span p (l ++ y) = span p l := by
  rw [span_app l y h]; split <;> omega
theorem sep_inner {y : List UInt8} (h : Sep y) : ∀ c, y.head? = some c → isInner c = false := fun c hc => (sep_not (h c hc)).1
theorem sep_digit {y : List UInt8} (h : Sep y) : ∀ c, y.head? = some c → isDigit c = false := fun c hc => (sep_not (h c hc)).2.1
theorem numSpan_app {l y : List UInt8} (hl : l ≠ []) (h : Sep y) : numSpan (l ++ y) = numSpan l := by
  cases l with
  | nil => exact absurd rfl hl
  | cons c r =>
    simp only [List.cons_append, numSpan]
    split
    · rw [span_app' r y (sep_digit h)]
    · rw [← List.cons_append, span_app' (c :: r) y (sep_digit h)]
theorem take_app {l y : List UInt8} {n : Nat} (h : n ≤ l.length) : (l ++ y).take n = l.take n := by
  rw [List.take_append_of_le_length h]
/-- a token is the same with a blank or a comment behind the text -/
theorem tokL_app {l y : List UInt8} (h : Sep y) (ht : (tokL l).2 = true) : tokL (l ++ y) = tokL l := by
  cases l with
  | nil => cases ht
  | cons c r =>
    cases hl : isLetter c with
    | true =>
      rw [List.cons_append, tokL_letter hl, tokL_letter hl]
      have := span_app' (c :: r) y (sep_inner h)
      rw [← List.cons_append, this, take_app (span_le _ _)]
    | false =>
      cases hd : (isDigit c || decide (c.toNat = 45)) with
      | true =>
        rw [List.cons_append, tokL_num hl hd, tokL_num hl hd]
        rw [tokL_num hl hd] at ht
        obtain ⟨h1, v, h2, h3, h4⟩ := numL_ok ht
        rw [h3, ← List.cons_append]
        have hns := numSpan_app (l := c :: r) (y := y) (by simp) h
        have hle := numSpan_le (c :: r)
        have hx : ∀ x, ((c :: r) ++ y)[numSpan (c :: r)]? = some x → isInner x = false := fun x hx => by
          rcases Nat.lt_or_ge (numSpan (c :: r)) (c :: r).length with hlt | hge
          · rw [List.getElem?_append_left hlt] at hx; exact h4 x hx
          · rw [List.getElem?_append_right hge] at hx
            have : numSpan (c :: r) - (c :: r).length = 0 := by omega
            rw [this] at hx
            exact sep_inner h x (by rw [List.head?_eq_getElem?]; exact hx)
        unfold numL
        rw [hns, take_app hle, h2]
        simp only
        cases hn : ((c :: r) ++ y)[numSpan (c :: r)]? with
        | none => rfl
        | some x => simp only [hx x hn, Bool.false_eq_true, if_false]
      | false =>
        by_cases hm : c.toNat = 58 ∧ r.head?.map (·.toNat) = some 45
        · have hm' : c.toNat = 58 ∧ (r ++ y).head?.map (·.toNat) = some 45 := by
            cases r with
            | nil => simp at hm
            | cons d r => exact hm
          rw [List.cons_append, tokL_two hl hd hm, tokL_two hl hd hm']
        · by_cases hk : c ∈ marksL
          · have hm' : ¬ (c.toNat = 58 ∧ (r ++ y).head?.map (·.toNat) = some 45) := fun hh => by
              have : c = 58 := UInt8.toNat_inj.1 hh.1
              subst this
              revert hk; decide
            rw [List.cons_append, tokL_mark hl hd hm hk, tokL_mark hl hd hm' hk]
          · rw [tokL_none hl hd hm hk] at ht; cases ht
theorem sep_nl (t : List UInt8) : Sep (10 :: t) := fun c hc => by
  simp at hc; subst hc; left; decide
/-- **two texts, with an end of line between, have the tokens of both** -/
theorem allL_parts : ∀ (n : Nat) (s t : List UInt8), s.length ≤ n → (allL s).2 = true → allL (s ++ 10 :: t) = ((allL s).1 ++ (allL t).1, (allL t).2) := by
  intro n
  induction n with
  | zero =>
    intro s t h _
    have : s = [] := List.eq_nil_of_length_eq_zero (by omega)
    subst this
    have h1 : skipC false (10 :: t) = 1 + skipC false t := by show (if isBlank 10 then 1 + skipC false t else _) = _; rw [if_pos (by decide)]
    rw [List.nil_append, ← allL_drop (10 :: t), h1, Nat.add_comm, List.drop_succ_cons, allL_drop]; rfl
  | succ n ih =>
    intro s t h hs
    obtain ⟨k1, k2⟩ := skip_append s t false
    have hle := skipC_le s false
    cases hd : s.drop (skipC false s) with
    | nil =>
      have hfull : skipC false s = s.length := by
        have := congrArg List.length hd
        simp at this; omega
      rw [allL_nil hd, ← allL_drop (s ++ 10 :: t), k2 hfull]
      have : (s ++ 10 :: t).drop (s.length + 1 + skipC false t) = t.drop (skipC false t) := by
        rw [Nat.add_assoc, ← List.drop_drop, List.drop_left, Nat.add_comm, List.drop_succ_cons]
      rw [this, allL_drop]; rfl
    | cons c r =>
      have hlt : skipC false s < s.length := by
        have := congrArg List.length hd
        simp at this; omega
      have hd2 : (s ++ 10 :: t).drop (skipC false (s ++ 10 :: t)) = c :: (r ++ 10 :: t) := by
        rw [k1 hlt, List.drop_append_of_le_length hle, hd]; rfl
      cases ht : (tokL (c :: r)).2 with
      | false => rw [allL_bad hd ht] at hs; cases hs
      | true =>
        obtain ⟨t1, t2, t3⟩ := tokL_text ht
        have happ := tokL_app (l := c :: r) (sep_nl t) ht
        rw [List.cons_append] at happ
        have ht2 : (tokL (c :: (r ++ 10 :: t))).2 = true := by rw [happ]; exact ht
        rw [allL_cons hd ht] at hs ⊢
        rw [allL_cons hd2 ht2, happ]
        have hdr : (c :: (r ++ 10 :: t)).drop (tokL (c :: r)).1.t.length = (c :: r).drop (tokL (c :: r)).1.t.length ++ 10 :: t := by
          rw [← List.cons_append, List.drop_append_of_le_length t2]
        have hlen : (c :: r).length ≤ s.length := by rw [← hd, List.length_drop]; omega
        rw [hdr, ih _ t (by rw [List.length_drop]; omega) hs]
        rfl
end Go.Lx
namespace Go.Proofs.YtgjifgjjcaohoaaGreatDoor.Va
open Go.Vx Go.Av Go.Lx Go.RowKit

theorem RAll_spec (l : List UInt8) (hl : l.length ≤ big) : PCalls ax 61 [.str (bs l)] fun r => ∃ P : List (List V), r = [.sl 1 P, .sl 3 (encTs (allL l).1), .bool (allL l).2] := by
  have hb : big = 1099511627776 := rfl
  refine RAll.calls (K := fun r => ∃ P : List (List V), r = [.sl 1 P, .sl 3 (encTs (allL l).1), .bool (allL l).2]) ?_
  unfold RAll.W
  rw [bs_size]
  refine ⟨fun us => ∃ (P : List (List V)) (acc : List Tok) (b : Bool) (a : Nat), us = [.sl 1 P, .sl 3 (encTs acc), .bool b, .int .i64 a] ∧ a ≤ l.length ∧ P.length ≤ a ∧ acc.length ≤ a ∧ allL l = (acc ++ (allL ((l.drop a).drop (skipC b (l.drop a)))).1, (allL ((l.drop a).drop (skipC b (l.drop a)))).2),
    fun us => match us with | [_, _, _, .int _ a] => l.length - a.toNat | _ => 0, ⟨[], [], false, 0, rfl, Nat.zero_le _, Nat.zero_le _, Nat.zero_le _, by rw [List.drop_zero, allL_drop]; rfl⟩, ?_⟩
  rintro P l39 b n41 ⟨P', acc, b', a, e, ha, hP, hacc, hall⟩
  cases e
  refine ifD (fun hlt => ?_) (fun hge => ?_)
  · obtain ⟨c, hc, hg⟩ := get_lt (l := l) (i := a) (by omega)
    have hd : l.drop a = c :: l.drop (a + 1) := by
      rw [List.drop_eq_getElem_cons (by omega)]; congr 1
      exact Option.some.inj ((List.getElem?_eq_getElem (by omega)).symm.trans hc)
    have hat := fun b => skipC_at hc b
    refine ⟨by omega, c, hg, ?_⟩
    rw [wadd1 (by omega)]
    -- a step over one byte that is no token's
    have step : ∀ b', skipC b (l.drop a) = 1 + skipC b' (l.drop (a + 1)) → (∃ (P' : List (List V)) (acc' : List Tok) (b2 : Bool) (a' : Nat), [V.sl 1 P, .sl 3 (encTs acc), .bool b', .int .i64 ((a + 1 : Nat) : Int)] = [.sl 1 P', .sl 3 (encTs acc'), .bool b2, .int .i64 a'] ∧ a' ≤ l.length ∧ P'.length ≤ a' ∧ acc'.length ≤ a' ∧ allL l = (acc' ++ (allL ((l.drop a').drop (skipC b2 (l.drop a')))).1, (allL ((l.drop a').drop (skipC b2 (l.drop a')))).2)) ∧ l.length - (((a + 1 : Nat) : Int)).toNat < l.length - ((a : Int)).toNat := fun b' h => by
      refine ⟨⟨P, acc, b', a + 1, rfl, by omega, by omega, by omega, ?_⟩, by simp only [Int.toNat_natCast]; omega⟩
      rw [hall, h, hd]
      rw [show (1 + skipC b' (l.drop (a + 1))) = skipC b' (l.drop (a + 1)) + 1 by omega, List.drop_succ_cons]
    refine ifB (fun hbt => ?_) (fun hbf => ?_)
    · subst hbt
      have hne : ((c.toNat : Int) != 10) = decide (c.toNat ≠ 10) := by rw [Bool.eq_iff_iff]; simp; omega
      rw [hne]
      exact step _ (hat true)
    · subst hbf
      have hatf := hat false
      simp only at hatf
      refine ⟨fun us => us = [.bool (isBlank c)], ?_, ?_⟩
      · have h32 : ((c.toNat : Int) == 32) = decide (c.toNat = 32) := by rw [Bool.eq_iff_iff]; simp; omega
        refine ifE (fun h => ?_) (fun h => ifE (fun h2 => ?_) (fun h2 => ifE (fun h3 => ?_) (fun h3 => ?_)))
        · have : c.toNat = 9 := by omega
          simp [isBlank, this]
        · have : c.toNat = 10 := by omega
          simp [isBlank, this]
        · have : c.toNat = 13 := by omega
          simp [isBlank, this]
        · have e1 : ¬ c.toNat = 9 := by omega
          have e2 : ¬ c.toNat = 10 := by omega
          have e3 : ¬ c.toNat = 13 := by omega
          simp [isBlank, e1, e2, e3, h32]
      rintro b' hb'
      cases hb'
      refine ifB (fun hbl => ?_) (fun hnb => ifE (fun h37 => ?_) (fun h37 => ?_))
      · rw [hbl, if_pos rfl] at hatf
        exact step false hatf
      · have hc37 : c.toNat = 37 := by omega
        rw [hnb, if_neg (by simp), if_pos hc37] at hatf
        exact step true hatf
      · have hc37 : ¬ c.toNat = 37 := by omega
        rw [hnb, if_neg (by simp), if_neg hc37] at hatf
        have hd0 : (l.drop a).drop (skipC false (l.drop a)) = c :: l.drop (a + 1) := by rw [hatf]; exact hd
        refine (RWord_spec l hl a (by omega)).mono fun r ⟨t, hr, htok⟩ => ⟨_, _, _, _, hr, ?_⟩
        rw [hatf, List.drop_zero] at hall
        refine ifN (fun hbad => ?_) (fun hok => ?_)
        · rw [hd] at hbad
          refine ⟨P, ?_⟩
          rw [hall, allL_bad hd0 hbad]; simp
        · have ht := htok hok
          have htx := tokL_text hok
          have hle := htx.2.1
          rw [List.length_drop] at hle
          rw [hd] at hok
          have hcons := allL_cons hd0 hok
          rw [← hd] at hcons
          rw [List.drop_drop] at hcons
          rw [ht, encTs_snoc, bs_size]
          generalize htl : (tokL (l.drop a)).1.t.length = m at *
          rw [wadd (by omega)]
          have inv : (∃ (P' : List (List V)) (acc' : List Tok) (b2 : Bool) (a' : Nat), [V.sl 1 (P ++ [[.int .i64 a]]), .sl 3 (encTs (acc ++ [(tokL (l.drop a)).1])), .bool false, .int .i64 ((a + m : Nat) : Int)] = [.sl 1 P', .sl 3 (encTs acc'), .bool b2, .int .i64 a'] ∧ a' ≤ l.length ∧ P'.length ≤ a' ∧ acc'.length ≤ a' ∧ allL l = (acc' ++ (allL ((l.drop a').drop (skipC b2 (l.drop a')))).1, (allL ((l.drop a').drop (skipC b2 (l.drop a')))).2)) ∧ l.length - (((a + m : Nat) : Int)).toNat < l.length - ((a : Int)).toNat := by
            refine ⟨⟨_, _, false, a + m, rfl, by omega, by simp; omega, by simp; omega, ?_⟩, by simp only [Int.toNat_natCast]; omega⟩
            rw [allL_drop, hall, hcons]; simp
          have g1 : (P.length + (0 + 1)) * 8 ≤ 140737488355328 := by omega
          have g2 : P.length + (0 + 1) ≤ 140737488355328 := by omega
          have g3 : ((encTs acc).length + (0 + 1)) * 32 ≤ 140737488355328 := by rw [encTs_length]; omega
          have g4 : (encTs acc).length + (0 + 1) ≤ 140737488355328 := by rw [encTs_length]; omega
          exact ⟨⟨⟨g1, g2, g3, g4, inv⟩, ⟨g1, g2, g3, g4, inv⟩⟩, ⟨g1, g2, g3, g4, inv⟩⟩
  · have hd : l.drop a = [] := List.drop_eq_nil_of_le (by omega)
    refine ⟨P, ?_⟩
    rw [hall, hd, List.drop_nil, allL_nil (by rfl)]; simp
end Go.Proofs.YtgjifgjjcaohoaaGreatDoor.Va
end
