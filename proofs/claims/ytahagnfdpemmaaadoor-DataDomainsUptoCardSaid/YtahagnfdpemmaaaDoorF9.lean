/- Types, terms, goals and items as trees (no program here). -/
import Derived.Test.YtahagnfdpemmaaaDoorF2
import Derived.Lib.ItoaNum
import Derived.Lib.AtoiAll
import Derived.Lib.Bytealg
import Derived.Lib.Strings
import Derived.Lib.Join
import Derived.Test.YtahagnfdpemmaaaDoorF4
import Derived.Test.YtahagnfdpemmaaaDoorF3
import Derived.Test.YtahagnfdpemmaaaDoorF1
/- part L1M -/
section
namespace Go.Lx
open Go.Av

structure Tok where
  k : Int
  t : List UInt8
  n : Int
deriving DecidableEq

def bs (l : List UInt8) : ByteArray := ⟨l.toArray⟩
@[simp] theorem bs_data (l : List UInt8) : (bs l).data.toList = l := by simp [bs]
@[simp] theorem bs_size (l : List UInt8) : (bs l).size = l.length := by simp [bs, ByteArray.size]
theorem bs_get (l : List UInt8) (i : Nat) : (bs l)[i]? = l[i]? := by
  by_cases h : i < l.length
  · have h' : i < (bs l).size := by simpa using h
    rw [getElem?_pos (bs l) i h', List.getElem?_eq_getElem h]
    rfl
  · have h' : ¬ i < (bs l).size := by simpa using h
    rw [getElem?_neg (bs l) i h', List.getElem?_eq_none (by omega)]
theorem bs_extract (l : List UInt8) (a b : Nat) : (bs l).extract a b = bs ((l.drop a).take (b - a)) := by
  apply ByteArray.ext
  simp [bs]

def encT (t : Tok) : List V := [.int .i64 t.k, .str (bs t.t), .int .i64 t.n]
def encTs (l : List Tok) : List (List V) := l.map encT
@[simp] theorem encTs_length (l : List Tok) : (encTs l).length = l.length := by simp [encTs]
def isSmall (c : UInt8) : Bool := decide (97 ≤ c.toNat) && decide (c.toNat ≤ 122)
def isGreat (c : UInt8) : Bool := (decide (65 ≤ c.toNat) && decide (c.toNat ≤ 90)) || decide (c.toNat = 95)
def isDigit (c : UInt8) : Bool := decide (48 ≤ c.toNat) && decide (c.toNat ≤ 57)
def isLetter (c : UInt8) : Bool := isSmall c || isGreat c
def isInner (c : UInt8) : Bool := isSmall c || isGreat c || isDigit c
def isBlank (c : UInt8) : Bool := decide (c.toNat = 9) || decide (c.toNat = 10) || decide (c.toNat = 13) || decide (c.toNat = 32)
def marksL : List UInt8 := [40, 41, 44, 46, 59, 124, 61]

/-- how many bytes from here on are of a kind -/
def span (p : UInt8 → Bool) (l : List UInt8) : Nat := (l.takeWhile p).length
/-- how many bytes lie ahead of the next token; within a comment or not -/
def skipC : Bool → List UInt8 → Nat
  | _, [] => 0
  | true, c :: r => 1 + skipC (decide (c.toNat ≠ 10)) r
  | false, c :: r => if isBlank c then 1 + skipC false r else if c.toNat = 37 then 1 + skipC true r else 0

/-- the number that a canonical numeral says -/
def canon (l : List UInt8) : Option Int := match Lib.atoiAll l with
  | .ok v => if Lib.itoa v = l then some v else none
  | _ => none
/-- the bytes of a numeral from here on -/
def numSpan (l : List UInt8) : Nat := match l with
  | [] => 0
  | c :: r => if c.toNat = 45 then 1 + span isDigit r else span isDigit (c :: r)
def zeroT : Tok := ⟨0, [], 0⟩
def numL (l : List UInt8) : Tok × Bool :=
  match canon (l.take (numSpan l)) with
  | none => (zeroT, false)
  | some v => match l[numSpan l]? with
    | none => (⟨3, l.take (numSpan l), v⟩, true)
    | some c => if isInner c then (zeroT, false) else (⟨3, l.take (numSpan l), v⟩, true)
/-- the token that stands here -/
def tokL : List UInt8 → Tok × Bool
  | [] => (zeroT, false)
  | c :: r =>
    if isLetter c then (⟨if isGreat c then 2 else 1, (c :: r).take (span isInner (c :: r)), 0⟩, decide ((span isInner (c :: r)) ≤ 32))
    else if isDigit c || decide (c.toNat = 45) then numL (c :: r)
    else if c.toNat = 58 ∧ r.head?.map (·.toNat) = some 45 then (⟨4, [58, 45], 0⟩, true)
    else if c ∈ marksL then (⟨4, [c], 0⟩, true)
    else (zeroT, false)
/-- all tokens; whether the end was met -/
def allF : Nat → List UInt8 → List Tok × Bool
  | 0, _ => ([], true)
  | n + 1, l => match l.drop (skipC false l) with
    | [] => ([], true)
    | c :: r => if (tokL (c :: r)).2 then ((tokL (c :: r)).1 :: (allF n ((c :: r).drop (tokL (c :: r)).1.t.length)).1, (allF n ((c :: r).drop (tokL (c :: r)).1.t.length)).2) else ([], false)
def allL (l : List UInt8) : List Tok × Bool := allF (l.length + 1) l
end Go.Lx
end

/- part L1O -/
section
namespace Go.Lx

/-! ### spans -/
theorem span_le (p : UInt8 → Bool) (l : List UInt8) : span p l ≤ l.length := by
  unfold span
  exact (List.takeWhile_sublist p).length_le
theorem span_cons {p : UInt8 → Bool} {c : UInt8} {r : List UInt8} : span p (c :: r) = if p c then 1 + span p r else 0 := by
  unfold span
  rw [List.takeWhile_cons]
  split <;> simp <;> omega
/-- a place within the text: how far a span goes on from there -/
theorem span_drop {p : UInt8 → Bool} {l : List UInt8} {i : Nat} {c : UInt8} (h : l[i]? = some c) : span p (l.drop i) = if p c then 1 + span p (l.drop (i + 1)) else 0 := by
  have hi := (List.getElem?_eq_some_iff.1 h).1
  rw [List.drop_eq_getElem_cons hi, span_cons]
  have : l[i] = c := Option.some.inj ((List.getElem?_eq_getElem hi).symm.trans h)
  rw [this]
theorem span_end {p : UInt8 → Bool} {l : List UInt8} {i : Nat} (h : l.length ≤ i) : span p (l.drop i) = 0 := by
  rw [List.drop_eq_nil_of_le h]; rfl

/-! ### what lies between tokens -/
theorem skipC_at {l : List UInt8} {i : Nat} {c : UInt8} (h : l[i]? = some c) (b : Bool) : skipC b (l.drop i) = match b with
    | true => 1 + skipC (decide (c.toNat ≠ 10)) (l.drop (i + 1))
    | false => if isBlank c then 1 + skipC false (l.drop (i + 1)) else if c.toNat = 37 then 1 + skipC true (l.drop (i + 1)) else 0 := by
  have hi := (List.getElem?_eq_some_iff.1 h).1
  rw [List.drop_eq_getElem_cons hi]
  have : l[i] = c := Option.some.inj ((List.getElem?_eq_getElem hi).symm.trans h)
  rw [this]
  cases b <;> rfl
/-- behind what lies between tokens nothing more lies between -/
theorem skipC_skip : ∀ (l : List UInt8) (b : Bool), skipC false (l.drop (skipC b l)) = 0
  | [], b => by cases b <;> rfl
  | c :: r, true => by
    have := skipC_skip r (decide (c.toNat ≠ 10))
    simp only [skipC]
    rw [Nat.add_comm, List.drop_succ_cons]; exact this
  | c :: r, false => by
    simp only [skipC]
    split
    · rw [Nat.add_comm, List.drop_succ_cons]; exact skipC_skip r false
    · split
      · rw [Nat.add_comm, List.drop_succ_cons]; exact skipC_skip r true
      · rename_i h1 h2
        simp [skipC, h1, h2]
/-! ### tokens -/
theorem span_pos {p : UInt8 → Bool} {c : UInt8} {r : List UInt8} (h : p c = true) : 1 ≤ span p (c :: r) := by rw [span_cons, if_pos h]; omega
theorem numSpan_le : ∀ l : List UInt8, numSpan l ≤ l.length
  | [] => Nat.le_refl _
  | c :: r => by
    have h1 := span_le isDigit r
    have h2 := span_le isDigit (c :: r)
    simp only [numSpan]
    split
    · simp only [List.length_cons]; omega
    · exact h2
theorem canon_nil : canon [] = none := rfl
theorem tokL_letter {c : UInt8} {r : List UInt8} (h : isLetter c = true) : tokL (c :: r) = (⟨if isGreat c then 2 else 1, (c :: r).take (span isInner (c :: r)), 0⟩, decide ((span isInner (c :: r)) ≤ 32)) := by
  show (if isLetter c then _ else _) = _
  rw [if_pos h]
theorem tokL_num {c : UInt8} {r : List UInt8} (h : isLetter c = false) (h2 : (isDigit c || decide (c.toNat = 45)) = true) : tokL (c :: r) = numL (c :: r) := by
  show (if isLetter c then _ else if _ then _ else _) = _
  rw [if_neg (by simp [h]), if_pos h2]
theorem tokL_two {c : UInt8} {r : List UInt8} (h : isLetter c = false) (h2 : (isDigit c || decide (c.toNat = 45)) = false) (h3 : c.toNat = 58 ∧ r.head?.map (·.toNat) = some 45) : tokL (c :: r) = (⟨4, [58, 45], 0⟩, true) := by
  show (if isLetter c then _ else if _ then _ else if _ then _ else _) = _
  rw [if_neg (by simp [h]), if_neg (by simp [h2]), if_pos h3]
theorem tokL_mark {c : UInt8} {r : List UInt8} (h : isLetter c = false) (h2 : (isDigit c || decide (c.toNat = 45)) = false) (h3 : ¬ (c.toNat = 58 ∧ r.head?.map (·.toNat) = some 45)) (h4 : c ∈ marksL) : tokL (c :: r) = (⟨4, [c], 0⟩, true) := by
  show (if isLetter c then _ else if _ then _ else if _ then _ else if _ then _ else _) = _
  rw [if_neg (by simp [h]), if_neg (by simp [h2]), if_neg h3, if_pos h4]
theorem tokL_none {c : UInt8} {r : List UInt8} (h : isLetter c = false) (h2 : (isDigit c || decide (c.toNat = 45)) = false) (h3 : ¬ (c.toNat = 58 ∧ r.head?.map (·.toNat) = some 45)) (h4 : c ∉ marksL) : tokL (c :: r) = (zeroT, false) := by
  show (if isLetter c then _ else if _ then _ else if _ then _ else if _ then _ else _) = _
  rw [if_neg (by simp [h]), if_neg (by simp [h2]), if_neg h3, if_neg h4]
theorem numL_ok {l : List UInt8} (h : (numL l).2 = true) : 1 ≤ numSpan l ∧ ∃ v, canon (l.take (numSpan l)) = some v ∧ numL l = (⟨3, l.take (numSpan l), v⟩, true) ∧ ∀ c, l[numSpan l]? = some c → isInner c = false := by
  have hpos : canon (l.take (numSpan l)) ≠ none → 1 ≤ numSpan l := fun hne => by
    rcases Nat.eq_zero_or_pos (numSpan l) with h0 | h0
    · rw [h0] at hne; exact absurd canon_nil hne
    · exact h0
  unfold numL at h ⊢
  cases hc : canon (l.take (numSpan l)) with
  | none => rw [hc] at h; cases h
  | some v =>
    rw [hc] at h hpos
    refine ⟨hpos (by simp), v, rfl, ?_⟩
    simp only at h ⊢
    cases hn : l[numSpan l]? with
    | none => exact ⟨rfl, fun c hc => by cases hc⟩
    | some c =>
      rw [hn] at h
      simp only at h ⊢
      cases hi : isInner c with
      | true => rw [hi] at h; cases h
      | false => exact ⟨rfl, fun d hd => by cases hd; exact hi⟩
/-- the token that stands here is the text's head, and not empty -/
theorem tokL_text {l : List UInt8} (h : (tokL l).2 = true) : 1 ≤ (tokL l).1.t.length ∧ (tokL l).1.t.length ≤ l.length ∧ (tokL l).1.t = l.take (tokL l).1.t.length := by
  cases l with
  | nil => cases h
  | cons c r =>
    cases hl : isLetter c with
    | true =>
      rw [tokL_letter hl] at h ⊢
      have h1 : 1 ≤ span isInner (c :: r) := span_pos (by unfold isLetter at hl; unfold isInner; simp [hl])
      have h2 := span_le isInner (c :: r)
      simp only [List.length_take]
      exact ⟨by omega, by omega, by rw [Nat.min_eq_left h2]⟩
    | false =>
      cases hd : (isDigit c || decide (c.toNat = 45)) with
      | true =>
        rw [tokL_num hl hd] at h ⊢
        obtain ⟨h1, v, _, e, _⟩ := numL_ok h
        have hle := numSpan_le (c :: r)
        rw [e]
        simp only [List.length_take]
        exact ⟨by omega, by omega, by rw [Nat.min_eq_left hle]⟩
      | false =>
        by_cases hm : c.toNat = 58 ∧ r.head?.map (·.toNat) = some 45
        · rw [tokL_two hl hd hm]
          cases r with
          | nil => simp at hm
          | cons d r =>
            have hc : c = 58 := UInt8.toNat_inj.1 (by simpa using hm.1)
            have hd2 : d = 45 := UInt8.toNat_inj.1 (by simpa using hm.2)
            subst hc
            subst hd2
            simp
        · by_cases hk : c ∈ marksL
          · rw [tokL_mark hl hd hm hk]; simp
          · rw [tokL_none hl hd hm hk] at h; cases h
theorem allF_fuel : ∀ (n m : Nat) (l : List UInt8), l.length < n → l.length < m → allF n l = allF m l
  | 0, _, l, h, _ => by omega
  | _, 0, l, _, h => by omega
  | n + 1, m + 1, l, h1, h2 => by
    simp only [allF]
    cases hd : l.drop (skipC false l) with
    | nil => rfl
    | cons c r =>
      simp only
      by_cases ht : (tokL (c :: r)).2 = true
      · obtain ⟨t1, t2, _⟩ := tokL_text ht
        have hl : (c :: r).length ≤ l.length := by rw [← hd, List.length_drop]; omega
        have := allF_fuel n m ((c :: r).drop (tokL (c :: r)).1.t.length) (by rw [List.length_drop]; omega) (by rw [List.length_drop]; omega)
        rw [if_pos ht, if_pos ht, this]
      · rw [if_neg ht, if_neg ht]
theorem allL_nil {l : List UInt8} (h : l.drop (skipC false l) = []) : allL l = ([], true) := by simp [allL, allF, h]
theorem allL_bad {l : List UInt8} {c : UInt8} {r : List UInt8} (h : l.drop (skipC false l) = c :: r) (ht : (tokL (c :: r)).2 = false) : allL l = ([], false) := by simp [allL, allF, h, ht]
theorem allL_cons {l : List UInt8} {c : UInt8} {r : List UInt8} (h : l.drop (skipC false l) = c :: r) (ht : (tokL (c :: r)).2 = true) :
    allL l = ((tokL (c :: r)).1 :: (allL ((c :: r).drop (tokL (c :: r)).1.t.length)).1, (allL ((c :: r).drop (tokL (c :: r)).1.t.length)).2) := by
  obtain ⟨t1, t2, _⟩ := tokL_text ht
  have hl : (c :: r).length ≤ l.length := by rw [← h, List.length_drop]; omega
  conv => lhs; unfold allL allF
  simp only [h, ht, if_true]
  unfold allL
  rw [allF_fuel l.length (((c :: r).drop (tokL (c :: r)).1.t.length).length + 1) _ (by rw [List.length_drop]; omega) (by omega)]
theorem allL_drop (l : List UInt8) : allL (l.drop (skipC false l)) = allL l := by
  have h0 := skipC_skip l false
  cases hd : l.drop (skipC false l) with
  | nil => rw [allL_nil hd]; rfl
  | cons c r =>
    rw [hd] at h0
    have hd0 : (c :: r).drop (skipC false (c :: r)) = c :: r := by rw [h0]; rfl
    cases ht : (tokL (c :: r)).2 with
    | false => rw [allL_bad hd ht, allL_bad hd0 ht]
    | true => rw [allL_cons hd ht, allL_cons hd0 ht]
end Go.Lx
end

/- part L1P -/
section
namespace Go.Lx
open Go.Lib

def valF (a : Nat) (d : List UInt8) : Nat := d.foldl (fun a c => a * 10 + (c.toNat - 48)) a
abbrev valD (d : List UInt8) : Nat := valF 0 d
def canonD (d : List UInt8) : Prop := d ≠ [] ∧ (∀ c ∈ d, isDigit c = true) ∧ (d.head? = some 48 → d.length = 1)
theorem valF_nil (a : Nat) : valF a [] = a := rfl
theorem valF_cons (a : Nat) (c : UInt8) (r : List UInt8) : valF a (c :: r) = valF (a * 10 + (c.toNat - 48)) r := by unfold valF; rw [List.foldl_cons]
theorem valF_snoc (a : Nat) (d : List UInt8) (c : UInt8) : valF a (d ++ [c]) = valF a d * 10 + (c.toNat - 48) := by simp [valF, List.foldl_append]
theorem valF_append (a : Nat) (d e : List UInt8) : valF a (d ++ e) = valF (valF a d) e := by simp [valF, List.foldl_append]
theorem valF_ge : ∀ (d : List UInt8) (a : Nat), a ≤ valF a d
  | [], a => Nat.le_refl _
  | c :: r, a => by have := valF_ge r (a * 10 + (c.toNat - 48)); rw [valF_cons]; omega
theorem digit_bounds {c : UInt8} (h : isDigit c = true) : 48 ≤ c.toNat ∧ c.toNat ≤ 57 := by
  simp only [isDigit, Bool.and_eq_true, decide_eq_true_eq] at h; exact h
theorem digit_of {c : UInt8} (h1 : 48 ≤ c.toNat) (h2 : c.toNat ≤ 57) : isDigit c = true := by simp [isDigit, h1, h2]
theorem ofNat_digit {x : Nat} (h : x < 10) : (UInt8.ofNat (48 + x)).toNat = 48 + x := UInt8.toNat_ofNat_of_lt' (by show 48 + x < 256; omega)
theorem digit_eq {c : UInt8} (h : isDigit c = true) : UInt8.ofNat (48 + (c.toNat - 48)) = c := by
  obtain ⟨h1, h2⟩ := digit_bounds h
  apply UInt8.toNat_inj.1
  rw [ofNat_digit (by omega)]; omega

/-- the digits of a number -/
theorem decDigits_small {u : Nat} (h : u < 10) : decDigits u = [UInt8.ofNat (48 + u)] := by rw [decDigits, dif_pos h]
theorem decDigits_big {u : Nat} (h : ¬ u < 10) : decDigits u = decDigits (u / 10) ++ [UInt8.ofNat (48 + u % 10)] := by rw [decDigits, dif_neg h]
theorem decDigits_spec : ∀ (n u : Nat), u ≤ n → canonD (decDigits u) ∧ valD (decDigits u) = u ∧ (0 < u → (decDigits u).head? ≠ some 48) := by
  intro n
  induction n with
  | zero =>
    intro u h
    have : u = 0 := by omega
    subst this
    rw [decDigits_small (by omega)]
    exact ⟨⟨by simp, by decide, fun _ => rfl⟩, rfl, fun h => by omega⟩
  | succ n ih =>
    intro u h
    by_cases hu : u < 10
    · rw [decDigits_small hu]
      have e := ofNat_digit hu
      refine ⟨⟨by simp, fun c hc => ?_, fun _ => rfl⟩, ?_, fun h0 h1 => ?_⟩
      · simp only [List.mem_singleton] at hc
        subst hc
        exact digit_of (by omega) (by omega)
      · show 0 * 10 + ((UInt8.ofNat (48 + u)).toNat - 48) = u
        rw [e]; omega
      · simp only [List.head?_cons, Option.some.injEq] at h1
        have := congrArg UInt8.toNat h1
        rw [e] at this
        simp at this
        omega
    · rw [decDigits_big hu]
      obtain ⟨⟨k1, k2, k3⟩, k4, k5⟩ := ih (u / 10) (by omega)
      have h10 : 0 < u / 10 := by omega
      have e := ofNat_digit (show u % 10 < 10 by omega)
      have hh : (decDigits (u / 10) ++ [UInt8.ofNat (48 + u % 10)]).head? = (decDigits (u / 10)).head? := by
        cases hd : decDigits (u / 10) with
        | nil => exact absurd hd k1
        | cons => rfl
      refine ⟨⟨by simp, fun c hc => ?_, fun h1 => ?_⟩, ?_, fun _ => ?_⟩
      · rcases List.mem_append.1 hc with h | h
        · exact k2 c h
        · simp only [List.mem_singleton] at h
          subst h
          exact digit_of (by omega) (by omega)
      · rw [hh] at h1; exact absurd h1 (k5 h10)
      · have k4' : valF 0 (decDigits (u / 10)) = u / 10 := k4
        show valF 0 _ = u
        rw [valF_snoc, k4', e]; omega
      · rw [hh]; exact k5 h10
theorem valD_pos {d : List UInt8} (h : ∀ c ∈ d, isDigit c = true) (hne : d ≠ []) (h0 : d.head? ≠ some 48) : 0 < valD d := by
  cases d with
  | nil => exact absurd rfl hne
  | cons c r =>
    obtain ⟨h1, h2⟩ := digit_bounds (h c List.mem_cons_self)
    have hc : c.toNat ≠ 48 := fun e => h0 (by rw [List.head?_cons]; congr 1; exact UInt8.toNat_inj.1 (by simpa using e))
    have := valF_ge r (0 * 10 + (c.toNat - 48))
    show 0 < valF 0 (c :: r)
    rw [valF_cons]; omega
theorem decDigits_val : ∀ (n : Nat) (d : List UInt8), d.length ≤ n → canonD d → decDigits (valD d) = d := by
  intro n
  induction n with
  | zero => intro d h hc; exact absurd (List.eq_nil_of_length_eq_zero (by omega)) hc.1
  | succ n ih =>
    intro d h ⟨h1, h2, h3⟩
    rcases List.eq_nil_or_concat d with e | ⟨e, c, he⟩
    · exact absurd e h1
    · have he : d = e ++ [c] := by rw [he]; simp
      subst he
      have hc := h2 c (by simp)
      obtain ⟨b1, b2⟩ := digit_bounds hc
      rw [valD, valF_snoc]
      by_cases h0 : e = []
      · subst h0
        rw [valF_nil, decDigits_small (by omega)]
        have := digit_eq hc
        simp only [Nat.zero_mul, Nat.zero_add, List.nil_append]
        rw [this]
      · have hhd : (e ++ [c]).head? = e.head? := by cases e with
          | nil => exact absurd rfl h0
          | cons => rfl
        have hne48 : e.head? ≠ some 48 := fun h4 => by
          have := h3 (hhd.trans h4)
          have hl : 1 ≤ e.length := by cases e with
            | nil => exact absurd rfl h0
            | cons => simp
          rw [List.length_append, List.length_singleton] at this
          omega
        have hpos := valD_pos (fun x hx => h2 x (List.mem_append.2 (.inl hx))) h0 hne48
        have hih := ih e (by simp at h; omega) ⟨h0, fun x hx => h2 x (List.mem_append.2 (.inl hx)), fun h4 => absurd h4 hne48⟩
        have hdiv : (valF 0 e * 10 + (c.toNat - 48)) / 10 = valD e := by show _ = valF 0 e; omega
        have hmod : (valF 0 e * 10 + (c.toNat - 48)) % 10 = c.toNat - 48 := by omega
        rw [decDigits_big (by show ¬ valF 0 e * 10 + (c.toNat - 48) < 10; have : 0 < valF 0 e := hpos; omega), hdiv, hmod, hih, digit_eq hc]
theorem itoa_neg {v : Int} (h : v < 0) : itoa v = 45 :: decDigits v.natAbs := by unfold itoa; rw [if_pos h]
theorem itoa_pos {v : Int} (h : ¬ v < 0) : itoa v = decDigits v.toNat := by unfold itoa; rw [if_neg h]

/-- digits are parsed -/
theorem parse_ok : ∀ (d : List UInt8) (a : Nat), (∀ c ∈ d, isDigit c = true) → valF a d < 18446744073709551616 → parseUint10 a d = .ok (valF a d)
  | [], a, _, _ => rfl
  | c :: r, a, h, hv => by
    obtain ⟨h1, h2⟩ := digit_bounds (h c List.mem_cons_self)
    rw [valF_cons] at hv ⊢
    have hge := valF_ge r (a * 10 + (c.toNat - 48))
    simp only [parseUint10]
    rw [if_pos ⟨h1, h2⟩, if_neg (by omega), if_neg (by omega)]
    exact parse_ok r _ (fun x hx => h x (List.mem_cons_of_mem _ hx)) hv
/-- a canonical numeral, by its form -/
def CanonN (l : List UInt8) (v : Int) : Prop :=
  (∃ r, l = 45 :: r ∧ canonD r ∧ r.head? ≠ some 48 ∧ valD r ≤ 9223372036854775808 ∧ v = -(valD r : Int)) ∨
  (l.head? ≠ some 45 ∧ canonD l ∧ valD l < 9223372036854775808 ∧ v = (valD l : Int))
theorem atoi_neg {r : List UInt8} {u : Nat} (h : parseMag r = .ok u) (hu : u ≤ 9223372036854775808) : atoiAll (45 :: r) = .ok (-(u : Int)) := by
  show (match parseMag (if (45 : UInt8).toNat = 43 ∨ (45 : UInt8).toNat = 45 then r else 45 :: r) with
    | NumEnd.syntax => NumEnd.syntax
    | .range => .range
    | .ok u => if ¬ ((45 : UInt8).toNat = 45) ∧ 9223372036854775808 ≤ u then .range else if (45 : UInt8).toNat = 45 ∧ 9223372036854775808 < u then .range else .ok (if (45 : UInt8).toNat = 45 then -(u : Int) else u)) = _
  rw [if_pos (.inr rfl), h]
  simp only
  rw [if_neg (by simp), if_neg (by omega), if_pos (show (45 : UInt8).toNat = 45 by decide)]
theorem canonD_head {l : List UInt8} (h : canonD l) : ∃ c r, l = c :: r ∧ isDigit c = true := by
  cases l with
  | nil => exact absurd rfl h.1
  | cons c r => exact ⟨c, r, rfl, h.2.1 c List.mem_cons_self⟩
theorem atoi_pos {l : List UInt8} {u : Nat} (hc : canonD l) (h : parseMag l = .ok u) (hu : u < 9223372036854775808) : atoiAll l = .ok (u : Int) := by
  obtain ⟨c, r, rfl, hd⟩ := canonD_head hc
  obtain ⟨h1, h2⟩ := digit_bounds hd
  show (match parseMag (if c.toNat = 43 ∨ c.toNat = 45 then r else c :: r) with
    | NumEnd.syntax => NumEnd.syntax
    | .range => .range
    | .ok u => if ¬ (c.toNat = 45) ∧ 9223372036854775808 ≤ u then .range else if c.toNat = 45 ∧ 9223372036854775808 < u then .range else .ok (if c.toNat = 45 then -(u : Int) else u)) = _
  rw [if_neg (by omega), h]
  simp only
  rw [if_neg (by omega), if_neg (by omega), if_neg (by omega)]
theorem atoi_range {l : List UInt8} {v : Int} (h : atoiAll l = .ok v) : -9223372036854775808 ≤ v ∧ v ≤ 9223372036854775807 := by
  unfold atoiAll at h
  split at h
  · cases h
  · dsimp only at h
    split at h
    · cases h
    · cases h
    · rename_i u hu
      split at h
      · cases h
      · split at h
        · cases h
        · injection h with h
          subst h
          rename_i h1 h2
          split <;> omega
theorem canon_iff {l : List UInt8} {v : Int} : canon l = some v ↔ CanonN l v := by
  constructor
  · intro h
    unfold canon at h
    split at h
    · rename_i v' ha
      split at h
      · rename_i hi
        cases h
        obtain ⟨r1, r2⟩ := atoi_range ha
        by_cases hv : v < 0
        · obtain ⟨k1, k2, k3⟩ := decDigits_spec _ v.natAbs (Nat.le_refl _)
          left
          refine ⟨decDigits v.natAbs, ?_, k1, k3 (by omega), by omega, by omega⟩
          rw [← hi, itoa_neg hv]
        · obtain ⟨k1, k2, k3⟩ := decDigits_spec _ v.toNat (Nat.le_refl _)
          right
          rw [itoa_pos hv] at hi
          subst hi
          refine ⟨?_, k1, by omega, by omega⟩
          obtain ⟨c, r, e, hd⟩ := canonD_head k1
          rw [e, List.head?_cons]
          intro h45
          cases h45
          revert hd; decide
      · cases h
    · cases h
  · rintro (⟨r, rfl, hc, h48, hv, rfl⟩ | ⟨h45, hc, hv, rfl⟩)
    · have hp : parseMag r = .ok (valD r) := by unfold parseMag; rw [if_neg hc.1]; exact parse_ok r 0 hc.2.1 (by show valD r < _; omega)
      have hpos := valD_pos hc.2.1 hc.1 h48
      unfold canon
      rw [atoi_neg hp hv]
      simp only
      have hd := decDigits_val _ r (Nat.le_refl _) hc
      rw [itoa_neg (by omega), show (-(valD r : Int)).natAbs = valD r by omega, hd, if_pos rfl]
    · have hp : parseMag l = .ok (valD l) := by unfold parseMag; rw [if_neg hc.1]; exact parse_ok l 0 hc.2.1 (by show valD l < _; omega)
      unfold canon
      rw [atoi_pos hc hp hv]
      simp only
      have hd := decDigits_val _ l (Nat.le_refl _) hc
      rw [itoa_pos (by omega), show ((valD l : Int)).toNat = valD l by omega, hd, if_pos rfl]
end Go.Lx
end

/- part Y3L -/
section
namespace Go.Proofs.YtahagnfdpemmaaaDoor.Va
open Go.Vx Go.Av Go.Lx Go.RowKit

/-- the bulk that a law reads is at most this -/
abbrev big : Nat := 1099511627776

theorem rletter_spec (c : UInt8) : PCalls ax 71 [.int .u8 (c.toNat : Int)] fun r => r = [.bool (isLetter c)] := by
  refine rletter.calls (K := fun r => r = [.bool (isLetter c)]) ?_
  unfold rletter.W
  have he : (((c.toNat : Int) == 95) = decide (c.toNat = 95)) := by rw [Bool.eq_iff_iff]; simp; omega
  have hw : isLetter c = ((decide (97 ≤ c.toNat) && decide (c.toNat ≤ 122)) || ((decide (65 ≤ c.toNat) && decide (c.toNat ≤ 90)) || decide (c.toNat = 95))) := rfl
  rw [he, hw]
  refine ifD (fun h1 => ifD (fun h2 => ?_) (fun h2 => ifD (fun h3 => ifD (fun h4 => ?_) (fun h4 => ?_)) (fun h3 => ?_))) (fun h1 => ifD (fun h3 => ifD (fun h4 => ?_) (fun h4 => ?_)) (fun h3 => ?_))
  all_goals
    simp only [List.cons.injEq, V.bool.injEq, and_true]
    rw [Bool.eq_iff_iff]
    simp only [Bool.or_eq_true, Bool.and_eq_true, decide_eq_true_eq, true_iff]
    omega
theorem rdigit_spec (c : UInt8) : PCalls ax 72 [.int .u8 (c.toNat : Int)] fun r => r = [.bool (isDigit c)] := by
  refine rdigit.calls (K := fun r => r = [.bool (isDigit c)]) ?_
  unfold rdigit.W
  refine ifD (fun h => ?_) (fun h => ?_)
  · have : 48 ≤ c.toNat := by omega
    simp [isDigit, this]; omega
  · have : ¬ 48 ≤ c.toNat := by omega
    simp [isDigit, this]
theorem wadd {a b : Nat} (h : a + b ≤ 9223372036854775807) : IntKind.i64.wrap ((a : Int) + (b : Int)) = ((a + b : Nat) : Int) := by rw [w64 (by omega) (by omega)]; push_cast; rfl
theorem wadd1 {a : Nat} (h : a + 1 ≤ 9223372036854775807) : IntKind.i64.wrap ((a : Int) + 1) = ((a + 1 : Nat) : Int) := by rw [w64 (by omega) (by omega)]; push_cast; rfl
theorem get_lt {l : List UInt8} {i : Nat} (h : i < l.length) : ∃ c, l[i]? = some c ∧ (bs l)[((i : Nat) : Int).toNat]? = some c := ⟨l[i], List.getElem?_eq_getElem h, by rw [Int.toNat_natCast, bs_get, List.getElem?_eq_getElem h]⟩
theorem ext_take (l : List UInt8) (a n : Nat) : (bs l).extract ((a : Int)).toNat (((a + n : Nat) : Int)).toNat = bs ((l.drop a).take n) := by
  rw [Int.toNat_natCast, Int.toNat_natCast, bs_extract]; congr 2; omega
theorem encTs_snoc (a : List Tok) (t : Tok) : encTs a ++ [[.int .i64 t.k, .str (bs t.t), .int .i64 t.n]] = encTs (a ++ [t]) := by simp [encTs, encT]
end Go.Proofs.YtahagnfdpemmaaaDoor.Va
namespace Go.Lx
/-- the overflow's test of the reference -/
theorem over_iff {n x : Nat} (hx : x ≤ 9) : (-(n : Int) < Int.tdiv (-9223372036854775808 + (x : Int)) 10) ↔ 9223372036854775808 < n * 10 + x := by
  have h : Int.tdiv (-9223372036854775808 + (x : Int)) 10 = -(((9223372036854775808 - x) / 10 : Nat) : Int) := by
    have e : (-9223372036854775808 + (x : Int)) = -((9223372036854775808 - x : Nat) : Int) := by omega
    rw [e, Int.neg_tdiv]
    rfl
  rw [h]
  omega
theorem valD_lt : ∀ (d : List UInt8), (∀ c ∈ d, isDigit c = true) → d.head? ≠ some 48 → d ≠ [] → 10 ^ (d.length - 1) ≤ valD d := by
  intro d
  induction h : d.length generalizing d with
  | zero => intro _ _ hne; exact absurd (List.eq_nil_of_length_eq_zero h) hne
  | succ n ih =>
    intro hd h48 hne
    rcases List.eq_nil_or_concat d with e | ⟨e, c, he⟩
    · exact absurd e hne
    · have he : d = e ++ [c] := by rw [he]; simp
      subst he
      have hl : e.length = n := by simpa using h
      by_cases h0 : e = []
      · subst h0
        have := valD_pos hd (by simp) h48
        simp at hl
        subst hl
        exact this
      · have hhd : (e ++ [c]).head? = e.head? := by cases e with
          | nil => exact absurd rfl h0
          | cons => rfl
        have := ih e hl (fun x hx => hd x (List.mem_append.2 (.inl hx))) (fun h => h48 (hhd.trans h)) h0
        have hn : 1 ≤ n := by rw [← hl]; cases e with
          | nil => exact absurd rfl h0
          | cons => simp
        show 10 ^ (n + 1 - 1) ≤ valF 0 (e ++ [c])
        rw [valF_snoc]
        have hp : 10 ^ (n + 1 - 1) = 10 ^ (n - 1) * 10 := by rw [← Nat.pow_succ]; congr 1; omega
        have : 10 ^ (n - 1) ≤ valF 0 e := this
        omega
theorem valD_take_le {d : List UInt8} (i : Nat) : valD (d.take i) ≤ valD d := by
  conv => rhs; rw [← List.take_append_drop i d, valD, valF_append]
  exact valF_ge _ _
theorem valD_take_succ {d : List UInt8} {i : Nat} {c : UInt8} (h : d[i]? = some c) : valD (d.take (i + 1)) = valD (d.take i) * 10 + (c.toNat - 48) := by
  rw [List.take_add_one, h]
  exact valF_snoc _ _ _
end Go.Lx
namespace Go.Proofs.YtahagnfdpemmaaaDoor.Va
open Go.Vx Go.Av Go.Lx Go.RowKit

theorem RInt_spec (w : List UInt8) (hl : w.length ≤ big) : PCalls ax 73 [.str (bs w)] fun r => ∃ v, r = [.int .i64 v, .bool (canon w).isSome] ∧ ∀ u, canon w = some u → v = u := by
  have hb : big = 1099511627776 := rfl
  have bad : canon w = none → (∃ v, [V.int .i64 0, .bool false] = [.int .i64 v, .bool (canon w).isSome] ∧ ∀ u, canon w = some u → v = u) := fun h => ⟨0, by rw [h]; rfl, fun u hu => by rw [h] at hu; cases hu⟩
  have bad' : (∀ v, ¬ CanonN w v) → (∃ v, [V.int .i64 0, .bool false] = [.int .i64 v, .bool (canon w).isSome] ∧ ∀ u, canon w = some u → v = u) := fun h => bad (by
    cases hc : canon w with
    | none => rfl
    | some v => exact absurd (canon_iff.1 hc) (h v))
  have good : ∀ v, CanonN w v → (∃ v', [V.int .i64 v, .bool true] = [.int .i64 v', .bool (canon w).isSome] ∧ ∀ u, canon w = some u → v' = u) := fun v h => by
    have := canon_iff.2 h
    exact ⟨v, by rw [this]; rfl, fun u hu => by rw [this] at hu; exact Option.some.inj hu⟩
  refine RInt.calls (K := fun r => ∃ v, r = [.int .i64 v, .bool (canon w).isSome] ∧ ∀ u, canon w = some u → v = u) ?_
  unfold RInt.W
  simp only [bs_size]
  -- the digits
  refine ⟨fun us => ∃ d, us = [.str (bs d)] ∧ ((w.head? = some 45 ∧ w = 45 :: d) ∨ (w.head? ≠ some 45 ∧ w = d)), ?_, ?_⟩
  · refine ifD (fun h => ?_) (fun h => ?_)
    · obtain ⟨c, hc, hg⟩ := get_lt (l := w) (i := 0) (by omega)
      have hw : w = c :: w.drop 1 := by
        cases w with
        | nil => simp at hc
        | cons x r => simp at hc; subst hc; rfl
      refine ⟨by omega, c, hg, ifE (fun h45 => ?_) (fun h45 => ?_)⟩
      · have hce : c = 45 := UInt8.toNat_inj.1 (by show c.toNat = 45; omega)
        have hx : (bs w).extract 1 w.length = bs (w.drop 1) := by
          rw [bs_extract]; congr 1
          exact List.take_of_length_le (by rw [List.length_drop]; omega)
        rw [hx]
        refine ⟨by omega, by omega, w.drop 1, rfl, .inl ⟨?_, ?_⟩⟩
        · rw [hw, hce]; rfl
        · conv => lhs; rw [hw, hce]
      · refine ⟨w, rfl, .inr ⟨?_, rfl⟩⟩
        rw [hw]
        intro h
        simp only [List.head?_cons, Option.some.injEq] at h
        rw [h] at h45; exact h45 rfl
    · have : w = [] := List.eq_nil_of_length_eq_zero (by omega)
      exact ⟨w, rfl, .inr ⟨by rw [this]; simp, rfl⟩⟩
  · rintro s ⟨d, e, hw⟩
    cases e
    simp only [bs_size]
    -- what a canonical numeral asks of the digits
    have asks : ∀ v, CanonN w v → canonD d ∧ valD d ≤ 9223372036854775808 ∧ (w.head? = some 45 → d.head? ≠ some 48 ∧ v = -(valD d : Int)) ∧ (w.head? ≠ some 45 → valD d < 9223372036854775808 ∧ v = (valD d : Int)) := by
      intro v hv
      rcases hv with ⟨r, e1, e2, e3, e4, e5⟩ | ⟨e1, e2, e3, e4⟩
      · rcases hw with ⟨h1, h2⟩ | ⟨h1, h2⟩
        · rw [e1] at h2
          obtain rfl : r = d := by simpa using h2
          exact ⟨e2, e4, fun _ => ⟨e3, e5⟩, fun h => absurd h1 h⟩
        · rw [e1] at h1; exact absurd rfl h1
      · rcases hw with ⟨h1, h2⟩ | ⟨h1, h2⟩
        · exact absurd h1 e1
        · subst h2
          exact ⟨e2, by omega, fun h => absurd h h1, fun _ => ⟨e3, e4⟩⟩
    have hdw : d.length ≤ w.length := by
      rcases hw with ⟨_, h2⟩ | ⟨_, h2⟩ <;> rw [h2] <;> simp
    refine ⟨fun _ => d ≠ [] ∧ d.length ≤ 19 ∧ (d.head? = some 48 → w.length ≤ 1), ?_, ?_⟩
    · refine ifE (fun h0 => ?_) (fun h0 => ifD (fun h19 => ?_) (fun h19 => ?_))
      · exact bad' fun v hv => (asks v hv).1.1 (List.eq_nil_of_length_eq_zero (by omega))
      · refine bad' fun v hv => ?_
        obtain ⟨k1, k2, _, _⟩ := asks v hv
        have h48 : d.head? ≠ some 48 := fun h => by have := k1.2.2 h; omega
        have h1 := valD_lt d k1.2.1 h48 k1.1
        have h2 : 10 ^ 19 ≤ 10 ^ (d.length - 1) := Nat.pow_le_pow_right (by omega) (by omega)
        have h3 : (10 : Nat) ^ 19 = 10000000000000000000 := by decide
        omega
      · obtain ⟨c, hc, hg⟩ := get_lt (l := d) (i := 0) (by omega)
        have hhd : d.head? = some c := by rw [List.head?_eq_getElem?]; exact hc
        have hne : d ≠ [] := fun h => by rw [h] at hc; simp at hc
        refine ⟨by omega, c, hg, ifE (fun h48 => ifD (fun h1 => ?_) (fun h1 => ?_)) (fun h48 => ?_)⟩
        · have hce : c = 48 := UInt8.toNat_inj.1 (by show c.toNat = 48; omega)
          refine bad' fun v hv => ?_
          obtain ⟨k1, _, k3, _⟩ := asks v hv
          rw [hce] at hhd
          have hl1 := k1.2.2 hhd
          rcases hw with ⟨e1, e2⟩ | ⟨e1, e2⟩
          · exact (k3 e1).1 hhd
          · rw [e2] at h1; omega
        · exact ⟨hne, by omega, fun _ => by omega⟩
        · refine ⟨hne, by omega, fun h => ?_⟩
          rw [hhd] at h
          have := Option.some.inj h
          rw [this] at h48; exact absurd rfl h48
    · rintro ⟨hne, h19, h48⟩
      refine ⟨fun us => ∃ i : Nat, i ≤ d.length ∧ us = [.int .i64 (-(valD (d.take i) : Int)), .int .i64 i] ∧ (∀ c ∈ d.take i, isDigit c = true) ∧ valD (d.take i) ≤ 9223372036854775808, fun us => match us with | [_, .int _ i] => d.length - i.toNat | _ => 0, ⟨0, Nat.zero_le _, rfl, fun c hc => by simp at hc, by simp [valF]⟩, ?_⟩
      rintro n31 n32 ⟨i, hi, e, hdig, hval⟩
      cases e
      refine ifD (fun hlt => ?_) (fun hge => ?_)
      · obtain ⟨c, hc, hg⟩ := get_lt (l := d) (i := i) (by omega)
        have hm := List.mem_of_getElem? hc
        have notdig : isDigit c = false → ∀ v, ¬ CanonN w v := fun h v hv => by rw [(asks v hv).1.2.1 c hm] at h; cases h
        refine ⟨by omega, c, hg, by omega, c, hg, ifD (fun h1 => ?_) (fun h1 => ⟨by omega, c, hg, ifD (fun h2 => ?_) (fun h2 => ?_)⟩)⟩
        · refine bad' (notdig ?_)
          have : ¬ 48 ≤ c.toNat := by omega
          simp [isDigit, this]
        · refine bad' (notdig ?_)
          have : ¬ c.toNat ≤ 57 := by omega
          simp [isDigit, this]
        · have hx : IntKind.i64.wrap (IntKind.u8.wrap ((c.toNat : Int) - 48)) = ((c.toNat - 48 : Nat) : Int) := by
            have : IntKind.u8.wrap ((c.toNat : Int) - 48) = ((c.toNat - 48 : Nat) : Int) := by
              rw [Go.Vx.w8 (by omega) (by omega)]; omega
            rw [this, w64 (by omega) (by omega)]
          rw [hx, w64 (x := -9223372036854775808 + ((c.toNat - 48 : Nat) : Int)) (by omega) (by omega)]
          have hov := over_iff (n := valD (d.take i)) (x := c.toNat - 48) (by omega)
          have hq : IntKind.i64.wrap (Int.tdiv (-9223372036854775808 + ((c.toNat - 48 : Nat) : Int)) 10) = Int.tdiv (-9223372036854775808 + ((c.toNat - 48 : Nat) : Int)) 10 := by
            have e : (-9223372036854775808 + ((c.toNat - 48 : Nat) : Int)) = -((9223372036854775808 - (c.toNat - 48) : Nat) : Int) := by omega
            rw [e, Int.neg_tdiv]
            have : Int.tdiv ((9223372036854775808 - (c.toNat - 48) : Nat) : Int) 10 = (((9223372036854775808 - (c.toNat - 48)) / 10 : Nat) : Int) := rfl
            rw [this]
            exact w64 (by omega) (by omega)
          rw [hq]
          have hts := valD_take_succ hc
          have hdc : isDigit c = true := digit_of (by omega) (by omega)
          refine ⟨trivial, by decide, ifD (fun h3 => ?_) (fun h3 => ?_)⟩
          · refine bad' fun v hv => ?_
            have := (asks v hv).2.1
            have hle := valD_take_le (d := d) (i + 1)
            have := hov.1 h3
            omega
          · have h4 : ¬ 9223372036854775808 < valD (d.take i) * 10 + (c.toNat - 48) := fun h => h3 (hov.2 h)
            rw [w64 (x := 10 * -(valD (d.take i) : Int)) (by omega) (by omega), w64 (x := 10 * -(valD (d.take i) : Int) - ((c.toNat - 48 : Nat) : Int)) (by omega) (by omega), wadd1 (by omega)]
            refine ⟨⟨i + 1, by omega, ?_, ?_, by omega⟩, by simp only [Int.toNat_natCast]; omega⟩
            · rw [hts]; congr 2; omega
            · intro x hx
              rw [List.take_add_one, hc] at hx
              rcases List.mem_append.1 hx with h | h
              · exact hdig x h
              · simp at h; subst h; exact hdc
      · have hfull : d.take i = d := List.take_of_length_le (by omega)
        rw [hfull] at hdig hval ⊢
        obtain ⟨c, hc, hg⟩ := get_lt (l := w) (i := 0) (by
          have : 0 < d.length := List.length_pos_iff.2 hne
          omega)
        have hhd : w.head? = some c := by rw [List.head?_eq_getElem?]; exact hc
        have hcan : canonD d := ⟨hne, hdig, fun h => by
          have h1 := h48 h
          have : 0 < d.length := List.length_pos_iff.2 hne
          omega⟩
        refine ⟨by omega, c, hg, ifE (fun h45 => ?_) (fun h45 => ?_)⟩
        · have hce : c = 45 := UInt8.toNat_inj.1 (by show c.toNat = 45; omega)
          rw [hce] at hhd
          rcases hw with ⟨e1, e2⟩ | ⟨e1, e2⟩
          · refine good _ (.inl ⟨d, e2, hcan, fun h => ?_, hval, rfl⟩)
            have h1 := h48 h
            have : 0 < d.length := List.length_pos_iff.2 hne
            rw [e2, List.length_cons] at h1; omega
          · exact absurd hhd e1
        · have hne45 : w.head? ≠ some 45 := fun h => by
            rw [hhd] at h
            have := Option.some.inj h
            rw [this] at h45; exact h45 rfl
          rcases hw with ⟨e1, e2⟩ | ⟨e1, e2⟩
          · exact absurd e1 hne45
          · subst e2
            refine ifE (fun hmin => ?_) (fun hmin => ?_)
            · refine bad' fun v hv => ?_
              have := ((asks v hv).2.2.2 hne45).1
              omega
            · rw [w64 (by omega) (by omega)]
              refine good _ (.inr ⟨hne45, hcan, by omega, by omega⟩)

theorem inner_letter {c : UInt8} (h : isDigit c = false) : isInner c = isLetter c := by simp [isInner, isLetter, h]
theorem inner_or (c : UInt8) : isInner c = (isLetter c || isDigit c) := by simp [isInner, isLetter]
theorem span_stop {p : UInt8 → Bool} : ∀ {l : List UInt8} {c : UInt8}, l[span p l]? = some c → p c = false
  | [], c, h => by simp at h
  | d :: r, c, h => by
    rw [span_cons] at h
    by_cases hd : p d = true
    · rw [if_pos hd, Nat.add_comm] at h
      exact span_stop (by simpa using h)
    · rw [if_neg hd] at h
      simp at h
      subst h
      simpa using hd
/-- the token that begins at a place, and whether it is one -/
theorem RWord_spec (l : List UInt8) (hl : l.length ≤ big) (i : Nat) (hi : i < l.length) : PCalls ax 70 [.str (bs l), .int .i64 i] fun r => ∃ t, r = [.agg (encT t), .bool (tokL (l.drop i)).2] ∧ ((tokL (l.drop i)).2 = true → t = (tokL (l.drop i)).1) := by
  have hb : big = 1099511627776 := rfl
  obtain ⟨c, hc, hg⟩ := get_lt (l := l) (i := i) hi
  have hd : l.drop i = c :: l.drop (i + 1) := by
    rw [List.drop_eq_getElem_cons hi]; congr 1
    exact Option.some.inj ((List.getElem?_eq_getElem hi).symm.trans hc)
  refine RWord.calls (K := fun r => ∃ t, r = [.agg (encT t), .bool (tokL (l.drop i)).2] ∧ ((tokL (l.drop i)).2 = true → t = (tokL (l.drop i)).1)) ?_
  unfold RWord.W
  rw [bs_size]
  have fin : ∀ (t : Tok), (tokL (l.drop i)) = (t, true) → ∃ t', [V.agg (encT t), .bool true] = [.agg (encT t'), .bool (tokL (l.drop i)).2] ∧ ((tokL (l.drop i)).2 = true → t' = (tokL (l.drop i)).1) := fun t h => ⟨t, by rw [h], fun _ => by rw [h]⟩
  have fin2 : ∀ (t : Tok), (tokL (l.drop i)).2 = false → ∃ t', [V.agg (encT t), .bool false] = [.agg (encT t'), .bool (tokL (l.drop i)).2] ∧ ((tokL (l.drop i)).2 = true → t' = (tokL (l.drop i)).1) := fun t h => ⟨t, by rw [h], fun h' => by rw [h] at h'; cases h'⟩
  refine ⟨by omega, c, hg, (rletter_spec c).mono fun r hr => ⟨_, hr, ifB (fun hlt => ?_) (fun hlf => ?_)⟩⟩
  · have htk := tokL_letter (r := l.drop (i + 1)) hlt
    rw [← hd] at htk
    refine ⟨fun us => us = [.int .i64 ((i + span isInner (l.drop i) : Nat) : Int)], ?_, ?_⟩
    · refine ⟨fun us => ∃ j : Nat, i ≤ j ∧ j ≤ l.length ∧ us = [.int .i64 j] ∧ i + span isInner (l.drop i) = j + span isInner (l.drop j), fun us => match us with | .int _ j :: _ => l.length - j.toNat | _ => 0, ⟨i, Nat.le_refl _, by omega, rfl, rfl⟩, ?_⟩
      rintro n ⟨j, h1, h2, e, h3⟩
      cases e
      have fin0 : span isInner (l.drop j) = 0 → [V.int .i64 ((j : Nat) : Int)] = [.int .i64 ((i + span isInner (l.drop i) : Nat) : Int)] := fun h => by rw [h3, h]; rfl
      refine ifD (fun hlt2 => ?_) (fun hge => fin0 (span_end (by omega)))
      obtain ⟨x, hx, hgx⟩ := get_lt (l := l) (i := j) (by omega)
      have step : isInner x = true → (∃ j' : Nat, i ≤ j' ∧ j' ≤ l.length ∧ [V.int .i64 (IntKind.i64.wrap ((j : Int) + 1))] = [.int .i64 j'] ∧ i + span isInner (l.drop i) = j' + span isInner (l.drop j')) ∧ (match [V.int .i64 (IntKind.i64.wrap ((j : Int) + 1))] with | .int _ j :: _ => l.length - j.toNat | _ => 0) < l.length - ((j : Int)).toNat := fun h => by
        rw [span_drop hx, if_pos h] at h3
        rw [wadd1 (by omega)]
        exact ⟨⟨j + 1, by omega, by omega, rfl, by omega⟩, by simp only [Int.toNat_natCast]; omega⟩
      refine ⟨by omega, x, hgx, (rletter_spec x).mono fun r hr => ⟨_, hr, ifB (fun h => step (by rw [inner_or, h]; rfl)) (fun h => ?_)⟩⟩
      refine ⟨by omega, x, hgx, (rdigit_spec x).mono fun r hr => ⟨_, hr, ifB (fun h2 => step (by rw [inner_or, h2]; simp)) (fun h2 => ?_)⟩⟩
      exact fin0 (by rw [span_drop hx, inner_or, h, h2]; rfl)
    · rintro n e
      cases e
      have hle := span_le isInner (l.drop i)
      rw [List.length_drop] at hle
      have hdec : decide (IntKind.i64.wrap (((i + span isInner (l.drop i) : Nat) : Int) - (i : Int)) ≤ 32) = (tokL (l.drop i)).2 := by
        rw [w64 (by omega) (by omega), htk, Bool.eq_iff_iff]; simp; omega
      rw [ext_take]
      have out : ∀ k : Int, k = (if isGreat c then 2 else 1) → ∃ t, [V.agg [.int .i64 k, .str (bs ((l.drop i).take (span isInner (l.drop i)))), .int .i64 0], .bool (decide (IntKind.i64.wrap (((i + span isInner (l.drop i) : Nat) : Int) - (i : Int)) ≤ 32))] = [.agg (encT t), .bool (tokL (l.drop i)).2] ∧ ((tokL (l.drop i)).2 = true → t = (tokL (l.drop i)).1) := fun k hk => by
        rw [hdec]
        exact ⟨⟨k, (l.drop i).take (span isInner (l.drop i)), 0⟩, rfl, fun _ => by rw [htk, hk]⟩
      have hsg : isSmall c = false → isGreat c = true := fun h => by unfold isLetter at hlt; rw [h] at hlt; simpa using hlt
      have hgs : isSmall c = true → isGreat c = false := fun h => by
        simp only [isSmall, Bool.and_eq_true, decide_eq_true_eq] at h
        rw [Bool.eq_false_iff]; intro h2
        simp only [isGreat, Bool.or_eq_true, Bool.and_eq_true, decide_eq_true_eq] at h2
        omega
      refine ifD (fun h1 => ifD (fun h2 => ?_) (fun h2 => ?_)) (fun h1 => ?_)
      · have : isSmall c = true := by simp [isSmall]; omega
        exact ⟨by omega, by omega, by omega, out 1 (by rw [hgs this]; rfl)⟩
      · have : isSmall c = false := by rw [Bool.eq_false_iff]; simp [isSmall]; omega
        exact ⟨by omega, by omega, by omega, out 2 (by rw [hsg this]; rfl)⟩
      · have : isSmall c = false := by rw [Bool.eq_false_iff]; simp [isSmall]; omega
        exact ⟨by omega, by omega, by omega, out 2 (by rw [hsg this]; rfl)⟩
  refine ⟨fun us => us = [.bool (isDigit c || decide (c.toNat = 45))], ?_, ?_⟩
  · have h45 : ((c.toNat : Int) == 45) = decide (c.toNat = 45) := by rw [Bool.eq_iff_iff]; simp; omega
    exact (rdigit_spec c).mono fun r hr => ⟨_, hr, ifB (fun h => by simp [h]) (fun h => by rw [h45]; simp [h])⟩
  rintro b hb'
  cases hb'
  refine ifB (fun hdt => ?_) (fun hdf => ?_)
  · have htk := tokL_num (r := l.drop (i + 1)) hlf hdt
    rw [← hd] at htk
    have hns : numSpan (l.drop i) = 1 + span isDigit (l.drop (i + 1)) := by
      rw [hd]; simp only [numSpan]
      by_cases h45 : c.toNat = 45
      · rw [if_pos h45]
      · have : isDigit c = true := by simpa [h45] using hdt
        rw [if_neg h45, span_cons, if_pos this]
    have hle := numSpan_le (l.drop i)
    rw [List.length_drop] at hle
    refine ⟨fun us => us = [.int .i64 ((i + numSpan (l.drop i) : Nat) : Int)], ?_, ?_⟩
    · rw [wadd1 (by omega)]
      refine ⟨fun us => ∃ j : Nat, i ≤ j ∧ j ≤ l.length ∧ us = [.int .i64 j] ∧ i + numSpan (l.drop i) = j + span isDigit (l.drop j), fun us => match us with | .int _ j :: _ => l.length - j.toNat | _ => 0, ⟨i + 1, by omega, by omega, rfl, by omega⟩, ?_⟩
      rintro n ⟨j, h1, h2, e, h3⟩
      cases e
      have fin0 : span isDigit (l.drop j) = 0 → [V.int .i64 ((j : Nat) : Int)] = [.int .i64 ((i + numSpan (l.drop i) : Nat) : Int)] := fun h => by rw [h3, h]; rfl
      refine ifD (fun hlt2 => ?_) (fun hge => fin0 (span_end (by omega)))
      obtain ⟨x, hx, hgx⟩ := get_lt (l := l) (i := j) (by omega)
      refine ⟨by omega, x, hgx, (rdigit_spec x).mono fun r hr => ⟨_, hr, ifB (fun h => ?_) (fun h => fin0 (by rw [span_drop hx, h]; rfl))⟩⟩
      rw [span_drop hx, if_pos h] at h3
      rw [wadd1 (by omega)]
      exact ⟨⟨j + 1, by omega, by omega, rfl, by omega⟩, by simp only [Int.toNat_natCast]; omega⟩
    · rintro n e
      cases e
      rw [ext_take]
      refine ⟨by omega, by omega, by omega, ?_⟩
      refine (RInt_spec ((l.drop i).take (numSpan (l.drop i))) (by rw [List.length_take]; omega)).mono fun r ⟨v, hr, hv⟩ => ⟨v, _, hr, by omega, by omega, by omega, ?_⟩
      have hN : tokL (l.drop i) = match canon ((l.drop i).take (numSpan (l.drop i))) with
        | none => (zeroT, false)
        | some v => match (l.drop i)[numSpan (l.drop i)]? with
          | none => (⟨3, (l.drop i).take (numSpan (l.drop i)), v⟩, true)
          | some c => if isInner c then (zeroT, false) else (⟨3, (l.drop i).take (numSpan (l.drop i)), v⟩, true) := by rw [htk]; rfl
      cases hcn : canon ((l.drop i).take (numSpan (l.drop i))) with
      | none =>
        rw [hcn] at hN
        exact fin2 ⟨3, (l.drop i).take (numSpan (l.drop i)), v⟩ (by rw [hN])
      | some u =>
        rw [hcn] at hN
        simp only at hN
        have huv := hv u hcn
        subst huv
        show cond true _ _
        refine ifE (fun he => ?_) (fun hne => ?_)
        · have : (l.drop i)[numSpan (l.drop i)]? = none := List.getElem?_eq_none (by rw [List.length_drop]; omega)
          rw [this] at hN
          exact fin ⟨3, (l.drop i).take (numSpan (l.drop i)), v⟩ hN
        · obtain ⟨x, hx, hgx⟩ := get_lt (l := l) (i := i + numSpan (l.drop i)) (by omega)
          have hdx : (l.drop i)[numSpan (l.drop i)]? = some x := by rw [List.getElem?_drop]; exact hx
          rw [hdx] at hN
          simp only at hN
          have hnd : isDigit x = false := by
            have e1 : numSpan (l.drop i) = 1 + span isDigit (l.drop (i + 1)) := hns
            refine span_stop (l := l.drop (i + 1)) ?_
            rw [List.getElem?_drop]
            rw [e1] at hx
            rw [← hx]; congr 1; omega
          refine ⟨by omega, x, hgx, (rletter_spec x).mono fun r hr => ⟨_, hr, ?_⟩⟩
          rw [inner_letter hnd] at hN
          cases hil : isLetter x with
          | true => rw [hil, if_pos rfl] at hN; exact fin2 ⟨3, (l.drop i).take (numSpan (l.drop i)), v⟩ (by rw [hN])
          | false => rw [hil, if_neg (by simp)] at hN; exact fin ⟨3, (l.drop i).take (numSpan (l.drop i)), v⟩ hN
  -- marks
  have hx1 : (bs l).extract ((i : Int)).toNat (((i + 1 : Nat) : Int)).toNat = bs [c] := by rw [ext_take, hd]; rfl
  refine ⟨fun _ => ¬ (c.toNat = 58 ∧ (l.drop (i + 1)).head?.map (·.toNat) = some 45), ?_, ?_⟩
  · refine ifE (fun h58 => ifD (fun hlt => ?_) (fun hge => ?_)) (fun h58 h => h58 (by omega))
    · rw [w64 (by omega) (by omega)] at hlt
      obtain ⟨x, hx, hgx⟩ := get_lt (l := l) (i := i + 1) (by omega)
      have hhd : (l.drop (i + 1)).head? = some x := by rw [List.head?_drop]; exact hx
      rw [wadd1 (by omega)]
      refine ⟨by omega, x, hgx, ifE (fun h45 => ?_) (fun h45 h => ?_)⟩
      · have htk := tokL_two (r := l.drop (i + 1)) hlf hdf ⟨by omega, by rw [hhd]; simp; omega⟩
        rw [← hd] at htk
        exact fin ⟨4, [58, 45], 0⟩ htk
      · rw [hhd] at h
        have := h.2
        simp at this
        omega
    · intro h
      rw [w64 (by omega) (by omega)] at hge
      have : l.drop (i + 1) = [] := List.drop_eq_nil_of_le (by omega)
      rw [this] at h
      simp at h
  intro hn2
  refine ⟨by decide, fun us => ∃ j : Nat, j ≤ 7 ∧ us = [.int .i64 j] ∧ ∀ k < j, marksL[k]? ≠ some c, fun us => match us with | .int _ j :: _ => 7 - j.toNat | _ => 0, ⟨0, by omega, rfl, fun k h => by omega⟩, ?_⟩
  rintro n ⟨j, hj, e, hno⟩
  cases e
  have hlen7 : (([[(.int .u8 40)], [(.int .u8 41)], [(.int .u8 44)], [(.int .u8 46)], [(.int .u8 59)], [(.int .u8 124)], [(.int .u8 61)]] : List (List V)).length : Int) = 7 := rfl
  rw [hlen7]
  have hrow : ∀ k : Nat, k < 7 → ∃ m, marksL[k]? = some m ∧ List.take 1 (Av.rowAt [[(.int .u8 40)], [(.int .u8 41)], [(.int .u8 44)], [(.int .u8 46)], [(.int .u8 59)], [(.int .u8 124)], [(.int .u8 61)]] ((k : Int)).toNat) = [.int .u8 (m.toNat : Int)]
    | 0, _ => ⟨40, rfl, rfl⟩ | 1, _ => ⟨41, rfl, rfl⟩ | 2, _ => ⟨44, rfl, rfl⟩ | 3, _ => ⟨46, rfl, rfl⟩ | 4, _ => ⟨59, rfl, rfl⟩ | 5, _ => ⟨124, rfl, rfl⟩ | 6, _ => ⟨61, rfl, rfl⟩
    | k + 7, h => by omega
  refine ifD (fun hlt => ?_) (fun hge => ?_)
  · obtain ⟨m, hm, hr⟩ := hrow j (by omega)
    refine ⟨by omega, hlt, (m.toNat : Int), hr, ifE (fun he => ?_) (fun hne => ?_)⟩
    · have hmc : m = c := UInt8.toNat_inj.1 (by omega)
      subst hmc
      have htk := tokL_mark (r := l.drop (i + 1)) hlf hdf hn2 (List.mem_of_getElem? hm)
      rw [← hd] at htk
      rw [wadd1 (by omega), hx1]
      exact ⟨by omega, by omega, by omega, fin ⟨4, [m], 0⟩ htk⟩
    · rw [wadd1 (by omega)]
      refine ⟨⟨j + 1, by omega, rfl, fun k hk => ?_⟩, by simp only [Int.toNat_natCast]; omega⟩
      rcases Nat.lt_or_ge k j with h | h
      · exact hno k h
      · have : k = j := by omega
        subst this
        rw [hm]
        intro h2
        exact hne (by rw [Option.some.inj h2])
  · have hnm : c ∉ marksL := fun hm => by
      obtain ⟨k, hk, hk2⟩ := List.getElem_of_mem hm
      have hk7 : k < 7 := hk
      exact hno k (by omega) (by rw [List.getElem?_eq_getElem hk, hk2])
    have htk := tokL_none (r := l.drop (i + 1)) hlf hdf hn2 hnm
    rw [← hd] at htk
    exact fin2 zeroT (by rw [htk])
theorem RAll_spec (l : List UInt8) (hl : l.length ≤ big) : PCalls ax 63 [.str (bs l)] fun r => ∃ P : List (List V), r = [.sl 1 P, .sl 3 (encTs (allL l).1), .bool (allL l).2] := by
  have hb : big = 1099511627776 := rfl
  refine RAll.calls (K := fun r => ∃ P : List (List V), r = [.sl 1 P, .sl 3 (encTs (allL l).1), .bool (allL l).2]) ?_
  unfold RAll.W
  rw [bs_size]
  refine ⟨fun us => ∃ (P : List (List V)) (acc : List Tok) (b : Bool) (a : Nat), us = [.sl 1 P, .sl 3 (encTs acc), .bool b, .int .i64 a] ∧ a ≤ l.length ∧ P.length ≤ a ∧ acc.length ≤ a ∧ allL l = (acc ++ (allL ((l.drop a).drop (skipC b (l.drop a)))).1, (allL ((l.drop a).drop (skipC b (l.drop a)))).2),
    fun us => match us with | [_, _, _, .int _ a] => l.length - a.toNat | _ => 0, ⟨[], [], false, 0, rfl, Nat.zero_le _, Nat.zero_le _, Nat.zero_le _, by rw [List.drop_zero, allL_drop]; rfl⟩, ?_⟩
  rintro P l39 b n41 ⟨P', acc, b', a, e, ha, hP, hacc, hall⟩
  cases e
  refine ifD (fun hlt => ?_) (fun hge => ?_)
  · obtain ⟨c, hc, hg⟩ := get_lt (l := l) (i := a) (by omega)
    have hd : l.drop a = c :: l.drop (a + 1) := by
      rw [List.drop_eq_getElem_cons (by omega)]; congr 1
      exact Option.some.inj ((List.getElem?_eq_getElem (by omega)).symm.trans hc)
    have hat := fun b => skipC_at hc b
    refine ⟨by omega, c, hg, ?_⟩
    rw [wadd1 (by omega)]
    -- a step over one byte that is no token's
    have step : ∀ b', skipC b (l.drop a) = 1 + skipC b' (l.drop (a + 1)) → (∃ (P' : List (List V)) (acc' : List Tok) (b2 : Bool) (a' : Nat), [V.sl 1 P, .sl 3 (encTs acc), .bool b', .int .i64 ((a + 1 : Nat) : Int)] = [.sl 1 P', .sl 3 (encTs acc'), .bool b2, .int .i64 a'] ∧ a' ≤ l.length ∧ P'.length ≤ a' ∧ acc'.length ≤ a' ∧ allL l = (acc' ++ (allL ((l.drop a').drop (skipC b2 (l.drop a')))).1, (allL ((l.drop a').drop (skipC b2 (l.drop a')))).2)) ∧ l.length - (((a + 1 : Nat) : Int)).toNat < l.length - ((a : Int)).toNat := fun b' h => by
      refine ⟨⟨P, acc, b', a + 1, rfl, by omega, by omega, by omega, ?_⟩, by simp only [Int.toNat_natCast]; omega⟩
      rw [hall, h, hd]
      rw [show (1 + skipC b' (l.drop (a + 1))) = skipC b' (l.drop (a + 1)) + 1 by omega, List.drop_succ_cons]
    refine ifB (fun hbt => ?_) (fun hbf => ?_)
    · subst hbt
      have hne : ((c.toNat : Int) != 10) = decide (c.toNat ≠ 10) := by rw [Bool.eq_iff_iff]; simp; omega
      rw [hne]
      exact step _ (hat true)
    · subst hbf
      have hatf := hat false
      simp only at hatf
      refine ⟨fun us => us = [.bool (isBlank c)], ?_, ?_⟩
      · have h32 : ((c.toNat : Int) == 32) = decide (c.toNat = 32) := by rw [Bool.eq_iff_iff]; simp; omega
        refine ifE (fun h => ?_) (fun h => ifE (fun h2 => ?_) (fun h2 => ifE (fun h3 => ?_) (fun h3 => ?_)))
        · have : c.toNat = 9 := by omega
          simp [isBlank, this]
        · have : c.toNat = 10 := by omega
          simp [isBlank, this]
        · have : c.toNat = 13 := by omega
          simp [isBlank, this]
        · have e1 : ¬ c.toNat = 9 := by omega
          have e2 : ¬ c.toNat = 10 := by omega
          have e3 : ¬ c.toNat = 13 := by omega
          simp [isBlank, e1, e2, e3, h32]
      rintro b' hb'
      cases hb'
      refine ifB (fun hbl => ?_) (fun hnb => ifE (fun h37 => ?_) (fun h37 => ?_))
      · rw [hbl, if_pos rfl] at hatf
        exact step false hatf
      · have hc37 : c.toNat = 37 := by omega
        rw [hnb, if_neg (by simp), if_pos hc37] at hatf
        exact step true hatf
      · have hc37 : ¬ c.toNat = 37 := by omega
        rw [hnb, if_neg (by simp), if_neg hc37] at hatf
        have hd0 : (l.drop a).drop (skipC false (l.drop a)) = c :: l.drop (a + 1) := by rw [hatf]; exact hd
        refine (RWord_spec l hl a (by omega)).mono fun r ⟨t, hr, htok⟩ => ⟨_, _, _, _, hr, ?_⟩
        rw [hatf, List.drop_zero] at hall
        refine ifN (fun hbad => ?_) (fun hok => ?_)
        · rw [hd] at hbad
          refine ⟨P, ?_⟩
          rw [hall, allL_bad hd0 hbad]; simp
        · have ht := htok hok
          have htx := tokL_text hok
          have hle := htx.2.1
          rw [List.length_drop] at hle
          rw [hd] at hok
          have hcons := allL_cons hd0 hok
          rw [← hd] at hcons
          rw [List.drop_drop] at hcons
          rw [ht, encTs_snoc, bs_size]
          generalize htl : (tokL (l.drop a)).1.t.length = m at *
          rw [wadd (by omega)]
          have inv : (∃ (P' : List (List V)) (acc' : List Tok) (b2 : Bool) (a' : Nat), [V.sl 1 (P ++ [[.int .i64 a]]), .sl 3 (encTs (acc ++ [(tokL (l.drop a)).1])), .bool false, .int .i64 ((a + m : Nat) : Int)] = [.sl 1 P', .sl 3 (encTs acc'), .bool b2, .int .i64 a'] ∧ a' ≤ l.length ∧ P'.length ≤ a' ∧ acc'.length ≤ a' ∧ allL l = (acc' ++ (allL ((l.drop a').drop (skipC b2 (l.drop a')))).1, (allL ((l.drop a').drop (skipC b2 (l.drop a')))).2)) ∧ l.length - (((a + m : Nat) : Int)).toNat < l.length - ((a : Int)).toNat := by
            refine ⟨⟨_, _, false, a + m, rfl, by omega, by simp; omega, by simp; omega, ?_⟩, by simp only [Int.toNat_natCast]; omega⟩
            rw [allL_drop, hall, hcons]; simp
          have g1 : (P.length + (0 + 1)) * 8 ≤ 140737488355328 := by omega
          have g2 : P.length + (0 + 1) ≤ 140737488355328 := by omega
          have g3 : ((encTs acc).length + (0 + 1)) * 32 ≤ 140737488355328 := by rw [encTs_length]; omega
          have g4 : (encTs acc).length + (0 + 1) ≤ 140737488355328 := by rw [encTs_length]; omega
          exact ⟨⟨⟨g1, g2, g3, g4, inv⟩, ⟨g1, g2, g3, g4, inv⟩⟩, ⟨g1, g2, g3, g4, inv⟩⟩
  · have hd : l.drop a = [] := List.drop_eq_nil_of_le (by omega)
    refine ⟨P, ?_⟩
    rw [hall, hd, List.drop_nil, allL_nil (by rfl)]; simp
theorem allL_len : ∀ (n : Nat) (l : List UInt8), l.length ≤ n → (allL l).1.length ≤ l.length ∧ ∀ t ∈ (allL l).1, t.t.length ≤ l.length := by
  intro n
  induction n with
  | zero => intro l h; have : l = [] := List.eq_nil_of_length_eq_zero (by omega); subst this; exact ⟨Nat.zero_le _, fun t ht => by simp [allL, allF] at ht⟩
  | succ n ih =>
    intro l h
    cases hd : l.drop (skipC false l) with
    | nil => rw [allL_nil hd]; exact ⟨Nat.zero_le _, fun t ht => by simp at ht⟩
    | cons c r =>
      have hl : (c :: r).length ≤ l.length := by rw [← hd, List.length_drop]; omega
      cases ht : (tokL (c :: r)).2 with
      | false => rw [allL_bad hd ht]; exact ⟨Nat.zero_le _, fun t ht => by simp at ht⟩
      | true =>
        obtain ⟨t1, t2, _⟩ := tokL_text ht
        rw [allL_cons hd ht]
        obtain ⟨i1, i2⟩ := ih ((c :: r).drop (tokL (c :: r)).1.t.length) (by rw [List.length_drop]; omega)
        rw [List.length_drop] at i1 i2
        refine ⟨by simp only [List.length_cons] at *; omega, fun t hm => ?_⟩
        rcases List.mem_cons.1 hm with rfl | hm
        · omega
        · have := i2 t hm; omega
end Go.Proofs.YtahagnfdpemmaaaDoor.Va
end

/- part U1M -/
section
namespace Go.Uni
open Go.Av

inductive Tm where
  | mk (k : Int) (s : ByteArray) (v : Int) (zs : List Tm)

namespace Tm
def kind : Tm → Int | .mk k _ _ _ => k
def name : Tm → ByteArray | .mk _ s _ _ => s
def var : Tm → Int | .mk _ _ v _ => v
def args : Tm → List Tm | .mk _ _ _ zs => zs
@[simp] theorem kind_mk (k s v zs) : kind (.mk k s v zs) = k := rfl
@[simp] theorem name_mk (k s v zs) : name (.mk k s v zs) = s := rfl
@[simp] theorem var_mk (k s v zs) : var (.mk k s v zs) = v := rfl
@[simp] theorem args_mk (k s v zs) : args (.mk k s v zs) = zs := rfl
end Tm

/-- induction on a tree, through its arguments -/
theorem Tm.ind {p : Tm → Prop} (h : ∀ k s v zs, (∀ a ∈ zs, p a) → p (.mk k s v zs)) : ∀ t, p t
  | .mk k s v zs => h k s v zs (go zs)
where go : ∀ zs : List Tm, ∀ a ∈ zs, p a
  | b :: r, a, hm => by
    rcases List.mem_cons.1 hm with e | e
    · rw [e]; exact Tm.ind h b
    · exact go r a e

mutual
def enc : Tm → List V
  | .mk k s v zs => [.int .i64 k, .str s, .int .i64 v, .sl 4 (encs zs)]
def encs : List Tm → List (List V)
  | [] => []
  | t :: r => enc t :: encs r
end
theorem encs_eq : ∀ zs, encs zs = zs.map enc
  | [] => rfl
  | t :: r => by rw [encs, encs_eq r]; rfl
@[simp] theorem encs_length (zs : List Tm) : (encs zs).length = zs.length := by rw [encs_eq]; simp
@[simp] theorem encs_append (zs bs : List Tm) : encs (zs ++ bs) = encs zs ++ encs bs := by simp [encs_eq]
theorem enc_take (t : Tm) : (enc t).take 4 = enc t := by cases t; rfl
theorem row_encs {zs : List Tm} {i : Nat} {t : Tm} (h : zs[i]? = some t) : List.take 4 (Av.rowAt (encs zs) i) = enc t := by
  rw [encs_eq, Av.rowAt, List.getD_eq_getElem?_getD, List.getElem?_map, h]
  exact enc_take t
mutual
def size : Tm → Nat
  | .mk _ _ _ zs => 1 + sizes zs
def sizes : List Tm → Nat
  | [] => 0
  | t :: r => size t + sizes r
end
theorem size_pos (t : Tm) : 1 ≤ size t := by cases t; simp only [size]; omega
theorem size_mem {a : Tm} : ∀ {zs : List Tm}, a ∈ zs → size a ≤ sizes zs
  | b :: r, h => by
    simp only [sizes]
    rcases List.mem_cons.1 h with rfl | h
    · omega
    · have := size_mem h; omega
theorem length_sizes : ∀ zs : List Tm, zs.length ≤ sizes zs
  | [] => Nat.le_refl _
  | b :: r => by have := length_sizes r; have := size_pos b; simp only [sizes, List.length_cons]; omega

mutual
/-- the nodes of a type as it is -/
def nodes : Tm → Nat
  | .mk k _ _ zs => if k = 2 then 1 + nodesL zs else 1
def nodesL : List Tm → Nat
  | [] => 0
  | t :: r => nodes t + nodesL r
end
theorem sizes_take {zs : List Tm} {i : Nat} : sizes (zs.take i) ≤ sizes zs := by
  induction zs generalizing i with
  | nil => simp
  | cons a r ih => cases i with
    | zero => simp [sizes]
    | succ i => simp only [List.take_succ_cons, sizes]; have := @ih i; omega

mutual
/-- a type with just the fields of its kind -/
def clean : Tm → Tm
  | .mk k s v zs => if k = 3 then .mk 3 s 0 [] else if k = 4 then .mk 4 ⟨#[]⟩ v [] else if k = 2 then .mk 2 s 0 (cleans zs) else .mk k ⟨#[]⟩ 0 []
def cleans : List Tm → List Tm
  | [] => []
  | t :: r => clean t :: cleans r
end
mutual
/-- is it a type of a table with so many unknowns? -/
def known (n : Nat) : Tm → Bool
  | .mk k _ v zs => if k = 1 ∨ k = 3 then true else if k = 4 then decide (0 ≤ v ∧ v < n) else if k = 2 then knowns n zs else false
def knowns (n : Nat) : List Tm → Bool
  | [] => true
  | t :: r => known n t && knowns n r
end
mutual
def hasV (x : Int) : Tm → Bool
  | .mk k _ v zs => if k = 4 then v == x else if k = 2 then hasVs x zs else false
def hasVs (x : Int) : List Tm → Bool
  | [] => false
  | t :: r => hasV x t || hasVs x r
end
mutual
/-- a type with one unknown replaced -/
def put (x : Int) (b : Tm) : Tm → Tm
  | .mk k s v zs => if k = 4 ∧ v = x then b else if k = 2 then .mk 2 s 0 (puts x b zs) else .mk k s v zs
def puts (x : Int) (b : Tm) : List Tm → List Tm
  | [] => []
  | t :: r => put x b t :: puts x b r
end
def free (v : Int) : Tm := .mk 4 ⟨#[]⟩ v []
end Go.Uni
end

/- part Z2M -/
section
namespace Go.Dr
open Go.Av Go.Lx

/-! ### reserved words -/
def wordsB : List ByteArray := [⟨#[116, 121, 112, 101]⟩, ⟨#[112, 114, 101, 100]⟩, ⟨#[109, 111, 100, 101]⟩, ⟨#[105, 115]⟩, ⟨#[100, 101, 116]⟩, ⟨#[115, 101, 109, 105, 100, 101, 116]⟩, ⟨#[109, 117, 108, 116, 105]⟩, ⟨#[110, 111, 110, 100, 101, 116]⟩, ⟨#[105, 110]⟩, ⟨#[111, 117, 116]⟩, ⟨#[116, 114, 117, 101]⟩, ⟨#[102, 97, 105, 108]⟩, ⟨#[110, 111, 116]⟩, ⟨#[116, 104, 114, 111, 119]⟩, ⟨#[116, 114, 121]⟩, ⟨#[99, 97, 116, 99, 104]⟩, ⟨#[116, 104, 101, 110]⟩, ⟨#[105, 110, 116]⟩]
/-- is a text one of these? -/
def isIn (s : ByteArray) : List ByteArray → Bool
  | [] => false
  | w :: r => bif strEq s w then true else isIn s r
theorem isIn_mem {s : ByteArray} : ∀ {l : List ByteArray}, isIn s l = true ↔ s ∈ l
  | [] => by simp [isIn]
  | w :: r => by
    have ih := isIn_mem (s := s) (l := r)
    simp only [isIn, strEq, List.mem_cons]
    by_cases h : s = w
    · simp [h]
    · simp [h, ih]
def isRes (s : List UInt8) : Bool := isIn (bs s) wordsB

/-! ### terms -/
inductive Tr where
  | mk (k : Int) (s : List UInt8) (n : Int) (zs : List Tr)
theorem Tr.ind {p : Tr → Prop} (h : ∀ k s n zs, (∀ a ∈ zs, p a) → p (.mk k s n zs)) : ∀ t, p t
  | .mk k s n zs => h k s n zs (go zs)
where go : ∀ zs : List Tr, ∀ a ∈ zs, p a
  | b :: r, a, hm => by
    rcases List.mem_cons.1 hm with e | e
    · rw [e]; exact Tr.ind h b
    · exact go r a e
mutual
def encR : Tr → List V
  | .mk k s n zs => [.int .i64 k, .str (bs s), .int .i64 n, .sl 4 (encRs zs)]
def encRs : List Tr → List (List V)
  | [] => []
  | t :: r => encR t :: encRs r
end
theorem encRs_eq : ∀ zs, encRs zs = zs.map encR
  | [] => rfl
  | t :: r => by rw [encRs, encRs_eq r]; rfl
@[simp] theorem encRs_length (zs : List Tr) : (encRs zs).length = zs.length := by rw [encRs_eq]; simp
@[simp] theorem encRs_append (a b : List Tr) : encRs (a ++ b) = encRs a ++ encRs b := by simp [encRs_eq]
theorem encR_take (t : Tr) : (encR t).take 4 = encR t := by cases t; rfl
theorem row_encRs {zs : List Tr} {i : Nat} {t : Tr} (h : zs[i]? = some t) : List.take 4 (Av.rowAt (encRs zs) i) = encR t := by
  rw [encRs_eq, Av.rowAt, List.getD_eq_getElem?_getD, List.getElem?_map, h]
  exact encR_take t

/-! ### reading: a code (0: read), what was read, the tokens behind -/
def isP (s : List UInt8) (t : Tok) : Bool := decide (t.t = s) && (decide (t.k = 4) || decide (t.k = 1))
mutual
def parT : Nat → Nat → List Tok → Int × Tr × List Tok
  | 0, _, _ => (2, .mk 0 [] 0 [], [])
  | f + 1, n, ts => if 64 < n ∧ ts ≠ [] then (3, .mk 0 [] 0 [], []) else
    match ts with
    | [] => (2, .mk 0 [] 0 [], [])
    | t :: r => if t.k = 2 then (0, .mk 1 t.t 0 [], r) else if t.k = 3 then (0, .mk 2 [] t.n [], r)
      else if t.k = 1 ∧ isRes t.t = false then
        (match r with
        | p :: r' => if isP [40] p then (match parR f (n + 1) [] r' with
            | (e, xs, q) => if e = 0 then (0, .mk 3 t.t 0 xs, q) else (e, .mk 0 [] 0 [], [])) else (0, .mk 3 t.t 0 [], p :: r')
        | [] => (0, .mk 3 t.t 0 [], []))
      else (2, .mk 0 [] 0 [], [])
def parR : Nat → Nat → List Tr → List Tok → Int × List Tr × List Tok
  | 0, _, _, _ => (2, [], [])
  | f + 1, n, acc, ts => if acc.length = 8 ∧ ts ≠ [] then (4, [], []) else
    match parT f n ts with
    | (e, x, r) => if e = 0 then (match r with
        | p :: r' => if isP [41] p then (0, acc ++ [x], r') else if isP [44] p then parR f n (acc ++ [x]) r' else (2, [], [])
        | [] => (2, [], [])) else (e, [], [])
end
end Go.Dr
end

/- part Z2U -/
section
namespace Go.Dr
open Go.Av Go.Lx

inductive Dt where
  | mk (c : Bool) (n : Int) (s : List UInt8) (zs : List Dt)
mutual
def encD : Dt → List V
  | .mk c n s zs => [.bool c, .int .i64 n, .str (bs s), .sl 4 (encDs zs)]
def encDs : List Dt → List (List V)
  | [] => []
  | t :: r => encD t :: encDs r
end
theorem encDs_eq : ∀ zs, encDs zs = zs.map encD
  | [] => rfl
  | t :: r => by rw [encDs, encDs_eq r]; rfl
@[simp] theorem encDs_length (zs : List Dt) : (encDs zs).length = zs.length := by rw [encDs_eq]; simp
@[simp] theorem encDs_append (a b : List Dt) : encDs (a ++ b) = encDs a ++ encDs b := by simp [encDs_eq]
def zeroD : Dt := .mk false 0 [] []

/-! ### terms that were read: their kinds, how deep, how wide -/
mutual
def okTr : Nat → Tr → Prop
  | d, .mk k _ n zs => (k = 1 ∨ k = 2 ∨ k = 3) ∧ zs.length ≤ 8 ∧ (zs ≠ [] → 0 < d) ∧ okTrs (d - 1) zs ∧ (k ≠ 3 → zs = []) ∧ (-9223372036854775808 ≤ n ∧ n ≤ 9223372036854775807)
def okTrs : Nat → List Tr → Prop
  | _, [] => True
  | d, t :: r => okTr d t ∧ okTrs d r
end
/-! a term as data; none: it has a variable -/
mutual
def ofT : Tr → Option Dt
  | .mk k s n zs => if k = 1 then none else if k = 2 then some (.mk false n [] []) else (ofTs zs).map fun l => .mk true 0 s l
def ofTs : List Tr → Option (List Dt)
  | [] => some []
  | t :: r => match ofT t with
    | some d => (ofTs r).map fun l => d :: l
    | none => none
end
end Go.Dr
end

/- part Y2M -/
section
namespace Go.Dm
open Go.Av Go.Lx Go.Dr Go.Uni

/-! ### types in declarations -/
inductive Te where
  | mk (b : Bool) (s : ByteArray) (zs : List Te)
theorem Te.ind {p : Te → Prop} (h : ∀ b s zs, (∀ a ∈ zs, p a) → p (.mk b s zs)) : ∀ t, p t
  | .mk b s zs => h b s zs (go zs)
where go : ∀ zs : List Te, ∀ a ∈ zs, p a
  | b :: r, a, hm => by
    rcases List.mem_cons.1 hm with e | e
    · rw [e]; exact Te.ind h b
    · exact go r a e
mutual
def encE : Te → List V
  | .mk b s zs => [.bool b, .str s, .sl 3 (encEs zs)]
def encEs : List Te → List (List V)
  | [] => []
  | t :: r => encE t :: encEs r
end
theorem encEs_eq : ∀ zs, encEs zs = zs.map encE
  | [] => rfl
  | t :: r => by rw [encEs, encEs_eq r]; rfl
@[simp] theorem encEs_length (zs : List Te) : (encEs zs).length = zs.length := by rw [encEs_eq]; simp
@[simp] theorem encEs_append (a b : List Te) : encEs (a ++ b) = encEs a ++ encEs b := by simp [encEs_eq]
theorem encE_take (t : Te) : (encE t).take 3 = encE t := by cases t; rfl
theorem row_encEs {zs : List Te} {i : Nat} {t : Te} (h : zs[i]? = some t) : List.take 3 (Av.rowAt (encEs zs) i) = encE t := by
  rw [encEs_eq, Av.rowAt, List.getD_eq_getElem?_getD, List.getElem?_map, h]
  exact encE_take t
mutual
def wideE (c : Nat) : Te → Prop
  | .mk _ _ zs => zs.length ≤ c ∧ wideEs c zs
def wideEs (c : Nat) : List Te → Prop
  | [] => True
  | t :: r => wideE c t ∧ wideEs c r
end
theorem wideEs_iff {c : Nat} : ∀ zs, wideEs c zs ↔ ∀ z ∈ zs, wideE c z
  | [] => by simp [wideEs]
  | t :: r => by simp [wideEs, wideEs_iff r]
theorem te_cases (t : Te) : ∃ b s zs, t = .mk b s zs := by cases t; exact ⟨_, _, _, rfl⟩

/-! ### terms -/
mutual
def wideR (c : Nat) : Tr → Prop
  | .mk _ _ _ zs => zs.length ≤ c ∧ wideRs c zs
def wideRs (c : Nat) : List Tr → Prop
  | [] => True
  | t :: r => wideR c t ∧ wideRs c r
end
theorem wideRs_iff {c : Nat} : ∀ zs, wideRs c zs ↔ ∀ z ∈ zs, wideR c z
  | [] => by simp [wideRs]
  | t :: r => by simp [wideRs, wideRs_iff r]
theorem tr_cases (t : Tr) : ∃ k s n zs, t = .mk k s n zs := by cases t; exact ⟨_, _, _, _, rfl⟩
def zeroT : Tr := .mk 0 [] 0 []
theorem wide_zeroT (c : Nat) : wideR c zeroT := ⟨Nat.zero_le _, trivial⟩

/-! ### goals -/
inductive Gl where
  | mk (k : Int) (a b : Tr) (s : List UInt8) (xs : List Tr) (gs : List Gl)
theorem Gl.ind {p : Gl → Prop} (h : ∀ k a b s xs gs, (∀ g ∈ gs, p g) → p (.mk k a b s xs gs)) : ∀ t, p t
  | .mk k a b s xs gs => h k a b s xs gs (go gs)
where go : ∀ gs : List Gl, ∀ g ∈ gs, p g
  | b :: r, a, hm => by
    rcases List.mem_cons.1 hm with e | e
    · rw [e]; exact Gl.ind h b
    · exact go r a e
mutual
def encG : Gl → List V
  | .mk k a b s xs gs => [.int .i64 k] ++ encR a ++ encR b ++ [.str (bs s), .sl 4 (encRs xs), .sl 12 (encGs gs)]
def encGs : List Gl → List (List V)
  | [] => []
  | t :: r => encG t :: encGs r
end
theorem encGs_eq : ∀ zs, encGs zs = zs.map encG
  | [] => rfl
  | t :: r => by rw [encGs, encGs_eq r]; rfl
@[simp] theorem encGs_length (zs : List Gl) : (encGs zs).length = zs.length := by rw [encGs_eq]; simp
@[simp] theorem encGs_append (a b : List Gl) : encGs (a ++ b) = encGs a ++ encGs b := by simp [encGs_eq]
theorem encG_take (t : Gl) : (encG t).take 12 = encG t := by
  obtain ⟨k, a, b, s, xs, gs⟩ := t
  obtain ⟨_, _, _, _⟩ := a
  obtain ⟨_, _, _, _⟩ := b
  rfl
theorem row_encGs {zs : List Gl} {i : Nat} {t : Gl} (h : zs[i]? = some t) : List.take 12 (Av.rowAt (encGs zs) i) = encG t := by
  rw [encGs_eq, Av.rowAt, List.getD_eq_getElem?_getD, List.getElem?_map, h]
  exact encG_take t
mutual
def wideG (c : Nat) : Gl → Prop
  | .mk _ a b _ xs gs => wideR c a ∧ wideR c b ∧ xs.length ≤ c ∧ wideRs c xs ∧ gs.length ≤ c ∧ wideGs c gs
def wideGs (c : Nat) : List Gl → Prop
  | [] => True
  | t :: r => wideG c t ∧ wideGs c r
end
theorem wideGs_iff {c : Nat} : ∀ zs, wideGs c zs ↔ ∀ z ∈ zs, wideG c z
  | [] => by simp [wideGs]
  | t :: r => by simp [wideGs, wideGs_iff r]
theorem gl_enc (g : Gl) : ∃ n1 n2 s2 i2 l2 n3 s3 i3 l3 s4 l5 l6, encG g = [.int .i64 n1, .int .i64 n2, .str s2, .int .i64 i2, .sl 4 l2, .int .i64 n3, .str s3, .int .i64 i3, .sl 4 l3, .str s4, .sl 4 l5, .sl 12 l6] := by
  obtain ⟨k, ⟨_, _, _, _⟩, ⟨_, _, _, _⟩, s, xs, gs⟩ := g
  exact ⟨_, _, _, _, _, _, _, _, _, _, _, _, rfl⟩

/-! ### constructors, items -/
structure Cd where
  name : List UInt8
  args : List Te
def encC (c : Cd) : List V := [.str (bs c.name), .sl 3 (encEs c.args)]
def wideC (n : Nat) (c : Cd) : Prop := c.args.length ≤ n ∧ wideEs n c.args
def rowsN (l : List (List UInt8)) : List (List V) := l.map fun s => [.str (bs s)]
@[simp] theorem rowsN_length (l : List (List UInt8)) : (rowsN l).length = l.length := by simp [rowsN]
def rowsB (l : List Bool) : List (List V) := l.map fun b => [.bool b]
@[simp] theorem rowsB_length (l : List Bool) : (rowsB l).length = l.length := by simp [rowsB]
structure It where
  kind : Int
  name : List UInt8
  vars : List (List UInt8)
  ctors : List Cd
  types : List Te
  ins : List Bool
  det : Int
  args : List Tr
  body : Gl
def encI (t : It) : List V := [.int .i64 t.kind, .str (bs t.name), .sl 1 (rowsN t.vars), .sl 2 (t.ctors.map encC), .sl 3 (encEs t.types), .sl 1 (rowsB t.ins), .int .i64 t.det, .sl 4 (encRs t.args)] ++ encG t.body
structure wideI (c : Nat) (t : It) : Prop where
  vars : t.vars.length ≤ c
  ctors : t.ctors.length ≤ c
  ctor : ∀ x ∈ t.ctors, wideC c x
  types : t.types.length ≤ c
  type : wideEs c t.types
  ins : t.ins.length ≤ c
  args : t.args.length ≤ c
  arg : wideRs c t.args
  body : wideG c t.body
def encIs (l : List It) : List (List V) := l.map encI
@[simp] theorem encIs_length (l : List It) : (encIs l).length = l.length := by simp [encIs]
theorem encI_take (t : It) : (encI t).take 20 = encI t := by
  obtain ⟨k, s, v, c, ty, i, d, a, ⟨k', ⟨_, _, _, _⟩, ⟨_, _, _, _⟩, s', xs, gs⟩⟩ := t
  rfl
theorem row_encIs {zs : List It} {i : Nat} {t : It} (h : zs[i]? = some t) : List.take 20 (Av.rowAt (encIs zs) i) = encI t := by
  rw [encIs, Av.rowAt, List.getD_eq_getElem?_getD, List.getElem?_map, h]
  exact encI_take t
end Go.Dm
end
