/- Tokens read again (no program here). -/
import Derived.Test.YtgjifgjjcaohoaaGreatDoorS7
/- part Z2M -/
section
namespace Go.Dr
open Go.Av Go.Lx

/-! ### reserved words -/
def wordsB : List ByteArray := [⟨#[116, 121, 112, 101]⟩, ⟨#[112, 114, 101, 100]⟩, ⟨#[109, 111, 100, 101]⟩, ⟨#[105, 115]⟩, ⟨#[100, 101, 116]⟩, ⟨#[115, 101, 109, 105, 100, 101, 116]⟩, ⟨#[109, 117, 108, 116, 105]⟩, ⟨#[110, 111, 110, 100, 101, 116]⟩, ⟨#[105, 110]⟩, ⟨#[111, 117, 116]⟩, ⟨#[116, 114, 117, 101]⟩, ⟨#[102, 97, 105, 108]⟩, ⟨#[110, 111, 116]⟩, ⟨#[116, 104, 114, 111, 119]⟩, ⟨#[116, 114, 121]⟩, ⟨#[99, 97, 116, 99, 104]⟩, ⟨#[116, 104, 101, 110]⟩, ⟨#[105, 110, 116]⟩]
/-- is a text one of these? -/
def isIn (s : ByteArray) : List ByteArray → Bool
  | [] => false
  | w :: r => bif strEq s w then true else isIn s r
theorem isIn_mem {s : ByteArray} : ∀ {l : List ByteArray}, isIn s l = true ↔ s ∈ l
  | [] => by simp [isIn]
  | w :: r => by
    have ih := isIn_mem (s := s) (l := r)
    simp only [isIn, strEq, List.mem_cons]
    by_cases h : s = w
    · simp [h]
    · simp [h, ih]
def isRes (s : List UInt8) : Bool := isIn (bs s) wordsB

/-! ### terms -/
inductive Tr where
  | mk (k : Int) (s : List UInt8) (n : Int) (zs : List Tr)
theorem Tr.ind {p : Tr → Prop} (h : ∀ k s n zs, (∀ a ∈ zs, p a) → p (.mk k s n zs)) : ∀ t, p t
  | .mk k s n zs => h k s n zs (go zs)
where go : ∀ zs : List Tr, ∀ a ∈ zs, p a
  | b :: r, a, hm => by
    rcases List.mem_cons.1 hm with e | e
    · rw [e]; exact Tr.ind h b
    · exact go r a e
mutual
def encR : Tr → List V
  | .mk k s n zs => [.int .i64 k, .str (bs s), .int .i64 n, .sl 4 (encRs zs)]
def encRs : List Tr → List (List V)
  | [] => []
  | t :: r => encR t :: encRs r
end
theorem encRs_eq : ∀ zs, encRs zs = zs.map encR
  | [] => rfl
  | t :: r => by rw [encRs, encRs_eq r]; rfl
@[simp] theorem encRs_length (zs : List Tr) : (encRs zs).length = zs.length := by rw [encRs_eq]; simp
@[simp] theorem encRs_append (a b : List Tr) : encRs (a ++ b) = encRs a ++ encRs b := by simp [encRs_eq]
theorem encR_take (t : Tr) : (encR t).take 4 = encR t := by cases t; rfl
theorem row_encRs {zs : List Tr} {i : Nat} {t : Tr} (h : zs[i]? = some t) : List.take 4 (Av.rowAt (encRs zs) i) = encR t := by
  rw [encRs_eq, Av.rowAt, List.getD_eq_getElem?_getD, List.getElem?_map, h]
  exact encR_take t

/-! ### reading: a code (0: read), what was read, the tokens behind -/
def isP (s : List UInt8) (t : Tok) : Bool := decide (t.t = s) && (decide (t.k = 4) || decide (t.k = 1))
mutual
def parT : Nat → Nat → List Tok → Int × Tr × List Tok
  | 0, _, _ => (2, .mk 0 [] 0 [], [])
  | f + 1, n, ts => if 64 < n ∧ ts ≠ [] then (3, .mk 0 [] 0 [], []) else
    match ts with
    | [] => (2, .mk 0 [] 0 [], [])
    | t :: r => if t.k = 2 then (0, .mk 1 t.t 0 [], r) else if t.k = 3 then (0, .mk 2 [] t.n [], r)
      else if t.k = 1 ∧ isRes t.t = false then
        (match r with
        | p :: r' => if isP [40] p then (match parR f (n + 1) [] r' with
            | (e, xs, q) => if e = 0 then (0, .mk 3 t.t 0 xs, q) else (e, .mk 0 [] 0 [], [])) else (0, .mk 3 t.t 0 [], p :: r')
        | [] => (0, .mk 3 t.t 0 [], []))
      else (2, .mk 0 [] 0 [], [])
def parR : Nat → Nat → List Tr → List Tok → Int × List Tr × List Tok
  | 0, _, _, _ => (2, [], [])
  | f + 1, n, acc, ts => if acc.length = 8 ∧ ts ≠ [] then (4, [], []) else
    match parT f n ts with
    | (e, x, r) => if e = 0 then (match r with
        | p :: r' => if isP [41] p then (0, acc ++ [x], r') else if isP [44] p then parR f n (acc ++ [x]) r' else (2, [], [])
        | [] => (2, [], [])) else (e, [], [])
end
theorem parR_big {f n : Nat} {acc : List Tr} {ts : List Tok} (h : acc.length = 8 ∧ ts ≠ []) : parR (f + 1) n acc ts = (4, [], []) := by rw [parR, if_pos h]
theorem parR_err {f n : Nat} {acc : List Tr} {ts : List Tok} (h : ¬ (acc.length = 8 ∧ ts ≠ [])) (he : (parT f n ts).1 ≠ 0) : (parR (f + 1) n acc ts).1 = (parT f n ts).1 := by
  rw [parR, if_neg h]
  generalize parT f n ts = q at he ⊢
  obtain ⟨e, x, r⟩ := q
  simp only at he ⊢
  rw [if_neg he]
theorem parR_nil {f n : Nat} {acc : List Tr} {ts : List Tok} {x : Tr} (h : ¬ (acc.length = 8 ∧ ts ≠ [])) (he : parT f n ts = (0, x, [])) : (parR (f + 1) n acc ts).1 = 2 := by
  rw [parR, if_neg h, he]; rfl
theorem parR_end {f n : Nat} {acc : List Tr} {ts : List Tok} {x : Tr} {p : Tok} {r : List Tok} (h : ¬ (acc.length = 8 ∧ ts ≠ [])) (he : parT f n ts = (0, x, p :: r)) (hp : isP [41] p = true) : parR (f + 1) n acc ts = (0, acc ++ [x], r) := by
  rw [parR, if_neg h, he]
  simp [hp]
theorem parR_more {f n : Nat} {acc : List Tr} {ts : List Tok} {x : Tr} {p : Tok} {r : List Tok} (h : ¬ (acc.length = 8 ∧ ts ≠ [])) (he : parT f n ts = (0, x, p :: r)) (hp : isP [41] p = false) (hq : isP [44] p = true) : parR (f + 1) n acc ts = parR f n (acc ++ [x]) r := by
  rw [parR, if_neg h, he]
  simp [hp, hq]
theorem parR_bad {f n : Nat} {acc : List Tr} {ts : List Tok} {x : Tr} {p : Tok} {r : List Tok} (h : ¬ (acc.length = 8 ∧ ts ≠ [])) (he : parT f n ts = (0, x, p :: r)) (hp : isP [41] p = false) (hq : isP [44] p = false) : (parR (f + 1) n acc ts).1 = 2 := by
  rw [parR, if_neg h, he]
  simp [hp, hq]
theorem parT_nest {f n : Nat} {ts : List Tok} (h : 64 < n ∧ ts ≠ []) : (parT (f + 1) n ts).1 = 3 := by rw [parT.eq_def]; dsimp only; rw [if_pos h]
theorem parT_nil {f n : Nat} : (parT (f + 1) n []).1 = 2 := by
  rw [parT.eq_def]; dsimp only; rw [if_neg (fun h => h.2 rfl)]
theorem parT_var {f n : Nat} {t : Tok} {r : List Tok} (h : ¬ 64 < n) (hk : t.k = 2) : parT (f + 1) n (t :: r) = (0, .mk 1 t.t 0 [], r) := by
  rw [parT.eq_def]; dsimp only
  rw [if_neg (fun hh => h hh.1)]
  rw [if_pos hk]
theorem parT_int {f n : Nat} {t : Tok} {r : List Tok} (h : ¬ 64 < n) (hk : t.k = 3) : parT (f + 1) n (t :: r) = (0, .mk 2 [] t.n [], r) := by
  rw [parT.eq_def]; dsimp only
  rw [if_neg (fun hh => h hh.1)]
  rw [if_neg (by omega), if_pos hk]
theorem parT_bad {f n : Nat} {t : Tok} {r : List Tok} (h : ¬ 64 < n) (h2 : t.k ≠ 2) (h3 : t.k ≠ 3) (hk : ¬ (t.k = 1 ∧ isRes t.t = false)) : (parT (f + 1) n (t :: r)).1 = 2 := by
  rw [parT.eq_def]; dsimp only
  rw [if_neg (fun hh => h hh.1)]
  rw [if_neg h2, if_neg h3, if_neg hk]
theorem parT_one {f n : Nat} {t : Tok} (h : ¬ 64 < n) (hk : t.k = 1 ∧ isRes t.t = false) : parT (f + 1) n [t] = (0, .mk 3 t.t 0 [], []) := by
  rw [parT.eq_def]; dsimp only
  rw [if_neg (fun hh => h hh.1)]
  rw [if_neg (by omega), if_neg (by omega), if_pos hk]
theorem parT_name {f n : Nat} {t p : Tok} {r : List Tok} (h : ¬ 64 < n) (hk : t.k = 1 ∧ isRes t.t = false) (hp : isP [40] p = false) : parT (f + 1) n (t :: p :: r) = (0, .mk 3 t.t 0 [], p :: r) := by
  rw [parT.eq_def]; dsimp only
  rw [if_neg (fun hh => h hh.1)]
  rw [if_neg (by omega), if_neg (by omega), if_pos hk, if_neg (by simp [hp])]
theorem parT_row {f n : Nat} {t p : Tok} {r : List Tok} (h : ¬ 64 < n) (hk : t.k = 1 ∧ isRes t.t = false) (hp : isP [40] p = true) :
    ((parR f (n + 1) [] r).1 ≠ 0 → (parT (f + 1) n (t :: p :: r)).1 = (parR f (n + 1) [] r).1) ∧ ∀ xs q, parR f (n + 1) [] r = (0, xs, q) → parT (f + 1) n (t :: p :: r) = (0, .mk 3 t.t 0 xs, q) := by
  rw [parT.eq_def]; dsimp only
  rw [if_neg (fun hh => h hh.1)]
  rw [if_neg (by omega), if_neg (by omega), if_pos hk, if_pos hp]
  generalize parR f (n + 1) [] r = q
  obtain ⟨e, x, y⟩ := q
  refine ⟨fun he => ?_, fun xs q hq => ?_⟩
  · simp only at he ⊢
    rw [if_neg he]
  · cases hq
    simp
end Go.Dr
end

/- part Z1Z -/
section
namespace Go.Proofs.YtgjifgjjcaohoaaGreatDoor.Va
open Go.Vx Go.Av Go.Lx Go.Dr Go.RowKit
theorem Reserved_spec (s : ByteArray) : PCalls ax 58 [.str s] fun r => r = [.bool (isIn s wordsB)] := by
  refine Reserved.calls (K := fun r => r = [.bool (isIn s wordsB)]) ?_
  unfold Reserved.W
  show cond (strEq s _) ([V.bool true] = [V.bool (isIn s wordsB)]) _
  unfold wordsB
  simp only [isIn]
  generalize strEq s ⟨#[116, 121, 112, 101]⟩ = b1
  cases b1 with
  | true => rfl
  | false =>
  show cond _ _ _
  generalize strEq s ⟨#[112, 114, 101, 100]⟩ = b1
  cases b1 with
  | true => rfl
  | false =>
  show cond _ _ _
  generalize strEq s ⟨#[109, 111, 100, 101]⟩ = b1
  cases b1 with
  | true => rfl
  | false =>
  show cond _ _ _
  generalize strEq s ⟨#[105, 115]⟩ = b1
  cases b1 with
  | true => rfl
  | false =>
  show cond _ _ _
  generalize strEq s ⟨#[100, 101, 116]⟩ = b1
  cases b1 with
  | true => rfl
  | false =>
  show cond _ _ _
  generalize strEq s ⟨#[115, 101, 109, 105, 100, 101, 116]⟩ = b1
  cases b1 with
  | true => rfl
  | false =>
  show cond _ _ _
  generalize strEq s ⟨#[109, 117, 108, 116, 105]⟩ = b1
  cases b1 with
  | true => rfl
  | false =>
  show cond _ _ _
  generalize strEq s ⟨#[110, 111, 110, 100, 101, 116]⟩ = b1
  cases b1 with
  | true => rfl
  | false =>
  show cond _ _ _
  generalize strEq s ⟨#[105, 110]⟩ = b1
  cases b1 with
  | true => rfl
  | false =>
  show cond _ _ _
  generalize strEq s ⟨#[111, 117, 116]⟩ = b1
  cases b1 with
  | true => rfl
  | false =>
  show cond _ _ _
  generalize strEq s ⟨#[116, 114, 117, 101]⟩ = b1
  cases b1 with
  | true => rfl
  | false =>
  show cond _ _ _
  generalize strEq s ⟨#[102, 97, 105, 108]⟩ = b1
  cases b1 with
  | true => rfl
  | false =>
  show cond _ _ _
  generalize strEq s ⟨#[110, 111, 116]⟩ = b1
  cases b1 with
  | true => rfl
  | false =>
  show cond _ _ _
  generalize strEq s ⟨#[116, 104, 114, 111, 119]⟩ = b1
  cases b1 with
  | true => rfl
  | false =>
  show cond _ _ _
  generalize strEq s ⟨#[116, 114, 121]⟩ = b1
  cases b1 with
  | true => rfl
  | false =>
  show cond _ _ _
  generalize strEq s ⟨#[99, 97, 116, 99, 104]⟩ = b1
  cases b1 with
  | true => rfl
  | false =>
  show cond _ _ _
  generalize strEq s ⟨#[116, 104, 101, 110]⟩ = b1
  cases b1 with
  | true => rfl
  | false =>
  show cond _ _ _
  generalize strEq s ⟨#[105, 110, 116]⟩ = b1
  cases b1 with
  | true => rfl
  | false => rfl
theorem RReserved_spec (s : ByteArray) : PCalls ax 63 [.str s] fun r => r = [.bool (isIn s wordsB)] := by
  refine RReserved.calls (K := fun r => r = [.bool (isIn s wordsB)]) ?_
  unfold RReserved.W
  have hlen : ((wordsB.map fun w => [V.str w]).length : Int) = 18 := rfl
  have hl0 : (wordsB.map fun w => [V.str w]) = [[(.str (⟨#[116, 121, 112, 101]⟩ : ByteArray))], [(.str (⟨#[112, 114, 101, 100]⟩ : ByteArray))], [(.str (⟨#[109, 111, 100, 101]⟩ : ByteArray))], [(.str (⟨#[105, 115]⟩ : ByteArray))], [(.str (⟨#[100, 101, 116]⟩ : ByteArray))], [(.str (⟨#[115, 101, 109, 105, 100, 101, 116]⟩ : ByteArray))], [(.str (⟨#[109, 117, 108, 116, 105]⟩ : ByteArray))], [(.str (⟨#[110, 111, 110, 100, 101, 116]⟩ : ByteArray))], [(.str (⟨#[105, 110]⟩ : ByteArray))], [(.str (⟨#[111, 117, 116]⟩ : ByteArray))], [(.str (⟨#[116, 114, 117, 101]⟩ : ByteArray))], [(.str (⟨#[102, 97, 105, 108]⟩ : ByteArray))], [(.str (⟨#[110, 111, 116]⟩ : ByteArray))], [(.str (⟨#[116, 104, 114, 111, 119]⟩ : ByteArray))], [(.str (⟨#[116, 114, 121]⟩ : ByteArray))], [(.str (⟨#[99, 97, 116, 99, 104]⟩ : ByteArray))], [(.str (⟨#[116, 104, 101, 110]⟩ : ByteArray))], [(.str (⟨#[105, 110, 116]⟩ : ByteArray))]] := rfl
  rw [← hl0, hlen]
  refine ⟨fun us => ∃ i : Nat, i ≤ 18 ∧ us = [.int .i64 i] ∧ ∀ k < i, wordsB[k]? ≠ some s, fun us => match us with | .int _ i :: _ => 18 - i.toNat | _ => 0, ⟨0, by omega, rfl, fun k h => by omega⟩, ?_⟩
  rintro n ⟨i, hi, e, hno⟩
  cases e
  refine ifD (fun hlt => ?_) (fun hge => ?_)
  · obtain ⟨w, hw⟩ : ∃ w, wordsB[i]? = some w := ⟨_, List.getElem?_eq_getElem (show i < wordsB.length by show i < 18; omega)⟩
    have hrow : List.take 1 (Av.rowAt (wordsB.map fun w => [V.str w]) ((i : Int)).toNat) = [.str w] := by
      rw [Int.toNat_natCast, Av.rowAt, List.getD_eq_getElem?_getD, List.getElem?_map, hw]; rfl
    refine ⟨by omega, hlt, w, hrow, ifB (fun h => ?_) (fun h => ?_)⟩
    · have : w = s := by simpa [strEq] using h
      subst this
      rw [isIn_mem.2 (List.mem_of_getElem? hw)]
    · have : w ≠ s := by simpa [strEq] using h
      rw [wadd1 (by omega)]
      refine ⟨⟨i + 1, by omega, rfl, fun k hk => ?_⟩, by simp only [Int.toNat_natCast]; omega⟩
      rcases Nat.lt_or_ge k i with h | h
      · exact hno k h
      · have : k = i := by omega
        subst this
        rw [hw]
        intro h2
        exact absurd (Option.some.inj h2) ‹w ≠ s›
  · have : s ∉ wordsB := fun hm => by
      obtain ⟨k, hk, hk2⟩ := List.getElem_of_mem hm
      have hk18 : k < 18 := hk
      exact hno k (by omega) (by rw [List.getElem?_eq_getElem hk, hk2])
    rw [show isIn s wordsB = false from Bool.eq_false_iff.2 fun h => this (isIn_mem.1 h)]
end Go.Proofs.YtgjifgjjcaohoaaGreatDoor.Va
end

/- part Z2P -/
section
namespace Go.Proofs.YtgjifgjjcaohoaaGreatDoor.Va
open Go.Vx Go.Av Go.Lx Go.Dr

/-- the parser, at a place -/
abbrev PBx (ts : List Tok) (i : Nat) : Ob := .box [.sl 3 (encTs ts), .int .i64 i]
/-- what is thrown: an error of this number -/
def errG (c : Int) : Nat := if c = 2 then 3 else if c = 3 then 4 else 0
theorem zget {ts : List Tok} {i : Nat} (h : i < ts.length) : ∃ t, ts[i]? = some t ∧ ts.drop i = t :: ts.drop (i + 1) := ⟨ts[i], List.getElem?_eq_getElem h, List.drop_eq_getElem_cons h⟩
theorem rowZ {ts : List Tok} {i : Nat} {t : Tok} (h : ts[i]? = some t) : List.take 3 (Av.rowAt (encTs ts) ((i : Int)).toNat) = encT t := by
  rw [Int.toNat_natCast, encTs, Av.rowAt, List.getD_eq_getElem?_getD, List.getElem?_map, h]; rfl
theorem zstep {i : Nat} (h : i ≤ 9007199254740992) : IntKind.i64.wrap ((i : Int) + 1) = ((i + 1 : Nat) : Int) := by rw [w64 (by omega) (by omega)]; push_cast; rfl
theorem big9 : big = 1099511627776 := rfl

theorem peek_spec (ts : List Tok) (i : Nat) : SCalls ax 45 [.ptr 0 0] [PBx ts i] fun r o => r = [.agg (encT (ts[i]?.getD zeroT))] ∧ o = [PBx ts i] := by
  refine peek.calls (K := fun r o => r = [.agg (encT (ts[i]?.getD zeroT))] ∧ o = [PBx ts i]) ?_
  unfold peek.W
  rw [encTs_length]
  refine ifD (fun h => ?_) (fun h => ?_)
  · obtain ⟨t, ht, _⟩ := zget (ts := ts) (i := i) (by omega)
    exact ⟨by omega, h, t.k, bs t.t, t.n, rowZ ht, by rw [ht]; exact ⟨rfl, rfl⟩⟩
  · rw [List.getElem?_eq_none (by omega)]
    exact ⟨rfl, rfl⟩
theorem isP_def (s : List UInt8) (t : Tok) : isP s t = true ↔ t.t = s ∧ (t.k = 4 ∨ t.k = 1) := by simp [isP]
theorem strEq_bs (a b : List UInt8) : strEq (bs a) (bs b) = decide (a = b) := by
  unfold strEq
  exact decide_eq_decide.2 ⟨bs_inj, fun h => by rw [h]⟩
/-- does this stand here? -/
def standsZ (s : List UInt8) (ts : List Tok) (i : Nat) : Bool := isP s (ts[i]?.getD zeroT)
theorem stands_spec (s : List UInt8) (ts : List Tok) (i : Nat) : SCalls ax 72 [.ptr 0 0, .str (bs s)] [PBx ts i] fun r o => r = [.bool (standsZ s ts i)] ∧ o = [PBx ts i] := by
  refine stands.calls (K := fun r o => r = [.bool (standsZ s ts i)] ∧ o = [PBx ts i]) ?_
  unfold stands.W
  refine (peek_spec ts i).mono fun r o ⟨hr, ho⟩ => ⟨_, _, _, _, _, hr, ho, ?_⟩
  unfold standsZ
  generalize ts[i]?.getD zeroT = t
  rw [strEq_bs]
  refine ifD (fun h => ifE (fun h4 => ?_) (fun h4 => ?_)) (fun h => ?_)
  · exact ⟨by simp [isP, h, h4], rfl⟩
  · refine ⟨?_, rfl⟩
    have : (t.k == (1 : Int)) = isP s t := by
      rw [Bool.eq_iff_iff, isP_def]
      simp [h, h4]
    rw [this]
  · exact ⟨by simp [isP, h], rfl⟩
theorem accept_spec (s : List UInt8) (ts : List Tok) (i : Nat) (hi : i ≤ big) : SCalls ax 59 [.ptr 0 0, .str (bs s)] [PBx ts i] fun r o => r = [.bool (standsZ s ts i)] ∧ o = [PBx ts (if standsZ s ts i then i + 1 else i)] := by
  have hb := big9
  refine accept.calls (K := fun r o => r = [.bool (standsZ s ts i)] ∧ o = [PBx ts (if standsZ s ts i then i + 1 else i)]) ?_
  unfold accept.W
  refine (stands_spec s ts i).mono fun r o ⟨hr, ho⟩ => ⟨_, _, _, hr, ho, ?_⟩
  refine ifB (fun h => ?_) (fun h => ?_)
  · rw [h, zstep (by omega)]; exact ⟨rfl, rfl⟩
  · rw [h]; exact ⟨rfl, rfl⟩
/-- K of what is read; T of what is thrown -/
abbrev NoK : List V → List Ob → Prop := fun _ _ => False
def ThrowsZ (ts : List Tok) (c : Int) (extra : List Ob → List Ob → Prop) : Nat → List V → List Ob → Prop := fun t us o => t = 87 ∧ us = [.err (some (errG c))] ∧ ∃ j : Nat, extra [PBx ts j] o
theorem give_spec (g : Nat) (ts : List Tok) (i : Nat) : SCallsT ax 43 [.ptr 0 0, .err (some g)] [PBx ts i] NoK fun t us o => t = 87 ∧ us = [.err (some g)] ∧ o = [PBx ts i] := by
  refine give.calls (T := fun t us o => t = 87 ∧ us = [.err (some g)] ∧ o = [PBx ts i]) ?_
  unfold give.W
  exact ⟨rfl, rfl, rfl⟩
/-- an error of this number, and the parser somewhere -/
abbrev ErrZ (ts : List Tok) (c : Int) : Nat → List V → List Ob → Prop := fun t us o => t = 87 ∧ us = [.err (some (errG c))] ∧ ∃ j : Nat, o = [PBx ts j]
theorem deeper_spec (n : Nat) (ts : List Tok) (i : Nat) : SCallsT ax 44 [.ptr 0 0, .int .i64 n] [PBx ts i] (fun r o => ¬ (64 < n ∧ i < ts.length) ∧ r = [] ∧ o = [PBx ts i]) fun t us o => (64 < n ∧ i < ts.length) ∧ ErrZ ts 3 t us o := by
  refine deeper.calls ?_
  unfold deeper.W
  rw [encTs_length]
  refine ifD (fun h => ifD (fun h2 => ?_) (fun h2 => ?_)) (fun h => ?_)
  · exact (give_spec 4 ts i).mono (fun _ _ h => h.elim) fun t us o ⟨h1, h3, h4⟩ => ⟨_, _, h4, ⟨by omega, by omega⟩, h1, h3, i, rfl⟩
  · exact ⟨fun hh => h2 (by omega), rfl, rfl⟩
  · exact ⟨fun hh => h (by omega), rfl, rfl⟩
theorem name_spec (ts : List Tok) (i : Nat) (hi : i ≤ big) : SCallsT ax 46 [.ptr 0 0] [PBx ts i] (fun r o => ∃ t, ts[i]? = some t ∧ t.k = 1 ∧ isRes t.t = false ∧ r = [.str (bs t.t)] ∧ o = [PBx ts (i + 1)])
    fun t us o => (∀ x, ts[i]? = some x → ¬ (x.k = 1 ∧ isRes x.t = false)) ∧ ErrZ ts 2 t us o := by
  have hb := big9
  refine pname.calls ?_
  unfold pname.W
  refine (peek_spec ts i).mono fun r o ⟨hr, ho⟩ => ⟨_, _, _, _, _, hr, ho, ?_⟩
  cases hx : ts[i]? with
  | none =>
    refine ifNE (fun h => ?_) (fun h => absurd h (by decide))
    exact (give_spec 3 ts i).mono (fun _ _ h => h.elim) fun t us o ⟨h1, h3, h4⟩ => ⟨_, _, h4, fun x hx => (by cases hx), h1, h3, i, rfl⟩
  | some x =>
    simp only [Option.getD_some]
    refine ifNE (fun h => ?_) (fun h => ?_)
    · exact (give_spec 3 ts i).mono (fun _ _ h => h.elim) fun t us o ⟨h1, h3, h4⟩ => ⟨_, _, h4, fun y hy hh => (by cases hy; exact h hh.1), h1, h3, i, rfl⟩
    · refine (Reserved_spec (bs x.t)).mono fun r hr => ⟨_, hr, ifB (fun hr => ?_) (fun hr => ?_)⟩
      · exact (give_spec 3 ts i).mono (fun _ _ h => h.elim) fun t us o ⟨h1, h3, h4⟩ => ⟨_, _, h4, fun y hy hh => (by cases hy; have : isRes x.t = true := hr; rw [hh.2] at this; cases this), h1, h3, i, rfl⟩
      · rw [zstep (by omega)]
        exact ⟨x, rfl, h, hr, rfl, rfl⟩
theorem must_spec (s : List UInt8) (ts : List Tok) (i : Nat) (hi : i ≤ big) : SCallsT ax 60 [.ptr 0 0, .str (bs s)] [PBx ts i] (fun r o => standsZ s ts i = true ∧ r = [] ∧ o = [PBx ts (i + 1)]) fun t us o => standsZ s ts i = false ∧ ErrZ ts 2 t us o := by
  refine must.calls ?_
  unfold must.W
  refine (accept_spec s ts i hi).mono fun r o ⟨hr, ho⟩ => ⟨_, _, _, hr, ho, ifN (fun h => ?_) (fun h => ?_)⟩
  · exact (give_spec 3 ts _).mono (fun _ _ h => h.elim) fun t us o ⟨h1, h3, h4⟩ => ⟨_, _, h4, h, h1, h3, _, rfl⟩
  · rw [h]
    exact ⟨rfl, rfl, rfl⟩
end Go.Proofs.YtgjifgjjcaohoaaGreatDoor.Va
end

/- part Z2Q -/
section
namespace Go.Proofs.YtgjifgjjcaohoaaGreatDoor.Va
open Go.Vx Go.Av Go.Lx Go.Dr

def PT (f : Nat) : Prop := ∀ (n : Nat) (ts : List Tok) (i : Nat), n ≤ 65 → ts.length ≤ big → i ≤ ts.length → 2 * (ts.length - i) + 1 ≤ f →
  SCallsT ax 34 [.ptr 0 0, .int .i64 n] [PBx ts i] (fun r o => ∃ x j, parT f n (ts.drop i) = (0, x, ts.drop j) ∧ i ≤ j ∧ j ≤ ts.length ∧ r = [.agg (encR x)] ∧ o = [PBx ts j])
    fun t us o => ∃ c, (parT f n (ts.drop i)).1 = c ∧ c ≠ 0 ∧ ErrZ ts c t us o
theorem standsZ_none {s : List UInt8} {ts : List Tok} {i : Nat} (h : ts.length ≤ i) : standsZ s ts i = false := by
  unfold standsZ
  rw [List.getElem?_eq_none h]
  simp [isP, zeroT]
theorem standsZ_some {s : List UInt8} {ts : List Tok} {i : Nat} {p : Tok} (h : ts[i]? = some p) : standsZ s ts i = isP s p := by
  unfold standsZ; rw [h]; rfl
theorem tr_cases (x : Tr) : ∃ k s n zs, x = .mk k s n zs := by cases x; exact ⟨_, _, _, _, rfl⟩

theorem one_spec {g : Nat} (hg : PT g) (n : Nat) (hn : n ≤ 64) (ts : List Tok) (j : Nat) (hl : ts.length ≤ big) (hj : j ≤ ts.length) (hf : 2 * (ts.length - j) + 1 ≤ g) :
    SCallsT ax 48 [.ptr 0 0, .ptr 2 0] [.box [.ptr 1 0], PBx ts j, .box [.int .i64 n]] (fun r o => ∃ x j', parT g (n + 1) (ts.drop j) = (0, x, ts.drop j') ∧ j ≤ j' ∧ j' ≤ ts.length ∧ r = [.agg (encR x)] ∧ o = [.box [.ptr 1 0], PBx ts j', .box [.int .i64 n]])
      fun t us o => ∃ c, (parT g (n + 1) (ts.drop j)).1 = c ∧ c ≠ 0 ∧ t = 87 ∧ us = [.err (some (errG c))] ∧ ∃ jj : Nat, o = [.box [.ptr 1 0], PBx ts jj, .box [.int .i64 n]] := by
  refine one.calls ?_
  unfold one.W
  rw [zstep (by omega)]
  refine (hg (n + 1) ts j (by omega) hl hj hf).mono (fun r o ⟨x, j', h1, h2, h3, hr, ho⟩ => ?_) fun t us o ⟨c, h1, h2, ht, hu, jj, ho⟩ => ⟨encTs ts, jj, ho, c, h1, h2, ht, hu, jj, rfl⟩
  obtain ⟨k, s, m, zs, rfl⟩ := tr_cases x
  exact ⟨k, bs s, m, encRs zs, encTs ts, j', hr, ho, _, j', h1, h2, h3, rfl, rfl⟩

theorem row_spec {f : Nat} (ih : ∀ g, g < f → PT g) (n : Nat) (hn : n ≤ 64) (ts : List Tok) (i : Nat) (hl : ts.length ≤ big) (hi : i ≤ ts.length) (hf : 2 * (ts.length - (i + 1)) + 2 ≤ f) :
    SCallsT ax 47 [.ptr 0 0, .fn 48 [] [.ptr 1 0, .ptr 2 0]] [PBx ts i, .box [.ptr 0 0], .box [.int .i64 n]]
      (fun r o => (standsZ [40] ts i = false ∧ r = [.sl 4 []] ∧ o = [PBx ts i, .box [.ptr 0 0], .box [.int .i64 n]]) ∨
        (standsZ [40] ts i = true ∧ ∃ xs j, parR f (n + 1) [] (ts.drop (i + 1)) = (0, xs, ts.drop j) ∧ i ≤ j ∧ j ≤ ts.length ∧ r = [.sl 4 (encRs xs)] ∧ o = [PBx ts j, .box [.ptr 0 0], .box [.int .i64 n]]))
      fun t us o => standsZ [40] ts i = true ∧ ∃ c, (parR f (n + 1) [] (ts.drop (i + 1))).1 = c ∧ c ≠ 0 ∧ t = 87 ∧ us = [.err (some (errG c))] ∧ ∃ jj : Nat, o = [PBx ts jj, .box [.ptr 0 0], .box [.int .i64 n]] := by
  have hb := big9
  refine row.calls ?_
  unfold row.W
  have h40 : (⟨#[40]⟩ : ByteArray) = bs [40] := rfl
  have h41 : (⟨#[41]⟩ : ByteArray) = bs [41] := rfl
  have h44 : (⟨#[44]⟩ : ByteArray) = bs [44] := rfl
  rw [h40, h41, h44]
  refine (accept_spec [40] ts i (by omega)).mono fun r o ⟨hr, ho⟩ => ⟨_, _, _, hr, ho, ifN (fun hs => ?_) (fun hs => ?_)⟩
  · rw [hs]
    exact .inl ⟨rfl, rfl, rfl⟩
  have hi' : i < ts.length := by
    rcases Nat.lt_or_ge i ts.length with h | h
    · exact h
    · rw [standsZ_none h] at hs; cases hs
  rw [if_pos hs]
  generalize hG : parR f (n + 1) [] (ts.drop (i + 1)) = goal
  refine ⟨fun us => ∃ (acc : List Tr) (j f' : Nat), us = [.sl 4 (encRs acc), .sl 3 (encTs ts), .int .i64 j, .int .i64 n] ∧ i + 1 ≤ j ∧ j ≤ ts.length ∧ f' ≤ f ∧ 2 * (ts.length - j) + 2 ≤ f' ∧ acc.length ≤ j ∧ parR f' (n + 1) acc (ts.drop j) = goal,
    fun us => match us with | [_, _, .int _ j, _] => ts.length + 1 - j.toNat | _ => 0, ⟨[], i + 1, f, rfl, Nat.le_refl _, hi', Nat.le_refl _, hf, Nat.zero_le _, hG⟩, ?_⟩
  rintro l210 l211 n212 n213 ⟨acc, j, f', e, hij, hj, hff, hf2, hal, hpar⟩
  cases e
  rw [encRs_length, encTs_length]
  obtain ⟨g, rfl⟩ : ∃ g, f' = g + 1 := ⟨f' - 1, by omega⟩
  -- a round behind the first question
  have round : ¬ (acc.length = 8 ∧ ts.drop j ≠ []) →
      SCallsT ax 48 [.ptr 0 0, .ptr 2 0] [.box [.ptr 1 0], PBx ts j, .box [.int .i64 n]] (fun r o => ∃ x j', parT g (n + 1) (ts.drop j) = (0, x, ts.drop j') ∧ j ≤ j' ∧ j' ≤ ts.length ∧ r = [.agg (encR x)] ∧ o = [.box [.ptr 1 0], PBx ts j', .box [.int .i64 n]])
        fun t us o => goal.1 ≠ 0 ∧ t = 87 ∧ us = [.err (some (errG goal.1))] ∧ ∃ jj : Nat, o = [.box [.ptr 1 0], PBx ts jj, .box [.int .i64 n]] := fun hno =>
    (one_spec (ih g (by omega)) n hn ts j hl hj (by omega)).mono (fun _ _ h => h) fun t us o ⟨c, h1, h2, ht, hu, jj, ho⟩ => by
      have : goal.1 = c := by rw [← hpar, parR_err hno (by rw [h1]; exact h2), h1]
      exact ⟨by rw [this]; exact h2, ht, by rw [this]; exact hu, jj, ho⟩
  have behind : ¬ (acc.length = 8 ∧ ts.drop j ≠ []) → ∀ (x : Tr) (j' : Nat), parT g (n + 1) (ts.drop j) = (0, x, ts.drop j') → j' ≤ ts.length →
      (standsZ [41] ts j' = true → goal = (0, acc ++ [x], ts.drop (j' + 1)) ∧ j' < ts.length) ∧
      (standsZ [41] ts j' = false → standsZ [44] ts j' = true → goal = parR g (n + 1) (acc ++ [x]) (ts.drop (j' + 1)) ∧ j' < ts.length) ∧
      (standsZ [41] ts j' = false → standsZ [44] ts j' = false → goal.1 = 2) := fun hno x j' hp hj' => by
    rw [← hpar]
    rcases Nat.lt_or_ge j' ts.length with h | h
    · obtain ⟨p, hp1, hp2⟩ := zget h
      rw [hp2] at hp
      rw [standsZ_some hp1, standsZ_some hp1]
      exact ⟨fun h1 => ⟨parR_end hno hp h1, h⟩, fun h1 h2 => ⟨parR_more hno hp h1 h2, h⟩, fun h1 h2 => parR_bad hno hp h1 h2⟩
    · rw [List.drop_eq_nil_of_le h] at hp
      rw [standsZ_none h, standsZ_none h]
      exact ⟨fun h => (by cases h), fun _ h => (by cases h), fun _ _ => parR_nil hno hp⟩
  refine ifE (fun h8 => ifD (fun hlt => ?_) (fun hge => ?_)) (fun h8 => ?_)
  · refine (give_spec 0 ts j).mono (fun _ _ h => h.elim) fun t us o ⟨h1, h3, h4⟩ => ?_
    have hg4 : goal = (4, [], []) := by
      rw [← hpar]
      exact parR_big ⟨by omega, fun h => by have := congrArg List.length h; rw [List.length_drop, List.length_nil] at this; omega⟩
    exact ⟨_, _, h4, hs, 4, by rw [hg4], by decide, h1, h3, j, rfl⟩
  · have hno : ¬ (acc.length = 8 ∧ ts.drop j ≠ []) := fun h => h.2 (List.drop_eq_nil_of_le (by omega))
    refine (round hno).mono (fun r o ⟨x, j', h1, h2, h3, hr, ho⟩ => ?_) fun t us o ⟨h1, ht, hu, jj, ho⟩ => ⟨encTs ts, jj, n, ho, hs, goal.1, rfl, h1, ht, hu, jj, rfl⟩
    obtain ⟨b1, b2, b3⟩ := behind hno x j' h1 h3
    obtain ⟨k, s, m, zs, rfl⟩ := tr_cases x
    have hap : encRs acc ++ [[.int .i64 k, .str (bs s), .int .i64 m, .sl 4 (encRs zs)]] = encRs (acc ++ [.mk k s m zs]) := by rw [encRs_append]; rfl
    refine ⟨k, bs s, m, encRs zs, encTs ts, j', n, hr, ho, by simp only [List.length_cons, List.length_nil]; omega, by simp only [List.length_cons, List.length_nil]; omega, ?_⟩
    rw [hap]
    refine (accept_spec [41] ts j' (by omega)).mono fun r o ⟨hr, ho⟩ => ⟨_, _, _, hr, ho, ifB (fun h41' => ?_) (fun h41' => ?_)⟩
    · obtain ⟨e1, e2⟩ := b1 h41'
      rw [h41', if_pos rfl]
      exact .inr ⟨hs, _, j' + 1, e1, by omega, by omega, rfl, rfl⟩
    · rw [h41', if_neg (by simp)]
      refine (must_spec [44] ts j' (by omega)).mono (fun r o ⟨h44', hr, ho⟩ => ?_) fun t us o ⟨h44', ht, hu, jj, ho⟩ => ?_
      · obtain ⟨e1, e2⟩ := b2 h41' h44'
        refine ⟨_, _, hr, ho, ⟨_, j' + 1, g, rfl, by omega, by omega, by omega, by omega, by rw [List.length_append, List.length_cons, List.length_nil]; omega, e1.symm⟩, by simp only [Int.toNat_natCast]; omega⟩
      · have e2 := b3 h41' h44'
        exact ⟨_, jj, ho, hs, goal.1, rfl, by rw [e2]; decide, ht, by rw [e2]; exact hu, jj, rfl⟩
  · have hno : ¬ (acc.length = 8 ∧ ts.drop j ≠ []) := fun h => h8 (by omega)
    refine (round hno).mono (fun r o ⟨x, j', h1, h2, h3, hr, ho⟩ => ?_) fun t us o ⟨h1, ht, hu, jj, ho⟩ => ⟨encTs ts, jj, n, ho, hs, goal.1, rfl, h1, ht, hu, jj, rfl⟩
    obtain ⟨b1, b2, b3⟩ := behind hno x j' h1 h3
    obtain ⟨k, s, m, zs, rfl⟩ := tr_cases x
    have hap : encRs acc ++ [[.int .i64 k, .str (bs s), .int .i64 m, .sl 4 (encRs zs)]] = encRs (acc ++ [.mk k s m zs]) := by rw [encRs_append]; rfl
    refine ⟨k, bs s, m, encRs zs, encTs ts, j', n, hr, ho, by simp only [List.length_cons, List.length_nil]; omega, by simp only [List.length_cons, List.length_nil]; omega, ?_⟩
    rw [hap]
    refine (accept_spec [41] ts j' (by omega)).mono fun r o ⟨hr, ho⟩ => ⟨_, _, _, hr, ho, ifB (fun h41' => ?_) (fun h41' => ?_)⟩
    · obtain ⟨e1, e2⟩ := b1 h41'
      rw [h41', if_pos rfl]
      exact .inr ⟨hs, _, j' + 1, e1, by omega, by omega, rfl, rfl⟩
    · rw [h41', if_neg (by simp)]
      refine (must_spec [44] ts j' (by omega)).mono (fun r o ⟨h44', hr, ho⟩ => ?_) fun t us o ⟨h44', ht, hu, jj, ho⟩ => ?_
      · obtain ⟨e1, e2⟩ := b2 h41' h44'
        refine ⟨_, _, hr, ho, ⟨_, j' + 1, g, rfl, by omega, by omega, by omega, by omega, by rw [List.length_append, List.length_cons, List.length_nil]; omega, e1.symm⟩, by simp only [Int.toNat_natCast]; omega⟩
      · have e2 := b3 h41' h44'
        exact ⟨_, jj, ho, hs, goal.1, rfl, by rw [e2]; decide, ht, by rw [e2]; exact hu, jj, rfl⟩

theorem pterm_step {f : Nat} (ih : ∀ g, g ≤ f → PT g) : PT (f + 1) := by
  intro n ts i hn hl hi hf
  have hb := big9
  refine pterm.calls ?_
  unfold pterm.W
  have hdne : i < ts.length → ts.drop i ≠ [] := fun h hh => by have := congrArg List.length hh; rw [List.length_drop, List.length_nil] at this; omega
  refine (deeper_spec n ts i).mono (fun r o ⟨hd, hr, ho⟩ => ⟨_, _, hr, ho, ?_⟩) fun t us o ⟨hd, ht, hu, jj, ho⟩ => ⟨_, jj, ho, 3, parT_nest ⟨hd.1, hdne hd.2⟩, by decide, ht, hu, jj, rfl⟩
  refine (peek_spec ts i).mono fun r o ⟨hr, ho⟩ => ⟨_, _, _, _, _, hr, ho, ?_⟩
  rcases Nat.lt_or_ge i ts.length with hlt | hge
  · obtain ⟨t, ht1, ht2⟩ := zget hlt
    have hn64 : ¬ 64 < n := fun h => hd ⟨h, hlt⟩
    rw [ht1, Option.getD_some, ht2, zstep (by omega)]
    refine ifE (fun h2 => ?_) (fun h2 => ifE (fun h3 => ?_) (fun h3 => ?_))
    · exact ⟨_, i + 1, parT_var hn64 h2, by omega, by omega, rfl, rfl⟩
    · exact ⟨_, i + 1, parT_int hn64 h3, by omega, by omega, rfl, rfl⟩
    · refine (name_spec ts i (by omega)).mono (fun r o ⟨t', hx, hk1, hk2, hr, ho⟩ => ?_) fun u us o ⟨hx, hu1, hu2, jj, ho⟩ => ⟨_, jj, ho, 2, parT_bad hn64 h2 h3 (hx t ht1), by decide, hu1, hu2, jj, rfl⟩
      rw [ht1] at hx
      cases hx
      refine ⟨_, _, _, hr, ho, ?_⟩
      rcases Nat.lt_or_ge (i + 1) ts.length with hlt2 | hge2
      · obtain ⟨p, hp1, hp2⟩ := zget hlt2
        rw [hp2]
        refine (row_spec (f := f) (fun g hg => ih g (by omega)) n (by omega) ts (i + 1) hl (by omega) (by omega)).mono (fun r o hh => ?_) fun u us o hh => ?_
        · rcases hh with ⟨hs, hr, ho⟩ | ⟨hs, xs, j, hpar, hij, hj, hr, ho⟩
          · rw [standsZ_some hp1] at hs
            exact ⟨_, _, _, _, hr, ho, _, i + 1, by rw [parT_name hn64 ⟨hk1, hk2⟩ hs, hp2], by omega, by omega, rfl, rfl⟩
          · rw [standsZ_some hp1] at hs
            exact ⟨_, _, _, _, hr, ho, _, j, (parT_row hn64 ⟨hk1, hk2⟩ hs).2 _ _ hpar, by omega, hj, rfl, rfl⟩
        · obtain ⟨hs, c, hc, hc0, hu1, hu2, jj, ho⟩ := hh
          rw [standsZ_some hp1] at hs
          exact ⟨_, _, _, ho, c, by rw [(parT_row hn64 ⟨hk1, hk2⟩ hs).1 (by rw [hc]; exact hc0), hc], hc0, hu1, hu2, jj, rfl⟩
      · have hs := standsZ_none (s := [40]) hge2
        refine (row_spec (f := f) (fun g hg => ih g (by omega)) n (by omega) ts (i + 1) hl (by omega) (by omega)).mono (fun r o hh => ?_) fun u us o hh => ?_
        · rcases hh with ⟨_, hr, ho⟩ | ⟨hs', _⟩
          · rw [List.drop_eq_nil_of_le hge2]
            exact ⟨_, _, _, _, hr, ho, _, i + 1, by rw [parT_one hn64 ⟨hk1, hk2⟩, List.drop_eq_nil_of_le hge2], by omega, by omega, rfl, rfl⟩
          · rw [hs] at hs'; cases hs'
        · rw [hs] at hh; cases hh.1
  · rw [List.getElem?_eq_none hge, List.drop_eq_nil_of_le hge]
    refine ifE (fun h => absurd h (by decide)) (fun _ => ifE (fun h => absurd h (by decide)) (fun _ => ?_))
    refine (name_spec ts i (by omega)).mono (fun r o ⟨t', hx, _⟩ => ?_) fun u us o ⟨hx, hu1, hu2, jj, ho⟩ => ⟨_, jj, ho, 2, parT_nil, by decide, hu1, hu2, jj, rfl⟩
    rw [List.getElem?_eq_none hge] at hx
    cases hx
theorem pterm_spec : ∀ f, PT f := by
  intro f
  induction f using Nat.strongRecOn with
  | _ f ih =>
  cases f with
  | zero => intro n ts i _ _ _ h; omega
  | succ f => exact pterm_step fun g hg => ih g (by omega)
end Go.Proofs.YtgjifgjjcaohoaaGreatDoor.Va
end

/- part Z2R -/
section
namespace Go.Proofs.YtgjifgjjcaohoaaGreatDoor.Va
open Go.Vx Go.Av Go.Lx Go.Dr

/-- the reader: its place, its error -/
abbrev RBx (ts : List Tok) (i : Nat) (e : Int) : Ob := .box [.sl 3 (encTs ts), .int .i64 i, .int .i64 e]
def endZ (ts : List Tok) (i : Nat) (e : Int) : Bool := decide (e ≠ 0) || decide (ts.length ≤ i)
theorem rend_spec (ts : List Tok) (i : Nat) (e : Int) : SCalls ax 51 [.ptr 0 0] [RBx ts i e] fun r o => r = [.bool (endZ ts i e)] ∧ o = [RBx ts i e] := by
  refine rend.calls (K := fun r o => r = [.bool (endZ ts i e)] ∧ o = [RBx ts i e]) ?_
  unfold rend.W endZ
  rw [encTs_length]
  refine ifNE (fun h => ?_) (fun h => ?_)
  · simp [h]
  · refine ⟨?_, rfl⟩
    have : decide ((i : Int) ≥ (ts.length : Int)) = decide (ts.length ≤ i) := decide_eq_decide.2 (by omega)
    rw [this]; simp [h]
theorem fail_spec (c : Int) (ts : List Tok) (i : Nat) (e : Int) : SCalls ax 62 [.ptr 0 0, .int .i64 c] [RBx ts i e] fun r o => r = [] ∧ o = [RBx ts i (if e = 0 then c else e)] := by
  refine fail.calls (K := fun r o => r = [] ∧ o = [RBx ts i (if e = 0 then c else e)]) ?_
  unfold fail.W
  exact ifE (fun h => by rw [if_pos h]; exact ⟨rfl, rfl⟩) (fun h => by rw [if_neg h]; exact ⟨rfl, rfl⟩)
theorem row1 {ts : List Tok} {i : Nat} {t : Tok} (h : ts[i]? = some t) : List.take 1 (Av.rowAt (encTs ts) ((i : Int)).toNat) = [.int .i64 t.k] ∧ List.take 1 (List.drop 1 (Av.rowAt (encTs ts) ((i : Int)).toNat)) = [.str (bs t.t)] ∧ List.take 1 (List.drop 2 (Av.rowAt (encTs ts) ((i : Int)).toNat)) = [.int .i64 t.n] := by
  rw [Int.toNat_natCast, encTs, Av.rowAt, List.getD_eq_getElem?_getD, List.getElem?_map, h]
  exact ⟨rfl, rfl, rfl⟩
theorem endZ_false {ts : List Tok} {i : Nat} {e : Int} (h : endZ ts i e = false) : e = 0 ∧ i < ts.length := by
  simp only [endZ, Bool.or_eq_false_iff, decide_eq_false_iff_not] at h
  omega
theorem endZ_true {ts : List Tok} {i : Nat} {e : Int} (h : endZ ts i e = true) : e ≠ 0 ∨ ts.length ≤ i := by
  simpa [endZ] using h
theorem ris_spec (s : List UInt8) (ts : List Tok) (i : Nat) (e : Int) : SCalls ax 74 [.ptr 0 0, .str (bs s)] [RBx ts i e] fun r o => r = [.bool (decide (e = 0) && standsZ s ts i)] ∧ o = [RBx ts i e] := by
  refine ris.calls (K := fun r o => r = [.bool (decide (e = 0) && standsZ s ts i)] ∧ o = [RBx ts i e]) ?_
  unfold ris.W
  refine (rend_spec ts i e).mono fun r o ⟨hr, ho⟩ => ⟨_, _, _, _, hr, ho, ifN (fun h => ?_) (fun h => ?_)⟩
  · obtain ⟨h0, hlt⟩ := endZ_false h
    obtain ⟨t, ht, _⟩ := zget hlt
    obtain ⟨r1, r2, _⟩ := row1 ht
    rw [encTs_length, standsZ_some ht]
    refine ⟨by omega, by omega, bs t.t, r2, ?_⟩
    rw [strEq_bs]
    refine ifD (fun hs => ⟨by omega, by omega, t.k, r1, ifE (fun h1 => ?_) (fun h1 => ⟨by omega, by omega, t.k, r1, ?_⟩)⟩) (fun hs => ?_)
    · exact ⟨by simp [isP, h0, hs, h1], rfl⟩
    · refine ⟨?_, rfl⟩
      have : (t.k == (4 : Int)) = isP s t := by
        rw [Bool.eq_iff_iff, isP_def]
        simp [hs, h1]
      rw [this]; simp [h0]
    · exact ⟨by simp [isP, hs], rfl⟩
  · refine ⟨?_, rfl⟩
    rcases endZ_true h with h | h
    · simp [h]
    · rw [standsZ_none h]; simp
theorem got_spec (s : List UInt8) (ts : List Tok) (i : Nat) (e : Int) (hi : i ≤ big) : SCalls ax 64 [.ptr 0 0, .str (bs s)] [RBx ts i e] fun r o => r = [.bool (decide (e = 0) && standsZ s ts i)] ∧ o = [RBx ts (if (decide (e = 0) && standsZ s ts i) then i + 1 else i) e] := by
  have hb := big9
  refine got.calls (K := fun r o => r = [.bool (decide (e = 0) && standsZ s ts i)] ∧ o = [RBx ts (if (decide (e = 0) && standsZ s ts i) then i + 1 else i) e]) ?_
  unfold got.W
  refine (ris_spec s ts i e).mono fun r o ⟨hr, ho⟩ => ⟨_, _, _, _, hr, ho, ifB (fun h => ?_) (fun h => ?_)⟩
  · rw [h, zstep (by omega)]; exact ⟨rfl, rfl⟩
  · rw [h]; exact ⟨rfl, rfl⟩
theorem need_spec (s : List UInt8) (ts : List Tok) (i : Nat) (hi : i ≤ big) : SCalls ax 65 [.ptr 0 0, .str (bs s)] [RBx ts i 0] fun r o => r = [] ∧ o = [if standsZ s ts i then RBx ts (i + 1) 0 else RBx ts i 2] := by
  refine need.calls (K := fun r o => r = [] ∧ o = [if standsZ s ts i then RBx ts (i + 1) 0 else RBx ts i 2]) ?_
  unfold need.W
  refine ifE (fun _ => ?_) (fun h => absurd rfl h)
  refine (got_spec s ts i 0 hi).mono fun r o ⟨hr, ho⟩ => ⟨_, _, _, _, hr, ho, ifN (fun h => ?_) (fun h => ?_)⟩
  · have h' : standsZ s ts i = false := by simpa using h
    rw [h', if_neg (by simp)]
    refine (fail_spec 2 ts _ 0).mono fun r o ⟨hr, ho⟩ => ⟨_, _, _, hr, ho, ?_⟩
    simp
  · have h' : standsZ s ts i = true := by simpa using h
    rw [h']
    exact ⟨rfl, rfl⟩
theorem rword_spec (ts : List Tok) (i : Nat) (hi : i ≤ big) : SCalls ax 52 [.ptr 0 0, .int .i64 1] [RBx ts i 0] fun r o =>
    (∃ t, ts[i]? = some t ∧ t.k = 1 ∧ isRes t.t = false ∧ r = [.str (bs t.t)] ∧ o = [RBx ts (i + 1) 0]) ∨ ((∀ x, ts[i]? = some x → ¬ (x.k = 1 ∧ isRes x.t = false)) ∧ r = [.str (bs [])] ∧ o = [RBx ts i 2]) := by
  have hb := big9
  refine rword.calls (K := fun r o => (∃ t, ts[i]? = some t ∧ t.k = 1 ∧ isRes t.t = false ∧ r = [.str (bs t.t)] ∧ o = [RBx ts (i + 1) 0]) ∨ ((∀ x, ts[i]? = some x → ¬ (x.k = 1 ∧ isRes x.t = false)) ∧ r = [.str (bs [])] ∧ o = [RBx ts i 2])) ?_
  unfold rword.W
  refine ⟨fun us => us = [.sl 3 (encTs ts), .int .i64 i, .int .i64 0] ∧ ∃ t, ts[i]? = some t ∧ t.k = 1 ∧ isRes t.t = false, ?_, ?_⟩
  · refine (rend_spec ts i 0).mono fun r o ⟨hr, ho⟩ => ⟨_, _, _, _, hr, ho, ifB (fun h => ?_) (fun h => ?_)⟩
    · have hge : ts.length ≤ i := (endZ_true h).resolve_left (by simp)
      exact (fail_spec 2 ts i 0).mono fun r o ⟨hr, ho⟩ => ⟨_, _, _, hr, ho, .inr ⟨fun x hx => (by rw [List.getElem?_eq_none hge] at hx; cases hx), rfl, rfl⟩⟩
    · obtain ⟨_, hlt⟩ := endZ_false h
      obtain ⟨t, ht, _⟩ := zget hlt
      obtain ⟨r1, r2, _⟩ := row1 ht
      rw [encTs_length]
      refine ⟨by omega, by omega, t.k, r1, ifNE (fun hk => ?_) (fun hk => ?_)⟩
      · exact (fail_spec 2 ts i 0).mono fun r o ⟨hr, ho⟩ => ⟨_, _, _, hr, ho, .inr ⟨fun x hx hh => (by rw [ht] at hx; cases hx; exact hk hh.1), rfl, rfl⟩⟩
      · refine ifE (fun _ => ⟨by omega, by omega, bs t.t, r2, ?_⟩) (fun hh => absurd rfl hh)
        refine (RReserved_spec (bs t.t)).mono fun r hr => ⟨_, hr, ifB (fun hres => ?_) (fun hres => ?_)⟩
        · exact (fail_spec 2 ts i 0).mono fun r o ⟨hr, ho⟩ => ⟨_, _, _, hr, ho, .inr ⟨fun x hx hh => (by rw [ht] at hx; cases hx; have h1 : isRes t.t = true := hres; rw [hh.2] at h1; cases h1), rfl, rfl⟩⟩
        · exact ⟨rfl, t, ht, hk, hres⟩
  · rintro l53 n54 n55 ⟨e, t, ht, hk, hres⟩
    cases e
    have hlt := (List.getElem?_eq_some_iff.1 ht).1
    obtain ⟨_, r2, _⟩ := row1 ht
    have hw : IntKind.i64.wrap (IntKind.i64.wrap ((i : Int) + 1) - 1) = (i : Int) := by rw [zstep (by omega), w64 (by omega) (by omega)]; omega
    rw [hw, encTs_length, zstep (by omega)]
    exact ⟨by omega, by omega, bs t.t, r2, .inl ⟨t, ht, hk, hres, rfl, rfl⟩⟩
theorem rword_err (ts : List Tok) (i : Nat) (e : Int) (he : e ≠ 0) : SCalls ax 52 [.ptr 0 0, .int .i64 1] [RBx ts i e] fun r o => r = [.str (bs [])] ∧ o = [RBx ts i e] := by
  refine rword.calls (K := fun r o => r = [.str (bs [])] ∧ o = [RBx ts i e]) ?_
  unfold rword.W
  refine ⟨fun _ => False, ?_, fun _ _ _ h => h.elim⟩
  refine (rend_spec ts i e).mono fun r o ⟨hr, ho⟩ => ⟨_, _, _, _, hr, ho, ifB (fun h => ?_) (fun h => absurd (endZ_false h).1 he)⟩
  refine (fail_spec 2 ts i e).mono fun r o ⟨hr, ho⟩ => ⟨_, _, _, hr, ho, ?_⟩
  rw [if_neg he]
  exact ⟨rfl, rfl⟩
theorem rnest_spec (n : Nat) (ts : List Tok) (i : Nat) (e : Int) : SCalls ax 50 [.ptr 0 0, .int .i64 n] [RBx ts i e] fun r o => r = [] ∧ o = [RBx ts i (if 64 < n ∧ endZ ts i e = false then 3 else e)] := by
  refine rnest.calls (K := fun r o => r = [] ∧ o = [RBx ts i (if 64 < n ∧ endZ ts i e = false then 3 else e)]) ?_
  unfold rnest.W
  refine ifD (fun hn => ?_) (fun hn => by rw [if_neg (fun h => hn (by omega))]; exact ⟨rfl, rfl⟩)
  refine (rend_spec ts i e).mono fun r o ⟨hr, ho⟩ => ⟨_, _, _, _, hr, ho, ifN (fun h => ?_) (fun h => ?_)⟩
  · obtain ⟨h0, _⟩ := endZ_false h
    rw [if_pos ⟨by omega, h⟩]
    exact (fail_spec 3 ts i e).mono fun r o ⟨hr, ho⟩ => ⟨_, _, _, hr, ho, by rw [if_pos h0]; exact ⟨rfl, rfl⟩⟩
  · rw [if_neg (fun hh => by rw [h] at hh; cases hh.2)]
    exact ⟨rfl, rfl⟩
theorem done_spec (ts : List Tok) (i : Nat) (e : Int) : SCalls ax 37 [.ptr 0 0] [RBx ts i e] fun r o => r = [.int .i64 (if e = 0 ∧ i < ts.length then 2 else e)] ∧ o = [RBx ts i (if e = 0 ∧ i < ts.length then 2 else e)] := by
  refine done.calls (K := fun r o => r = [.int .i64 (if e = 0 ∧ i < ts.length then 2 else e)] ∧ o = [RBx ts i (if e = 0 ∧ i < ts.length then 2 else e)]) ?_
  unfold done.W
  rw [encTs_length]
  refine ifE (fun h => ifD (fun h2 => ?_) (fun h2 => ?_)) (fun h => ?_)
  · rw [if_pos ⟨h, by omega⟩]; exact ⟨rfl, rfl⟩
  · rw [if_neg (fun hh => h2 (by omega))]; exact ⟨rfl, rfl⟩
  · rw [if_neg (fun hh => h hh.1)]; exact ⟨rfl, rfl⟩
/-- is there one more? behind so many -/
theorem more0_spec (ts : List Tok) (i : Nat) (hi : i ≤ big) : SCalls ax 53 [.ptr 0 0, .int .i64 0] [RBx ts i 0] fun r o => r = [.bool (standsZ [40] ts i)] ∧ o = [RBx ts (if standsZ [40] ts i then i + 1 else i) 0] := by
  refine more.calls (K := fun r o => r = [.bool (standsZ [40] ts i)] ∧ o = [RBx ts (if standsZ [40] ts i then i + 1 else i) 0]) ?_
  unfold more.W
  refine ⟨fun us => standsZ [40] ts i = true ∧ us = [.sl 3 (encTs ts), .int .i64 ((i + 1 : Nat) : Int), .int .i64 0], ?_, ?_⟩
  · refine ifE (fun _ => ?_) (fun h => absurd rfl h)
    refine (got_spec [40] ts i 0 hi).mono fun r o ⟨hr, ho⟩ => ⟨_, _, _, _, hr, ho, ifN (fun h => ?_) (fun h => ?_)⟩
    · have h' : standsZ [40] ts i = false := by simpa using h
      simp [h']
    · have h' : standsZ [40] ts i = true := by simpa using h
      simp [h']
  · rintro l37 n38 n39 ⟨hs, e⟩
    cases e
    rw [hs]
    exact ifE (fun h => absurd h (by decide)) (fun _ => ⟨rfl, rfl⟩)
theorem moreS_spec (m : Nat) (hm : 0 < m) (ts : List Tok) (i : Nat) (hi : i ≤ big) : SCalls ax 53 [.ptr 0 0, .int .i64 m] [RBx ts i 0] fun r o =>
    (standsZ [41] ts i = true ∧ r = [.bool false] ∧ o = [RBx ts (i + 1) 0]) ∨ (standsZ [41] ts i = false ∧ standsZ [44] ts i = true ∧ ((m = 8 ∧ i + 1 < ts.length ∧ r = [.bool false] ∧ o = [RBx ts (i + 1) 4]) ∨ (¬ (m = 8 ∧ i + 1 < ts.length) ∧ r = [.bool true] ∧ o = [RBx ts (i + 1) 0]))) ∨
    (standsZ [41] ts i = false ∧ standsZ [44] ts i = false ∧ r = [.bool false] ∧ o = [RBx ts i 2]) := by
  refine more.calls (K := fun r o => (standsZ [41] ts i = true ∧ r = [.bool false] ∧ o = [RBx ts (i + 1) 0]) ∨ (standsZ [41] ts i = false ∧ standsZ [44] ts i = true ∧ ((m = 8 ∧ i + 1 < ts.length ∧ r = [.bool false] ∧ o = [RBx ts (i + 1) 4]) ∨ (¬ (m = 8 ∧ i + 1 < ts.length) ∧ r = [.bool true] ∧ o = [RBx ts (i + 1) 0]))) ∨
    (standsZ [41] ts i = false ∧ standsZ [44] ts i = false ∧ r = [.bool false] ∧ o = [RBx ts i 2])) ?_
  unfold more.W
  refine ⟨fun us => standsZ [41] ts i = false ∧ ((standsZ [44] ts i = true ∧ us = [.sl 3 (encTs ts), .int .i64 ((i + 1 : Nat) : Int), .int .i64 0]) ∨ (standsZ [44] ts i = false ∧ us = [.sl 3 (encTs ts), .int .i64 i, .int .i64 2])), ?_, ?_⟩
  · refine ifE (fun h => absurd h (by omega)) (fun _ => ?_)
    refine (got_spec [41] ts i 0 hi).mono fun r o ⟨hr, ho⟩ => ⟨_, _, _, _, hr, ho, ifB (fun h => ?_) (fun h => ?_)⟩
    · have h' : standsZ [41] ts i = true := by simpa using h
      exact .inl ⟨h', rfl, by simp [h']⟩
    · have h' : standsZ [41] ts i = false := by simpa using h
      refine ifNE (fun hh => absurd rfl hh) (fun _ => ?_)
      rw [h, if_neg (by simp)]
      refine (need_spec [44] ts i hi).mono fun r o ⟨hr, ho⟩ => ?_
      cases h44 : standsZ [44] ts i with
      | true =>
        rw [h44, if_pos rfl] at ho
        exact ⟨_, _, _, hr, ho, h', .inl ⟨rfl, rfl⟩⟩
      | false =>
        rw [h44, if_neg (by simp)] at ho
        exact ⟨_, _, _, hr, ho, h', .inr ⟨rfl, rfl⟩⟩
  · rintro l37 n38 n39 ⟨h41, ⟨h44, e⟩ | ⟨h44, e⟩⟩
    · cases e
      refine ifE (fun h8 => ?_) (fun h8 => .inr (.inl ⟨h41, h44, .inr ⟨fun h => h8 (by omega), rfl, rfl⟩⟩))
      refine (rend_spec ts (i + 1) 0).mono fun r o ⟨hr, ho⟩ => ⟨_, _, _, _, hr, ho, ifN (fun h => ?_) (fun h => ?_)⟩
      · obtain ⟨_, hlt⟩ := endZ_false h
        exact (fail_spec 4 ts (i + 1) 0).mono fun r o ⟨hr, ho⟩ => ⟨_, _, _, hr, ho, .inr (.inl ⟨h41, h44, .inl ⟨by omega, hlt, rfl, rfl⟩⟩)⟩
      · have hge : ts.length ≤ i + 1 := (endZ_true h).resolve_left (by simp)
        exact .inr (.inl ⟨h41, h44, .inr ⟨fun hh => by omega, rfl, rfl⟩⟩)
    · cases e
      refine ifE (fun h8 => ?_) (fun h8 => .inr (.inr ⟨h41, h44, rfl, rfl⟩))
      refine (rend_spec ts i 2).mono fun r o ⟨hr, ho⟩ => ⟨_, _, _, _, hr, ho, ifN (fun h => ?_) (fun h => .inr (.inr ⟨h41, h44, rfl, rfl⟩))⟩
      exact absurd (endZ_false h).1 (by decide)
end Go.Proofs.YtgjifgjjcaohoaaGreatDoor.Va
end

/- part Z2S -/
section
namespace Go.Proofs.YtgjifgjjcaohoaaGreatDoor.Va
open Go.Vx Go.Av Go.Lx Go.Dr

def Beh (ts : List Tok) (g n : Nat) (acc : List Tr) (j : Nat) (G : Int × List Tr × List Tok) : Prop :=
  (standsZ [41] ts j = true → G = (0, acc, ts.drop (j + 1)) ∧ j < ts.length) ∧
  (standsZ [41] ts j = false → standsZ [44] ts j = true → G = parR g (n + 1) acc (ts.drop (j + 1)) ∧ j < ts.length) ∧
  (standsZ [41] ts j = false → standsZ [44] ts j = false → G.1 = 2)
theorem beh_of {ts : List Tok} {g n : Nat} {acc : List Tr} {t0 : List Tok} {x : Tr} {j' : Nat} (hno : ¬ (acc.length = 8 ∧ t0 ≠ [])) (hp : parT g (n + 1) t0 = (0, x, ts.drop j')) : Beh ts g n (acc ++ [x]) j' (parR (g + 1) (n + 1) acc t0) := by
  rcases Nat.lt_or_ge j' ts.length with h | h
  · obtain ⟨p, hp1, hp2⟩ := zget h
    rw [hp2] at hp
    unfold Beh
    rw [standsZ_some hp1, standsZ_some hp1]
    exact ⟨fun h1 => ⟨parR_end hno hp h1, h⟩, fun h1 h2 => ⟨parR_more hno hp h1 h2, h⟩, fun h1 h2 => parR_bad hno hp h1 h2⟩
  · rw [List.drop_eq_nil_of_le h] at hp
    unfold Beh
    rw [standsZ_none h, standsZ_none h]
    exact ⟨fun h => (by cases h), fun _ h => (by cases h), fun _ _ => parR_nil hno hp⟩

def RT (f : Nat) : Prop := ∀ (n : Nat) (ts : List Tok) (i : Nat), n ≤ 65 → ts.length ≤ big → i ≤ ts.length → 2 * (ts.length - i) + 1 ≤ f →
  SCalls ax 36 [.ptr 0 0, .int .i64 n] [RBx ts i 0] fun r o => (∃ x j, parT f n (ts.drop i) = (0, x, ts.drop j) ∧ i ≤ j ∧ j ≤ ts.length ∧ r = [.agg (encR x)] ∧ o = [RBx ts j 0]) ∨
    ∃ y j c, (parT f n (ts.drop i)).1 = c ∧ c ≠ 0 ∧ j ≤ ts.length ∧ r = [.agg (encR y)] ∧ o = [RBx ts j c]

theorem rterm_step {f : Nat} (ih : ∀ g, g ≤ f → RT g) : RT (f + 1) := by
  intro n ts i hn hl hi hf
  have hb := big9
  generalize hP : parT (f + 1) n (ts.drop i) = P
  refine rterm.calls (K := fun r o => (∃ x j, P = (0, x, ts.drop j) ∧ i ≤ j ∧ j ≤ ts.length ∧ r = [.agg (encR x)] ∧ o = [RBx ts j 0]) ∨
    ∃ y j c, P.1 = c ∧ c ≠ 0 ∧ j ≤ ts.length ∧ r = [.agg (encR y)] ∧ o = [RBx ts j c]) ?_
  unfold rterm.W
  have hdne : i < ts.length → ts.drop i ≠ [] := fun h hh => by have := congrArg List.length hh; rw [List.length_drop, List.length_nil] at this; omega
  refine (rnest_spec n ts i 0).mono fun r o ⟨hr, ho⟩ => ⟨_, _, _, hr, ho, ?_⟩
  -- the error so far
  generalize he0 : (if 64 < n ∧ endZ ts i 0 = false then (3 : Int) else 0) = e0
  have hw : ∀ i : Nat, i ≤ big → IntKind.i64.wrap (IntKind.i64.wrap ((i : Int) + 1) - 1) = (i : Int) := fun i hi => by rw [zstep (by omega), w64 (by omega) (by omega)]; omega
  refine ⟨fun us => ∃ b : Bool, us = [.bool b, .sl 3 (encTs ts), .int .i64 i, .int .i64 e0] ∧ (b = true → e0 = 0 ∧ ∃ t, ts[i]? = some t ∧ t.k = 3) ∧ (b = false → e0 = 0 → ∀ t, ts[i]? = some t → t.k ≠ 3), ?_, ?_⟩
  · refine (rend_spec ts i e0).mono fun r o ⟨hr, ho⟩ => ⟨_, _, _, _, hr, ho, ifN (fun h => ?_) (fun h => ?_)⟩
    · obtain ⟨h0, hlt⟩ := endZ_false h
      obtain ⟨t, ht, _⟩ := zget hlt
      obtain ⟨r1, _, _⟩ := row1 ht
      rw [encTs_length]
      refine ⟨by omega, by omega, t.k, r1, _, rfl, fun hh => ⟨h0, t, ht, by simpa using hh⟩, fun hh _ t' ht' => ?_⟩
      rw [ht] at ht'; cases ht'
      simpa using hh
    · refine ⟨false, rfl, fun hh => (by cases hh), fun _ h0 t ht => ?_⟩
      rcases endZ_true h with h | h
      · exact absurd h0 h
      · rw [List.getElem?_eq_none h] at ht; cases ht
  rintro b47 l48 n49 n50 ⟨b, e, hb1, hb2⟩
  cases e
  refine ifB (fun h => ?_) (fun h => ?_)
  · obtain ⟨h0, t, ht, hk⟩ := hb1 h
    have hlt := (List.getElem?_eq_some_iff.1 ht).1
    obtain ⟨_, _, r3⟩ := row1 ht
    have hn64 : ¬ 64 < n := fun hh => by
      rw [if_pos ⟨hh, by simp [endZ]; omega⟩] at he0
      rw [h0] at he0; cases he0
    rw [hw i (by omega), encTs_length, zstep (by omega), h0]
    refine ⟨by omega, by omega, t.n, r3, .inl ⟨.mk 2 [] t.n [], i + 1, ?_, by omega, by omega, rfl, rfl⟩⟩
    rw [← hP, List.drop_eq_getElem_cons hlt, show ts[i] = t from by rw [List.getElem?_eq_getElem hlt] at ht; exact Option.some.inj ht]
    exact parT_int hn64 hk
  have hb2 := hb2 h
  refine ⟨fun us => ∃ b : Bool, us = [.bool b, .sl 3 (encTs ts), .int .i64 i, .int .i64 e0] ∧ (b = true → e0 = 0 ∧ ∃ t, ts[i]? = some t ∧ t.k = 2) ∧ (b = false → e0 = 0 → ∀ t, ts[i]? = some t → t.k ≠ 2), ?_, ?_⟩
  · refine (rend_spec ts i e0).mono fun r o ⟨hr, ho⟩ => ⟨_, _, _, _, hr, ho, ifN (fun h => ?_) (fun h => ?_)⟩
    · obtain ⟨h0, hlt⟩ := endZ_false h
      obtain ⟨t, ht, _⟩ := zget hlt
      obtain ⟨r1, _, _⟩ := row1 ht
      rw [encTs_length]
      refine ⟨by omega, by omega, t.k, r1, _, rfl, fun hh => ⟨h0, t, ht, by simpa using hh⟩, fun hh _ t' ht' => ?_⟩
      rw [ht] at ht'; cases ht'
      simpa using hh
    · refine ⟨false, rfl, fun hh => (by cases hh), fun _ h0 t ht => ?_⟩
      rcases endZ_true h with h | h
      · exact absurd h0 h
      · rw [List.getElem?_eq_none h] at ht; cases ht
  rintro b87 l88 n89 n90 ⟨b', e, hc1, hc2⟩
  cases e
  refine ifB (fun h => ?_) (fun h => ?_)
  · obtain ⟨h0, t, ht, hk⟩ := hc1 h
    have hlt := (List.getElem?_eq_some_iff.1 ht).1
    obtain ⟨_, r2, _⟩ := row1 ht
    have hn64 : ¬ 64 < n := fun hh => by
      rw [if_pos ⟨hh, by simp [endZ]; omega⟩] at he0
      rw [h0] at he0; cases he0
    rw [hw i (by omega), encTs_length, zstep (by omega), h0]
    refine ⟨by omega, by omega, bs t.t, r2, .inl ⟨.mk 1 t.t 0 [], i + 1, ?_, by omega, by omega, rfl, rfl⟩⟩
    rw [← hP, List.drop_eq_getElem_cons hlt, show ts[i] = t from by rw [List.getElem?_eq_getElem hlt] at ht; exact Option.some.inj ht]
    exact parT_var hn64 hk
  have hc2 := hc2 h
  generalize hG : parR f (n + 1) [] (ts.drop (i + 2)) = G
  let Inv : List V → Prop := fun us => ∃ (j : Nat) (e : Int) (name : List UInt8) (acc : List Tr), us = [.sl 3 (encTs ts), .int .i64 j, .int .i64 e, .int .i64 3, .str (bs name), .int .i64 0, .sl 4 (encRs acc)] ∧ j ≤ ts.length ∧
    ((e ≠ 0 ∧ P.1 = e) ∨ (e = 0 ∧ ¬ 64 < n ∧ ∃ t, ts[i]? = some t ∧ t.k = 1 ∧ isRes t.t = false ∧ name = t.t ∧ ((acc = [] ∧ j = i + 1) ∨ (acc ≠ [] ∧ i + 2 ≤ j ∧ acc.length ≤ j ∧ standsZ [40] ts (i + 1) = true ∧ ∃ g, g < f ∧ 2 * (ts.length - j) + 1 ≤ g ∧ Beh ts g n acc j G))))
  let μ : List V → Nat := fun us => match us with | [_, .int _ j, .int _ e, _, _, _, _] => if e = 0 then ts.length + 1 - j.toNat else 0 | _ => 0
  have start : SCalls ax 52 [.ptr 0 0, .int .i64 1] [RBx ts i e0] fun r o => ∃ name j e, r = [.str (bs name)] ∧ o = [RBx ts j e] ∧ Inv [.sl 3 (encTs ts), .int .i64 j, .int .i64 e, .int .i64 3, .str (bs name), .int .i64 0, .sl 4 []] := by
    by_cases h0 : e0 = 0
    · have hn64 : ¬ (64 < n ∧ endZ ts i 0 = false) := fun hh => by rw [if_pos hh] at he0; rw [h0] at he0; cases he0
      rw [h0]
      refine (rword_spec ts i (by omega)).mono fun r o hh => ?_
      rcases hh with ⟨t, ht, hk1, hk2, hr, ho⟩ | ⟨hbad, hr, ho⟩
      · have hlt := (List.getElem?_eq_some_iff.1 ht).1
        exact ⟨t.t, i + 1, 0, hr, ho, i + 1, 0, t.t, [], rfl, hlt, .inr ⟨rfl, fun hh => hn64 ⟨hh, by simp [endZ]; omega⟩, t, ht, hk1, hk2, rfl, .inl ⟨rfl, rfl⟩⟩⟩
      · refine ⟨[], i, 2, hr, ho, i, 2, [], [], rfl, hi, .inl ⟨by decide, ?_⟩⟩
        rw [← hP]
        rcases Nat.lt_or_ge i ts.length with hlt | hge
        · obtain ⟨t, ht, hd⟩ := zget hlt
          rw [hd]
          exact parT_bad (fun hh => hn64 ⟨hh, by simp [endZ]; omega⟩) (hc2 h0 t ht) (hb2 h0 t ht) (hbad t ht)
        · rw [List.drop_eq_nil_of_le hge]; exact parT_nil
    · refine (rword_err ts i e0 h0).mono fun r o ⟨hr, ho⟩ => ⟨[], i, e0, hr, ho, i, e0, [], [], rfl, hi, .inl ⟨h0, ?_⟩⟩
      by_cases hc : 64 < n ∧ endZ ts i 0 = false
      · rw [if_pos hc] at he0
        obtain ⟨_, hlt⟩ := endZ_false hc.2
        rw [← hP, ← he0]
        exact parT_nest ⟨hc.1, hdne hlt⟩
      · rw [if_neg hc] at he0; exact absurd he0.symm h0
  refine start.mono fun r o ⟨name0, j0, e1, hr, ho, hinv⟩ => ⟨_, _, _, _, hr, ho, Inv, μ, hinv, ?_⟩
  clear hinv
  rintro l143 n144 n145 n146 s147 n148 l149 ⟨j, e, name, acc, eq, hj, hcase⟩
  cases eq
  refine ifE (fun he => ?_) (fun he => ?_)
  · rcases hcase with ⟨hne, _⟩ | ⟨_, hn64, t, ht, hk1, hk2, hname, hcase⟩
    · exact absurd he hne
    subst hname
    rw [he, encRs_length]
    have hlt := (List.getElem?_eq_some_iff.1 ht).1
    have hdi : ts.drop i = t :: ts.drop (i + 1) := by rw [List.drop_eq_getElem_cons hlt, show ts[i] = t from by rw [List.getElem?_eq_getElem hlt] at ht; exact Option.some.inj ht]
    -- one element more
    have element : ∀ (j1 g : Nat), i + 2 ≤ j1 → j1 ≤ ts.length → j < j1 → acc.length < j1 → standsZ [40] ts (i + 1) = true → g < f → 2 * (ts.length - j1) + 1 ≤ g → ¬ (acc.length = 8 ∧ ts.drop j1 ≠ []) → parR (g + 1) (n + 1) acc (ts.drop j1) = G →
        SCalls ax 36 [(.ptr 0 0), (.int .i64 (IntKind.i64.wrap ((n : Int) + 1)))] [RBx ts j1 0] fun r160 o164 => ∃ (n156 : Int) (s157 : ByteArray) (n158 : Int) (l159 : List (List V)) (l161 : List (List V)) (n162 : Int) (n163 : Int), r160 = [(.agg [(.int .i64 n156), (.str s157), (.int .i64 n158), (.sl 4 l159)])] ∧ o164 = [(.box [(.sl 3 l161), (.int .i64 n162), (.int .i64 n163)])] ∧ ((acc.length + (List.length ([[(.int .i64 n156), (.str s157), (.int .i64 n158), (.sl 4 l159)]] : List (List V)))) * 56 ≤ 140737488355328 ∧ acc.length + (List.length ([[(.int .i64 n156), (.str s157), (.int .i64 n158), (.sl 4 l159)]] : List (List V))) ≤ 140737488355328 ∧ (Inv [(.sl 3 l161), (.int .i64 n162), (.int .i64 n163), (.int .i64 3), (.str (bs t.t)), (.int .i64 0), (.sl 4 (encRs acc ++ [[(.int .i64 n156), (.str s157), (.int .i64 n158), (.sl 4 l159)]]))] ∧ μ [(.sl 3 l161), (.int .i64 n162), (.int .i64 n163), (.int .i64 3), (.str (bs t.t)), (.int .i64 0), (.sl 4 (encRs acc ++ [[(.int .i64 n156), (.str s157), (.int .i64 n158), (.sl 4 l159)]]))] < μ [(.sl 3 (encTs ts)), (.int .i64 j), (.int .i64 0), (.int .i64 3), (.str (bs t.t)), (.int .i64 0), (.sl 4 (encRs acc))])) := by
      intro j1 g h1 h2 h3 h4 hs hg hfu hno hpar
      rw [zstep (by omega)]
      refine (ih g (by omega) (n + 1) ts j1 (by omega) hl h2 hfu).mono fun r o hh => ?_
      have hlt1 : i + 1 < ts.length := by
        rcases Nat.lt_or_ge (i + 1) ts.length with h | h
        · exact h
        · rw [standsZ_none h] at hs; cases hs
      obtain ⟨p, hp1, hp2⟩ := zget hlt1
      rw [standsZ_some hp1] at hs
      have hrow := parT_row (f := f) (n := n) (r := ts.drop (i + 2)) hn64 ⟨hk1, hk2⟩ hs
      rw [hG] at hrow
      have hPd : parT (f + 1) n (t :: p :: ts.drop (i + 2)) = P := by rw [← hP, hdi, hp2]
      rw [hPd] at hrow
      rcases hh with ⟨x, j', hx, hjj, hj', hr, ho⟩ | ⟨y, j', c, hc, hc0, hj', hr, ho⟩
      · obtain ⟨k, s, m, zs, rfl⟩ := tr_cases x
        have hap : encRs acc ++ [[.int .i64 k, .str (bs s), .int .i64 m, .sl 4 (encRs zs)]] = encRs (acc ++ [.mk k s m zs]) := by rw [encRs_append]; rfl
        refine ⟨k, bs s, m, encRs zs, encTs ts, j', 0, hr, ho, by simp only [List.length_cons, List.length_nil]; omega, by simp only [List.length_cons, List.length_nil]; omega, ?_⟩
        rw [hap]
        have hbeh := beh_of hno hx
        rw [hpar] at hbeh
        refine ⟨⟨j', 0, t.t, acc ++ [.mk k s m zs], rfl, hj', .inr ⟨rfl, hn64, t, ht, hk1, hk2, rfl, .inr ⟨by simp, by omega, by rw [List.length_append, List.length_cons, List.length_nil]; omega, by rw [standsZ_some hp1]; exact hs, g, hg, by omega, hbeh⟩⟩⟩, ?_⟩
        simp only [μ, if_pos, Int.toNat_natCast]; omega
      · obtain ⟨k, s, m, zs, rfl⟩ := tr_cases y
        have hap : encRs acc ++ [[.int .i64 k, .str (bs s), .int .i64 m, .sl 4 (encRs zs)]] = encRs (acc ++ [.mk k s m zs]) := by rw [encRs_append]; rfl
        refine ⟨k, bs s, m, encRs zs, encTs ts, j', c, hr, ho, by simp only [List.length_cons, List.length_nil]; omega, by simp only [List.length_cons, List.length_nil]; omega, ?_⟩
        rw [hap]
        have hG1 : G.1 = c := by rw [← hpar, parR_err hno (by rw [hc]; exact hc0), hc]
        refine ⟨⟨j', c, t.t, acc ++ [.mk k s m zs], rfl, hj', .inl ⟨hc0, by rw [hrow.1 (by rw [hG1]; exact hc0), hG1]⟩⟩, ?_⟩
        simp only [μ, if_neg hc0, if_pos, Int.toNat_natCast]; omega
    rcases hcase with ⟨hacc, hj1⟩ | ⟨hacc, hij, hal, hs40, g, hg, hfu, hbeh⟩
    · subst hacc hj1
      refine (more0_spec ts (i + 1) (by omega)).mono fun r o ⟨hr, ho⟩ => ⟨_, _, _, _, hr, ho, ifB (fun hs => ?_) (fun hs => ?_)⟩
      · rw [if_pos hs]
        have hlt1 : i + 1 < ts.length := by
          rcases Nat.lt_or_ge (i + 1) ts.length with h | h
          · exact h
          · rw [standsZ_none h] at hs; cases hs
        obtain ⟨g, rfl⟩ : ∃ g, f = g + 1 := ⟨f - 1, by omega⟩
        exact element (i + 2) g (Nat.le_refl _) (by omega) (by omega) (by simp) hs (by omega) (by omega) (by simp) hG
      · rw [if_neg (by simp [hs])]
        refine .inl ⟨.mk 3 t.t 0 [], i + 1, ?_, by omega, hj, rfl, rfl⟩
        rw [← hP, hdi]
        rcases Nat.lt_or_ge (i + 1) ts.length with h | h
        · obtain ⟨p, hp1, hp2⟩ := zget h
          rw [standsZ_some hp1] at hs
          rw [hp2]
          exact parT_name hn64 ⟨hk1, hk2⟩ hs
        · rw [List.drop_eq_nil_of_le h]
          exact parT_one hn64 ⟨hk1, hk2⟩
    · have hlt1 : i + 1 < ts.length := by
        rcases Nat.lt_or_ge (i + 1) ts.length with h | h
        · exact h
        · rw [standsZ_none h] at hs40; cases hs40
      obtain ⟨p, hp1, hp2⟩ := zget hlt1
      have hs40' := hs40
      rw [standsZ_some hp1] at hs40'
      have hrow := parT_row (f := f) (n := n) (r := ts.drop (i + 2)) hn64 ⟨hk1, hk2⟩ hs40'
      rw [hG] at hrow
      have hPd : parT (f + 1) n (t :: p :: ts.drop (i + 2)) = P := by rw [← hP, hdi, hp2]
      rw [hPd] at hrow
      obtain ⟨b1, b2, b3⟩ := hbeh
      refine (moreS_spec acc.length (List.length_pos_iff.2 hacc) ts j (by omega)).mono fun r o hh => ?_
      rcases hh with ⟨h41, hr, ho⟩ | ⟨h41, h44, ⟨h8, hjl, hr, ho⟩ | ⟨hno, hr, ho⟩⟩ | ⟨h41, h44, hr, ho⟩
      · obtain ⟨g1, g2⟩ := b1 h41
        exact ⟨_, _, _, _, hr, ho, .inl ⟨.mk 3 t.t 0 acc, j + 1, hrow.2 _ _ g1, by omega, by omega, rfl, rfl⟩⟩
      · obtain ⟨g1, g2⟩ := b2 h41 h44
        obtain ⟨g', rfl⟩ : ∃ g', g = g' + 1 := ⟨g - 1, by omega⟩
        have hG4 : G.1 = 4 := by rw [g1, parR_big ⟨h8, fun hh => by have := congrArg List.length hh; rw [List.length_drop, List.length_nil] at this; omega⟩]
        exact ⟨_, _, _, _, hr, ho, .inr ⟨.mk 3 t.t 0 acc, j + 1, 4, by rw [hrow.1 (by rw [hG4]; decide), hG4], by decide, by omega, rfl, rfl⟩⟩
      · obtain ⟨g1, g2⟩ := b2 h41 h44
        obtain ⟨g', rfl⟩ : ∃ g', g = g' + 1 := ⟨g - 1, by omega⟩
        refine ⟨_, _, _, _, hr, ho, ?_⟩
        exact element (j + 1) g' (by omega) (by omega) (by omega) (by omega) hs40 (by omega) (by omega) (fun hh => hno ⟨hh.1, by
          rcases Nat.lt_or_ge (j + 1) ts.length with h | h
          · exact h
          · exact absurd (List.drop_eq_nil_of_le h) hh.2⟩) g1.symm
      · have hG2 := b3 h41 h44
        exact ⟨_, _, _, _, hr, ho, .inr ⟨.mk 3 t.t 0 acc, j, 2, by rw [hrow.1 (by rw [hG2]; decide), hG2], by decide, hj, rfl, rfl⟩⟩
  · rcases hcase with ⟨hne, hPe⟩ | ⟨h0, _⟩
    · exact .inr ⟨.mk 3 name 0 acc, j, _, hPe, hne, hj, rfl, rfl⟩
    · exact absurd h0 he
theorem rterm_spec : ∀ f, RT f := by
  intro f
  induction f using Nat.strongRecOn with
  | _ f ih =>
  cases f with
  | zero => intro n ts i _ _ _ h; omega
  | succ f => exact rterm_step fun g hg => ih g (by omega)
end Go.Proofs.YtgjifgjjcaohoaaGreatDoor.Va
end

/- part Z2T -/
section
namespace Go.Lx
open Go.Proofs.YtgjifgjjcaohoaaGreatDoor.Va
theorem lexR_ok {l : List UInt8} (h : (lexR l).2 = none) : l.length ≤ 16384 ∧ (allL l).2 = true ∧ (lexR l).1 = (allL l).1 := by
  unfold lexR at h ⊢
  split
  · rename_i h1; rw [if_pos h1] at h; cases h
  · rename_i h1
    rw [if_neg h1] at h
    split
    · rename_i h2; exact ⟨by omega, h2, rfl⟩
    · rename_i h2; rw [if_neg h2] at h; cases h
theorem lexR_good {l : List UInt8} (h1 : l.length ≤ 16384) (h2 : (allL l).2 = true) : lexR l = ((allL l).1, none) := by
  unfold lexR; rw [if_neg (by omega), if_pos h2]
/-- no more tokens than bytes, and no token longer than the text -/
theorem allL_len : ∀ (n : Nat) (l : List UInt8), l.length ≤ n → (allL l).1.length ≤ l.length ∧ ∀ t ∈ (allL l).1, t.t.length ≤ l.length := by
  intro n
  induction n with
  | zero => intro l h; have : l = [] := List.eq_nil_of_length_eq_zero (by omega); subst this; exact ⟨Nat.zero_le _, fun t ht => by simp [allL, allF] at ht⟩
  | succ n ih =>
    intro l h
    cases hd : l.drop (skipC false l) with
    | nil => rw [allL_nil hd]; exact ⟨Nat.zero_le _, fun t ht => by simp at ht⟩
    | cons c r =>
      have hl : (c :: r).length ≤ l.length := by rw [← hd, List.length_drop]; omega
      cases ht : (tokL (c :: r)).2 with
      | false => rw [allL_bad hd ht]; exact ⟨Nat.zero_le _, fun t ht => by simp at ht⟩
      | true =>
        obtain ⟨t1, t2, _⟩ := tokL_text ht
        rw [allL_cons hd ht]
        obtain ⟨i1, i2⟩ := ih ((c :: r).drop (tokL (c :: r)).1.t.length) (by rw [List.length_drop]; omega)
        rw [List.length_drop] at i1 i2
        refine ⟨by simp only [List.length_cons] at *; omega, fun t hm => ?_⟩
        rcases List.mem_cons.1 hm with rfl | hm
        · omega
        · have := i2 t hm; omega
theorem eqL_tok (a b : Tok) : Av.eqL (encT a) (encT b) = decide (a = b) := by
  obtain ⟨k, t, n⟩ := a
  obtain ⟨k', t', n'⟩ := b
  show ((k == k') && (Av.strEq (bs t) (bs t') && (n == n'))) = _
  rw [Bool.eq_iff_iff]
  simp only [Bool.and_eq_true, beq_iff_eq, Av.strEq, decide_eq_true_eq, Tok.mk.injEq]
  exact ⟨fun ⟨h1, h2, h3⟩ => ⟨h1, bs_inj h2, h3⟩, fun ⟨h1, h2, h3⟩ => ⟨h1, by rw [h2], h3⟩⟩
theorem rowT {l : List Tok} {i : Nat} {t : Tok} (h : l[i]? = some t) : List.take 3 (Av.rowAt (encTs l) i) = encT t := by
  rw [encTs, Av.rowAt, List.getD_eq_getElem?_getD, List.getElem?_map, h]; rfl
end Go.Lx
namespace Go.Proofs.YtgjifgjjcaohoaaGreatDoor.Va
open Go.Vx Go.Av Go.Lx Go.Dr

theorem lexR_len (l : List UInt8) : (lexR l).1.length ≤ 16384 := by
  unfold lexR
  split
  · simp
  · rename_i h
    have := (allL_len _ l (Nat.le_refl _)).1
    split
    · simp only; omega
    · simp
theorem lexR_err (l : List UInt8) : (lexR l).2 = none ∨ (lexR l).2 = some 0 ∨ (lexR l).2 = some 2 := by
  unfold lexR
  split
  · exact .inr (.inl rfl)
  · split
    · exact .inl rfl
    · exact .inr (.inr rfl)
/-- the number of the lexer's error -/
def lexE : Option Nat → Int
  | none => 0
  | some 0 => 4
  | some _ => 1
theorem RLex_spec (l : List UInt8) : PCalls ax 49 [.str (bs l)] fun r => r = [.sl 3 (encTs (lexR l).1), .int .i64 (lexE (lexR l).2)] := by
  refine RLex.calls (K := fun r => r = [.sl 3 (encTs (lexR l).1), .int .i64 (lexE (lexR l).2)]) ?_
  unfold RLex.W
  rw [bs_size]
  refine ifD (fun h => ?_) (fun h => ?_)
  · have : 16384 < l.length := by omega
    simp [lexR, this, encTs, lexE]
  · have h' : ¬ 16384 < l.length := by omega
    refine (RAll_spec l (by have hb := big9; omega)).mono fun r ⟨P, hr⟩ => ⟨_, _, _, hr, ifN (fun h => ?_) (fun h => ?_)⟩
    · simp [lexR, h', h, encTs, lexE]
    · simp [lexR, h', h, lexE]
theorem rread_spec (l : List UInt8) : SCalls ax 35 [.str (bs l)] [] fun r o => r = [.ptr 0 0] ∧ o = [RBx (lexR l).1 0 (lexE (lexR l).2)] := by
  refine rread.calls (K := fun r o => r = [.ptr 0 0] ∧ o = [RBx (lexR l).1 0 (lexE (lexR l).2)]) ?_
  unfold rread.W
  exact (RLex_spec l).mono fun r hr => ⟨_, _, hr, rfl, rfl⟩
theorem rterm_err (n : Nat) (ts : List Tok) (i : Nat) (e : Int) (he : e ≠ 0) : SCalls ax 36 [.ptr 0 0, .int .i64 n] [RBx ts i e] fun r o => r = [.agg (encR (.mk 3 [] 0 []))] ∧ o = [RBx ts i e] := by
  refine rterm.calls (K := fun r o => r = [.agg (encR (.mk 3 [] 0 []))] ∧ o = [RBx ts i e]) ?_
  unfold rterm.W
  have hend : endZ ts i e = true := by simp [endZ, he]
  refine (rnest_spec n ts i e).mono fun r o ⟨hr, ho⟩ => ⟨_, _, _, hr, ho, ?_⟩
  rw [if_neg (fun h => by rw [hend] at h; cases h.2)]
  refine ⟨fun us => us = [.bool false, .sl 3 (encTs ts), .int .i64 i, .int .i64 e], (rend_spec ts i e).mono fun r o ⟨hr, ho⟩ => ⟨_, _, _, _, hr, ho, by rw [hend]; rfl⟩, ?_⟩
  rintro b47 l48 n49 n50 e1
  cases e1
  refine ifB (fun h => by cases h) (fun _ => ?_)
  refine ⟨fun us => us = [.bool false, .sl 3 (encTs ts), .int .i64 i, .int .i64 e], (rend_spec ts i e).mono fun r o ⟨hr, ho⟩ => ⟨_, _, _, _, hr, ho, by rw [hend]; rfl⟩, ?_⟩
  rintro b47 l48 n49 n50 e1
  cases e1
  refine ifB (fun h => by cases h) (fun _ => ?_)
  refine (rword_err ts i e he).mono fun r o ⟨hr, ho⟩ => ⟨_, _, _, _, hr, ho, fun us => us = [.sl 3 (encTs ts), .int .i64 i, .int .i64 e, .int .i64 3, .str (bs []), .int .i64 0, .sl 4 []], fun _ => 0, rfl, ?_⟩
  rintro l143 n144 n145 n146 s147 n148 l149 eq
  cases eq
  exact ifE (fun h => absurd h he) (fun _ => ⟨rfl, rfl⟩)

/-- the term of a text; a code -/
def zeroTr : Tr := .mk 0 [] 0 []
def endP (q : Int × Tr × List Tok) : Int × Tr := if q.1 = 0 then (if q.2.2 = [] then (0, q.2.1) else (2, zeroTr)) else (q.1, zeroTr)
def parZ (s : List UInt8) : Int × Tr := if (lexR s).2 = none then endP (parT (2 * (lexR s).1.length + 3) 1 (lexR s).1) else (lexE (lexR s).2, zeroTr)
theorem drop_nil_iff {ts : List Tok} {j : Nat} : ts.drop j = [] ↔ ts.length ≤ j := List.drop_eq_nil_iff
theorem RTerm_spec (s : List UInt8) : PCalls ax 21 [.str (bs s)] fun r => r = [.agg (encR (parZ s).2), .int .i64 (parZ s).1] := by
  refine RTerm.calls (K := fun r => r = [.agg (encR (parZ s).2), .int .i64 (parZ s).1]) ?_
  unfold RTerm.W
  have hl := lexR_len s
  have hb := big9
  refine (rread_spec s).mono fun r o ⟨hr, ho⟩ => ⟨_, _, _, hr, ho, ?_⟩
  have h1 : (1 : Int) = ((1 : Nat) : Int) := rfl
  by_cases hn : (lexR s).2 = none
  · have hz : parZ s = endP (parT (2 * (lexR s).1.length + 3) 1 (lexR s).1) := by unfold parZ; rw [if_pos hn]
    rw [hz, hn]
    generalize (lexR s).1 = ts at hl ⊢
    refine (rterm_spec (2 * ts.length + 3) 1 ts 0 (by omega) (by omega) (Nat.zero_le _) (by omega)).mono fun r o hh => ?_
    rw [List.drop_zero] at hh
    rcases hh with ⟨x, j, hx, _, hj, hr, ho⟩ | ⟨y, j, c, hc, hc0, hj, hr, ho⟩
    · obtain ⟨k, t, m, zs, rfl⟩ := tr_cases x
      refine ⟨k, bs t, m, encRs zs, _, _, _, hr, ho, ?_⟩
      refine (done_spec ts j 0).mono fun r o ⟨hr, ho⟩ => ⟨_, _, _, _, hr, ho, ?_⟩
      rw [hx]
      rcases Nat.lt_or_ge j ts.length with hlt | hge
      · rw [if_pos ⟨rfl, hlt⟩]
        refine ifNE (fun _ => ?_) (fun h => by cases h)
        have : endP (0, .mk k t m zs, ts.drop j) = (2, zeroTr) := by
          unfold endP
          rw [if_pos rfl, if_neg (by rw [drop_nil_iff]; omega)]
        rw [this]; rfl
      · rw [if_neg (fun h => by omega)]
        refine ifNE (fun h => absurd rfl h) (fun _ => ?_)
        have : endP (0, .mk k t m zs, ts.drop j) = (0, .mk k t m zs) := by
          unfold endP
          rw [if_pos rfl, if_pos (by rw [drop_nil_iff]; omega)]
        rw [this]; rfl
    · obtain ⟨k, t, m, zs, rfl⟩ := tr_cases y
      refine ⟨k, bs t, m, encRs zs, _, _, _, hr, ho, ?_⟩
      refine (done_spec ts j c).mono fun r o ⟨hr, ho⟩ => ⟨_, _, _, _, hr, ho, ?_⟩
      rw [if_neg (fun h => hc0 h.1)]
      refine ifNE (fun _ => ?_) (fun h => absurd h hc0)
      have : endP (parT (2 * ts.length + 3) 1 ts) = (c, zeroTr) := by
        unfold endP
        rw [if_neg (by rw [hc]; exact hc0), hc]
      rw [this]; rfl
  · have hz : parZ s = (lexE (lexR s).2, zeroTr) := by unfold parZ; rw [if_neg hn]
    have he : lexE (lexR s).2 ≠ 0 := by
      rcases lexR_err s with h | h | h
      · exact absurd h hn
      · rw [h]; decide
      · rw [h]; decide
    rw [hz]
    generalize lexE (lexR s).2 = e at he ⊢
    generalize (lexR s).1 = ts
    refine (rterm_err 1 ts 0 e he).mono fun r o ⟨hr, ho⟩ => ⟨_, _, _, _, _, _, _, hr, ho, ?_⟩
    refine (done_spec ts 0 e).mono fun r o ⟨hr, ho⟩ => ⟨_, _, _, _, hr, ho, ?_⟩
    rw [if_neg (fun h => he h.1)]
    exact ifNE (fun _ => rfl) (fun h => absurd h he)
end Go.Proofs.YtgjifgjjcaohoaaGreatDoor.Va
end

/- part Z2U -/
section
namespace Go.Dr
open Go.Av Go.Lx

inductive Dt where
  | mk (c : Bool) (n : Int) (s : List UInt8) (zs : List Dt)
theorem Dt.ind {p : Dt → Prop} (h : ∀ c n s zs, (∀ a ∈ zs, p a) → p (.mk c n s zs)) : ∀ t, p t
  | .mk c n s zs => h c n s zs (go zs)
where go : ∀ zs : List Dt, ∀ a ∈ zs, p a
  | b :: r, a, hm => by
    rcases List.mem_cons.1 hm with e | e
    · rw [e]; exact Dt.ind h b
    · exact go r a e
mutual
def encD : Dt → List V
  | .mk c n s zs => [.bool c, .int .i64 n, .str (bs s), .sl 4 (encDs zs)]
def encDs : List Dt → List (List V)
  | [] => []
  | t :: r => encD t :: encDs r
end
theorem encDs_eq : ∀ zs, encDs zs = zs.map encD
  | [] => rfl
  | t :: r => by rw [encDs, encDs_eq r]; rfl
@[simp] theorem encDs_length (zs : List Dt) : (encDs zs).length = zs.length := by rw [encDs_eq]; simp
@[simp] theorem encDs_append (a b : List Dt) : encDs (a ++ b) = encDs a ++ encDs b := by simp [encDs_eq]
theorem encD_take (t : Dt) : (encD t).take 4 = encD t := by cases t; rfl
theorem row_encDs {zs : List Dt} {i : Nat} {t : Dt} (h : zs[i]? = some t) : List.take 4 (Av.rowAt (encDs zs) i) = encD t := by
  rw [encDs_eq, Av.rowAt, List.getD_eq_getElem?_getD, List.getElem?_map, h]
  exact encD_take t
def zeroD : Dt := .mk false 0 [] []

/-! ### terms that were read: their kinds, how deep, how wide -/
mutual
def okTr : Nat → Tr → Prop
  | d, .mk k _ n zs => (k = 1 ∨ k = 2 ∨ k = 3) ∧ zs.length ≤ 8 ∧ (zs ≠ [] → 0 < d) ∧ okTrs (d - 1) zs ∧ (k ≠ 3 → zs = []) ∧ (-9223372036854775808 ≤ n ∧ n ≤ 9223372036854775807)
def okTrs : Nat → List Tr → Prop
  | _, [] => True
  | d, t :: r => okTr d t ∧ okTrs d r
end
theorem okTrs_iff {d : Nat} : ∀ zs, okTrs d zs ↔ ∀ z ∈ zs, okTr d z
  | [] => by simp [okTrs]
  | t :: r => by simp [okTrs, okTrs_iff r]
/-! a term as data; none: it has a variable -/
mutual
def ofT : Tr → Option Dt
  | .mk k s n zs => if k = 1 then none else if k = 2 then some (.mk false n [] []) else (ofTs zs).map fun l => .mk true 0 s l
def ofTs : List Tr → Option (List Dt)
  | [] => some []
  | t :: r => match ofT t with
    | some d => (ofTs r).map fun l => d :: l
    | none => none
end
theorem ofTs_snoc : ∀ (a : List Tr) (x : Tr), ofTs (a ++ [x]) = match ofTs a with
    | some l => (ofT x).map fun d => l ++ [d]
    | none => none
  | [], x => by
    simp only [List.nil_append, ofTs]
    cases ofT x <;> rfl
  | t :: r, x => by
    rw [List.cons_append, ofTs, ofTs]
    cases ofT t with
    | none => rfl
    | some d =>
      simp only
      rw [ofTs_snoc r x]
      cases ofTs r with
      | none => rfl
      | some l => cases ofT x <;> rfl
theorem ofTs_take_none : ∀ (zs : List Tr) (i : Nat), ofTs (zs.take i) = none → ofTs zs = none
  | [], i, h => by simpa using h
  | t :: r, 0, h => by simp [ofTs] at h
  | t :: r, i + 1, h => by
    rw [List.take_succ_cons, ofTs] at h
    rw [ofTs]
    cases ht : ofT t with
    | none => rfl
    | some d =>
      rw [ht] at h
      simp only [Option.map_eq_none_iff] at h ⊢
      exact ofTs_take_none r i h
theorem ofTs_len : ∀ (zs : List Tr) (l : List Dt), ofTs zs = some l → l.length = zs.length
  | [], l, h => by simp [ofTs] at h; subst h; rfl
  | t :: r, l, h => by
    rw [ofTs] at h
    cases ht : ofT t with
    | none => rw [ht] at h; cases h
    | some d =>
      rw [ht] at h
      simp only [Option.map_eq_some_iff] at h
      obtain ⟨l', h1, rfl⟩ := h
      simp [ofTs_len r l' h1]
end Go.Dr
end

/- part Z2V -/
section
namespace Go.Proofs.YtgjifgjjcaohoaaGreatDoor.Va
open Go.Vx Go.Av Go.Lx Go.Dr

theorem getTr {xs : List Tr} {i : Nat} (h : i < xs.length) : ∃ k s n l, xs[i]? = some (.mk k s n l) := by
  cases e : xs[i] with
  | mk k s n l => exact ⟨k, s, n, l, by rw [List.getElem?_eq_getElem h, e]⟩
theorem trow {xs : List Tr} {i : Nat} {t : Tr} (h : xs[i]? = some t) : List.take 4 (Av.rowAt (encRs xs) ((i : Int)).toNat) = encR t := row_encRs (by simpa using h)
theorem dt_cases (x : Dt) : ∃ c n s zs, x = .mk c n s zs := by cases x; exact ⟨_, _, _, _, rfl⟩

theorem of_spec : ∀ (t : Tr) (d : Nat), okTr d t → PCalls ax 20 [.agg (encR t)] fun r => r = [.agg (encD ((ofT t).getD zeroD)), .bool (ofT t).isSome] := by
  refine Tr.ind fun k s n xs ih => ?_
  rintro d ⟨hk, hl, hd, hxs, hz, hn⟩
  rw [okTrs_iff] at hxs
  refine of.calls (K := fun r => r = [.agg (encD ((ofT (.mk k s n xs)).getD zeroD)), .bool (ofT (.mk k s n xs)).isSome]) ?_
  unfold of.W
  rw [ofT]
  refine ifE (fun h1 => by rw [if_pos h1]; rfl) (fun h1 => ifE (fun h2 => by rw [if_neg h1, if_pos h2]; rfl) (fun h2 => ?_))
  rw [if_neg h1, if_neg h2, encRs_length]
  refine ⟨fun us => ∃ (i : Nat) (l : List Dt), i ≤ xs.length ∧ ofTs (xs.take i) = some l ∧ us = [.int .i64 i, .bool true, .int .i64 0, .str (bs s), .sl 4 (encDs l)], fun us => match us with | .int _ i :: _ => xs.length - i.toNat | _ => 0, ⟨0, [], Nat.zero_le _, rfl, rfl⟩, ?_⟩
  rintro n41 b42 n43 s44 l45 ⟨i, l, hi, hof, e⟩
  cases e
  have hll := ofTs_len _ _ hof
  rw [List.length_take] at hll
  refine ifD (fun hlt => ?_) (fun hge => ?_)
  · have hi' : i < xs.length := by omega
    obtain ⟨k', s', n', l', he⟩ := getTr hi'
    have hm := List.mem_of_getElem? he
    refine ⟨by omega, hlt, k', bs s', n', encRs l', trow he, ?_⟩
    have hsn := ofTs_snoc (xs.take i) (.mk k' s' n' l')
    have htk : xs.take (i + 1) = xs.take i ++ [.mk k' s' n' l'] := by rw [List.take_add_one, he]; rfl
    rw [← htk, hof] at hsn
    refine (ih _ hm _ (hxs _ hm)).mono fun r hr => ?_
    cases hof' : ofT (.mk k' s' n' l') with
    | none =>
      rw [hof'] at hr hsn
      refine ⟨_, _, _, _, _, hr, ifN (fun _ => ?_) (fun h => by cases h)⟩
      rw [ofTs_take_none xs (i + 1) hsn]
      rfl
    | some x =>
      rw [hof'] at hr hsn
      obtain ⟨c, m, q, zs, rfl⟩ := dt_cases x
      refine ⟨c, m, bs q, encDs zs, true, hr, ifN (fun h => by cases h) (fun _ => ?_)⟩
      have hap : encDs l ++ [[.bool c, .int .i64 m, .str (bs q), .sl 4 (encDs zs)]] = encDs (l ++ [.mk c m q zs]) := by rw [encDs_append]; rfl
      rw [hap, zstep (by omega), encDs_length]
      simp only [List.length_cons, List.length_nil]
      exact ⟨by omega, by omega, ⟨i + 1, l ++ [.mk c m q zs], by omega, by rw [hsn]; rfl, rfl⟩, by simp only [Int.toNat_natCast]; omega⟩
  · rw [List.take_of_length_le (by omega)] at hof
    rw [hof]
    rfl

theorem rof_spec : ∀ (t : Tr) (d : Nat), okTr d t → PCalls ax 22 [.agg (encR t)] fun r => ∃ y : Dt, r = [.agg (encD y), .bool (ofT t).isSome] ∧ ∀ x, ofT t = some x → y = x := by
  refine Tr.ind fun k s n xs ih => ?_
  rintro d ⟨hk, hl, hd, hxs, hz, hn⟩
  rw [okTrs_iff] at hxs
  refine rof.calls (K := fun r => ∃ y : Dt, r = [.agg (encD y), .bool (ofT (.mk k s n xs)).isSome] ∧ ∀ x, ofT (.mk k s n xs) = some x → y = x) ?_
  unfold rof.W
  rw [ofT]
  refine ifE (fun h2 => ?_) (fun h2 => ?_)
  · rw [if_neg (by omega), if_pos h2]
    exact ⟨.mk false n [] [], rfl, fun x hx => by cases hx; rfl⟩
  rw [encRs_length]
  refine ⟨fun us => ∃ (i : Nat) (l : List Dt) (b : Bool), i ≤ xs.length ∧ l.length = i ∧ b = (decide (k = 3) && (ofTs (xs.take i)).isSome) ∧ (∀ l', ofTs (xs.take i) = some l' → l = l') ∧ us = [.bool b, .int .i64 i, .bool true, .int .i64 0, .str (bs s), .sl 4 (encDs l)],
    fun us => match us with | _ :: .int _ i :: _ => xs.length - i.toNat | _ => 0, ⟨0, [], decide (k = 3), Nat.zero_le _, rfl, by simp [ofTs], fun l' h => by simp [ofTs] at h; exact h.symm, by rw [show (k == (3 : Int)) = decide (k = 3) by rw [Bool.eq_iff_iff]; simp]; rfl⟩, ?_⟩
  rintro b43 n44 b45 n46 s47 l48 ⟨i, l, b, hi, hll, hb, hof, e⟩
  cases e
  refine ifD (fun hlt => ?_) (fun hge => ?_)
  · have hi' : i < xs.length := by omega
    obtain ⟨k', s', n', l', he⟩ := getTr hi'
    have hm := List.mem_of_getElem? he
    refine ⟨by omega, hlt, k', bs s', n', encRs l', trow he, ?_⟩
    have hsn := ofTs_snoc (xs.take i) (.mk k' s' n' l')
    have htk : xs.take (i + 1) = xs.take i ++ [.mk k' s' n' l'] := by rw [List.take_add_one, he]; rfl
    rw [← htk] at hsn
    refine (ih _ hm _ (hxs _ hm)).mono fun r ⟨y, hr, hy⟩ => ?_
    obtain ⟨c, m, q, zs, rfl⟩ := dt_cases y
    have hap : encDs l ++ [[.bool c, .int .i64 m, .str (bs q), .sl 4 (encDs zs)]] = encDs (l ++ [.mk c m q zs]) := by rw [encDs_append]; rfl
    refine ⟨c, m, bs q, encDs zs, _, hr, ?_⟩
    rw [hap, zstep (by omega), encDs_length]
    simp only [List.length_cons, List.length_nil]
    have hnext : ∀ b' : Bool, b' = (b43 && (ofT (.mk k' s' n' l')).isSome) → ∃ (i' : Nat) (l2 : List Dt) (b2 : Bool), i' ≤ xs.length ∧ l2.length = i' ∧ b2 = (decide (k = 3) && (ofTs (xs.take i')).isSome) ∧ (∀ l3, ofTs (xs.take i') = some l3 → l2 = l3) ∧ [V.bool b', .int .i64 ((i + 1 : Nat) : Int), .bool true, .int .i64 0, .str (bs s), .sl 4 (encDs (l ++ [.mk c m q zs]))] = [.bool b2, .int .i64 i', .bool true, .int .i64 0, .str (bs s), .sl 4 (encDs l2)] := by
      rintro b' rfl
      refine ⟨i + 1, l ++ [.mk c m q zs], _, by omega, by simp [hll], ?_, fun l3 h3 => ?_, rfl⟩
      · rw [hb, hsn]
        cases ofTs (xs.take i) with
        | none => simp
        | some a => cases ofT (.mk k' s' n' l') <;> simp
      · rw [hsn] at h3
        cases ha : ofTs (xs.take i) with
        | none => rw [ha] at h3; cases h3
        | some a =>
          rw [ha] at h3
          simp only [Option.map_eq_some_iff] at h3
          obtain ⟨x, hx, rfl⟩ := h3
          rw [hof a ha, hy x hx]
    refine ifB (fun hbt => ?_) (fun hbf => ?_)
    · exact ⟨by omega, by omega, hnext _ (by rw [hbt]; simp), by simp only [Int.toNat_natCast]; omega⟩
    · exact ⟨by omega, by omega, hnext _ (by rw [hbf]; simp), by simp only [Int.toNat_natCast]; omega⟩
  · have hx : xs.take i = xs := List.take_of_length_le (by omega)
    rw [hx] at hb hof
    by_cases h1 : k = 1
    · rw [if_pos h1]
      refine ⟨.mk true 0 s l, by rw [hb]; simp [h1]; rfl, fun x h => by cases h⟩
    · rw [if_neg h1, if_neg h2]
      have h3 : k = 3 := by omega
      refine ⟨.mk true 0 s l, by rw [hb]; simp [h3]; rfl, fun x h => ?_⟩
      simp only [Option.map_eq_some_iff] at h
      obtain ⟨a, ha, rfl⟩ := h
      rw [hof a ha]
end Go.Proofs.YtgjifgjjcaohoaaGreatDoor.Va
end

/- part Z2W -/
section
namespace Go.Dr
open Go.Av Go.Lx
mutual
def okD : Nat → Dt → Prop
  | d, .mk c n _ zs => zs.length ≤ 8 ∧ (zs ≠ [] → 0 < d) ∧ (c = false → zs = []) ∧ okDs (d - 1) zs ∧ (-9223372036854775808 ≤ n ∧ n ≤ 9223372036854775807)
def okDs : Nat → List Dt → Prop
  | _, [] => True
  | d, t :: r => okD d t ∧ okDs d r
end
theorem okDs_iff {d : Nat} : ∀ zs, okDs d zs ↔ ∀ z ∈ zs, okD d z
  | [] => by simp [okDs]
  | t :: r => by simp [okDs, okDs_iff r]
mutual
def sizeD : Dt → Nat
  | .mk _ _ _ zs => 1 + sizeDs zs
def sizeDs : List Dt → Nat
  | [] => 0
  | t :: r => sizeD t + sizeDs r
end
theorem sizeDs_append (a b : List Dt) : sizeDs (a ++ b) = sizeDs a + sizeDs b := by
  induction a with
  | nil => simp [sizeDs]
  | cons t r ih => simp only [List.cons_append, sizeDs, ih]; omega
theorem sizeDs_take {zs : List Dt} {i : Nat} {t : Dt} (h : zs[i]? = some t) : sizeDs (zs.take (i + 1)) = sizeDs (zs.take i) + sizeD t := by
  rw [List.take_add_one, h, sizeDs_append]; simp [sizeDs]
theorem sizeDs_le {zs : List Dt} (i : Nat) : sizeDs (zs.take i) ≤ sizeDs zs := by
  conv => rhs; rw [← List.take_append_drop i zs, sizeDs_append]
  omega
theorem ofT_ok : ∀ (t : Tr) (d : Nat) (x : Dt), okTr d t → ofT t = some x → okD d x := by
  refine Tr.ind fun k s n xs ih => ?_
  rintro d x ⟨hk, hl, hd, hxs, hz, hn⟩ h
  rw [ofT] at h
  split at h
  · cases h
  · split at h
    · cases h
      exact ⟨by simp, fun h => absurd rfl h, fun _ => rfl, trivial, hn⟩
    · simp only [Option.map_eq_some_iff] at h
      obtain ⟨l, hl2, rfl⟩ := h
      have hlen := ofTs_len _ _ hl2
      have sq : ∀ (xs : List Tr) (l : List Dt), (∀ z ∈ xs, ∀ d x, okTr d z → ofT z = some x → okD d x) → (∀ z ∈ xs, okTr (d - 1) z) → ofTs xs = some l → okDs (d - 1) l := by
        intro xs
        induction xs with
        | nil => intro l _ _ h; simp [ofTs] at h; subst h; trivial
        | cons a r ihr =>
          intro l h1 h2 h
          rw [ofTs] at h
          cases ha : ofT a with
          | none => rw [ha] at h; cases h
          | some y =>
            rw [ha] at h
            simp only [Option.map_eq_some_iff] at h
            obtain ⟨l', h3, rfl⟩ := h
            exact ⟨h1 a List.mem_cons_self _ _ (h2 a List.mem_cons_self) ha, ihr l' (fun z hz => h1 z (List.mem_cons_of_mem _ hz)) (fun z hz => h2 z (List.mem_cons_of_mem _ hz)) h3⟩
      rw [okTrs_iff] at hxs
      exact ⟨by omega, fun hne => hd fun hx => hne (by rw [hx] at hlen; exact List.eq_nil_of_length_eq_zero hlen), fun hc => (by cases hc), sq xs l ih hxs hl2, by omega, by omega⟩
end Go.Dr
namespace Go.Proofs.YtgjifgjjcaohoaaGreatDoor.Va
open Go.Vx Go.Av Go.Lx Go.Dr
theorem getDt {xs : List Dt} {i : Nat} (h : i < xs.length) : ∃ c n s l, xs[i]? = some (.mk c n s l) := by
  cases e : xs[i] with
  | mk c n s l => exact ⟨c, n, s, l, by rw [List.getElem?_eq_getElem h, e]⟩
theorem drow {xs : List Dt} {i : Nat} {t : Dt} (h : xs[i]? = some t) : List.take 4 (Av.rowAt (encDs xs) ((i : Int)).toNat) = encD t := row_encDs (by simpa using h)

theorem measure_spec : ∀ (x : Dt) (d depth nodes : Nat), okD d x → depth + d ≤ 200 → nodes ≤ 4096 → PCalls ax 28 [.agg (encD x), .int .i64 depth, .int .i64 nodes] fun r => ∃ (m : Int) (b : Bool), r = [.int .i64 m, .bool b] ∧ (nodes + sizeD x ≤ 4096 → m = ((nodes + sizeD x : Nat) : Int) ∧ b = true) ∧ (¬ nodes + sizeD x ≤ 4096 → b = false) := by
  refine Dt.ind fun c n s xs ih => ?_
  rintro d depth nodes ⟨hl, hd, hc, hxs, hn⟩ hdep hnod
  rw [okDs_iff] at hxs
  refine measure.calls (K := fun r => ∃ (m : Int) (b : Bool), r = [.int .i64 m, .bool b] ∧ (nodes + sizeD (.mk c n s xs) ≤ 4096 → m = ((nodes + sizeD (.mk c n s xs) : Nat) : Int) ∧ b = true) ∧ (¬ nodes + sizeD (.mk c n s xs) ≤ 4096 → b = false)) ?_
  unfold measure.W
  rw [zstep (by omega), sizeD, encDs_length]
  refine ifD (fun h => by omega) (fun _ => ifD (fun h => ?_) (fun h => ifN (fun hcf => ?_) (fun hct => ?_)))
  · exact ⟨_, _, rfl, fun h2 => by omega, fun _ => rfl⟩
  · rw [hc hcf]
    exact ⟨_, _, rfl, fun _ => ⟨by simp [sizeDs], rfl⟩, fun h2 => by simp only [sizeDs] at h2; omega⟩
  refine ⟨fun us => ∃ i : Nat, i ≤ xs.length ∧ nodes + 1 + sizeDs (xs.take i) ≤ 4096 ∧ us = [.int .i64 ((nodes + 1 + sizeDs (xs.take i) : Nat) : Int), .int .i64 i], fun us => match us with | [_, .int _ i] => xs.length - i.toNat | _ => 0, ⟨0, Nat.zero_le _, by simp only [List.take_zero, sizeDs]; omega, by simp [sizeDs]⟩, ?_⟩
  rintro n22 n23 ⟨i, hi, hle, e⟩
  cases e
  refine ifD (fun hlt => ?_) (fun hge => ?_)
  · have hi' : i < xs.length := by omega
    obtain ⟨c', n', s', l', he⟩ := getDt hi'
    have hm := List.mem_of_getElem? he
    have htk := sizeDs_take he
    have hle2 := sizeDs_le (zs := xs) (i + 1)
    have hd0 := hd (fun hh => by rw [hh] at hi'; simp at hi')
    refine ⟨by omega, hlt, c', n', bs s', encDs l', drow he, ?_⟩
    rw [zstep (by omega), zstep (by omega)]
    refine (ih _ hm (d - 1) (depth + 1) (nodes + 1 + sizeDs (xs.take i)) (hxs _ hm) (by omega) hle).mono fun r ⟨m, b, hr, h1, h2⟩ => ⟨m, b, ?_, ?_⟩
    · exact hr
    refine ifN (fun hb => ?_) (fun hb => ?_)
    · refine ⟨_, _, rfl, fun h3 => ?_, fun _ => rfl⟩
      have := (h1 (by omega)).2
      rw [hb] at this; cases this
    · by_cases h3 : nodes + 1 + sizeDs (xs.take i) + sizeD (.mk c' n' s' l') ≤ 4096
      · obtain ⟨rfl, _⟩ := h1 h3
        exact ⟨⟨i + 1, hi', by omega, by rw [htk, Nat.add_assoc (nodes + 1)]⟩, by simp only [Int.toNat_natCast]; omega⟩
      · rw [h2 h3] at hb; cases hb
  · rw [List.take_of_length_le (by omega)] at hle ⊢
    exact ⟨_, _, rfl, fun _ => ⟨by rw [Nat.add_assoc], rfl⟩, fun h2 => by omega⟩
theorem Good_spec (x : Dt) (d : Nat) (hx : okD d x) (hd : d ≤ 199) : PCalls ax 13 [.agg (encD x)] fun r => r = [.bool (decide (sizeD x ≤ 4096))] := by
  obtain ⟨c, n, s, zs, rfl⟩ := dt_cases x
  refine Good.calls (K := fun r => r = [.bool (decide (sizeD (.mk c n s zs) ≤ 4096))]) ?_
  unfold Good.W
  refine (measure_spec (.mk c n s zs) d 1 0 hx (by omega) (by omega)).mono fun r ⟨m, b, hr, h1, h2⟩ => ⟨m, b, hr, ?_⟩
  rw [Nat.zero_add] at h1 h2
  by_cases h : sizeD (.mk c n s zs) ≤ 4096
  · rw [(h1 h).2, decide_eq_true h]
  · rw [h2 h, decide_eq_false h]
theorem count_spec : ∀ (x : Dt) (d depth : Nat), okD d x → depth + d ≤ 200 → PCalls ax 29 [.agg (encD x), .int .i64 depth] fun r => ∃ (k deep : Int), r = [.int .i64 k, .int .i64 deep] ∧ 0 ≤ deep ∧ deep ≤ 200 ∧ k ≤ 4097 ∧ (sizeD x ≤ 4096 → k = (sizeD x : Int)) ∧ (¬ sizeD x ≤ 4096 → 4096 < k) := by
  refine Dt.ind fun c n s xs ih => ?_
  rintro d depth ⟨hl, hd, hc, hxs, hn⟩ hdep
  rw [okDs_iff] at hxs
  refine count.calls (K := fun r => ∃ (k deep : Int), r = [.int .i64 k, .int .i64 deep] ∧ 0 ≤ deep ∧ deep ≤ 200 ∧ k ≤ 4097 ∧ (sizeD (.mk c n s xs) ≤ 4096 → k = (sizeD (.mk c n s xs) : Int)) ∧ (¬ sizeD (.mk c n s xs) ≤ 4096 → 4096 < k)) ?_
  unfold count.W
  rw [sizeD, encDs_length]
  refine ifD (fun h => by omega) (fun _ => ifN (fun hcf => ?_) (fun hct => ?_))
  · rw [hc hcf]
    exact ⟨_, _, rfl, by omega, by omega, by omega, fun _ => rfl, fun h => by simp only [sizeDs] at h; omega⟩
  refine ⟨fun us => ∃ (i : Nat) (deep : Int), i ≤ xs.length ∧ 0 ≤ deep ∧ deep ≤ 200 ∧ 1 + sizeDs (xs.take i) ≤ 4096 ∧ us = [.int .i64 ((1 + sizeDs (xs.take i) : Nat) : Int), .int .i64 deep, .int .i64 i], fun us => match us with | [_, _, .int _ i] => xs.length - i.toNat | _ => 0, ⟨0, depth, Nat.zero_le _, by omega, by omega, by simp [sizeDs], by simp [sizeDs]⟩, ?_⟩
  rintro n25 n26 n27 ⟨i, deep, hi, hdp0, hdp, hle, e⟩
  cases e
  refine ifD (fun hlt => ?_) (fun hge => ?_)
  · have hi' : i < xs.length := by omega
    obtain ⟨c', n', s', l', he⟩ := getDt hi'
    have hm := List.mem_of_getElem? he
    have htk := sizeDs_take he
    have hle2 := sizeDs_le (zs := xs) (i + 1)
    have hd0 := hd (fun hh => by rw [hh] at hi'; simp at hi')
    have hpos : 1 ≤ sizeD (.mk c' n' s' l') := by simp only [sizeD]; omega
    refine ⟨by omega, hlt, c', n', bs s', encDs l', drow he, ?_⟩
    rw [zstep (by omega), zstep (by omega)]
    refine (ih _ hm (d - 1) (depth + 1) (hxs _ hm) (by omega)).mono fun r ⟨k, dp, hr, g0, g1, g2, g3, g4⟩ => ⟨k, dp, hr, ?_⟩
    have hk0 : 1 ≤ k := by
      by_cases h : sizeD (.mk c' n' s' l') ≤ 4096
      · rw [g3 h]; omega
      · have := g4 h; omega
    have tail : ∀ q : Int, 0 ≤ q → q ≤ 200 → (bif (decide ((IntKind.i64.wrap (((1 + sizeDs (xs.take i) : Nat) : Int) + k)) > (4096 : Int))) then
        ((fun r => ∃ (k deep : Int), r = [V.int .i64 k, .int .i64 deep] ∧ 0 ≤ deep ∧ deep ≤ 200 ∧ k ≤ 4097 ∧ (1 + sizeDs xs ≤ 4096 → k = ((1 + sizeDs xs : Nat) : Int)) ∧ (¬ 1 + sizeDs xs ≤ 4096 → 4096 < k)) [(.int .i64 4097), (.int .i64 q)])
       else
        ((fun us => ∃ (i : Nat) (deep : Int), i ≤ xs.length ∧ 0 ≤ deep ∧ deep ≤ 200 ∧ 1 + sizeDs (xs.take i) ≤ 4096 ∧ us = [V.int .i64 ((1 + sizeDs (xs.take i) : Nat) : Int), .int .i64 deep, .int .i64 i]) [(.int .i64 (IntKind.i64.wrap (((1 + sizeDs (xs.take i) : Nat) : Int) + k))), (.int .i64 q), (.int .i64 ((i + 1 : Nat) : Int))] ∧ (fun us => match us with | [_, _, V.int _ i] => xs.length - i.toNat | _ => 0) [(.int .i64 (IntKind.i64.wrap (((1 + sizeDs (xs.take i) : Nat) : Int) + k))), (.int .i64 q), (.int .i64 ((i + 1 : Nat) : Int))] < (fun us => match us with | [_, _, V.int _ i] => xs.length - i.toNat | _ => 0) [(.int .i64 ((1 + sizeDs (xs.take i) : Nat) : Int)), (.int .i64 n26), (.int .i64 i)])) := by
      intro q hq0 hq
      rw [w64 (by omega) (by omega)]
      refine ifD (fun hbig => ?_) (fun hsm => ?_)
      · refine ⟨_, _, rfl, hq0, hq, by omega, fun h => ?_, fun _ => by omega⟩
        have := g3 (by omega)
        omega
      · have hsz : sizeD (.mk c' n' s' l') ≤ 4096 := by
          rcases Nat.lt_or_ge 4096 (sizeD (.mk c' n' s' l')) with h | h
          · have := g4 (by omega); omega
          · exact h
        have hk := g3 hsz
        refine ⟨⟨i + 1, q, hi', hq0, hq, by omega, by rw [htk, hk]; congr 2; push_cast; omega⟩, by simp only [Int.toNat_natCast]; omega⟩
    exact ifD (fun _ => tail dp g0 g1) (fun _ => tail n26 hdp0 hdp)
  · rw [List.take_of_length_le (by omega)] at hle ⊢
    exact ⟨_, _, rfl, hdp0, hdp, by omega, fun _ => rfl, fun h => by omega⟩
theorem RGood_spec (x : Dt) (d : Nat) (hx : okD d x) (hd : d ≤ 199) : PCalls ax 14 [.agg (encD x)] fun r => r = [.bool (decide (sizeD x ≤ 4096))] := by
  obtain ⟨c, n, s, zs, rfl⟩ := dt_cases x
  refine RGood.calls (K := fun r => r = [.bool (decide (sizeD (.mk c n s zs) ≤ 4096))]) ?_
  unfold RGood.W
  refine (count_spec (.mk c n s zs) d 1 hx (by omega)).mono fun r ⟨k, deep, hr, h0, h1, h2, h3, h4⟩ => ⟨k, deep, hr, ?_⟩
  by_cases h : sizeD (.mk c n s zs) ≤ 4096
  · have hk := h3 h
    refine ifD (fun _ => ?_) (fun hh => by omega)
    rw [decide_eq_true h, decide_eq_true h1]
  · have hk := h4 h
    refine ifD (fun hh => by omega) (fun _ => ?_)
    rw [decide_eq_false h]
end Go.Proofs.YtgjifgjjcaohoaaGreatDoor.Va
end

/- part Z2X -/
section
namespace Go.Proofs.YtgjifgjjcaohoaaGreatDoor.Va
open Go.Vx Go.Av Go.Lx Go.Dr

theorem less_self : ∀ l : List UInt8, Op.bytesLess l l = false
  | [] => by simp [Op.bytesLess]
  | a :: r => by simp [Op.bytesLess, less_self r]
theorem Compare_refl : ∀ (x : Dt) (d : Nat), okD d x → PCalls ax 23 [.agg (encD x), .agg (encD x)] fun r => r = [.int .i64 0] := by
  refine Dt.ind fun c n s xs ih => ?_
  rintro d ⟨hl, hd, hc, hxs, hn⟩
  rw [okDs_iff] at hxs
  refine Compare.calls (K := fun r => r = [.int .i64 0]) ?_
  unfold Compare.W
  refine ⟨fun us => us = [.bool (!c)], ifN (fun h => by rw [h]; rfl) (fun h => by rw [h]), ?_⟩
  rintro b12 e
  cases e
  refine ifN (fun hcf => ?_) (fun hct => ?_)
  · rw [hcf]
    exact ifD (fun h => by omega) (fun _ => ifD (fun h => by omega) (fun _ => rfl))
  have hless := less_self (bs s).toList
  rw [hless]
  refine ⟨fun _ => True, ?_, fun _ => ?_⟩
  · show cond (strEq (bs s) (bs s)) _ _
    exact ifB (fun _ => ifD (fun h => by omega) (fun _ => trivial)) (fun _ => trivial)
  refine ifN (fun h => ?_) (fun _ => ifD (fun h => by omega) (fun _ => ?_))
  · simp at h
  rw [encDs_length]
  refine ⟨fun us => ∃ i : Nat, i ≤ xs.length ∧ us = [.int .i64 i], fun us => match us with | .int _ i :: _ => xs.length - i.toNat | _ => 0, ⟨0, Nat.zero_le _, rfl⟩, ?_⟩
  rintro n27 ⟨i, hi, e⟩
  cases e
  refine ifD (fun hlt => ?_) (fun hge => rfl)
  obtain ⟨c', n', s', l', he⟩ := getDt (xs := xs) (i := i) (by omega)
  have hm := List.mem_of_getElem? he
  refine ⟨by omega, hlt, c', n', bs s', encDs l', drow he, by omega, hlt, c', n', bs s', encDs l', drow he, ?_⟩
  rw [zstep (by omega)]
  refine (ih _ hm _ (hxs _ hm)).mono fun r hr => ⟨0, hr, ifNE (fun h => absurd rfl h) (fun _ => ?_)⟩
  exact ⟨⟨i + 1, by omega, rfl⟩, by simp only [Int.toNat_natCast]; omega⟩
theorem Same_refl (x : Dt) (d : Nat) (hx : okD d x) : PCalls ax 9 [.agg (encD x), .agg (encD x)] fun r => r = [.bool true] := by
  obtain ⟨c, n, s, zs, rfl⟩ := dt_cases x
  refine Same.calls (K := fun r => r = [.bool true]) ?_
  unfold Same.W
  exact (Compare_refl (.mk c n s zs) d hx).mono fun r hr => ⟨0, hr, rfl⟩
end Go.Proofs.YtgjifgjjcaohoaaGreatDoor.Va
end

/- part Z2Y -/
section
namespace Go.Dr
open Go.Av Go.Lx
abbrev rngZ (n : Int) : Prop := -9223372036854775808 ≤ n ∧ n ≤ 9223372036854775807
theorem par_ok : ∀ f, (∀ n ts x r, parT f n ts = (0, x, r) → (∀ t ∈ ts, rngZ t.n) → n ≤ 64 ∧ okTr (64 - n) x ∧ ∀ t ∈ r, t ∈ ts) ∧
    (∀ n acc ts xs r, parR f n acc ts = (0, xs, r) → (∀ t ∈ ts, rngZ t.n) → acc.length ≤ 8 → okTrs (64 - n) acc → n ≤ 64 ∧ xs ≠ [] ∧ xs.length ≤ 8 ∧ okTrs (64 - n) xs ∧ ∀ t ∈ r, t ∈ ts) := by
  intro f
  induction f with
  | zero =>
    refine ⟨fun n ts x r h => ?_, fun n acc ts xs r h => ?_⟩
    · simp [parT] at h
    · simp [parR] at h
  | succ f ih =>
    obtain ⟨ihT, ihR⟩ := ih
    refine ⟨fun n ts x r h hr => ?_, fun n acc ts xs r h hr hacc hok => ?_⟩
    · by_cases hn : 64 < n ∧ ts ≠ []
      · have := parT_nest (f := f) hn
        rw [h] at this; cases this
      cases ts with
      | nil =>
        have := parT_nil (f := f) (n := n)
        rw [h] at this; cases this
      | cons t ts =>
        have hn64 : ¬ 64 < n := fun hh => hn ⟨hh, by simp⟩
        by_cases h2 : t.k = 2
        · rw [parT_var hn64 h2] at h
          cases h
          exact ⟨by omega, ⟨.inl rfl, by simp, fun h => absurd rfl h, trivial, fun _ => rfl, by decide⟩, fun t ht => List.mem_cons_of_mem _ ht⟩
        by_cases h3 : t.k = 3
        · rw [parT_int hn64 h3] at h
          cases h
          exact ⟨by omega, ⟨.inr (.inl rfl), by simp, fun h => absurd rfl h, trivial, fun _ => rfl, hr t List.mem_cons_self⟩, fun t ht => List.mem_cons_of_mem _ ht⟩
        by_cases hk : t.k = 1 ∧ isRes t.t = false
        · cases ts with
          | nil =>
            rw [parT_one hn64 hk] at h
            cases h
            exact ⟨by omega, ⟨.inr (.inr rfl), by simp, fun h => absurd rfl h, trivial, fun _ => rfl, by decide⟩, fun t ht => by cases ht⟩
          | cons p ts =>
            cases hp : isP [40] p with
            | false =>
              rw [parT_name hn64 hk hp] at h
              cases h
              exact ⟨by omega, ⟨.inr (.inr rfl), by simp, fun h => absurd rfl h, trivial, fun _ => rfl, by decide⟩, fun t ht => List.mem_cons_of_mem _ ht⟩
            | true =>
              obtain ⟨r1, r2⟩ := parT_row (f := f) (n := n) (r := ts) hn64 hk hp
              generalize hq : parR f (n + 1) [] ts = q at r1 r2
              obtain ⟨e, xs, q2⟩ := q
              by_cases he : e = 0
              · subst he
                have h5 := r2 xs q2 rfl
                rw [h] at h5
                cases h5
                obtain ⟨g1, g2, g3, g4, g5⟩ := ihR (n + 1) [] ts xs r hq (fun t ht => hr t (List.mem_cons_of_mem _ (List.mem_cons_of_mem _ ht))) (by simp) trivial
                refine ⟨by omega, ⟨.inr (.inr rfl), g3, fun _ => by omega, ?_, fun h => absurd rfl h, by decide⟩, fun t ht => List.mem_cons_of_mem _ (List.mem_cons_of_mem _ (g5 t ht))⟩
                rw [show 64 - n - 1 = 64 - (n + 1) by omega]
                exact g4
              · have h5 := r1 he
                rw [h] at h5
                exact absurd h5.symm he
        · have := parT_bad (f := f) (r := ts) hn64 h2 h3 hk
          rw [h] at this; cases this
    · by_cases hb : acc.length = 8 ∧ ts ≠ []
      · rw [parR_big hb] at h; cases h
      generalize hq : parT f n ts = q
      obtain ⟨e, x, q2⟩ := q
      by_cases he : e = 0
      · subst he
        obtain ⟨g1, g2, g3⟩ := ihT n ts x q2 hq hr
        have hlen : acc.length ≠ 8 := fun h8 => by
          have hts : ts = [] := Decidable.byContradiction fun hne => hb ⟨h8, hne⟩
          subst hts
          cases f with
          | zero => simp [parT] at hq
          | succ f =>
            have := parT_nil (f := f) (n := n)
            rw [hq] at this; cases this
        have hok2 : okTrs (64 - n) (acc ++ [x]) := by
          rw [okTrs_iff] at hok ⊢
          intro z hz
          rcases List.mem_append.1 hz with hz | hz
          · exact hok z hz
          · rw [List.mem_singleton.1 hz]; exact g2
        cases q2 with
        | nil =>
          have := parR_nil hb hq
          rw [h] at this; cases this
        | cons p q3 =>
          cases h41 : isP [41] p with
          | true =>
            rw [parR_end hb hq h41] at h
            cases h
            exact ⟨g1, by simp, by rw [List.length_append, List.length_cons, List.length_nil]; omega, hok2, fun t ht => g3 t (List.mem_cons_of_mem _ ht)⟩
          | false =>
            cases h44 : isP [44] p with
            | true =>
              rw [parR_more hb hq h41 h44] at h
              obtain ⟨k1, k2, k3, k4, k5⟩ := ihR n (acc ++ [x]) q3 xs r h (fun t ht => hr t (g3 t (List.mem_cons_of_mem _ ht))) (by rw [List.length_append, List.length_cons, List.length_nil]; omega) hok2
              exact ⟨k1, k2, k3, k4, fun t ht => g3 t (List.mem_cons_of_mem _ (k5 t ht))⟩
            | false =>
              have := parR_bad hb hq h41 h44
              rw [h] at this; cases this
      · have h5 := parR_err hb (by rw [hq]; exact he)
        rw [h, hq] at h5
        exact absurd h5.symm he
end Go.Dr
end

/- part Z3A -/
section
namespace Go.Proofs.YtgjifgjjcaohoaaGreatDoor.Va
open Go.Vx Go.Av Go.Lx Go.Dr

/-- the data of a text; a code -/
def readZ (s : List UInt8) : Int × Dt := if (parZ s).1 ≠ 0 then ((parZ s).1, zeroD) else
  match ofT (parZ s).2 with
  | none => (10, zeroD)
  | some x => if sizeD x ≤ 4096 then (0, x) else (4, zeroD)
theorem parZ_ok {s : List UInt8} (hr : ∀ t ∈ (lexR s).1, rngZ t.n) (h : (parZ s).1 = 0) : okTr 63 (parZ s).2 := by
  unfold parZ at h ⊢
  by_cases hn : (lexR s).2 = none
  · rw [if_pos hn] at h ⊢
    generalize hq : parT (2 * (lexR s).1.length + 3) 1 (lexR s).1 = q at h ⊢
    obtain ⟨e, x, r⟩ := q
    unfold endP at h ⊢
    simp only at h ⊢
    by_cases he : e = 0
    · rw [if_pos he] at h ⊢
      by_cases hr0 : r = []
      · rw [if_pos hr0]
        subst he
        exact ((par_ok _).1 1 _ _ _ hq hr).2.1
      · rw [if_neg hr0] at h; cases h
    · rw [if_neg he] at h; exact absurd h he
  · rw [if_neg hn] at h
    rcases lexR_err s with h2 | h2 | h2
    · exact absurd h2 hn
    · rw [h2] at h; cases h
    · rw [h2] at h; cases h
theorem RRead_spec (s : List UInt8) (hr : ∀ t ∈ (lexR s).1, rngZ t.n) : PCalls ax 7 [.str (bs s)] fun r => r = [.agg (encD (readZ s).2), .int .i64 (readZ s).1] := by
  refine RRead.calls (K := fun r => r = [.agg (encD (readZ s).2), .int .i64 (readZ s).1]) ?_
  unfold RRead.W
  have hok := parZ_ok hr
  unfold readZ
  refine (RTerm_spec s).mono fun r hr => ?_
  generalize parZ s = p at hok hr ⊢
  obtain ⟨c, t⟩ := p
  obtain ⟨k, q, n, zs, rfl⟩ := tr_cases t
  refine ⟨k, bs q, n, encRs zs, c, hr, ifNE (fun h => by rw [if_pos h]; rfl) (fun h => ?_)⟩
  rw [if_neg (by simpa using h)]
  have hok := hok h
  refine (rof_spec (.mk k q n zs) 63 hok).mono fun r ⟨y, hr, hy⟩ => ?_
  obtain ⟨c', n', s', zs', rfl⟩ := dt_cases y
  refine ⟨c', n', bs s', encDs zs', _, hr, ?_⟩
  simp only
  cases hof : ofT (.mk k q n zs) with
  | none => exact ifN (fun _ => rfl) (fun h => by cases h)
  | some x =>
    have hxy := hy x hof
    subst hxy
    refine ifN (fun h => by cases h) (fun _ => ?_)
    have hd := ofT_ok _ _ _ hok hof
    refine (RGood_spec (.mk c' n' s' zs') 63 hd (by omega)).mono fun r hr => ⟨_, hr, ifN (fun h => ?_) (fun h => ?_)⟩
    · dsimp only; rw [if_neg (of_decide_eq_false h)]; rfl
    · dsimp only; rw [if_pos (of_decide_eq_true h)]; rfl
end Go.Proofs.YtgjifgjjcaohoaaGreatDoor.Va
end

/- part Z3B -/
section
namespace Go.Proofs.YtgjifgjjcaohoaaGreatDoor.Va
open Go.Vx Go.Av Go.Lx Go.Dr

abbrev errT : List (List V) := [[(.err (some 2))], [(.err (some 3))], [(.err (some 4))], [(.err (some 0))], [(.err (some 5))], [(.err (some 6))], [(.err (some 7))], [(.err (some 8))], [(.err (some 9))], [(.err (some 1))], [(.err (some 10))], [(.err (some 11))], [(.err (some 12))], [(.err (some 13))], [(.err (some 14))], [(.err (some 15))]]
def errAt (i : Nat) : Nat := [2, 3, 4, 0, 5, 6, 7, 8, 9, 1, 10, 11, 12, 13, 14, 15].getD i 99
theorem errT_row : ∀ i : Nat, i < 16 → List.take 1 (Av.rowAt errT i) = [.err (some (errAt i))]
  | 0, _ => rfl | 1, _ => rfl | 2, _ => rfl | 3, _ => rfl | 4, _ => rfl | 5, _ => rfl | 6, _ => rfl | 7, _ => rfl
  | 8, _ => rfl | 9, _ => rfl | 10, _ => rfl | 11, _ => rfl | 12, _ => rfl | 13, _ => rfl | 14, _ => rfl | 15, _ => rfl
  | n + 16, h => by omega
theorem errAt_inj : ∀ i j : Fin 16, errAt i.val = errAt j.val → i = j := by decide
theorem Num_none : PCalls ax 8 [.err none] fun r => r = [.int .i64 0] :=
  Num.calls (K := fun r => r = [.int .i64 0]) (by unfold Num.W; rfl)
/-- the error at a place of the list has that place's number -/
theorem Num_spec (k : Nat) (hk : k < 16) : PCalls ax 8 [.err (some (errAt k))] fun r => r = [.int .i64 ((k + 1 : Nat) : Int)] := by
  refine Num.calls (K := fun r => r = [.int .i64 ((k + 1 : Nat) : Int)]) ?_
  unfold Num.W
  show ∃ _ _, _
  refine ⟨fun us => ∃ i : Nat, i ≤ k ∧ us = [.int .i64 i], fun us => match us with | .int _ i :: _ => 100 - i.toNat | _ => 0, ⟨0, Nat.zero_le _, rfl⟩, ?_⟩
  rintro n6 ⟨i, hi, e⟩
  cases e
  have hlen : (List.length errT : Int) = 16 := rfl
  refine ifD (fun hlt => ?_) (fun hge => absurd (show (i : Int) < 16 by omega) hge)
  rw [zstep (by omega)]
  refine ⟨by omega, hlt, some (errAt i), by rw [Int.toNat_natCast]; exact errT_row i (by omega), ?_⟩
  show cond (errEq (some (errAt k)) (some (errAt i))) _ _
  refine ifB (fun h => ?_) (fun h => ?_)
  · have h2 : errAt k = errAt i := by simpa [errEq] using h
    have := errAt_inj ⟨k, hk⟩ ⟨i, by omega⟩ h2
    have : k = i := congrArg Fin.val this
    subst this
    rfl
  · have h2 : errAt k ≠ errAt i := by simpa [errEq] using h
    have hne : i ≠ k := fun hh => h2 (by rw [hh])
    exact ⟨⟨i + 1, by omega, rfl⟩, by simp only [Int.toNat_natCast]; omega⟩
end Go.Proofs.YtgjifgjjcaohoaaGreatDoor.Va
end

/- part Z3C -/
section
namespace Go.Lx
open Go.Proofs.YtgjifgjjcaohoaaGreatDoor.Va

/-- a token that is read somewhere -/
def Valid (x : Tok) : Prop := ∃ l, tokL l = (x, true)
theorem span_take {p : UInt8 → Bool} : ∀ l : List UInt8, span p (l.take (span p l)) = span p l
  | [] => rfl
  | c :: r => by
    rw [span_cons]
    by_cases h : p c = true
    · rw [if_pos h, Nat.add_comm, List.take_succ_cons, span_cons, if_pos h, span_take r, Nat.add_comm]
    · rw [if_neg h]; rfl
theorem numSpan_take : ∀ l : List UInt8, numSpan (l.take (numSpan l)) = numSpan l
  | [] => rfl
  | c :: r => by
    by_cases h : c.toNat = 45
    · have e : numSpan (c :: r) = 1 + span isDigit r := by simp only [numSpan]; rw [if_pos h]
      rw [e, Nat.add_comm, List.take_succ_cons]
      simp only [numSpan]
      rw [if_pos h, span_take, Nat.add_comm]
    · have e : numSpan (c :: r) = span isDigit (c :: r) := by simp only [numSpan]; rw [if_neg h]
      rw [e]
      by_cases hd : isDigit c = true
      · have e2 : span isDigit (c :: r) = span isDigit r + 1 := by rw [span_cons, if_pos hd, Nat.add_comm]
        have e3 := span_take (p := isDigit) (c :: r)
        rw [e2, List.take_succ_cons] at e3 ⊢
        simp only [numSpan]
        rw [if_neg h]; exact e3
      · have e2 : span isDigit (c :: r) = 0 := by rw [span_cons, if_neg hd]
        rw [e2]; rfl
/-- a token's own text is that token -/
theorem tokL_self {l : List UInt8} (h : (tokL l).2 = true) : tokL (tokL l).1.t = tokL l := by
  cases l with
  | nil => cases h
  | cons c r =>
    cases hl : isLetter c with
    | true =>
      have hi : isInner c = true := by rw [inner_or, hl]; rfl
      rw [tokL_letter hl] at h ⊢
      simp only
      have e2 : span isInner (c :: r) = span isInner r + 1 := by rw [span_cons, if_pos hi, Nat.add_comm]
      have e3 := span_take (p := isInner) (c :: r)
      rw [e2, List.take_succ_cons] at e3 ⊢
      rw [tokL_letter hl, e3]
      have : (c :: r.take (span isInner r)).take (span isInner r + 1) = c :: r.take (span isInner r) := by rw [List.take_succ_cons, List.take_take, Nat.min_self]
      rw [this]
    | false =>
      cases hd : (isDigit c || decide (c.toNat = 45)) with
      | true =>
        rw [tokL_num hl hd] at h ⊢
        obtain ⟨h1, v, h2, h3, _⟩ := numL_ok h
        rw [h3]
        simp only
        have hns := numSpan_take (c :: r)
        obtain ⟨m, hm⟩ : ∃ m, numSpan (c :: r) = m + 1 := ⟨numSpan (c :: r) - 1, by omega⟩
        rw [hm, List.take_succ_cons] at hns h2 ⊢
        rw [tokL_num hl hd]
        have hle := numSpan_le (c :: r)
        have hlen : (c :: r.take m).length = m + 1 := by simp only [List.length_cons, List.length_take] at *; omega
        have htk : (c :: r.take m).take (m + 1) = c :: r.take m := List.take_of_length_le (by omega)
        unfold numL
        rw [hns, htk, h2]
        simp only
        rw [List.getElem?_eq_none (by omega)]
      | false =>
        by_cases hm : c.toNat = 58 ∧ r.head?.map (·.toNat) = some 45
        · rw [tokL_two hl hd hm]; rfl
        · by_cases hk : c ∈ marksL
          · rw [tokL_mark hl hd hm hk]
            have hm' : ¬ (c.toNat = 58 ∧ ([] : List UInt8).head?.map (·.toNat) = some 45) := fun hh => by simp at hh
            exact tokL_mark hl hd hm' hk
          · rw [tokL_none hl hd hm hk] at h; cases h
theorem retok {x : Tok} (hx : Valid x) {y : List UInt8} (hy : Sep y) : tokL (x.t ++ y) = (x, true) := by
  obtain ⟨l, hl⟩ := hx
  have h2 : (tokL l).2 = true := by rw [hl]
  have h3 := tokL_self h2
  rw [hl] at h3
  simp only at h3
  rw [tokL_app hy (by rw [h3]), h3]
theorem tok_head {c : UInt8} {r : List UInt8} (h : (tokL (c :: r)).2 = true) : isBlank c = false ∧ c.toNat ≠ 37 := by
  have key : isLetter c = true ∨ (isDigit c || decide (c.toNat = 45)) = true ∨ c.toNat = 58 ∨ c ∈ marksL := by
    cases hl : isLetter c with
    | true => exact .inl rfl
    | false =>
      cases hd : (isDigit c || decide (c.toNat = 45)) with
      | true => exact .inr (.inl rfl)
      | false =>
        by_cases hm : c.toNat = 58 ∧ r.head?.map (·.toNat) = some 45
        · exact .inr (.inr (.inl hm.1))
        · by_cases hk : c ∈ marksL
          · exact .inr (.inr (.inr hk))
          · rw [tokL_none hl hd hm hk] at h; cases h
  have hn : ¬ (isBlank c = true ∨ c.toNat = 37) := fun hb => by
    obtain ⟨h1, h2, h3⟩ := sep_not hb
    have hv : c.toNat = 9 ∨ c.toNat = 10 ∨ c.toNat = 13 ∨ c.toNat = 32 ∨ c.toNat = 37 := by
      rcases hb with h | h
      · simp only [isBlank, Bool.or_eq_true, decide_eq_true_eq] at h; omega
      · omega
    rcases key with h | h | h | h
    · rw [inner_or, h] at h1; cases h1
    · rw [h2] at h; simp at h; exact h3 h
    · omega
    · simp only [marksL, List.mem_cons, List.not_mem_nil, or_false] at h
      rcases h with rfl | rfl | rfl | rfl | rfl | rfl | rfl <;> revert hv <;> decide
  exact ⟨by rw [Bool.eq_false_iff]; intro h; exact hn (.inl h), fun h => hn (.inr h)⟩
theorem valid_cons {x : Tok} (hx : Valid x) : ∃ c r, x.t = c :: r := by
  obtain ⟨l, hl⟩ := hx
  have := tokL_text (l := l) (by rw [hl])
  rw [hl] at this
  simp only at this
  cases h : x.t with
  | nil => rw [h] at this; simp at this
  | cons c r => exact ⟨c, r, rfl⟩
/-- a token's text, with a blank or a comment or nothing behind -/
theorem allL_tok {x : Tok} (hx : Valid x) {y : List UInt8} (hy : Sep y) : allL (x.t ++ y) = (x :: (allL y).1, (allL y).2) := by
  have hr := retok hx hy
  obtain ⟨c, r, hc⟩ := valid_cons hx
  rw [hc, List.cons_append] at hr ⊢
  obtain ⟨h1, h2⟩ := tok_head (c := c) (r := r ++ y) (by rw [hr])
  have hsk : skipC false (c :: (r ++ y)) = 0 := by simp [skipC, h1, h2]
  have hd : (c :: (r ++ y)).drop (skipC false (c :: (r ++ y))) = c :: (r ++ y) := by rw [hsk]; rfl
  rw [allL_cons hd (by rw [hr]), hr]
  simp only
  rw [hc, ← List.cons_append, List.drop_left]
theorem allL_valid : ∀ (n : Nat) (l : List UInt8), l.length ≤ n → ∀ t ∈ (allL l).1, Valid t := by
  intro n
  induction n with
  | zero => intro l h t ht; have : l = [] := List.eq_nil_of_length_eq_zero (by omega); subst this; simp [allL, allF] at ht
  | succ n ih =>
    intro l h t ht
    cases hd : l.drop (skipC false l) with
    | nil => rw [allL_nil hd] at ht; simp at ht
    | cons c r =>
      have hl : (c :: r).length ≤ l.length := by rw [← hd, List.length_drop]; omega
      cases hk : (tokL (c :: r)).2 with
      | false => rw [allL_bad hd hk] at ht; simp at ht
      | true =>
        obtain ⟨t1, t2, _⟩ := tokL_text hk
        rw [allL_cons hd hk] at ht
        rcases List.mem_cons.1 ht with rfl | hm
        · exact ⟨c :: r, by rw [← hk]⟩
        · exact ih _ (by rw [List.length_drop]; omega) t hm
/-- the ints of tokens are ints of the program -/
theorem valid_rng {x : Tok} (h : Valid x) : -9223372036854775808 ≤ x.n ∧ x.n ≤ 9223372036854775807 := by
  obtain ⟨l, hl⟩ := h
  cases l with
  | nil => simp [tokL] at hl
  | cons c r =>
    cases h1 : isLetter c with
    | true =>
      rw [tokL_letter h1] at hl
      simp only [Prod.mk.injEq] at hl
      rw [← hl.1]
      exact ⟨by simp, by simp⟩
    | false =>
      cases h2 : (isDigit c || decide (c.toNat = 45)) with
      | true =>
        rw [tokL_num h1 h2] at hl
        obtain ⟨_, v, hv, hn, _⟩ := numL_ok (l := c :: r) (by rw [hl])
        rw [hn] at hl
        simp only [Prod.mk.injEq, and_true] at hl
        rw [← hl]
        rcases canon_iff.1 hv with ⟨q, _, _, _, hb, e⟩ | ⟨_, _, hb, e⟩
        · simp only [e]; omega
        · simp only [e]; omega
      | false =>
        unfold tokL at hl
        simp only [h1, h2] at hl
        split at hl
        · rename_i hh; cases hh
        · have z : ∀ k t, (-9223372036854775808 : Int) ≤ (Tok.mk k t 0).n ∧ (Tok.mk k t 0).n ≤ 9223372036854775807 := fun k t => ⟨by simp, by simp⟩
          split at hl
          · cases hl; exact z _ _
          · split at hl
            · cases hl; exact z _ _
            · cases hl
theorem lexR_rng (l : List UInt8) : ∀ t ∈ (lexR l).1, -9223372036854775808 ≤ t.n ∧ t.n ≤ 9223372036854775807 := by
  intro t ht
  unfold lexR at ht
  split at ht
  · simp at ht
  · split at ht
    · exact valid_rng (allL_valid _ l (Nat.le_refl _) t ht)
    · simp at ht
end Go.Lx
end
