/- LexGoes. -/
import Derived.Test.YtadgcpjobhgkiaaDoorM8
import Derived.Test.YtadgcpjobhgkiaaDoorM4
import Derived.RangeFuncNested
/- part G1B -/
section
namespace Go.Lx
open Go.Av

/-- the tokens with their places; the text begins at a -/
def posF : Nat → Nat → List UInt8 → List (Nat × Tok)
  | 0, _, _ => []
  | n + 1, a, l => match l.drop (skipC false l) with
    | [] => []
    | c :: r => if (tokL (c :: r)).2 = true then (a + skipC false l, (tokL (c :: r)).1) :: posF n (a + skipC false l + (tokL (c :: r)).1.t.length) ((c :: r).drop (tokL (c :: r)).1.t.length) else []
def posL (a : Nat) (l : List UInt8) : List (Nat × Tok) := posF (l.length + 1) a l
def encPs (l : List (Nat × Tok)) : List (List V) := l.map fun x => [.int .i64 x.1]
@[simp] theorem encPs_length (l : List (Nat × Tok)) : (encPs l).length = l.length := by simp [encPs]
theorem encPs_snoc (ac : List (Nat × Tok)) (a : Nat) (t : Tok) : encPs ac ++ [[.int .i64 (a : Int)]] = encPs (ac ++ [(a, t)]) := by simp [encPs]

theorem posF_fuel : ∀ (n m a : Nat) (l : List UInt8), l.length < n → l.length < m → posF n a l = posF m a l
  | 0, _, _, l, h, _ => by omega
  | _, 0, _, l, _, h => by omega
  | n + 1, m + 1, a, l, h1, h2 => by
    simp only [posF]
    cases hd : l.drop (skipC false l) with
    | nil => rfl
    | cons c r =>
      simp only
      by_cases ht : (tokL (c :: r)).2 = true
      · obtain ⟨t1, t2, _⟩ := tokL_text ht
        have hl : (c :: r).length ≤ l.length := by rw [← hd, List.length_drop]; omega
        have := posF_fuel n m (a + skipC false l + (tokL (c :: r)).1.t.length) ((c :: r).drop (tokL (c :: r)).1.t.length) (by rw [List.length_drop]; omega) (by rw [List.length_drop]; omega)
        rw [if_pos ht, if_pos ht, this]
      · rw [if_neg ht, if_neg ht]
theorem posL_nil {a : Nat} {l : List UInt8} (h : l.drop (skipC false l) = []) : posL a l = [] := by simp [posL, posF, h]
theorem posL_bad {a : Nat} {l : List UInt8} {c : UInt8} {r : List UInt8} (h : l.drop (skipC false l) = c :: r) (ht : (tokL (c :: r)).2 = false) : posL a l = [] := by simp [posL, posF, h, ht]
theorem posL_cons {a : Nat} {l : List UInt8} {c : UInt8} {r : List UInt8} (h : l.drop (skipC false l) = c :: r) (ht : (tokL (c :: r)).2 = true) :
    posL a l = (a + skipC false l, (tokL (c :: r)).1) :: posL (a + skipC false l + (tokL (c :: r)).1.t.length) ((c :: r).drop (tokL (c :: r)).1.t.length) := by
  obtain ⟨t1, t2, _⟩ := tokL_text ht
  have hl : (c :: r).length ≤ l.length := by rw [← h, List.length_drop]; omega
  conv => lhs; unfold posL posF
  simp only [h, ht, if_true]
  unfold posL
  rw [posF_fuel l.length (((c :: r).drop (tokL (c :: r)).1.t.length).length + 1) _ _ (by rw [List.length_drop]; omega) (by omega)]
theorem posL_drop (a : Nat) (l : List UInt8) : posL (a + skipC false l) (l.drop (skipC false l)) = posL a l := by
  have h0 := skipC_skip l false
  cases hd : l.drop (skipC false l) with
  | nil => rw [posL_nil hd, posL_nil (by rfl)]
  | cons c r =>
    rw [hd] at h0
    have hd0 : (c :: r).drop (skipC false (c :: r)) = c :: r := by rw [h0]; rfl
    cases ht : (tokL (c :: r)).2 with
    | false => rw [posL_bad hd ht, posL_bad hd0 ht]
    | true => rw [posL_cons hd ht, posL_cons hd0 ht, h0, Nat.add_zero]
theorem pos_all : ∀ (n : Nat) (a : Nat) (l : List UInt8), l.length ≤ n → (posL a l).map (·.2) = (allL l).1
  | n, a, l, hn => by
    cases hd : l.drop (skipC false l) with
    | nil => rw [posL_nil hd, allL_nil hd]; rfl
    | cons c r =>
      cases ht : (tokL (c :: r)).2 with
      | false => rw [posL_bad hd ht, allL_bad hd ht]; rfl
      | true =>
        obtain ⟨t1, t2, _⟩ := tokL_text ht
        have hl : (c :: r).length ≤ l.length := by rw [← hd, List.length_drop]; omega
        cases n with
        | zero => simp only [List.length_cons] at hl; omega
        | succ n =>
          rw [posL_cons hd ht, allL_cons hd ht, List.map_cons, pos_all n _ _ (by rw [List.length_drop]; omega)]
/-- each token stands where it should -/
theorem pos_at (l : List UInt8) : ∀ (n : Nat) (a : Nat), l.length - a ≤ n → a ≤ l.length → ∀ (k : Nat) (p : Nat) (t : Tok), (posL a (l.drop a))[k]? = some (p, t) →
    a ≤ p ∧ 1 ≤ t.t.length ∧ p + t.t.length ≤ l.length ∧ t.t = (l.drop p).take t.t.length ∧ ∀ p' t', (posL a (l.drop a))[k + 1]? = some (p', t') → p + t.t.length ≤ p'
  | n, a, hn, ha, k, p, t, hk => by
    have hs := skipC_le (l.drop a) false
    rw [List.length_drop] at hs
    cases hd : (l.drop a).drop (skipC false (l.drop a)) with
    | nil => rw [posL_nil hd] at hk; simp at hk
    | cons c r =>
      cases ht : (tokL (c :: r)).2 with
      | false => rw [posL_bad hd ht] at hk; simp at hk
      | true =>
        obtain ⟨t1, t2, t3⟩ := tokL_text ht
        rw [posL_cons hd ht] at hk ⊢
        have hdd : c :: r = l.drop (a + skipC false (l.drop a)) := by rw [← hd, List.drop_drop]
        have hlen : (c :: r).length = l.length - (a + skipC false (l.drop a)) := by rw [hdd, List.length_drop]
        have hrest : (c :: r).drop (tokL (c :: r)).1.t.length = l.drop (a + skipC false (l.drop a) + (tokL (c :: r)).1.t.length) := by rw [hdd, List.drop_drop]
        rw [hrest] at hk ⊢
        have hle : a + skipC false (l.drop a) + (tokL (c :: r)).1.t.length ≤ l.length := by omega
        cases n with
        | zero => omega
        | succ n =>
          cases k with
          | zero =>
            simp only [List.getElem?_cons_zero, Option.some.injEq, Prod.mk.injEq] at hk
            obtain ⟨rfl, rfl⟩ := hk
            refine ⟨by omega, t1, hle, by rw [← hdd]; exact t3, fun p' t' h' => ?_⟩
            rw [List.getElem?_cons_succ] at h'
            exact (pos_at l n _ (by omega) hle 0 p' t' h').1
          | succ k =>
            rw [List.getElem?_cons_succ] at hk
            obtain ⟨k1, k2, k3, k4, k5⟩ := pos_at l n _ (by omega) hle k p t hk
            refine ⟨by omega, k2, k3, k4, fun p' t' h' => ?_⟩
            rw [List.getElem?_cons_succ] at h'
            exact k5 p' t' h'
end Go.Lx
namespace Go.Proofs.YtadgcpjobhgkiaaDoor.Va
open Go.Vx Go.Av Go.Lx Go.RowKit

theorem All_spec (s : ByteArray) : SCalls ax 18 [.str s] [] fun r o => r = [.fn 26 [] [.ptr 0 0]] ∧ o = [.box [.str s]] :=
  All.calls (K := fun r o => r = [.fn 26 [] [.ptr 0 0]] ∧ o = [.box [.str s]]) ⟨rfl, rfl⟩

theorem RAll2_spec (l : List UInt8) (hl : l.length ≤ big) : PCalls ax 16 [.str (bs l)] fun r => r = [.sl 1 (encPs (posL 0 l)), .sl 3 (encTs (allL l).1), .bool (allL l).2] := by
  have hb : big = 1099511627776 := rfl
  refine RAll.calls (K := fun r => r = [.sl 1 (encPs (posL 0 l)), .sl 3 (encTs (allL l).1), .bool (allL l).2]) ?_
  unfold RAll.W
  rw [bs_size]
  refine ⟨fun us => ∃ (ac : List (Nat × Tok)) (b : Bool) (a : Nat), us = [.sl 1 (encPs ac), .sl 3 (encTs (ac.map (·.2))), .bool b, .int .i64 a] ∧ a ≤ l.length ∧ ac.length ≤ a ∧ allL l = (ac.map (·.2) ++ (allL ((l.drop a).drop (skipC b (l.drop a)))).1, (allL ((l.drop a).drop (skipC b (l.drop a)))).2) ∧ posL 0 l = ac ++ posL (a + skipC b (l.drop a)) ((l.drop a).drop (skipC b (l.drop a))),
    fun us => match us with | [_, _, _, .int _ a] => l.length - a.toNat | _ => 0, ⟨[], false, 0, rfl, Nat.zero_le _, Nat.zero_le _, by rw [List.drop_zero, allL_drop]; rfl, by rw [List.drop_zero, posL_drop]; rfl⟩, ?_⟩
  rintro P l39 b n41 ⟨ac, b', a, e, ha, hac, hall, hpos⟩
  cases e
  refine ifD (fun hlt => ?_) (fun hge => ?_)
  · obtain ⟨c, hc, hg⟩ := get_lt (l := l) (i := a) (by omega)
    have hd : l.drop a = c :: l.drop (a + 1) := by
      rw [List.drop_eq_getElem_cons (by omega)]; congr 1
      exact Option.some.inj ((List.getElem?_eq_getElem (by omega)).symm.trans hc)
    have hat := fun b => skipC_at hc b
    refine ⟨by omega, c, hg, ?_⟩
    rw [wadd1 (by omega)]
    -- a step over one byte that is no token's
    have step : ∀ b', skipC b (l.drop a) = 1 + skipC b' (l.drop (a + 1)) → (∃ (ac' : List (Nat × Tok)) (b2 : Bool) (a' : Nat), [V.sl 1 (encPs ac), .sl 3 (encTs (ac.map (·.2))), .bool b', .int .i64 ((a + 1 : Nat) : Int)] = [.sl 1 (encPs ac'), .sl 3 (encTs (ac'.map (·.2))), .bool b2, .int .i64 a'] ∧ a' ≤ l.length ∧ ac'.length ≤ a' ∧ allL l = (ac'.map (·.2) ++ (allL ((l.drop a').drop (skipC b2 (l.drop a')))).1, (allL ((l.drop a').drop (skipC b2 (l.drop a')))).2) ∧ posL 0 l = ac' ++ posL (a' + skipC b2 (l.drop a')) ((l.drop a').drop (skipC b2 (l.drop a')))) ∧ l.length - (((a + 1 : Nat) : Int)).toNat < l.length - ((a : Int)).toNat := fun b' h => by
      refine ⟨⟨ac, b', a + 1, rfl, by omega, by omega, ?_, ?_⟩, by simp only [Int.toNat_natCast]; omega⟩
      · rw [hall, h, hd]
        rw [show (1 + skipC b' (l.drop (a + 1))) = skipC b' (l.drop (a + 1)) + 1 by omega, List.drop_succ_cons]
      · rw [hpos, h, hd]
        rw [show (a + (1 + skipC b' (l.drop (a + 1)))) = a + 1 + skipC b' (l.drop (a + 1)) by omega, show (1 + skipC b' (l.drop (a + 1))) = skipC b' (l.drop (a + 1)) + 1 by omega, List.drop_succ_cons]
    refine ifB (fun hbt => ?_) (fun hbf => ?_)
    · subst hbt
      have hne : ((c.toNat : Int) != 10) = decide (c.toNat ≠ 10) := by rw [Bool.eq_iff_iff]; simp; omega
      rw [hne]
      exact step _ (hat true)
    · subst hbf
      have hatf := hat false
      simp only at hatf
      refine ⟨fun us => us = [.bool (isBlank c)], ?_, ?_⟩
      · have h32 : ((c.toNat : Int) == 32) = decide (c.toNat = 32) := by rw [Bool.eq_iff_iff]; simp; omega
        refine ifE (fun h => ?_) (fun h => ifE (fun h2 => ?_) (fun h2 => ifE (fun h3 => ?_) (fun h3 => ?_)))
        · have : c.toNat = 9 := by omega
          simp [isBlank, this]
        · have : c.toNat = 10 := by omega
          simp [isBlank, this]
        · have : c.toNat = 13 := by omega
          simp [isBlank, this]
        · have e1 : ¬ c.toNat = 9 := by omega
          have e2 : ¬ c.toNat = 10 := by omega
          have e3 : ¬ c.toNat = 13 := by omega
          simp [isBlank, e1, e2, e3, h32]
      rintro b' hb'
      cases hb'
      refine ifB (fun hbl => ?_) (fun hnb => ifE (fun h37 => ?_) (fun h37 => ?_))
      · rw [hbl, if_pos rfl] at hatf
        exact step false hatf
      · have hc37 : c.toNat = 37 := by omega
        rw [hnb, if_neg (by simp), if_pos hc37] at hatf
        exact step true hatf
      · have hc37 : ¬ c.toNat = 37 := by omega
        rw [hnb, if_neg (by simp), if_neg hc37] at hatf
        have hd0 : (l.drop a).drop (skipC false (l.drop a)) = c :: l.drop (a + 1) := by rw [hatf]; exact hd
        refine (RWord_spec l hl a (by omega)).mono fun r ⟨t, hr, htok⟩ => ⟨_, _, _, _, hr, ?_⟩
        rw [hatf, List.drop_zero] at hall hpos
        refine ifN (fun hbad => ?_) (fun hok => ?_)
        · rw [hd] at hbad
          rw [hall, hpos, allL_bad hd0 hbad, posL_bad hd0 hbad]; simp
        · have ht := htok hok
          have htx := tokL_text hok
          have hle := htx.2.1
          rw [List.length_drop] at hle
          rw [hd] at hok
          have hcons := allL_cons hd0 hok
          have hpc := posL_cons (a := a) hd0 hok
          rw [← hd] at hcons hpc
          rw [List.drop_drop] at hcons hpc
          rw [hatf, Nat.add_zero] at hpc
          rw [ht, encTs_snoc, encPs_snoc ac a (tokL (l.drop a)).1, bs_size]
          generalize htl : (tokL (l.drop a)).1.t.length = m at *
          rw [wadd (by omega)]
          have inv : (∃ (ac' : List (Nat × Tok)) (b2 : Bool) (a' : Nat), [V.sl 1 (encPs (ac ++ [(a, (tokL (l.drop a)).1)])), .sl 3 (encTs (ac.map (·.2) ++ [(tokL (l.drop a)).1])), .bool false, .int .i64 ((a + m : Nat) : Int)] = [.sl 1 (encPs ac'), .sl 3 (encTs (ac'.map (·.2))), .bool b2, .int .i64 a'] ∧ a' ≤ l.length ∧ ac'.length ≤ a' ∧ allL l = (ac'.map (·.2) ++ (allL ((l.drop a').drop (skipC b2 (l.drop a')))).1, (allL ((l.drop a').drop (skipC b2 (l.drop a')))).2) ∧ posL 0 l = ac' ++ posL (a' + skipC b2 (l.drop a')) ((l.drop a').drop (skipC b2 (l.drop a')))) ∧ l.length - (((a + m : Nat) : Int)).toNat < l.length - ((a : Int)).toNat := by
            refine ⟨⟨ac ++ [(a, (tokL (l.drop a)).1)], false, a + m, by rw [List.map_append]; rfl, by omega, by simp; omega, ?_, ?_⟩, by simp only [Int.toNat_natCast]; omega⟩
            · rw [allL_drop, hall, hcons]; simp
            · rw [posL_drop, hpos, Nat.add_zero, hpc]; simp
          have g1 : ((encPs ac).length + (0 + 1)) * 8 ≤ 140737488355328 := by rw [encPs_length]; omega
          have g2 : (encPs ac).length + (0 + 1) ≤ 140737488355328 := by rw [encPs_length]; omega
          have g3 : ((encTs (ac.map (·.2))).length + (0 + 1)) * 32 ≤ 140737488355328 := by rw [encTs_length, List.length_map]; omega
          have g4 : (encTs (ac.map (·.2))).length + (0 + 1) ≤ 140737488355328 := by rw [encTs_length, List.length_map]; omega
          exact ⟨⟨⟨g1, g2, g3, g4, inv⟩, ⟨g1, g2, g3, g4, inv⟩⟩, ⟨g1, g2, g3, g4, inv⟩⟩
  · have hd : l.drop a = [] := List.drop_eq_nil_of_le (by omega)
    rw [hall, hpos, hd, List.drop_nil, allL_nil (by rfl), posL_nil (by rfl)]; simp
end Go.Proofs.YtadgcpjobhgkiaaDoor.Va
end

/- part G1C -/
section
namespace Go.Proofs.YtadgcpjobhgkiaaDoor.Va
open Go.Vx Go.Av Go.Lx Go.RowKit

def rOps : Code → Array Oper
  | .region _ ops _ => ops
  | _ => #[]
noncomputable def r4 : Array Oper := rOps (Av.part [.snd, .fst, .snd, .inn, .inn, .snd, .inn, .snd, .fst, .fst] (Tryd.f23.body.getD .skip))
theorem body23 : Tryd.f23.body.getD .skip = .seq eA.c (.seq (.seq eB.c (.block 0 (.loop (.seq eC.c (.block 1 (.seq eD.c (.seq (.seq (.region 4 r4 false) eE.c) eF.c))))))) eG.c) := by kernel_rfl

noncomputable def o3 : Oper := r4.toList.getD 3 ⟨none, .move (.const undef), 0, "", #[], none⟩
noncomputable def o6 : Oper := r4.toList.getD 6 ⟨none, .move (.const undef), 0, "", #[], none⟩
def emAH : AH := ⟨[], [], [], [], [], [], [], []⟩
theorem r4_split : r4.toList = r4.toList.take 3 ++ (o3 :: ((r4.toList.drop 4).take 2 ++ (o6 :: r4.toList.drop 7))) := by kernel_rfl
theorem r4_bad (s : ByteArray) (a k : Int) (t : ByteArray) (v : Int) (K : List V → Store → Prop) : K [.str s, .int .i64 a, .bool true] [⟨1, .box [.int .i64 k, .str t, .int .i64 v]⟩] = areg ax emAH r4 r4.toList (envL [(0, .str s), (5, .int .i64 a), (6, .ptr 0 0), (7, .bool false)]) [⟨1, .box [.int .i64 k, .str t, .int .i64 v]⟩] (fun e σ => K [e 0, e 5, e 28] σ) := by kernel_rfl
theorem r4_a (s : ByteArray) (a k : Int) (t : ByteArray) (v : Int) (K : List V → Store → Prop) : K [.str s, .int .i64 a, .ptr 0 0, .bool false] [⟨1, .box [.int .i64 k, .str t, .int .i64 v]⟩] = areg ax emAH r4 (r4.toList.take 3) (envL [(0, .str s), (5, .int .i64 a), (6, .ptr 0 0), (7, .bool true)]) [⟨1, .box [.int .i64 k, .str t, .int .i64 v]⟩] (fun e σ => K [e 0, e 5, e 6, e 22] σ) := by kernel_rfl
theorem r4_b (s : ByteArray) (a k : Int) (t : ByteArray) (v : Int) (K : List V → Store → Prop) : K [.str s, .int .i64 a, .ptr 0 0, .bool false, .int .i64 a, .agg [.int .i64 k, .str t, .int .i64 v]] [⟨1, .box [.int .i64 k, .str t, .int .i64 v]⟩] = areg ax emAH r4 ((r4.toList.drop 4).take 2) (envL [(0, .str s), (5, .int .i64 a), (6, .ptr 0 0), (22, .bool false)]) [⟨1, .box [.int .i64 k, .str t, .int .i64 v]⟩] (fun e σ => K [e 0, e 5, e 6, e 22, e 24, e 25] σ) := by kernel_rfl
theorem r4_d (s : ByteArray) (a : Int) (b : Bool) (K : List V → Store → Prop) : K [.str s, .int .i64 a, .bool (!b)] [] = areg ax emAH r4 (r4.toList.drop 7) (envL [(0, .str s), (5, .int .i64 a), (22, .bool false), (26, .bool b)]) [] (fun e σ => K [e 0, e 5, e 28] σ) := by kernel_rfl
theorem r4_dst : (r4.toList.all fun o => match o.dst with | some d => Nat.ble (d + 1) 36 | none => true) = true := by kernel_rfl
theorem r4_calm : Vx.calm r4.toList = true := by kernel_rfl
theorem o3_op : o3.op = .move (.tmp 1) ∧ o3.dst = some 23 ∧ o3.guard = some (2, false) := ⟨by kernel_rfl, by kernel_rfl, by kernel_rfl⟩
theorem o6_op : o6.op = .call { callee := .value (.tmp 23), args := #[.tmp 24, .tmp 25], argTypes := #[3, 35] } ∧ o6.dst = some 26 ∧ o6.guard = some (2, false) := ⟨by kernel_rfl, by kernel_rfl, by kernel_rfl⟩
theorem r4_slot : slotOf r4 2 = some 22 := by kernel_rfl
theorem fix1 : hasB (assigned (hintsOf eA.ah) eA.c ++ assigned (hintsOf eB.ah) eB.c ++ assigned (hintsOf eC.ah) eC.c ++ assigned (hintsOf eD.ah) eD.c ++ assigned (hintsOf eE.ah) eE.c ++ assigned (hintsOf eF.ah) eF.c) 1 = false := by kernel_rfl
def nod (l : List Oper) (t : Nat) : Bool := l.all fun o => match o.dst with | some d => !(Nat.beq d t) | none => true
theorem nod_elim {l : List Oper} {t : Nat} (h : nod l t = true) : ∀ o ∈ l, o.dst ≠ some t := by
  intro o ho he
  have := List.all_eq_true.1 h o ho
  rw [he] at this
  simp at this
theorem nodA : nod (r4.toList.take 3) 1 = true := by kernel_rfl
theorem nodB : nod ((r4.toList.drop 4).take 2) 23 = true := by kernel_rfl
theorem nodB1 : nod ((r4.toList.drop 4).take 2) 1 = true := by kernel_rfl
theorem nodB6 : nod ((r4.toList.drop 4).take 2) 6 = true := by kernel_rfl
theorem nodA6 : nod (r4.toList.take 3) 6 = true := by kernel_rfl
theorem nodC7 : nod (r4.toList.drop 7) 1 = true := by kernel_rfl
theorem nodC76 : nod (r4.toList.drop 7) 6 = true := by kernel_rfl
theorem eE6 : 6 ∉ assigned (hintsOf eE.ah) eE.c := fun h => by
  have e : hasB (assigned (hintsOf eE.ah) eE.c) 6 = false := by kernel_rfl
  rw [hasB_iff.2 h] at e; cases e
theorem nodC : nod r4.toList 1 = true := by kernel_rfl
theorem dstA : ((r4.toList.take 3).all fun o => match o.dst with | some d => Nat.ble (d + 1) 36 | none => true) = true := by kernel_rfl
theorem dstB : (((r4.toList.drop 4).take 2).all fun o => match o.dst with | some d => Nat.ble (d + 1) 36 | none => true) = true := by kernel_rfl
theorem dstC : ((r4.toList.drop 7).all fun o => match o.dst with | some d => Nat.ble (d + 1) 36 | none => true) = true := by kernel_rfl
theorem calmA : Vx.calm (r4.toList.take 3) = true := by kernel_rfl
theorem calmB : Vx.calm ((r4.toList.drop 4).take 2) = true := by kernel_rfl
theorem calmC' : Vx.calm (r4.toList.drop 7) = true := by kernel_rfl
theorem eA1 : 1 ∉ assigned (hintsOf eA.ah) eA.c := fun h => by have e : hasB (assigned (hintsOf eA.ah) eA.c) 1 = false := by kernel_rfl
                                                               rw [hasB_iff.2 h] at e; cases e
theorem eB1 : 1 ∉ assigned (hintsOf eB.ah) eB.c := fun h => by have e : hasB (assigned (hintsOf eB.ah) eB.c) 1 = false := by kernel_rfl
                                                               rw [hasB_iff.2 h] at e; cases e
theorem eC1 : 1 ∉ assigned (hintsOf eC.ah) eC.c := fun h => by have e : hasB (assigned (hintsOf eC.ah) eC.c) 1 = false := by kernel_rfl
                                                               rw [hasB_iff.2 h] at e; cases e
theorem eD1 : 1 ∉ assigned (hintsOf eD.ah) eD.c := fun h => by have e : hasB (assigned (hintsOf eD.ah) eD.c) 1 = false := by kernel_rfl
                                                               rw [hasB_iff.2 h] at e; cases e
theorem eE1 : 1 ∉ assigned (hintsOf eE.ah) eE.c := fun h => by have e : hasB (assigned (hintsOf eE.ah) eE.c) 1 = false := by kernel_rfl
                                                               rw [hasB_iff.2 h] at e; cases e
theorem eF1 : 1 ∉ assigned (hintsOf eF.ah) eF.c := fun h => by have e : hasB (assigned (hintsOf eF.ah) eF.c) 1 = false := by kernel_rfl
                                                               rw [hasB_iff.2 h] at e; cases e

theorem args_getD (l : List Value) (k t : Nat) : (l.toArray ++ Array.replicate k undef).getD t undef = l.getD t undef := by
  simp only [Array.getD_eq_getD_getElem?, List.getD_eq_getElem?_getD]
  by_cases ht : t < l.length
  · rw [Array.getElem?_append_left (by simpa using ht)]; simp
  · rw [Array.getElem?_append_right (by simpa using ht), List.getElem?_eq_none (by omega), Array.getElem?_replicate]
    split <;> rfl
def encA (x : Nat × Tok) : Array Value := #[.int .i64 x.1, .agg #[.int .i64 x.2.k, .string (bs x.2.t), .int .i64 x.2.n]]
theorem noHas {β : Nat → Value} {i b : Nat} : ¬ Has β i (getO ([] : Store) i) b := fun hi => by have := hi.1; simp [getO, Live] at this

/-- what each's slots hold -/
structure EI (l : List UInt8) (y : Nat) (a : Act) : Prop where
  size : a.tmps.size = 36
  defers : a.defers = []
  text : a.tmps.getD 0 undef = .string (bs l)
  yld : a.tmps.getD 1 undef = .func (.yield y) #[] #[]

section
variable {G : Nat → Value} {w0 : World} {F0 : Nat → Nat → Prop} {β0 : Nat → Value} (hE : ErrOk ax.P ax.gs ax.ift ax.tabs G) (h0 : Sim ax.gs G w0 F0 β0 [])
include hE h0

omit hE in
theorem EI.st {l : List UInt8} {y : Nat} {a : Act} {W : World} (h : EI l y a) (hW : Below w0.heap.size w0 W) (L : List (Nat × V)) (hL : ∀ x ∈ L, ∀ F β σ, RV ax.gs G W F β σ x.2 (a.tmps.getD x.1 undef)) : St ax G W F0 β0 [] [] 36 (envL L) [] a W := by
  obtain ⟨s1, s2⟩ := h0.below hW
  refine ⟨fun t => a.tmps.getD t undef, F0, β0, ⟨h.size, fun _ => rfl, h.defers⟩, fun t => ?_, s1, Step.refl _ _ _ _⟩
  induction L with
  | nil => exact .junk _
  | cons x L ih =>
    simp only [envL]
    cases hb : Nat.beq t x.1 with
    | true => have := Nat.eq_of_beq_eq_true hb; subst this; exact hL x List.mem_cons_self _ _ _
    | false => exact ih fun x hx => hL x (List.mem_cons_of_mem _ hx)
omit hE in
theorem EI.st0 {l : List UInt8} {y : Nat} {a : Act} {W : World} (h : EI l y a) (hW : Below w0.heap.size w0 W) : St ax G W F0 β0 [] [] 36 (envL [(0, .str (bs l))]) [] a W :=
  h.st h0 hW _ fun x hx F β σ => by rw [List.mem_singleton.1 hx, h.text]; exact .mk_str _
omit hE in
theorem EI.st5 {l : List UInt8} {y : Nat} {a : Act} {W : World} (h : EI l y a) (hW : Below w0.heap.size w0 W) {p : Int} (hp : a.tmps.getD 5 undef = .int .i64 p) : St ax G W F0 β0 [] [] 36 (envL [(0, .str (bs l)), (5, .int .i64 p)]) [] a W :=
  h.st h0 hW _ fun x hx F β σ => by
    rcases List.mem_cons.1 hx with rfl | hx
    · rw [h.text]; exact .mk_str _
    · rw [List.mem_singleton.1 hx, hp]; exact .mk_int _ _
omit hE in
theorem EI.st28 {l : List UInt8} {y : Nat} {a : Act} {W : World} (h : EI l y a) (hW : Below w0.heap.size w0 W) {p : Int} (hp : a.tmps.getD 5 undef = .int .i64 p) {b : Bool} (hb : a.tmps.getD 28 undef = .bool b) : St ax G W F0 β0 [] [] 36 (envL [(0, .str (bs l)), (5, .int .i64 p), (28, .bool b)]) [] a W :=
  h.st h0 hW _ fun x hx F β σ => by
    rcases List.mem_cons.1 hx with rfl | hx
    · rw [h.text]; exact .mk_str _
    rcases List.mem_cons.1 hx with rfl | hx
    · rw [hp]; exact .mk_int _ _
    · rw [List.mem_singleton.1 hx, hb]; exact .mk_bool _

/-- **each, as an iterator.** -/
theorem each_iter (l : List UInt8) (hl : l.length ≤ big) {y : Nat} {J Jx : Nat → World → Prop} {Wc : World} (hn : w0.heap.size ≤ Wc.heap.size)
    (hJb : ∀ k W', J k W' → Below w0.heap.size w0 W') (hJxb : ∀ k W', Jx k W' → Below w0.heap.size w0 W') (hJs : ∀ k W1 W2, J k W1 → Below W1.heap.size W1 W2 → J k W2) (hJxs : ∀ k W1 W2, Jx k W1 → Below W1.heap.size W1 W2 → Jx k W2)
    (hY : ∀ k x W1, ((posL 0 l).map encA)[k]? = some x → J k W1 → Wc.heap.size ≤ W1.heap.size → YieldAt Fence.wide 0 ax.P y x W1 fun e W' => (e = .returned (.bool true) ∧ J (k + 1) W' ∧ Kp Wc.heap.size W1 W') ∨ (e = .returned (.bool false) ∧ Jx k W'))
    (hJ0 : J 0 Wc) : CallsIn Fence.wide 0 ax.P 23 #[.string (bs l), .func (.yield y) #[] #[]] Wc fun e W' => (∃ v, e = .returned v) ∧ (J (posL 0 l).length W' ∨ ∃ k, k < (posL 0 l).length ∧ Jx k W') := by
  have hO := Opn.wide
  have hb : big = 1099511627776 := rfl
  refine callsIn_of_wp (c := Tryd.f23.body.getD .skip) Tryd.func23 (by kernel_rfl) trivial ?_ rfl
  have hin : EI l y { tmps := #[Value.string (bs l), .func (.yield y) #[] #[]] ++ Array.replicate (Tryd.f23.ntmps - 2) undef, defers := [] } := ⟨by simp only [Array.size_append, Array.size_replicate]; kernel_rfl, rfl, args_getD [.string (bs l), .func (.yield y) #[] #[]] _ 0, args_getD [.string (bs l), .func (.yield y) #[] #[]] _ 1⟩
  generalize ({ tmps := #[Value.string (bs l), .func (.yield y) #[] #[]] ++ Array.replicate (Tryd.f23.ntmps - 2) undef, defers := [] } : Act) = a at hin
  -- its ends
  obtain ⟨Q, hQd⟩ : ∃ Q, Q = bodyPost ax.P Tryd.f23 fun e W' => (∃ v, e = .returned v) ∧ (J (posL 0 l).length W' ∨ ∃ k, k < (posL 0 l).length ∧ Jx k W') := ⟨_, rfl⟩
  have fin : ∀ (a : Act) (W : World), a.defers = [] → (J (posL 0 l).length W ∨ ∃ k, k < (posL 0 l).length ∧ Jx k W) → Q .ret a W := fun a W h1 h2 => by
    rw [hQd]
    obtain ⟨v, h3, _⟩ := results_run (P := ax.P) (w := W) (fn := Tryd.f23) (R := fun _ => True) tysOk (e := fun t => a.tmps.getD t undef) (n := a.tmps.size) ⟨rfl, fun _ => rfl, h1⟩ (show resL tys _ W [.tmp 4] _ from trivial)
    exact ⟨h1, v, h3, ⟨_, rfl⟩, h2⟩
  show (Tryd.f23.body.getD .skip).wpIn Fence.wide 0 ax.P _ a Wc
  rw [← hQd, body23]
  have hJ0b := hJb _ _ hJ0
  refine wpIn_seq (wpIn_mono (eA.run hE hO (bs l) (fun ex vs σ => ex = .normal ∧ vs = [.str (bs l)] ∧ σ = []) ⟨rfl, rfl, rfl⟩ (hin.st0 h0 hJ0b)) ?_)
  rintro ex a1 W1 ⟨vs, σ1, ⟨rfl, rfl, rfl⟩, s1, f1, F1, β1, F2, β2, q1, q2, q3⟩
  have b1 := q2.below0.trans (q3.below0.mono q2.below0.size)
  have i1 : EI l y a1 := ⟨s1.size.1, s1.size.2, s1.str rfl, (f1 1 eA1).trans hin.yld⟩
  have j1 := hJs _ _ _ hJ0 b1
  clear q1 q2 q3 f1 s1
  refine wpIn_seq (wpIn_seq (wpIn_mono (eB.run hE hO (bs l) (fun ex vs σ => ex = .normal ∧ vs = [.str (bs l), .int .i64 ((skipC false l : Nat) : Int)] ∧ σ = []) ((skip_spec l hl 0 (Nat.zero_le _)).mono fun r hr => ⟨_, hr, by simp⟩) (i1.st0 h0 (hJb _ _ j1))) ?_))
  rintro ex a2 W2 ⟨vs, σ2, ⟨rfl, rfl, rfl⟩, s2, f2, F3, β3, F4, β4, q4, q5, q6⟩
  have b2 := q5.below0.trans (q6.below0.mono q5.below0.size)
  have i2 : EI l y a2 := ⟨s2.size.1, s2.size.2, s2.str rfl, (f2 1 eB1).trans i1.yld⟩
  have p2 : a2.tmps.getD 5 undef = .int .i64 ((skipC false l : Nat) : Int) := s2.int rfl
  have j2 := hJs _ _ _ j1 b2
  have z2 : Wc.heap.size ≤ W2.heap.size := Nat.le_trans b1.size b2.size
  clear q4 q5 q6 f2 s2 b2 b1 j1 i1 a1 W1 hin a
  have hsk := skipC_le l false
  -- the loop
  have hloop : (Code.loop (.seq eC.c (.block 1 (.seq eD.c (.seq (.seq (.region 4 r4 false) eE.c) eF.c))))).wpIn Fence.wide 0 ax.P (fun ex a W => (ex = .exit 0 ∧ EI l y a ∧ J (posL 0 l).length W) ∨ (ex = .ret ∧ a.defers = [] ∧ (J (posL 0 l).length W ∨ ∃ k, k < (posL 0 l).length ∧ Jx k W))) a2 W2 := by
    refine wpIn_loop (fun a W => ∃ (k p : Nat), EI l y a ∧ a.tmps.getD 5 undef = .int .i64 (p : Int) ∧ J k W ∧ Wc.heap.size ≤ W.heap.size ∧ p ≤ l.length ∧ skipC false (l.drop p) = 0 ∧ (posL 0 l).drop k = posL p (l.drop p) ∧ k ≤ (posL 0 l).length)
      (fun a _ => match a.tmps.getD 5 undef with | .int _ p => l.length - p.toNat | _ => 0) ⟨0, skipC false l, i2, p2, j2, z2, hsk, skipC_skip l false, by rw [List.drop_zero, ← posL_drop 0 l, Nat.zero_add], Nat.zero_le _⟩ ?_
    rintro a W ⟨k, p, i, hp, hj, hz, hpl, hs0, hpos, hkl⟩
    refine wpIn_seq (wpIn_mono (eC.run hE hO (bs l) (p : Int) (fun ex vs σ => ((ex = .exit 0 ∧ l.length ≤ p) ∨ (ex = .normal ∧ p < l.length)) ∧ vs = [.str (bs l), .int .i64 (p : Int)] ∧ σ = []) ?_ (i.st5 h0 (hJb _ _ hj) hp)) ?_)
    · unfold eC.W
      rw [bs_size]
      refine ifD (fun h => ?_) (fun h => ?_)
      · exact ⟨.inr ⟨rfl, by omega⟩, rfl, rfl⟩
      · exact ⟨.inl ⟨rfl, by omega⟩, rfl, rfl⟩
    rintro ex a1 W1 ⟨vs, σ1, ⟨hex, rfl, rfl⟩, s1, f1, F1, β1, F2, β2, q1, q2, q3⟩
    have b1 := q2.below0.trans (q3.below0.mono q2.below0.size)
    have i1 : EI l y a1 := ⟨s1.size.1, s1.size.2, s1.str rfl, (f1 1 eC1).trans i.yld⟩
    have p1 : a1.tmps.getD 5 undef = .int .i64 (p : Int) := s1.int rfl
    have j1 := hJs _ _ _ hj b1
    have z1 : Wc.heap.size ≤ W1.heap.size := Nat.le_trans hz b1.size
    clear q1 q2 q3 f1 s1
    rcases hex with ⟨rfl, hge⟩ | ⟨rfl, hlt⟩
    · refine .inl ⟨rfl, i1, ?_⟩
      have hd : l.drop p = [] := List.drop_eq_nil_of_le hge
      rw [show posL p (l.drop p) = [] by rw [hd]; exact posL_nil (by rfl)] at hpos
      have : (posL 0 l).length ≤ k := List.drop_eq_nil_iff.1 hpos
      have e : k = (posL 0 l).length := by omega
      rw [← e]; exact j1
    obtain ⟨c, hc, hg⟩ := get_lt (l := l) (i := p) hlt
    have hd : l.drop p = c :: l.drop (p + 1) := by
      rw [List.drop_eq_getElem_cons hlt]; congr 1
      exact Option.some.inj ((List.getElem?_eq_getElem hlt).symm.trans hc)
    have hd0 : (l.drop p).drop (skipC false (l.drop p)) = c :: l.drop (p + 1) := by rw [hs0]; exact hd
    refine wpIn_block (wpIn_seq (wpIn_mono (eD.run hE hO (bs l) (p : Int) (fun ex vs σ => ex = .normal ∧ vs = [.str (bs l), .int .i64 (p : Int), .ptr 0 0, .bool (tokL (l.drop p)).2] ∧ σ = [⟨1, .box (encT (tokL (l.drop p)).1)⟩])
      ((token_spec l hl p hlt).mono fun r hr => ⟨_, _, _, _, hr, rfl, rfl, rfl⟩) (i1.st5 h0 (hJb _ _ j1) p1)) ?_))
    rintro ex a2 W2 ⟨vs, σ2, ⟨rfl, rfl, rfl⟩, s2, f2, F3, β3, F4, β4, q4, q5, q6⟩
    have y2 : a2.tmps.getD 1 undef = .func (.yield y) #[] #[] := (f2 1 eD1).trans i1.yld
    clear q4 q5 q6 f2
    -- what a state behind W1 has
    have since : ∀ {e : AEnv} {σ : Store} {a : Act} {W : World}, St ax G W1 F0 β0 [] [] 36 e σ a W → J k W ∧ Wc.heap.size ≤ W.heap.size := fun hs => by
      obtain ⟨_, _, _, _, _, _, st⟩ := hs
      exact ⟨hJs _ _ _ j1 st.below0, Nat.le_trans z1 st.below0.size⟩
    cases htk : (tokL (l.drop p)).2 with
    | false =>
      -- no token: the end
      rw [htk] at s2
      have hke : k = (posL 0 l).length := by
        rw [hd] at htk
        rw [show posL p (l.drop p) = [] from posL_bad hd0 htk] at hpos
        have : (posL 0 l).length ≤ k := List.drop_eq_nil_iff.1 hpos
        omega
      refine wpIn_seq (wpIn_seq (wpIn_region_list ?_))
      rw [← List.append_nil r4.toList]
      refine St.list tysOk fnsOk eqOk hE hO r4_dst r4_calm (Eq.mp (r4_bad (bs l) (p : Int) (tokL (l.drop p)).1.k (bs (tokL (l.drop p)).1.t) (tokL (l.drop p)).1.n (fun vs σ => vs = [.str (bs l), .int .i64 (p : Int), .bool true])) rfl) s2 ?_
      intro e3 σ3 a3 W3 hk3 s3 f3 _
      simp only [List.cons.injEq, and_true] at hk3
      obtain ⟨k30, k35, k38⟩ := hk3
      have i3 : EI l y a3 := ⟨s3.size.1, s3.size.2, s3.str k30, (f3 1 (nod_elim nodC)).trans y2⟩
      obtain ⟨j3, z3⟩ := since s3
      refine wpIn_mono (eE.run hE hO (bs l) (p : Int) true (fun ex vs σ => ex = .ret) rfl (i3.st28 h0 (hJb _ _ j3) (s3.int k35) (s3.bool k38))) ?_
      rintro ex a4 W4 ⟨vs, σ4, rfl, s4, f4, F1, β1, F2, β2, q1, q2, q3⟩
      have b4 := q2.below0.trans (q3.below0.mono q2.below0.size)
      exact .inr ⟨rfl, s4.size.2, .inl (by rw [← hke]; exact hJs _ _ _ j3 b4)⟩
    | true =>
      rw [htk] at s2
      have htkc := htk
      rw [hd] at htkc
      have htx := tokL_text htk
      have hle := htx.2.1
      rw [List.length_drop] at hle
      have hpc := posL_cons (a := p) hd0 htkc
      rw [← hd, hs0, Nat.add_zero, List.drop_drop] at hpc
      rw [hpc] at hpos
      obtain ⟨tk, htkv⟩ : ∃ tk, (tokL (l.drop p)).1 = tk := ⟨_, rfl⟩
      rw [htkv] at hpos s2 htx hle
      clear hpc htkc
      have hk1 : k < (posL 0 l).length := by
        rcases Nat.lt_or_ge k (posL 0 l).length with h | h
        · exact h
        · rw [List.drop_eq_nil_of_le h] at hpos; cases hpos
      have hgetk : (posL 0 l)[k]? = some (p, tk) := by
        have e1 : ((posL 0 l).drop k)[0]? = (posL 0 l)[k + 0]? := List.getElem?_drop
        rw [hpos] at e1
        simpa using e1.symm
      have hnextk : (posL 0 l).drop (k + 1) = posL (p + tk.t.length) (l.drop (p + tk.t.length)) := by
        rw [← List.drop_drop, hpos]; rfl
      have hseg : ∀ σ : Store, σ = [⟨1, .box (encT tk)⟩] → σ = [⟨1, .box [.int .i64 tk.k, .str (bs tk.t), .int .i64 tk.n]⟩] := fun σ h => h
      refine wpIn_seq (wpIn_seq (wpIn_region_list ?_))
      rw [r4_split]
      refine St.list tysOk fnsOk eqOk hE hO dstA calmA (Eq.mp (r4_a (bs l) (p : Int) tk.k (bs tk.t) tk.n (fun vs σ => vs = [.str (bs l), .int .i64 (p : Int), .ptr 0 0, .bool false] ∧ σ = [⟨1, .box [.int .i64 tk.k, .str (bs tk.t), .int .i64 tk.n]⟩])) ⟨rfl, rfl⟩) s2 ?_
      rintro e3 σ3 a3 W3 ⟨hk3, rfl⟩ s3 f3 _
      simp only [List.cons.injEq, and_true] at hk3
      obtain ⟨k30, k35, k36, k322⟩ := hk3
      have y3 : a3.tmps.getD 1 undef = .func (.yield y) #[] #[] := (f3 1 (nod_elim nodA)).trans y2
      unfold wpListIn
      rw [if_pos (by rw [wantedD o3_op.2.2 r4_slot (s3.bool k322)]; rfl)]
      refine move_op hO o3_op.1 ?_
      rw [o3_op.2.1]
      have ey : a3.eval (.tmp 1) = .func (.yield y) #[] #[] := y3
      rw [ey]
      obtain ⟨s4, y4, f4⟩ := s3.put (d := 23) (by decide) (.func (.yield y) #[] #[])
      refine St.list tysOk fnsOk eqOk hE hO dstB calmB (Eq.mp (r4_b (bs l) (p : Int) tk.k (bs tk.t) tk.n (fun vs σ => vs = [.str (bs l), .int .i64 (p : Int), .ptr 0 0, .bool false, .int .i64 (p : Int), .agg [.int .i64 tk.k, .str (bs tk.t), .int .i64 tk.n]] ∧ σ = [⟨1, .box [.int .i64 tk.k, .str (bs tk.t), .int .i64 tk.n]⟩])) ⟨rfl, rfl⟩)
        (s4.env (envL_sub _ (fun x hx => by
          rcases List.mem_cons.1 hx with rfl | hx
          · exact k30
          rcases List.mem_cons.1 hx with rfl | hx
          · exact k35
          rcases List.mem_cons.1 hx with rfl | hx
          · exact k36
          · rw [List.mem_singleton.1 hx]; exact k322))) ?_
      rintro e5 σ5 a5 W5 ⟨hk5, rfl⟩ s5 f5 _
      simp only [List.cons.injEq, and_true] at hk5
      obtain ⟨k50, k55, k56, k522, k524, k525⟩ := hk5
      have y5 : a5.tmps.getD 23 undef = .func (.yield y) #[] #[] := (f5 23 (nod_elim nodB)).trans y4
      have yy5 : a5.tmps.getD 1 undef = .func (.yield y) #[] #[] := (f5 1 (nod_elim nodB1)).trans ((f4 1 (by decide)).trans y3)
      obtain ⟨j5, z5⟩ := since s5
      have i5 : EI l y a5 := ⟨s5.size.1, s5.size.2, s5.str k50, yy5⟩
      have p5 : a5.tmps.getD 5 undef = .int .i64 (p : Int) := s5.int k55
      have b22 : a5.tmps.getD 22 undef = .bool false := s5.bool k522
      have p24 : a5.tmps.getD 24 undef = .int .i64 (p : Int) := s5.int k524
      -- what lies in memory
      obtain ⟨b, bt, hb6, hbW, hbz, p25⟩ : ∃ b bt, a5.tmps.getD 6 undef = .pointer (some ⟨b, 0, none⟩) ∧ W5.heap[b]? = some (.cells #[.int .i64 tk.k, .string (bs tk.t), .int .i64 tk.n] bt (0, 0)) ∧ W1.heap.size ≤ b ∧ a5.tmps.getD 25 undef = .agg #[.int .i64 tk.k, .string (bs tk.t), .int .i64 tk.n] := by
        obtain ⟨ρ, F, β, r1, r2, r3, r4'⟩ := s5
        have v6 := r2 6
        rw [k56] at v6
        obtain ⟨b, o', e6, _, hβ⟩ := v6.ptr_inv
        obtain ⟨hβ0, rfl⟩ := hβ _ rfl
        have v25 := r2 25
        rw [k525] at v25
        obtain ⟨vs, e25, hvs⟩ := v25.agg_inv
        obtain ⟨x1, xs1, rfl, g1, hvs⟩ := hvs.cons_inv
        obtain ⟨x2, xs2, rfl, g2, hvs⟩ := hvs.cons_inv
        obtain ⟨x3, xs3, rfl, g3, hvs⟩ := hvs.cons_inv
        obtain rfl := hvs.nil_inv
        rw [g1.int_inv, g2.str_inv, g3.int_inv] at e25
        have ho := r3.obj 0
        obtain ⟨b', t', cs, hb', hh, hr, _⟩ := ho
        rw [hβ0] at hb'
        cases hb'
        obtain ⟨x1, xs1, ec, g1, hr⟩ := hr.cons_inv
        obtain ⟨x2, xs2, rfl, g2, hr⟩ := hr.cons_inv
        obtain ⟨x3, xs3, rfl, g3, hr⟩ := hr.cons_inv
        obtain rfl := hr.nil_inv
        rw [g1.int_inv, g2.str_inv, g3.int_inv] at ec
        have hcs : cs = #[.int .i64 tk.k, .string (bs tk.t), .int .i64 tk.n] := by
          apply Array.ext'; simpa using ec
        subst hcs
        refine ⟨b, t', by rw [r1.at_]; exact e6, hh, ?_, by rw [r1.at_]; exact e25⟩
        rcases r4'.newH 0 b ⟨trivial, by rw [hβ0]; rfl⟩ with h | ⟨j, h⟩
        · exact h
        · exact absurd h noHas
      unfold wpListIn
      rw [if_pos (by rw [wantedD o6_op.2.2 r4_slot b22]; rfl)]
      have hx : ((posL 0 l).map encA)[k]? = some (encA (p, tk)) := by rw [List.getElem?_map, hgetk]; rfl
      refine yield_op hO o6_op.1 rfl (show a5.eval (.tmp 23) = _ from y5) (vs := encA (p, tk)) (by
        have e1 : a5.eval (.tmp 24) = .int .i64 (p : Int) := p24
        have e2 : a5.eval (.tmp 25) = .agg #[.int .i64 tk.k, .string (bs tk.t), .int .i64 tk.n] := p25
        simp [e1, e2, encA]) (hY k _ W5 hx j5 z5) ?_
      rw [o6_op.2.1]
      -- behind the round
      intro e W6 h6
      obtain ⟨bb, rfl, hb1, hb0, hbe⟩ : ∃ bb : Bool, e = .returned (.bool bb) ∧ (bb = true → J (k + 1) W6 ∧ Kp Wc.heap.size W5 W6) ∧ (bb = false → Jx k W6) ∧ Below w0.heap.size w0 W6 := by
        rcases h6 with ⟨rfl, h1, h2⟩ | ⟨rfl, h1⟩
        · exact ⟨true, rfl, fun _ => ⟨h1, h2⟩, (fun h => by cases h), hJb _ _ h1⟩
        · exact ⟨false, rfl, (fun h => by cases h), fun _ => h1, hJxb _ _ h1⟩
      refine ⟨_, rfl, ?_⟩
      obtain ⟨s6, v6, f6⟩ := s5.put (d := 26) (by decide) (.bool bb)
      generalize a5.put (some 26) (.bool bb) = a6 at s6 v6 f6
      have i6 : EI l y a6 := ⟨s6.size.1, s6.size.2, (f6 0 (by decide)).trans i5.text, (f6 1 (by decide)).trans i5.yld⟩
      have p6 : a6.tmps.getD 5 undef = .int .i64 (p : Int) := (f6 5 (by decide)).trans p5
      rw [← List.append_nil (r4.toList.drop 7)]
      refine St.list tysOk fnsOk eqOk hE hO dstC calmC' (Eq.mp (r4_d (bs l) (p : Int) bb (fun vs σ => vs = [.str (bs l), .int .i64 (p : Int), .bool (!bb)] ∧ σ = [])) ⟨rfl, rfl⟩) (i6.st h0 hbe [(0, .str (bs l)), (5, .int .i64 (p : Int)), (22, .bool false), (26, .bool bb)] (fun x hx F β σ => by
        rcases List.mem_cons.1 hx with rfl | hx
        · rw [i6.text]; exact .mk_str _
        rcases List.mem_cons.1 hx with rfl | hx
        · rw [p6]; exact .mk_int _ _
        rcases List.mem_cons.1 hx with rfl | hx
        · rw [f6 22 (by decide), b22]; exact .mk_bool _
        · rw [List.mem_singleton.1 hx, v6]; exact .mk_bool _)) ?_
      rintro e7 σ7 a7 W7 ⟨hk7, rfl⟩ s7 f7 _
      simp only [List.cons.injEq, and_true] at hk7
      obtain ⟨k70, k75, k728⟩ := hk7
      have b67 : Below W6.heap.size W6 W7 := by obtain ⟨_, _, _, _, _, _, st⟩ := s7; exact st.below0
      have i7 : EI l y a7 := ⟨s7.size.1, s7.size.2, s7.str k70, (f7 1 (nod_elim nodC7)).trans i6.yld⟩
      have c7 : a7.tmps.getD 6 undef = .pointer (some ⟨b, 0, none⟩) := (f7 6 (nod_elim nodC76)).trans ((f6 6 (by decide)).trans hb6)
      have hb7 : Below w0.heap.size w0 W7 := hbe.trans (b67.mono hbe.size)
      refine wpIn_mono (eE.run hE hO (bs l) (p : Int) (!bb) (fun ex vs σ => (ex = if bb then .normal else .ret) ∧ vs = [.str (bs l), .int .i64 (p : Int)] ∧ σ = []) (by
        unfold eE.W
        cases bb
        · exact ⟨rfl, rfl, rfl⟩
        · exact ⟨rfl, rfl, rfl⟩) (i7.st28 h0 hb7 (s7.int k75) (s7.bool k728))) ?_
      rintro ex a8 W8 ⟨vs, σ8, ⟨hex, rfl, rfl⟩, s8, f8, F1, β1, F2, β2, q1, q2, q3⟩
      have b8 := q2.below0.trans (q3.below0.mono q2.below0.size)
      clear q1 q2 q3
      cases bb with
      | false =>
        simp only [Bool.false_eq_true, if_false] at hex
        subst hex
        exact .inr ⟨rfl, s8.size.2, .inr ⟨k, hk1, hJxs _ _ _ (hb0 rfl) (b67.trans (b8.mono b67.size))⟩⟩
      | true =>
        simp only [if_true] at hex
        subst hex
        obtain ⟨j6, kp6⟩ := hb1 rfl
        have j8 : J (k + 1) W8 := hJs _ _ _ j6 (b67.trans (b8.mono b67.size))
        have hb8 : Below w0.heap.size w0 W8 := hJb _ _ j8
        have h5b : b < W5.heap.size := (Array.getElem?_eq_some_iff.1 hbW).1
        have m6 : W6.heap[b]? = some (.cells #[.int .i64 tk.k, .string (bs tk.t), .int .i64 tk.n] bt (0, 0)) := (kp6.same b (by omega) h5b).trans hbW
        have m7 := (b67.block b (Array.getElem?_eq_some_iff.1 m6).1).trans m6
        have m8 := (b8.block b (Array.getElem?_eq_some_iff.1 m7).1).trans m7
        have i8 : EI l y a8 := ⟨s8.size.1, s8.size.2, s8.str rfl, (f8 1 eE1).trans i7.yld⟩
        have p8 : a8.tmps.getD 5 undef = .int .i64 (p : Int) := s8.int rfl
        have c8 : a8.tmps.getD 6 undef = .pointer (some ⟨b, 0, none⟩) := (f8 6 eE6).trans c7
        obtain ⟨sm1, _⟩ := h0.below hb8
        have rl : ∀ {W : World} {F : Nat → Nat → Prop} {β : Nat → Value} {σ : Store}, Rl (RV ax.gs G W F β σ) [.int .i64 tk.k, .str (bs tk.t), .int .i64 tk.n] [.int .i64 tk.k, .string (bs tk.t), .int .i64 tk.n] := .cons (.mk_int _ _) (.cons (.mk_str _) (.cons (.mk_int _ _) .nil))
        have sm2 := sm1.addBox (w0 := w0) h0.lt (fun g hg => by
          obtain ⟨_, g2, _, t, q, g4, g5, _⟩ := h0.glob g hg
          exact ⟨h0.lt _ _ g2, fun t' b' e => by rw [g4] at e; cases e; exact g5⟩) (fun g cs e => (h0.tab g cs e).1) (b := b) (l := [.int .i64 tk.k, .str (bs tk.t), .int .i64 tk.n]) (by have := hn; have := z1; omega) m8 rl (fun v hv => by simp at hv; rcases hv with rfl | rfl | rfl <;> rfl)
        have st8 : St ax G W8 F0 (fun _ => .pointer (some ⟨b, 0, none⟩)) [⟨0, .box [.int .i64 tk.k, .str (bs tk.t), .int .i64 tk.n]⟩] [] 36 (envL [(0, .str (bs l)), (5, .int .i64 (p : Int)), (6, .ptr 0 0)]) [⟨0, .box [.int .i64 tk.k, .str (bs tk.t), .int .i64 tk.n]⟩] a8 W8 := by
          refine ⟨fun t => a8.tmps.getD t undef, F0, _, ⟨i8.size, fun _ => rfl, i8.defers⟩, fun t => ?_, sm2, Step.refl _ _ _ _⟩
          simp only [envL]
          cases hb : Nat.beq t 0 with
          | true => have := Nat.eq_of_beq_eq_true hb; subst this; simp only [cond_true]; rw [i8.text]; exact .mk_str _
          | false =>
            simp only [cond_false]
            cases hb : Nat.beq t 5 with
            | true => have := Nat.eq_of_beq_eq_true hb; subst this; simp only [cond_true]; rw [p8]; exact .mk_int _ _
            | false =>
              simp only [cond_false]
              cases hb : Nat.beq t 6 with
              | true => have := Nat.eq_of_beq_eq_true hb; subst this; simp only [cond_true]; rw [c8]; exact .ptr 0 0 b 0 (by simp) (fun l _ => ⟨rfl, rfl⟩)
              | false => exact .junk _
        have hsk2 := skipC_le (l.drop (p + tk.t.length)) false
        rw [List.length_drop] at hsk2
        refine wpIn_mono (eF.run hE hO (bs l) (p : Int) tk.k (bs tk.t) tk.n (fun ex vs σ => ex = .normal ∧ vs = [.str (bs l), .int .i64 ((p + tk.t.length + skipC false (l.drop (p + tk.t.length)) : Nat) : Int)] ∧ σ = [⟨0, .box [.int .i64 tk.k, .str (bs tk.t), .int .i64 tk.n]⟩]) (by
          unfold eF.W
          rw [bs_size, wadd (by omega)]
          exact (skip_spec l hl (p + tk.t.length) (by omega)).mono fun r hr => ⟨_, hr, rfl, rfl, rfl⟩) st8) ?_
        rintro ex a9 W9 ⟨vs, σ9, ⟨rfl, rfl, rfl⟩, s9, f9, F5, β5, F6, β6, q1, q2, q3⟩
        have b9 : Below W8.heap.size W8 W9 := by
          obtain ⟨_, _, _, _, _, _, st⟩ := s9
          exact st.below_same (fun i hi => by
            have : i = 0 := by simpa using hi
            subst this; rfl)
        have i9 : EI l y a9 := ⟨s9.size.1, s9.size.2, s9.str rfl, (f9 1 eF1).trans i8.yld⟩
        have p9 := s9.int (t := 5) (k := .i64) (i := ((p + tk.t.length + skipC false (l.drop (p + tk.t.length)) : Nat) : Int)) rfl
        refine ⟨⟨k + 1, p + tk.t.length + skipC false (l.drop (p + tk.t.length)), i9, p9, hJs _ _ _ j8 b9, ?_, by omega, ?_, ?_, by omega⟩, ?_⟩
        · exact Nat.le_trans (Nat.le_trans z5 kp6.size) (Nat.le_trans b67.size (Nat.le_trans b8.size b9.size))
        · rw [← List.drop_drop]; exact skipC_skip _ false
        · rw [hnextk, show l.drop (p + tk.t.length + skipC false (l.drop (p + tk.t.length))) = (l.drop (p + tk.t.length)).drop (skipC false (l.drop (p + tk.t.length))) from (List.drop_drop ..).symm, posL_drop]
        · rw [p9, hp]
          simp only [Int.toNat_natCast]
          omega
  refine wpIn_block (wpIn_mono hloop ?_)
  rintro ex a3 W3 (⟨rfl, i3, j3⟩ | ⟨rfl, d3, h3⟩)
  · simp only [Exit.inBlock, if_true]
    refine wpIn_mono (eG.run hE hO (bs l) (fun ex vs σ => ex = .ret ∧ σ = []) ⟨rfl, rfl⟩ (i3.st0 h0 (hJb _ _ j3))) ?_
    rintro ex a4 W4 ⟨vs, σ4, ⟨rfl, rfl⟩, s4, f4, F5, β5, F6, β6, q1, q2, q3⟩
    have b4 := q2.below0.trans (q3.below0.mono q2.below0.size)
    exact fin a4 W4 s4.size.2 (.inl (hJs _ _ _ j3 b4))
  · exact fin a3 W3 d3 h3
end
end Go.Proofs.YtadgcpjobhgkiaaDoor.Va
end

/- part G1D -/
section
namespace Go.Proofs.YtadgcpjobhgkiaaDoor.Va
open Go.Vx Go.Av Go.Lx Go.RowKit

/-- a call of a function -/
theorem call_op {F : Fence} (hF : Opn F) {P : Program} {o : Oper} {c : Call} {g : Nat} {vs : Array Value} {a : Act} {w : World} {next : Act → World → Prop} {Q : Exit → Act → World → Prop} {R : Ending → World → Prop}
    (hop : o.op = .call c) (hx : c.callee = .value (.func g)) (hvs : c.args.map a.eval = vs) (eg : ∀ args w, (callFunc g args).run P w = .ok (.enter g args) w) (hc : CallsIn F 0 P g vs w R)
    (hR : ∀ e w', R e w' → ∃ v, e = .returned v ∧ next (a.put o.dst v) w') : o.wpIn F 0 P a w next Q := by
  unfold Oper.wpIn
  refine ⟨fun f _ => hF.fn f, ?_⟩
  rw [Oper.semAt_eq _ _ _ (fun c' h => by rw [hop] at h; cases h)]
  have hrun : (execOp a.eval o).run P w = .ok (.enter g vs) w := by
    unfold execOp
    rw [hop]
    simp only [resolve, hx, hvs]
    simpa [go_sem, invoke] using eg vs w
  rw [hrun]
  refine ⟨hF.isSome, (callsIn_any hF hc).mono fun e w' he => ?_⟩
  obtain ⟨v, rfl, hn⟩ := hR e w' he
  exact hn

noncomputable def r26 : Array Oper := rOps (match Tryd.f26.body.getD .skip with | .seq _ (.cond _ x _) => x | c => c)
theorem body26 : Tryd.f26.body.getD .skip = .seq aA.c (.cond (.tmp 5) (.region 1 r26 false) .skip) := by kernel_rfl
noncomputable def m1 : Oper := r26.toList.getD 1 ⟨none, .move (.const undef), 0, "", #[], none⟩
noncomputable def m2 : Oper := r26.toList.getD 2 ⟨none, .move (.const undef), 0, "", #[], none⟩
theorem r26_split : r26.toList = r26.toList.take 1 ++ [m1, m2] := by kernel_rfl
theorem r26_a (s : ByteArray) (K : List V → Store → Prop) : K [.str s] [⟨0, .box [.str s]⟩] = areg ax emAH r26 (r26.toList.take 1) (envL [(1, .ptr 0 0)]) [⟨0, .box [.str s]⟩] (fun e σ => K [e 6] σ) := by kernel_rfl
theorem m1_op : m1.op = .move (.tmp 0) ∧ m1.dst = some 7 ∧ m1.guard = none := ⟨by kernel_rfl, by kernel_rfl, by kernel_rfl⟩
theorem m2_op : m2.op = .call { callee := .value (.func 23), args := #[.tmp 6, .tmp 7], argTypes := #[9, 50] } ∧ m2.dst = some 8 ∧ m2.guard = none := ⟨by kernel_rfl, by kernel_rfl, by kernel_rfl⟩
theorem dstD : ((r26.toList.take 1).all fun o => match o.dst with | some d => Nat.ble (d + 1) 9 | none => true) = true := by kernel_rfl
theorem calmD : Vx.calm (r26.toList.take 1) = true := by kernel_rfl
theorem nodD : nod (r26.toList.take 1) 0 = true := by kernel_rfl
theorem aA0 : 0 ∉ assigned (hintsOf aA.ah) aA.c := fun h => by
  have e : hasB (assigned (hintsOf aA.ah) aA.c) 0 = false := by kernel_rfl
  rw [hasB_iff.2 h] at e; cases e
theorem aA1 : 1 ∉ assigned (hintsOf aA.ah) aA.c := fun h => by
  have e : hasB (assigned (hintsOf aA.ah) aA.c) 1 = false := by kernel_rfl
  rw [hasB_iff.2 h] at e; cases e

/-- what All hands on -/
def encsA (l : List UInt8) : List (Array Value) := if l.length ≤ 16384 then (posL 0 l).map encA else []

section
variable {G : Nat → Value} {w0 : World} {F0 : Nat → Nat → Prop} {β0 : Nat → Value} (hE : ErrOk ax.P ax.gs ax.ift ax.tabs G) (h0 : Sim ax.gs G w0 F0 β0 [])
include h0
theorem boxed_st {W : World} (hW : Below w0.heap.size w0 W) {b bt : Nat} {s : ByteArray} (hb : w0.heap.size ≤ b) (hh : W.heap[b]? = some (.cells #[.string s] bt (0, 0))) {a : Act} {n : Nat} (hs : a.tmps.size = n) (hd : a.defers = []) (h1 : a.tmps.getD 1 undef = .pointer (some ⟨b, 0, none⟩)) :
    St ax G W F0 (fun _ => .pointer (some ⟨b, 0, none⟩)) [⟨0, .box [.str s]⟩] [] n (envL [(1, .ptr 0 0)]) [⟨0, .box [.str s]⟩] a W := by
  obtain ⟨sm1, _⟩ := h0.below hW
  have sm2 := sm1.addBox (w0 := w0) h0.lt (fun g hg => by
    obtain ⟨_, g2, _, t, q, g4, g5, _⟩ := h0.glob g hg
    exact ⟨h0.lt _ _ g2, fun t' b' e => by rw [g4] at e; cases e; exact g5⟩) (fun g cs e => (h0.tab g cs e).1) (b := b) (l := [.str s]) hb hh (.cons (.mk_str _) .nil) (fun v hv => by simp at hv; subst hv; rfl)
  refine ⟨fun t => a.tmps.getD t undef, F0, _, ⟨hs, fun _ => rfl, hd⟩, fun t => ?_, sm2, Step.refl _ _ _ _⟩
  simp only [envL]
  cases hb : Nat.beq t 1 with
  | true => have := Nat.eq_of_beq_eq_true hb; subst this; simp only [cond_true]; rw [h1]; exact .ptr 0 0 b 0 (by simp) (fun l _ => ⟨rfl, rfl⟩)
  | false => exact .junk _

include hE
/-- **All's function, as an iterator.** -/
theorem all_iter (l : List UInt8) (hl : l.length ≤ big) {b : Nat} (hb : w0.heap.size ≤ b) : Iter Fence.wide ax.P 26 #[.pointer (some ⟨b, 0, none⟩)] (encsA l) w0.heap.size w0 (fun W => ∃ bt, W.heap[b]? = some (.cells #[.string (bs l)] bt (0, 0))) := by
  intro y J Jx W hPre hn hJb hJxb hJs hJxs hY hJ0
  have hO := Opn.wide
  have hbg : big = 1099511627776 := rfl
  obtain ⟨bt, hh⟩ := hPre
  refine callsIn_of_wp (c := Tryd.f26.body.getD .skip) Tryd.func26 (by kernel_rfl) trivial ?_ rfl
  obtain ⟨a, ha⟩ : ∃ a : Act, a = { tmps := (#[Value.func (.yield y) #[] #[]] ++ #[.pointer (some ⟨b, 0, none⟩)]) ++ Array.replicate (Tryd.f26.ntmps - (#[Value.func (.yield y) #[] #[]] ++ #[Value.pointer (some ⟨b, 0, none⟩)]).size) undef, defers := [] } := ⟨_, rfl⟩
  have hs : a.tmps.size = 9 := by rw [ha]; simp only [Array.size_append, Array.size_replicate]; kernel_rfl
  have hd : a.defers = [] := by rw [ha]
  have e0 : a.tmps.getD 0 undef = .func (.yield y) #[] #[] := by rw [ha]; exact args_getD [.func (.yield y) #[] #[], .pointer (some ⟨b, 0, none⟩)] _ 0
  have e1 : a.tmps.getD 1 undef = .pointer (some ⟨b, 0, none⟩) := by rw [ha]; exact args_getD [.func (.yield y) #[] #[], .pointer (some ⟨b, 0, none⟩)] _ 1
  rw [← ha]
  clear ha
  obtain ⟨Q, hQd⟩ : ∃ Q, Q = bodyPost ax.P Tryd.f26 fun e W' => (∃ v, e = .returned v) ∧ (J (encsA l).length W' ∨ ∃ k, k < (encsA l).length ∧ Jx k W') := ⟨_, rfl⟩
  have fin : ∀ (a : Act) (W : World), a.defers = [] → (J (encsA l).length W ∨ ∃ k, k < (encsA l).length ∧ Jx k W) → Q .normal a W := fun a W h1 h2 => by
    rw [hQd]
    obtain ⟨v, h3, _⟩ := results_run (P := ax.P) (w := W) (fn := Tryd.f26) (R := fun _ => True) tysOk (e := fun t => a.tmps.getD t undef) (n := a.tmps.size) ⟨rfl, fun _ => rfl, h1⟩ (show resL tys _ W [] _ from trivial)
    exact ⟨h1, v, h3, ⟨_, rfl⟩, h2⟩
  show (Tryd.f26.body.getD .skip).wpIn Fence.wide 0 ax.P _ a W
  rw [← hQd, body26]
  refine wpIn_seq (wpIn_mono (aA.run hE hO (bs l) (fun ex vs σ => ex = .normal ∧ vs = [.ptr 0 0, .bool (decide (l.length ≤ 16384))] ∧ σ = [⟨0, .box [.str (bs l)]⟩]) (by
    unfold aA.W
    rw [bs_size]
    refine ⟨rfl, ?_, rfl⟩
    have : decide ((l.length : Int) ≤ 16384) = decide (l.length ≤ 16384) := by rw [Bool.eq_iff_iff]; simp; omega
    rw [this]) (boxed_st h0 (hJb _ _ hJ0) hb hh hs hd e1)) ?_)
  rintro ex a1 W1 ⟨vs, σ1, ⟨rfl, rfl, rfl⟩, s1, f1, F1, β1, F2, β2, q1, q2, q3⟩
  have b1 : Below W.heap.size W W1 := by
    obtain ⟨_, _, _, _, _, _, st⟩ := s1
    exact st.below_same (fun i hi => by
      have : i = 0 := by simpa using hi
      subst this; rfl)
  clear q1 q2 q3
  have j1 := hJs _ _ _ hJ0 b1
  have hh1 := (b1.block b (Array.getElem?_eq_some_iff.1 hh).1).trans hh
  have y1 := (f1 0 aA0).trans e0
  have x1 := (f1 1 aA1).trans e1
  have c5 : a1.eval (.tmp 5) = .bool (decide (l.length ≤ 16384)) := s1.bool (t := 5) rfl
  by_cases hle : l.length ≤ 16384
  · rw [decide_eq_true hle] at c5
    refine wpIn_cond_true c5 (wpIn_region_list ?_)
    rw [r26_split]
    refine St.list tysOk fnsOk eqOk hE hO dstD calmD (Eq.mp (r26_a (bs l) (fun vs σ => vs = [.str (bs l)] ∧ σ = [⟨0, .box [.str (bs l)]⟩])) ⟨rfl, rfl⟩) (boxed_st h0 (hJb _ _ j1) hb hh1 s1.size.1 s1.size.2 x1) ?_
    rintro e2 σ2 a2 W2 ⟨hk2, rfl⟩ s2 f2 _
    simp only [List.cons.injEq, and_true] at hk2
    have b2 : Below W1.heap.size W1 W2 := by
      obtain ⟨_, _, _, _, _, _, st⟩ := s2
      exact st.below_same (fun i hi => by
        have : i = 0 := by simpa using hi
        subst this; rfl)
    have j2 := hJs _ _ _ j1 b2
    have y2 := (f2 0 (nod_elim nodD)).trans y1
    have x6 := s2.str hk2
    unfold wpListIn
    rw [if_pos (by simp [Region.wanted, m1_op.2.2])]
    refine move_op hO m1_op.1 ?_
    rw [m1_op.2.1]
    have ey : a2.eval (.tmp 0) = .func (.yield y) #[] #[] := y2
    rw [ey]
    obtain ⟨s3, v3, f3⟩ := s2.put (d := 7) (by decide) (.func (.yield y) #[] #[])
    generalize a2.put (some 7) (.func (.yield y) #[] #[]) = a3 at s3 v3 f3
    unfold wpListIn
    rw [if_pos (by simp [Region.wanted, m2_op.2.2])]
    have hen : encsA l = (posL 0 l).map encA := if_pos hle
    have hln : (encsA l).length = (posL 0 l).length := by rw [hen]; simp
    refine call_op hO m2_op.1 rfl (vs := #[.string (bs l), .func (.yield y) #[] #[]]) (by
      have g1 : a3.eval (.tmp 6) = .string (bs l) := (f3 6 (by decide)).trans x6
      have g2 : a3.eval (.tmp 7) = .func (.yield y) #[] #[] := v3
      simp [g1, g2]) (enters_of Tryd.func23 (by kernel_rfl) rfl) (each_iter hE h0 l hl (Wc := W2) (Nat.le_trans hn (Nat.le_trans b1.size b2.size)) hJb hJxb hJs hJxs (fun k x Wk hx hjk hsz => by
        refine (hY k x Wk (by rw [hen]; exact hx) hjk (Nat.le_trans (Nat.le_trans b1.size b2.size) hsz)).imp fun fn h => h.imp fun tm h => h.imp fun asg h => h.imp fun bd h => ⟨h.1, h.2.mono ?_⟩
        rintro e w' (⟨h1, h2, h3⟩ | h)
        · exact .inl ⟨h1, h2, h3.mono (Nat.le_trans b1.size b2.size)⟩
        · exact .inr h) j2) ?_
    rintro e W4 ⟨⟨v, rfl⟩, h4⟩
    refine ⟨v, rfl, ?_⟩
    rw [m2_op.2.1]
    obtain ⟨s5, _, _⟩ := s3.put (d := 8) (by decide) v
    refine fin _ W4 s5.size.2 ?_
    rw [hln]; exact h4
  · rw [decide_eq_false hle] at c5
    refine wpIn_cond_false c5 (wpIn_skip (fin _ _ s1.size.2 (.inl ?_)))
    have : (encsA l).length = 0 := by unfold encsA; rw [if_neg hle]; rfl
    rw [this]; exact j1
end
end Go.Proofs.YtadgcpjobhgkiaaDoor.Va
end

/- part G1E -/
section
namespace Go.Proofs.YtadgcpjobhgkiaaDoor.Va
open Go.Vx Go.Av Go.Lx Go.RowKit

/-- what All hands on, as tokens with their places -/
def xsA (l : List UInt8) : List (Nat × Tok) := if l.length ≤ 16384 then posL 0 l else []
theorem encsA_xs (l : List UInt8) : encsA l = (xsA l).map encA := by unfold encsA xsA; split <;> rfl
def enA (l : List UInt8) : Nat → Nat
  | 0 => 0
  | k + 1 => match (xsA l)[k]? with | some x => x.1 + x.2.t.length | none => 0
theorem xs_at {l : List UInt8} {k p : Nat} {t : Tok} (h : (xsA l)[k]? = some (p, t)) : enA l k ≤ p ∧ 1 ≤ t.t.length ∧ p + t.t.length ≤ l.length ∧ t.t = (l.drop p).take t.t.length ∧ enA l (k + 1) = p + t.t.length := by
  have hx : (posL 0 (l.drop 0))[k]? = some (p, t) ∧ xsA l = posL 0 (l.drop 0) := by
    unfold xsA at h ⊢
    split at h
    · rename_i hl; rw [if_pos hl]; exact ⟨by rw [List.drop_zero]; exact h, by rw [List.drop_zero]⟩
    · simp at h
  obtain ⟨h1, h2, h3, h4, h5⟩ := pos_at l l.length 0 (by omega) (Nat.zero_le _) k p t hx.1
  refine ⟨?_, h2, h3, h4, by simp only [enA, h]⟩
  cases k with
  | zero => exact Nat.zero_le _
  | succ k =>
    simp only [enA]
    cases hk : (xsA l)[k]? with
    | none => exact Nat.zero_le _
    | some x =>
      obtain ⟨p', t'⟩ := x
      rw [hx.2] at hk
      exact (pos_at l l.length 0 (by omega) (Nat.zero_le _) k p' t' hk).2.2.2.2 p t hx.1

theorem xsA_len (l : List UInt8) : (xsA l).length ≤ l.length := by
  unfold xsA
  split
  · have h := congrArg List.length (pos_all l.length 0 l (Nat.le_refl _))
    rw [List.length_map] at h
    have := (allL_len l.length l (Nat.le_refl _)).1
    omega
  · exact Nat.zero_le _
theorem xsA_all {l : List UInt8} (h : l.length ≤ 16384) : (xsA l).map (·.2) = (allL l).1 := by
  unfold xsA; rw [if_pos h]; exact pos_all l.length 0 l (Nat.le_refl _)

theorem post8 : Av.post 2 (Tryd.f8.body.getD .skip) = .seq (.seq pB.c (.block 0 (.rangeFunc (.tmp 12) #[13, 14] pC.c pD.c))) pE.c := by kernel_rfl
theorem keep13 (t : Nat) (h : t = 1 ∨ t = 2 ∨ t = 3 ∨ t = 4) : t ≠ 13 ∧ t ≠ 14 := by omega

theorem Places_spec (l : List UInt8) (hl : l.length ≤ big) : PCalls ax 8 [.str (bs l)] fun r => r = [.bool true] := by
  have hbg : big = 1099511627776 := rfl
  have hO := Opn.wide
  refine callsM (c := Tryd.f8.body.getD .skip) Tryd.func8 (by kernel_rfl) tysOk (by kernel_rfl) ?_
  intro G w0 F0 β0 a hE h0 hst
  have hnt : Tryd.f8.ntmps = 66 := by kernel_rfl
  have hres : Tryd.f8.results.toList = [.cell 2 4] := by kernel_rfl
  have hokA : codeOk ax.tys (hintsOf pA.ah) 66 pA.c = true := hnt ▸ pA.ok
  rw [hnt] at hst ⊢
  rw [hres]
  clear hnt hres
  let σK : Nat → Store := fun k => [⟨0, .box [.str (bs l)]⟩, ⟨0, .box [.bool false]⟩, ⟨0, .box [.int .i64 (enA l k : Nat)]⟩, ⟨0, .box [.int .i64 (k : Nat)]⟩, ⟨0, .box [.str (bs l)]⟩]
  let KA : Exit → List V → Store → Prop := fun ex vs σ => ex = .normal ∧ vs = [.ptr 0 0, .ptr 1 0, .ptr 2 0, .ptr 3 0] ∧ σ = [⟨0, .box [.str (bs l)]⟩, ⟨0, .box [.bool false]⟩, ⟨1, .box [.int .i64 0]⟩, ⟨1, .box [.int .i64 0]⟩]
  refine St.chainR tysOk fnsOk follows eqOk hE hO (ah := pA.ah) rfl (K := KA) (slots := [1, 2, 3, 4]) (sl := fun e => [e 1, e 2, e 3, e 4]) 2 (c0 := pA.c) (by kernel_rfl) (fun _ => rfl) (by kernel_rfl) hokA pA.calm
    (Eq.mp (pA.eq (bs l) KA) (alive_spec.mono fun r hr => ⟨true, hr, rfl, rfl, rfl⟩)) (hst.env (envL_sub _ fun x hx => by rw [List.mem_singleton.1 hx]; rfl)) ?_
  rintro ex vs σ1 a1 w1 ⟨rfl, rfl, rfl⟩ s1
  show (Av.post 2 (Tryd.f8.body.getD .skip)).wpIn Fence.wide 0 ax.P _ a1 w1
  rw [post8]
  have s1' : St ax G w0 F0 β0 [] [] 66 (envL [(1, .ptr 0 0), (2, .ptr 1 0), (3, .ptr 2 0), (4, .ptr 3 0)]) [⟨0, .box [.str (bs l)]⟩, ⟨0, .box [.bool false]⟩, ⟨0, .box [.int .i64 0]⟩, ⟨0, .box [.int .i64 0]⟩] a1 w1 := s1.zero
  refine wpIn_seq (wpIn_seq (wpIn_mono (pB.run hE hO (bs l) 0 0 (fun ex vs σ => ex = .normal ∧ vs = [.ptr 0 0, .ptr 1 0, .ptr 2 0, .ptr 3 0, .fn 26 [] [.ptr 4 0]] ∧ σ = σK 0) ((All_spec (bs l)).mono fun r o ⟨hr, ho⟩ => ⟨_, hr, ho, rfl, rfl, rfl⟩) s1') ?_))
  rintro ex aL wL ⟨vs, σL, ⟨rfl, rfl, rfl⟩, sL, _, _⟩
  obtain ⟨ρL, FL, βL, rL, eL, simL, stL⟩ := sL
  have hP : ∀ i, i < 4 → RV ax.gs G wL FL βL (σK 0) (.ptr i 0) (aL.tmps.getD (i + 1) undef) := fun i hi => by
    rw [rL.at_]
    have := eL (i + 1)
    match i, hi with
    | 0, _ => exact this
    | 1, _ => exact this
    | 2, _ => exact this
    | 3, _ => exact this
  have h12 := eL 12
  obtain ⟨vf, vc, e12, r1, r2⟩ := RV.fn_inv (g := 26) (f := []) (c := [.ptr 4 0]) h12
  obtain rfl := r1.nil_inv
  obtain ⟨x, vc', rfl, r3, r2⟩ := r2.cons_inv
  obtain rfl := r2.nil_inv
  obtain ⟨b, o', rfl, _, hβ⟩ := r3.ptr_inv
  obtain ⟨hβ4, rfl⟩ := hβ [.str (bs l)] rfl
  have hb : w0.heap.size ≤ b := by
    rcases stL.newH 4 b ⟨trivial, by rw [hβ4]; rfl⟩ with h | ⟨j, h⟩
    · exact h
    · exact absurd h noHas
  let C := CC w0 F0 β0 wL FL βL (σK 0)
  have hn0 : w0.heap.size ≤ wL.heap.size := stL.size
  refine wpIn_block (range_run hO rfl (gf := 26) (lb := #[.pointer (some ⟨b, 0, none⟩)]) (encs := encsA l) (n0 := w0.heap.size) (w0 := w0) (Pre := fun W => ∃ bt, W.heap[b]? = some (.cells #[.string (bs l)] bt (0, 0)))
    (by rw [rL.eval]; exact e12) (enters_of Tryd.func26 (by kernel_rfl) rfl) (fun x hx => by
      rw [encsA_xs] at hx
      obtain ⟨y, _, rfl⟩ := List.mem_map.1 hx
      rfl) (all_iter hE h0 l hl hb) (fun k W => SwC ax G C (σK k) W) (fun _ _ => False)
    (fun k act W => ∃ y, (xsA l)[k]? = some y ∧ StC ax G C [] 66 (envL [(1, .ptr 0 0), (2, .ptr 1 0), (3, .ptr 2 0), (4, .ptr 3 0), (5, .int .i64 (y.1 : Nat)), (6, .ptr 5 0)]) (σK k ++ [⟨0, .box (encT y.2)⟩]) act W)
    (fun k W W' h hc => h.calm hc hn0) (fun _ _ _ h _ => h) (fun k act W W' ⟨y, h1, h2⟩ hc => ⟨y, h1, h2.calm hc hn0⟩)
    (fun k W ⟨F, β, h1, h2⟩ => h2.1.below0) (fun _ _ h => h.elim) (fun W ⟨F, β, h1, h2⟩ => ?pre) hn0 ⟨FL, βL, simL, stL, Carry.refl _ _ _ _⟩ ?assign ?body ?done (fun _ _ _ _ h _ => h.elim))
  case pre =>
    obtain ⟨b', t', cs, hb', hh, hr, _⟩ := h1.obj 4
    rw [(h2.2.ext 4 (show 4 < 5 by decide)).1, hβ4] at hb'
    cases hb'
    obtain ⟨x1, xs1, ec, g1, hr⟩ := hr.cons_inv
    obtain rfl := hr.nil_inv
    rw [g1.str_inv] at ec
    have hcs : cs = #[.string (bs l)] := by apply Array.ext'; simpa using ec
    subst hcs
    exact ⟨t', hh⟩
  case assign =>
    intro lr k x W hx hi
    rw [encsA_xs, List.getElem?_map] at hx
    obtain ⟨y, hy, rfl⟩ := Option.map_eq_some_iff.1 hx
    obtain ⟨F, β, h1, h2⟩ := hi
    rw [show encA y = #[.int .i64 y.1, .agg #[.int .i64 y.2.k, .string (bs y.2.t), .int .i64 y.2.n]] from rfl, round_act]
    have z0 : ({ aL with defers := [] } : Act).tmps.size = 66 := rL.size
    have z1 := (put_size ({ aL with defers := [] } : Act) 13 (.int .i64 y.1)).1
    have g : ∀ t, t ≠ 13 → t ≠ 14 → ((({ aL with defers := [] } : Act).put (some 13) (.int .i64 y.1)).put (some 14) (.agg #[.int .i64 y.2.k, .string (bs y.2.t), .int .i64 y.2.n])).tmps.getD t undef = aL.tmps.getD t undef := fun t h13 h14 => by
      rw [put_get (by rw [z1, z0]; decide), if_neg h14, put_get (by rw [z0]; decide), if_neg h13]
    have old : ∀ i, i < 4 → RV ax.gs G W F β (σK k) (.ptr i 0) (aL.tmps.getD (i + 1) undef) := fun i hi => (hP i hi).mono h2.2
    have st : StC ax G C [] 66 (envL [(1, .ptr 0 0), (2, .ptr 1 0), (3, .ptr 2 0), (4, .ptr 3 0), (13, .int .i64 (y.1 : Nat)), (14, .agg [.int .i64 y.2.k, .str (bs y.2.t), .int .i64 y.2.n])]) (σK k) ((({ aL with defers := [] } : Act).put (some 13) (.int .i64 y.1)).put (some 14) (.agg #[.int .i64 y.2.k, .string (bs y.2.t), .int .i64 y.2.n])) W := by
      refine StC.of (by rw [(put_size _ _ _).1, z1, z0]) rfl (fun x hx => ?_) h1 h2
      rcases List.mem_cons.1 hx with rfl | hx
      · rw [g 1 (by decide) (by decide)]; exact old 0 (by decide)
      rcases List.mem_cons.1 hx with rfl | hx
      · rw [g 2 (by decide) (by decide)]; exact old 1 (by decide)
      rcases List.mem_cons.1 hx with rfl | hx
      · rw [g 3 (by decide) (by decide)]; exact old 2 (by decide)
      rcases List.mem_cons.1 hx with rfl | hx
      · rw [g 4 (by decide) (by decide)]; exact old 3 (by decide)
      rcases List.mem_cons.1 hx with rfl | hx
      · rw [put_get (by rw [z1, z0]; decide), if_neg (show (13 : Nat) ≠ 14 by decide), put_get (by rw [z0]; decide), if_pos rfl]; exact .mk_int _ _
      · rw [List.mem_singleton.1 hx, put_get (by rw [z1, z0]; decide), if_pos rfl]
        exact RV.mk_agg (.cons (.mk_int _ _) (.cons (.mk_str _) (.cons (.mk_int _ _) .nil)))
    refine wpIn_mono (pC.runC CC.shut hE (hO.inRound lr) (y.1 : Nat) y.2.k (bs y.2.t) y.2.n (bs l) (enA l k : Nat) (k : Nat) (bs l) (fun ex vs σ => ex = .normal ∧ vs = [.ptr 0 0, .ptr 1 0, .ptr 2 0, .ptr 3 0, .int .i64 (y.1 : Nat), .ptr 5 0] ∧ σ = [⟨0, .box [.str (bs l)]⟩, ⟨0, .box [.bool false]⟩, ⟨0, .box [.int .i64 (enA l k : Nat)]⟩, ⟨0, .box [.int .i64 (k : Nat)]⟩, ⟨0, .box [.str (bs l)]⟩, ⟨1, .box (encT y.2)⟩]) ⟨rfl, rfl, rfl⟩ st) ?_
    rintro ex a2 W2 ⟨vs, σ2, ⟨rfl, rfl, rfl⟩, s2, _, F5, β5, F6, β6, q1, q2, q3⟩
    exact ⟨rfl, ⟨y, hy, s2.zero⟩, q3.kp2 fun i b hi hh => .inl (q2.2.old_has simL i b hi hh)⟩
  case body =>
    rintro lr k x a2 W2 hx ⟨y, hy, st⟩
    obtain ⟨p, tk⟩ := y
    obtain ⟨c1, c2, c3, c4, c5⟩ := xs_at hy
    have hk : k < (xsA l).length := (List.getElem?_eq_some_iff.1 hy).1
    have hkl : k ≤ l.length := by have := xsA_len l; omega
    refine wpIn_mono (pD.runC CC.shut hE (hO.inRound lr) (p : Nat) (bs l) (enA l k : Nat) (k : Nat) (bs l) tk.k (bs tk.t) tk.n (fun ex vs σ => ex = .normal ∧ σ = [⟨0, .box [.str (bs l)]⟩, ⟨0, .box [.bool false]⟩, ⟨1, .box [.int .i64 (enA l (k + 1) : Nat)]⟩, ⟨1, .box [.int .i64 (k + 1 : Nat)]⟩, ⟨0, .box [.str (bs l)]⟩, ⟨0, .box (encT tk)⟩]) ?_ st) ?_
    · unfold pD.W
      rw [bs_size, bs_size, wadd (by omega), wadd1 (by omega)]
      refine ifD (fun h => by omega) (fun _ => ifD (fun h => by omega) (fun _ => ⟨by omega, by omega, by omega, ?_⟩))
      rw [ext_take, ← c4]
      have e1 : strEq (bs tk.t) (bs tk.t) = true := by simp [strEq]
      rw [e1]
      have e2 : strEq (bs tk.t) (⟨#[]⟩ : ByteArray) = false := by
        rw [strEq, decide_eq_false_iff_not]
        intro h
        have := congrArg ByteArray.size h
        rw [bs_size] at this
        have : tk.t.length = 0 := this
        omega
      rw [e2]
      exact ⟨rfl, by rw [c5]; rfl⟩
    · rintro ex a3 W3 ⟨vs, σ3, ⟨rfl, rfl⟩, ⟨ρ, F, β, _, _, h3, h4⟩, _, F5, β5, F6, β6, q1, q2, q3⟩
      refine ⟨q3.kp2 fun i b hi hh => ?_, ?_⟩
      · rcases Nat.lt_or_ge i 5 with h | h
        · exact .inl (q2.2.old_has simL i b h hh)
        · have : i = 5 := by have : i < 6 := hi; omega
          subst this; exact .inr rfl
      · obtain ⟨k1, k2⟩ := CC.take (k := 5) h4 h3 rfl (Nat.le_refl 5)
        exact ⟨F, β, k1, k2⟩
  case done =>
    intro D W hD hi hK
    obtain ⟨F, β, h1, h2⟩ := hi
    have st : St ax G w0 F0 β0 [] [{ target := .collected D, args := #[] }] 66 (envL [(1, .ptr 0 0), (2, .ptr 1 0), (3, .ptr 2 0), (4, .ptr 3 0)]) (σK (encsA l).length) { aL with defers := { target := .collected D, args := #[] } :: aL.defers } W := by
      have old : ∀ i, i < 4 → RV ax.gs G W F β (σK (encsA l).length) (.ptr i 0) (aL.tmps.getD (i + 1) undef) := fun i hi => (hP i hi).mono h2.2
      refine StC.of (C := fun w F β σ => Step w0 F0 β0 [] w F β σ) rL.size (by rw [rL.defers]) (fun x hx => ?_) h1 h2.1
      rcases List.mem_cons.1 hx with rfl | hx
      · exact old 0 (by decide)
      rcases List.mem_cons.1 hx with rfl | hx
      · exact old 1 (by decide)
      rcases List.mem_cons.1 hx with rfl | hx
      · exact old 2 (by decide)
      · rw [List.mem_singleton.1 hx]; exact old 3 (by decide)
    have hM : Marks w0.heap.size [{ target := .collected D, args := #[] }] W := (Marks.nil _ _).cons (Nat.le_trans hn0 hD) hK (fun Ds h hD => by
      have : Ds = [] := by simpa using h.symm
      subst this; cases hD)
    have hlen : (encsA l).length = (xsA l).length := by rw [encsA_xs, List.length_map]
    refine wpIn_mono (pE.run hE hO (bs l) (enA l (encsA l).length : Nat) ((encsA l).length : Nat) (bs l) (fun ex vs σ => ex = .ret ∧ vs = [.ptr 0 0, .ptr 1 0, .ptr 2 0, .ptr 3 0] ∧ σ = [⟨0, .box [.str (bs l)]⟩, ⟨1, .box [.bool true]⟩, ⟨0, .box [.int .i64 (enA l (encsA l).length : Nat)]⟩, ⟨0, .box [.int .i64 ((encsA l).length : Nat)]⟩, ⟨0, .box [.str (bs l)]⟩]) ?_ st) ?_
    · unfold pE.W
      refine (Lex_spec l).mono fun r hr => ⟨_, _, hr, ?_⟩
      cases he : (lexR l).2 with
      | some e => exact ⟨rfl, rfl, rfl⟩
      | none =>
        obtain ⟨q1, q2, q3⟩ := lexR_ok he
        have e1 : ((List.length (encTs (lexR l).1) : Int) == ((encsA l).length : Nat)) = true := by
          rw [encTs_length, q3, ← xsA_all q1, List.length_map, hlen]; simp
        rw [e1]
        exact ⟨rfl, rfl, rfl⟩
    · rintro ex a3 W3 ⟨vs, σ3, ⟨rfl, rfl, rfl⟩, s3, _, F5, β5, F6, β6, q1, q2, q3⟩
      refine ⟨.inr rfl, _, _, _, hM.step q1 q3, s3, ?_⟩
      exact ⟨fun u hu => by rw [List.mem_singleton.1 hu]; rfl, rfl⟩
end Go.Proofs.YtadgcpjobhgkiaaDoor.Va
end

/- part G1F -/
section
namespace Go.Proofs.YtadgcpjobhgkiaaDoor.Va
open Go.Vx Go.Av Go.Lx Go.RowKit

theorem envL_ids {m : Nat} : ∀ (L : List (Nat × V)), (∀ x ∈ L, ∀ k ∈ idsV x.2, k < m) → ∀ t, ∀ k ∈ idsV (envL L t), k < m
  | [], _, _, _, h => by cases h
  | x :: L, h, t, k, hk => by
    simp only [envL] at hk
    cases hb : Nat.beq t x.1 with
    | true => rw [hb] at hk; exact h x List.mem_cons_self k hk
    | false => rw [hb] at hk; exact envL_ids L (fun y hy => h y (List.mem_cons_of_mem _ hy)) t k hk

theorem marks_inj {Ds Ds' : List Nat} (h : (Ds.map fun D => ({ target := .collected D, args := #[] } : Deferred)) = Ds'.map fun D => { target := .collected D, args := #[] }) : Ds = Ds' :=
  (List.map_inj_right fun x y e => by cases e; rfl).1 h

section
variable {G : Nat → Value} {w0 : World} {F0 : Nat → Nat → Prop} {β0 : Nat → Value}
/-- a nil list in a box is an empty one -/
theorem St.nls {ds : List Deferred} {n : Nat} {e : AEnv} {σ : Store} {a : Act} {w : World} (h : St ax G w0 F0 β0 [] ds n e σ a w) {i : Nat} (hi : i < σ.length) (hg : getO σ i = .box [.nls]) (z : Nat) : St ax G w0 F0 β0 [] ds n e (putO σ i (.box [.sl z []])) a w := by
  obtain ⟨ρ, F, β, h1, h2, h3, h4⟩ := h
  have ho := h3.obj i
  rw [hg] at ho
  obtain ⟨b, t, cs, eb, hh, hr, ho1⟩ := ho
  have hhas : ∀ b', Has β i (.box [.sl z []]) b' ↔ Has β i (.box [.nls]) b' := fun b' => Iff.rfl
  obtain ⟨k1, k2⟩ := h3.setObj (w' := w) i (.box [.sl z []]) (fun _ _ => False) hi (by rw [hg]; rfl) rfl rfl rfl (Nat.le_refl _) (fun _ _ _ _ => rfl) (fun _ _ _ => rfl) (fun _ _ h => h.elim) (fun _ _ _ h => h.elim) (fun b' o h => by rw [hg]; exact h)
    (by
      refine ⟨b, t, cs, eb, hh, ?_, ho1⟩
      obtain ⟨x, xs, ex, g1, g2⟩ := hr.cons_inv
      obtain rfl := g2.nil_inv
      rw [ex, g1.nls_inv]
      refine .cons ?_ .nil
      exact .fz _ _ (FV.sl z [] none 0 (fun _ _ => .int .i64 0) (Nat.le_refl _) (Nat.zero_le _) (fun e he => by cases he) (fun h => absurd rfl h) (fun i e j u h => by simp at h)))
  exact ⟨ρ, _, β, h1, h2.mono k2.carry, k1, h4.trans k2⟩
theorem St.take {ds : List Deferred} {n : Nat} {e : AEnv} {σ : Store} {a : Act} {w : World} (h : St ax G w0 F0 β0 [] ds n e σ a w) (k : Nat) (hk : closedB k σ = true) (he : ∀ t, ∀ j ∈ idsV (e t), j < ((zero σ).take k).length) : St ax G w0 F0 β0 [] ds n e ((zero σ).take k) a w :=
  h.trim (fun _ hi => take_get (take_len hi)) (closedB_elim hk) he
end

noncomputable def LB : Code := Av.part [.post 4, .fst, .snd, .inn, .inn] (Tryd.f7.body.getD .skip)
noncomputable def XB : Code := .seq gD.c (.seq (.seq gE.c (.block 2 (.rangeFunc (.tmp 27) #[28, 29] gF.c gG.c))) gH.c)
theorem post7 : Av.post 4 (Tryd.f7.body.getD .skip) = .seq (.seq gB.c (.block 0 (.loop LB))) gJ.c := by kernel_rfl
theorem postLB : Av.post 1 LB = .seq (.block 1 XB) gI.c := by kernel_rfl
theorem preLB : Av.pre 1 LB = gC.c := by kernel_rfl

def σG (l : List UInt8) (stop : Int) : Store := [⟨0, .box [.int .i64 stop]⟩, ⟨0, .box [.bool false]⟩, ⟨0, .box [.sl 1 (encPs (xsA l))]⟩, ⟨0, .box [.sl 3 (encTs ((xsA l).map (·.2)))]⟩, ⟨0, .box [.str (bs l)]⟩]
def eG (l : List UInt8) : List (Nat × V) := [(0, .str (bs l)), (3, .ptr 0 0), (4, .ptr 1 0), (5, .ptr 2 0), (6, .ptr 3 0), (8, .fn 26 [] [.ptr 4 0])]

section
variable {G : Nat → Value} {w0 : World} {F0 : Nat → Nat → Prop} {β0 : Nat → Value} (hE : ErrOk ax.P ax.gs ax.ift ax.tabs G) (h0 : Sim ax.gs G w0 F0 β0 [])
include hE h0

/-- one time round -/
theorem goes_once (l : List UInt8) (hl : l.length ≤ big) (stop : Int) (i : Int) {ds : List Deferred} {a : Act} {w : World} (hM : Marks w0.heap.size ds w) (hs : St ax G w0 F0 β0 [] ds 65 (envL (eG l ++ [(25, .int .i64 i)])) (σG l stop) a w) :
    XB.wpIn Fence.wide 0 ax.P (fun ex a' w' => ex = .normal ∧ ∃ ds', Marks w0.heap.size ds' w' ∧ St ax G w0 F0 β0 [] ds' 65 (envL (eG l ++ [(25, .int .i64 i)])) (σG l stop) a' w') a w := by
  have hO := Opn.wide
  have hbg : big = 1099511627776 := rfl
  let σK : Nat → Store := fun k => σG l stop ++ [⟨0, .box [.int .i64 (k : Nat)]⟩]
  refine wpIn_seq (wpIn_mono (gD.run hE hO (bs l) i stop (encPs (xsA l)) (encTs ((xsA l).map (·.2))) (bs l) (fun ex vs σ => ex = .normal ∧ vs = [.str (bs l), .ptr 0 0, .ptr 1 0, .ptr 2 0, .ptr 3 0, .fn 26 [] [.ptr 4 0], .int .i64 i, .ptr 5 0] ∧ σ = σG l stop ++ [⟨1, .box [.int .i64 0]⟩]) ⟨rfl, rfl, rfl⟩ hs) ?_)
  rintro ex a1 w1 ⟨vs, σ1, ⟨rfl, rfl, rfl⟩, s1, _, F1, β1, F2, β2, q1, q2, q3⟩
  have hM1 := hM.step q1 q3
  clear q1 q2 q3
  refine wpIn_seq (wpIn_seq (wpIn_mono (gE.run hE hO (bs l) i stop (encPs (xsA l)) (encTs ((xsA l).map (·.2))) (bs l) 0 (fun ex vs σ => ex = .normal ∧ vs = [.str (bs l), .ptr 0 0, .ptr 1 0, .ptr 2 0, .ptr 3 0, .fn 26 [] [.ptr 4 0], .int .i64 i, .ptr 5 0, .fn 26 [] [.ptr 4 0]] ∧ σ = σK 0) ⟨rfl, rfl, rfl⟩ s1.zero) ?_))
  rintro ex aL wL ⟨vs, σL, ⟨rfl, rfl, rfl⟩, sL, _, F1, β1, F2, β2, q1, q2, q3⟩
  have hML := hM1.step q1 q3
  clear q1 q2 q3
  obtain ⟨ρL, FL, βL, rL, eL, simL, stL⟩ := sL
  have hP : ∀ x ∈ eG l ++ [(25, .int .i64 i), (9, .ptr 5 0)], RV ax.gs G wL FL βL (σK 0) x.2 (aL.tmps.getD x.1 undef) := fun x hx => by
    rw [rL.at_]
    have := eL x.1
    simp only [eG, List.cons_append, List.nil_append, List.mem_cons, List.not_mem_nil, or_false] at hx
    rcases hx with rfl | rfl | rfl | rfl | rfl | rfl | rfl | rfl <;> exact this
  have h27 := eL 27
  obtain ⟨vf, vc, e27, r1, r2⟩ := RV.fn_inv (g := 26) (f := []) (c := [.ptr 4 0]) h27
  obtain rfl := r1.nil_inv
  obtain ⟨x, vc', rfl, r3, r2⟩ := r2.cons_inv
  obtain rfl := r2.nil_inv
  obtain ⟨b, o', rfl, _, hβ⟩ := r3.ptr_inv
  obtain ⟨hβ4, rfl⟩ := hβ [.str (bs l)] rfl
  have hb : w0.heap.size ≤ b := by
    rcases stL.newH 4 b ⟨trivial, by rw [hβ4]; rfl⟩ with h | ⟨j, h⟩
    · exact h
    · exact absurd h noHas
  let C := CC w0 F0 β0 wL FL βL (σK 0)
  have hn0 : w0.heap.size ≤ wL.heap.size := stL.size
  have hMc : ∀ {W W' : World}, Marks w0.heap.size ds W → Calmly wL.heap.size W W' → Marks w0.heap.size ds W' := fun h hc => h.low (.inr fun Ds e D hD => by
    obtain ⟨Ds', e', _, h3⟩ := hML
    have : Ds = Ds' := by
      rw [e] at e'
      exact marks_inj e'
    subst this
    exact (Array.getElem?_eq_some_iff.1 (h3 D hD).2).1) hc
  have hxl := xsA_len l
  have hlen : (encsA l).length = (xsA l).length := by rw [encsA_xs, List.length_map]
  -- what comes behind
  have cont : ∀ (D n : Nat) (W : World), wL.heap.size ≤ D → (n = (xsA l).length ∨ (n : Int) = stop) → Marks w0.heap.size ds W → SwC ax G C (σK n) W → W.heap[D]? = some (.deferred (some [])) →
      gH.c.wpIn Fence.wide 0 ax.P (fun ex a' w' => ex = .normal ∧ ∃ ds', Marks w0.heap.size ds' w' ∧ St ax G w0 F0 β0 [] ds' 65 (envL (eG l ++ [(25, .int .i64 i)])) (σG l stop) a' w') { aL with defers := { target := .collected D, args := #[] } :: aL.defers } W := by
    intro D n W hD hn hMW hi hK
    obtain ⟨F, β, h1, h2⟩ := hi
    have st : St ax G w0 F0 β0 [] ({ target := .collected D, args := #[] } :: ds) 65 (envL (eG l ++ [(25, .int .i64 i), (9, .ptr 5 0)])) (σK n) { aL with defers := { target := .collected D, args := #[] } :: aL.defers } W :=
      StC.of (C := fun w F β σ => Step w0 F0 β0 [] w F β σ) rL.size (by rw [rL.defers]) (fun x hx => (hP x hx).mono h2.2) h1 h2.1
    have hM2 : Marks w0.heap.size ({ target := .collected D, args := #[] } :: ds) W := hMW.cons (Nat.le_trans hn0 hD) hK (fun Ds e hDs => by
      obtain ⟨Ds', e', _, h3⟩ := hML
      have : Ds = Ds' := by
        rw [e] at e'
        exact marks_inj e'
      subst this
      have := (Array.getElem?_eq_some_iff.1 (h3 D hDs).2).1
      omega)
    refine wpIn_mono (gH.run hE hO (bs l) i stop (encPs (xsA l)) (encTs ((xsA l).map (·.2))) (bs l) (n : Nat) (fun ex vs σ => ex = .normal ∧ vs = [.str (bs l), .ptr 0 0, .ptr 1 0, .ptr 2 0, .ptr 3 0, .fn 26 [] [.ptr 4 0], .int .i64 i] ∧ σ = σK n) ?_ st) ?_
    · unfold gH.W
      rw [encTs_length, List.length_map]
      rcases hn with hn | hn
      · subst hn
        rw [show ((((xsA l).length : Nat) : Int) != ((xsA l).length : Nat)) = false from by simp]
        exact ⟨rfl, rfl, rfl⟩
      · rw [show (((n : Nat) : Int) != stop) = false from by rw [hn]; simp]
        cases h : (((n : Nat) : Int) != ((xsA l).length : Nat)) <;> exact ⟨rfl, rfl, rfl⟩
    · rintro ex a2 w2 ⟨vs, σ2, ⟨rfl, rfl, rfl⟩, s2, _, F1, β1, F2, β2, q1, q2, q3⟩
      refine ⟨rfl, _, hM2.step q1 q3, St.take s2 5 rfl (envL_ids _ fun x hx k hk => ?_)⟩
      show k < 5
      simp only [List.zip_cons_cons, List.zip_nil_right, List.mem_cons, List.not_mem_nil, or_false] at hx
      rcases hx with rfl | rfl | rfl | rfl | rfl | rfl | rfl <;> simp [idsV, idsL] at hk <;> omega
  refine wpIn_block (range_run hO rfl (gf := 26) (lb := #[.pointer (some ⟨b, 0, none⟩)]) (encs := encsA l) (n0 := w0.heap.size) (w0 := w0) (Pre := fun W => ∃ bt, W.heap[b]? = some (.cells #[.string (bs l)] bt (0, 0)))
    (by rw [rL.eval]; exact e27) (enters_of Tryd.func26 (by kernel_rfl) rfl) (fun x hx => by
      rw [encsA_xs] at hx
      obtain ⟨y, _, rfl⟩ := List.mem_map.1 hx
      rfl) (all_iter hE h0 l hl hb) (fun k W => Marks w0.heap.size ds W ∧ SwC ax G C (σK k) W) (fun c W => c = .exit 2 ∧ ∃ n : Nat, (n : Int) = stop ∧ Marks w0.heap.size ds W ∧ SwC ax G C (σK n) W)
    (fun k act W => Marks w0.heap.size ds W ∧ ∃ y, (xsA l)[k]? = some y ∧ StC ax G C [] 65 (envL (eG l ++ [(9, .ptr 5 0), (10, .int .i64 (y.1 : Nat)), (11, .ptr 6 0)])) (σK k ++ [⟨0, .box (encT y.2)⟩]) act W)
    (fun k W W' h hc => ⟨hMc h.1 hc, h.2.calm hc hn0⟩) (fun c W W' ⟨h1, n, h2, h3, h4⟩ hc => ⟨h1, n, h2, hMc h3 hc, h4.calm hc hn0⟩) (fun k act W W' ⟨h, y, h1, h2⟩ hc => ⟨hMc h hc, y, h1, h2.calm hc hn0⟩)
    (fun k W ⟨_, F, β, h1, h2⟩ => h2.1.below0) (fun _ _ ⟨_, _, _, _, F, β, h1, h2⟩ => h2.1.below0) (fun W ⟨_, F, β, h1, h2⟩ => ?pre) hn0 ⟨hML, FL, βL, simL, stL, Carry.refl _ _ _ _⟩ ?assign ?body ?done ?stop)
  case pre =>
    obtain ⟨b', t', cs, hb', hh, hr, _⟩ := h1.obj 4
    rw [(h2.2.ext 4 (show 4 < 6 by decide)).1, hβ4] at hb'
    cases hb'
    obtain ⟨x1, xs1, ec, g1, hr⟩ := hr.cons_inv
    obtain rfl := hr.nil_inv
    rw [g1.str_inv] at ec
    have hcs : cs = #[.string (bs l)] := by apply Array.ext'; simpa using ec
    subst hcs
    exact ⟨t', hh⟩
  case assign =>
    intro lr k x W hx hi
    rw [encsA_xs, List.getElem?_map] at hx
    obtain ⟨y, hy, rfl⟩ := Option.map_eq_some_iff.1 hx
    obtain ⟨hMW, F, β, h1, h2⟩ := hi
    rw [show encA y = #[.int .i64 y.1, .agg #[.int .i64 y.2.k, .string (bs y.2.t), .int .i64 y.2.n]] from rfl, round_act]
    have z0 : ({ aL with defers := [] } : Act).tmps.size = 65 := rL.size
    have z1 := (put_size ({ aL with defers := [] } : Act) 28 (.int .i64 y.1)).1
    have g : ∀ t, t ≠ 28 → t ≠ 29 → ((({ aL with defers := [] } : Act).put (some 28) (.int .i64 y.1)).put (some 29) (.agg #[.int .i64 y.2.k, .string (bs y.2.t), .int .i64 y.2.n])).tmps.getD t undef = aL.tmps.getD t undef := fun t h13 h14 => by
      rw [put_get (by rw [z1, z0]; decide), if_neg h14, put_get (by rw [z0]; decide), if_neg h13]
    have st : StC ax G C [] 65 (envL (eG l ++ [(25, .int .i64 i), (9, .ptr 5 0), (28, .int .i64 (y.1 : Nat)), (29, .agg [.int .i64 y.2.k, .str (bs y.2.t), .int .i64 y.2.n])])) (σK k) ((({ aL with defers := [] } : Act).put (some 28) (.int .i64 y.1)).put (some 29) (.agg #[.int .i64 y.2.k, .string (bs y.2.t), .int .i64 y.2.n])) W := by
      refine StC.of (by rw [(put_size _ _ _).1, z1, z0]) rfl (fun x hx => ?_) h1 h2
      have hold : x ∈ eG l ++ [(25, .int .i64 i), (9, .ptr 5 0)] → RV ax.gs G W F β (σK k) x.2 (((({ aL with defers := [] } : Act).put (some 28) (.int .i64 y.1)).put (some 29) (.agg #[.int .i64 y.2.k, .string (bs y.2.t), .int .i64 y.2.n])).tmps.getD x.1 undef) := fun hm => by
        have hne : x.1 ≠ 28 ∧ x.1 ≠ 29 := by
          simp only [eG, List.cons_append, List.nil_append, List.mem_cons, List.not_mem_nil, or_false] at hm
          rcases hm with rfl | rfl | rfl | rfl | rfl | rfl | rfl | rfl <;> exact ⟨(by simp), (by simp)⟩
        rw [g x.1 hne.1 hne.2]
        exact (hP x hm).mono h2.2
      rw [show eG l ++ [(25, V.int .i64 i), (9, .ptr 5 0), (28, .int .i64 (y.1 : Nat)), (29, .agg [.int .i64 y.2.k, .str (bs y.2.t), .int .i64 y.2.n])] = (eG l ++ [(25, .int .i64 i), (9, .ptr 5 0)]) ++ [(28, .int .i64 (y.1 : Nat)), (29, .agg [.int .i64 y.2.k, .str (bs y.2.t), .int .i64 y.2.n])] by simp] at hx
      rcases List.mem_append.1 hx with hx | hx
      · exact hold hx
      rcases List.mem_cons.1 hx with rfl | hx
      · rw [put_get (by rw [z1, z0]; decide), if_neg (show (28 : Nat) ≠ 29 by decide), put_get (by rw [z0]; decide), if_pos rfl]; exact .mk_int _ _
      · rw [List.mem_singleton.1 hx, put_get (by rw [z1, z0]; decide), if_pos rfl]
        exact RV.mk_agg (.cons (.mk_int _ _) (.cons (.mk_str _) (.cons (.mk_int _ _) .nil)))
    refine wpIn_mono (gF.runC CC.shut hE (hO.inRound lr) (bs l) i (y.1 : Nat) y.2.k (bs y.2.t) y.2.n stop (encPs (xsA l)) (encTs ((xsA l).map (·.2))) (bs l) (k : Nat) (fun ex vs σ => ex = .normal ∧ vs = [.str (bs l), .ptr 0 0, .ptr 1 0, .ptr 2 0, .ptr 3 0, .fn 26 [] [.ptr 4 0], .ptr 5 0, .int .i64 (y.1 : Nat), .ptr 6 0] ∧ σ = σK k ++ [⟨1, .box (encT y.2)⟩]) ⟨rfl, rfl, rfl⟩ st) ?_
    rintro ex a2 W2 ⟨vs, σ2, ⟨rfl, rfl, rfl⟩, s2, _, F5, β5, F6, β6, q1, q2, q3⟩
    exact ⟨rfl, ⟨hMW.step q1 q3, y, hy, s2.zero⟩, q3.kp2 fun i b hi hh => .inl (q2.2.old_has simL i b hi hh)⟩
  case body =>
    rintro lr k x a2 W2 hx ⟨hMW, y, hy, st⟩
    obtain ⟨p, tk⟩ := y
    have hk : k < (xsA l).length := (List.getElem?_eq_some_iff.1 hy).1
    have hrowP : List.take 1 (Av.rowAt (encPs (xsA l)) ((k : Nat) : Int).toNat) = [.int .i64 (p : Nat)] := by
      rw [Int.toNat_natCast]; unfold Av.rowAt encPs
      rw [List.getD_eq_getElem?_getD, List.getElem?_map, hy]; rfl
    have hrowQ : List.take 3 (Av.rowAt (encTs ((xsA l).map (·.2))) ((k : Nat) : Int).toNat) = encT tk := by
      rw [Int.toNat_natCast]; exact rowT (by rw [List.getElem?_map, hy]; rfl)
    refine wpIn_mono (gG.runC CC.shut hE (hO.inRound lr) (bs l) (p : Nat) stop (encPs (xsA l)) (encTs ((xsA l).map (·.2))) (bs l) (k : Nat) tk.k (bs tk.t) tk.n (fun ex vs σ => (ex = .normal ∨ (ex = .exit 2 ∧ ((k + 1 : Nat) : Int) = stop)) ∧ σ = σG l stop ++ [⟨1, .box [.int .i64 (k + 1 : Nat)]⟩, ⟨0, .box (encT tk)⟩]) ?_ st) ?_
    · unfold gG.W
      rw [encTs_length, encPs_length, List.length_map, wadd1 (by omega)]
      refine ifD (fun h => by omega) (fun _ => ⟨by omega, by omega, _, hrowP, ?_⟩)
      rw [show ((((p : Nat) : Int) != ((p : Nat) : Int))) = false from by simp]
      refine ⟨by omega, by omega, _, _, _, hrowQ, ?_⟩
      have e : Av.eqL (encT tk) (encT tk) = true := by rw [eqL_tok]; simp
      rw [show Av.eqL [V.int .i64 tk.k, .str (bs tk.t), .int .i64 tk.n] [V.int .i64 tk.k, .str (bs tk.t), .int .i64 tk.n] = true from e]
      cases h : (((k + 1 : Nat) : Int) == stop) with
      | true => exact ⟨.inr ⟨rfl, by simpa using h⟩, rfl⟩
      | false => exact ⟨.inl rfl, rfl⟩
    · rintro ex a3 W3 ⟨vs, σ3, ⟨hex, rfl⟩, ⟨ρ, F, β, _, _, h3, h4⟩, _, F5, β5, F6, β6, q1, q2, q3⟩
      have hkp : Kp wL.heap.size W2 W3 := q3.kp2 fun i b hi hh => by
        rcases Nat.lt_or_ge i 6 with h | h
        · exact .inl (q2.2.old_has simL i b h hh)
        · have : i = 6 := by have : i < 7 := hi; omega
          subst this; exact .inr rfl
      obtain ⟨k1, k2⟩ := CC.take (k := 6) h4 h3 rfl (Nat.le_refl 6)
      have hM3 := hMW.step q1 q3
      refine ⟨hkp, ?_⟩
      rcases hex with rfl | ⟨rfl, hst⟩
      · exact ⟨hM3, F, β, k1, k2⟩
      · exact ⟨rfl, k + 1, hst, hM3, F, β, k1, k2⟩
  case done =>
    intro D W hD ⟨hMW, hi⟩ hK
    exact cont D _ W hD (.inl hlen) hMW hi hK
  case stop =>
    rintro D c W hD ⟨rfl, n, hst, hMW, hi⟩ hK
    exact wpIn_exit (cont D n W hD (.inr hst) hMW hi hK)
end

theorem Goes_spec (l : List UInt8) (hl : l.length ≤ big) (stop : Int) : PCalls ax 7 [.str (bs l), .int .i64 stop] fun r => r = [.bool true] := by
  have hbg : big = 1099511627776 := rfl
  have hO := Opn.wide
  refine callsM (c := Tryd.f7.body.getD .skip) Tryd.func7 (by kernel_rfl) tysOk (by kernel_rfl) ?_
  intro G w0 F0 β0 a hE h0 hst
  have hnt : Tryd.f7.ntmps = 65 := by kernel_rfl
  have hres : Tryd.f7.results.toList = [.cell 4 4] := by kernel_rfl
  have hokA : codeOk ax.tys (hintsOf gA.ah) 65 gA.c = true := hnt ▸ gA.ok
  have hokC : codeOk ax.tys (hintsOf gC.ah) 65 gC.c = true := hnt ▸ gC.ok
  rw [hnt] at hst ⊢
  rw [hres]
  clear hnt hres
  let vsA : List V := [.str (bs l), .ptr 0 0, .ptr 1 0, .ptr 2 0, .ptr 3 0, .fn 26 [] [.ptr 4 0]]
  let KA : Exit → List V → Store → Prop := fun ex vs σ => ex = .normal ∧ vs = vsA ∧
    ((16384 < l.length ∧ σ = [⟨0, .box [.int .i64 stop]⟩, ⟨0, .box [.bool false]⟩, ⟨2, .box [.nls]⟩, ⟨2, .box [.nls]⟩, ⟨0, .box [.str (bs l)]⟩]) ∨
     (l.length ≤ 16384 ∧ σ = [⟨0, .box [.int .i64 stop]⟩, ⟨0, .box [.bool false]⟩, ⟨1, .box [.sl 1 (encPs (posL 0 l))]⟩, ⟨1, .box [.sl 3 (encTs (allL l).1)]⟩, ⟨0, .box [.str (bs l)]⟩]))
  refine St.chainR tysOk fnsOk follows eqOk hE hO (ah := gA.ah) rfl (K := KA) (slots := [0, 3, 4, 5, 6, 8]) (sl := fun e => [e 0, e 3, e 4, e 5, e 6, e 8]) 4 (c0 := gA.c) (by kernel_rfl) (fun _ => rfl) (by kernel_rfl) hokA gA.calm
    (Eq.mp (gA.eq (bs l) stop KA) ?_) (hst.env (envL_sub _ fun x hx => by
      rcases List.mem_cons.1 hx with rfl | hx
      · rfl
      · rw [List.mem_singleton.1 hx]; rfl)) ?_
  · unfold gA.W
    rw [bs_size]
    refine alive_spec.mono fun r hr => ⟨true, hr, ?_⟩
    refine (RAll2_spec l hl).mono fun r hr => ⟨_, _, _, hr, ?_⟩
    refine ifD (fun h => ?_) (fun h => ?_)
    · exact (All_spec (bs l)).mono fun r o ⟨hr, ho⟩ => ⟨_, hr, ho, rfl, rfl, .inl ⟨by omega, rfl⟩⟩
    · exact (All_spec (bs l)).mono fun r o ⟨hr, ho⟩ => ⟨_, hr, ho, rfl, rfl, .inr ⟨by omega, rfl⟩⟩
  rintro ex vs σ1 a1 w1 ⟨rfl, rfl, hσ⟩ s1
  have s2 : St ax G w0 F0 β0 [] [] 65 (envL (eG l)) (σG l stop) a1 w1 := by
    rcases hσ with ⟨hlt, rfl⟩ | ⟨hle, rfl⟩
    · have h1 := (St.nls (St.nls s1 (i := 2) (by simp) rfl 1) (i := 3) (by simp [putO]) rfl 3).zero
      have hx : xsA l = [] := by unfold xsA; rw [if_neg (by omega)]
      unfold σG
      rw [hx]
      exact h1
    · have h1 := s1.zero
      unfold σG
      rw [xsA_all hle, show xsA l = posL 0 l by unfold xsA; rw [if_pos hle]]
      exact h1
  clear s1 hσ
  show (Av.post 4 (Tryd.f7.body.getD .skip)).wpIn Fence.wide 0 ax.P _ a1 w1
  rw [post7]
  refine wpIn_seq (wpIn_seq (wpIn_mono (gB.run hE hO (bs l) stop (encPs (xsA l)) (encTs ((xsA l).map (·.2))) (bs l) (fun ex vs σ => ex = .normal ∧ vs = vsA ++ [.int .i64 0] ∧ σ = σG l stop) ⟨rfl, rfl, rfl⟩ s2) ?_))
  rintro ex a2 w2 ⟨vs, σ2, ⟨rfl, rfl, rfl⟩, s3, _, _⟩
  -- the loop
  have hloop : (Code.loop LB).wpIn Fence.wide 0 ax.P (fun ex a w => ex = .exit 0 ∧ ∃ ds, Marks w0.heap.size ds w ∧ St ax G w0 F0 β0 [] ds 65 (envL (eG l)) (σG l stop) a w) a2 w2 := by
    refine wpIn_loop (fun a w => ∃ (i : Nat) (ds : List Deferred), i ≤ 2 ∧ Marks w0.heap.size ds w ∧ St ax G w0 F0 β0 [] ds 65 (envL (eG l ++ [(25, .int .i64 (i : Nat))])) (σG l stop) a w)
      (fun a _ => match a.tmps.getD 25 undef with | .int _ p => 2 - p.toNat | _ => 0) ⟨0, [], by omega, Marks.nil _ _, s3⟩ ?_
    rintro a w ⟨i, ds, hi, hM, hs⟩
    have h25 : a.tmps.getD 25 undef = .int .i64 (i : Nat) := hs.int rfl
    let KC : Exit → List V → Store → Prop := fun ex vs σ => ((ex = .exit 0) ∨ (ex = .normal ∧ i < 2)) ∧ vs = vsA ++ [.int .i64 (i : Nat)] ∧ σ = σG l stop
    refine St.chainM tysOk fnsOk follows eqOk hE hO (ah := gC.ah) rfl (K := KC) (slots := [0, 3, 4, 5, 6, 8, 25]) (sl := fun e => [e 0, e 3, e 4, e 5, e 6, e 8, e 25]) 1 (c0 := gC.c) preLB hM (fun _ => rfl) (by kernel_rfl) hokC gC.calm
      (Eq.mp (gC.eq (bs l) (i : Nat) stop (encPs (xsA l)) (encTs ((xsA l).map (·.2))) (bs l) KC) ?_) hs ?_
    · unfold gC.W
      refine ifD (fun h => ?_) (fun h => ?_)
      · exact ⟨.inr ⟨rfl, by omega⟩, rfl, rfl⟩
      · exact ⟨.inl rfl, rfl, rfl⟩
    rintro ex vs σ3 a3 w3 ⟨hex, rfl, rfl⟩ s4 hM4
    rcases hex with rfl | ⟨rfl, hi2⟩
    · exact ⟨rfl, ds, hM4, s4.env (envL_sub _ fun x hx => by
        simp only [eG, List.mem_cons, List.not_mem_nil, or_false] at hx
        rcases hx with rfl | rfl | rfl | rfl | rfl | rfl <;> rfl)⟩
    show (Av.post 1 LB).wpIn Fence.wide 0 ax.P _ a3 w3
    rw [postLB]
    refine wpIn_seq (wpIn_block (wpIn_mono (goes_once hE h0 l hl stop (i : Nat) hM4 s4) ?_))
    rintro ex a5 w5 ⟨rfl, ds', hM5, s5⟩
    refine wpIn_mono (gI.run hE hO (bs l) (i : Nat) stop (encPs (xsA l)) (encTs ((xsA l).map (·.2))) (bs l) (fun ex vs σ => ex = .normal ∧ vs = vsA ++ [.int .i64 (i + 1 : Nat)] ∧ σ = σG l stop) (by
      unfold gI.W
      rw [wadd1 (by omega)]
      exact ⟨rfl, rfl, rfl⟩) s5) ?_
    rintro ex a6 w6 ⟨vs, σ6, ⟨rfl, rfl, rfl⟩, s6, _, F1, β1, F2, β2, q1, q2, q3⟩
    refine ⟨⟨i + 1, ds', by omega, hM5.step q1 q3, s6⟩, ?_⟩
    have h25' : a6.tmps.getD 25 undef = .int .i64 (i + 1 : Nat) := s6.int rfl
    rw [h25, h25']
    simp only [Int.toNat_natCast]
    omega
  refine wpIn_block (wpIn_mono hloop ?_)
  rintro ex a3 w3 ⟨rfl, ds, hM, s4⟩
  simp only [Exit.inBlock, if_true]
  refine wpIn_mono (gJ.run hE hO (bs l) stop (encPs (xsA l)) (encTs ((xsA l).map (·.2))) (bs l) (fun ex vs σ => ex = .ret ∧ vs = vsA ∧ σ = [⟨0, .box [.int .i64 stop]⟩, ⟨1, .box [.bool true]⟩, ⟨0, .box [.sl 1 (encPs (xsA l))]⟩, ⟨0, .box [.sl 3 (encTs ((xsA l).map (·.2)))]⟩, ⟨0, .box [.str (bs l)]⟩]) ⟨rfl, rfl, rfl⟩ s4) ?_
  rintro ex a4 w4 ⟨vs, σ4, ⟨rfl, rfl, rfl⟩, s5, _, F1, β1, F2, β2, q1, q2, q3⟩
  exact ⟨.inr rfl, ds, _, _, hM.step q1 q3, s5, fun u hu => by rw [List.mem_singleton.1 hu]; rfl, rfl⟩
end Go.Proofs.YtadgcpjobhgkiaaDoor.Va
end
