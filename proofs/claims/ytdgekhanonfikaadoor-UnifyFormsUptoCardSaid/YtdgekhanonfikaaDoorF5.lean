/- Plain at the model's run. -/
import Derived.Test.YtdgekhanonfikaaDoorF2
import Derived.Test.YtdgekhanonfikaaDoorF4
import Derived.Test.YtdgekhanonfikaaDoorF1
/- part U1M -/
section
namespace Go.Uni
open Go.Av

inductive Tm where
  | mk (k : Int) (s : ByteArray) (v : Int) (zs : List Tm)

namespace Tm
def kind : Tm → Int | .mk k _ _ _ => k
def name : Tm → ByteArray | .mk _ s _ _ => s
def var : Tm → Int | .mk _ _ v _ => v
def args : Tm → List Tm | .mk _ _ _ zs => zs
@[simp] theorem kind_mk (k s v zs) : kind (.mk k s v zs) = k := rfl
@[simp] theorem name_mk (k s v zs) : name (.mk k s v zs) = s := rfl
@[simp] theorem var_mk (k s v zs) : var (.mk k s v zs) = v := rfl
@[simp] theorem args_mk (k s v zs) : args (.mk k s v zs) = zs := rfl
end Tm

/-- induction on a tree, through its arguments -/
theorem Tm.ind {p : Tm → Prop} (h : ∀ k s v zs, (∀ a ∈ zs, p a) → p (.mk k s v zs)) : ∀ t, p t
  | .mk k s v zs => h k s v zs (go zs)
where go : ∀ zs : List Tm, ∀ a ∈ zs, p a
  | b :: r, a, hm => by
    rcases List.mem_cons.1 hm with e | e
    · rw [e]; exact Tm.ind h b
    · exact go r a e

mutual
def enc : Tm → List V
  | .mk k s v zs => [.int .i64 k, .str s, .int .i64 v, .sl 4 (encs zs)]
def encs : List Tm → List (List V)
  | [] => []
  | t :: r => enc t :: encs r
end
theorem encs_eq : ∀ zs, encs zs = zs.map enc
  | [] => rfl
  | t :: r => by rw [encs, encs_eq r]; rfl
@[simp] theorem encs_length (zs : List Tm) : (encs zs).length = zs.length := by rw [encs_eq]; simp
@[simp] theorem encs_append (zs bs : List Tm) : encs (zs ++ bs) = encs zs ++ encs bs := by simp [encs_eq]
theorem enc_take (t : Tm) : (enc t).take 4 = enc t := by cases t; rfl
theorem row_encs {zs : List Tm} {i : Nat} {t : Tm} (h : zs[i]? = some t) : List.take 4 (Av.rowAt (encs zs) i) = enc t := by
  rw [encs_eq, Av.rowAt, List.getD_eq_getElem?_getD, List.getElem?_map, h]
  exact enc_take t
theorem enc_inj : ∀ a b : Tm, enc a = enc b → a = b := by
  refine Tm.ind fun k s v zs ih => ?_
  rintro ⟨k', s', v', zs'⟩ h
  simp only [enc, List.cons.injEq, V.int.injEq, V.str.injEq, V.sl.injEq, true_and, and_true] at h
  obtain ⟨rfl, rfl, rfl, h⟩ := h
  have : ∀ (xs ys : List Tm), (∀ a ∈ xs, ∀ b, enc a = enc b → a = b) → encs xs = encs ys → xs = ys := by
    intro xs
    induction xs with
    | nil => intro ys _ h; cases ys with
      | nil => rfl
      | cons => simp [encs] at h
    | cons x xs ihx =>
      intro ys hx h
      cases ys with
      | nil => simp [encs] at h
      | cons y ys =>
        simp only [encs, List.cons.injEq] at h
        rw [hx x List.mem_cons_self y h.1, ihx ys (fun a ha => hx a (List.mem_cons_of_mem _ ha)) h.2]
  rw [this zs zs' ih h]

mutual
def size : Tm → Nat
  | .mk _ _ _ zs => 1 + sizes zs
def sizes : List Tm → Nat
  | [] => 0
  | t :: r => size t + sizes r
end
theorem size_pos (t : Tm) : 1 ≤ size t := by cases t; simp only [size]; omega
theorem size_mem {a : Tm} : ∀ {zs : List Tm}, a ∈ zs → size a ≤ sizes zs
  | b :: r, h => by
    simp only [sizes]
    rcases List.mem_cons.1 h with rfl | h
    · omega
    · have := size_mem h; omega
theorem length_sizes : ∀ zs : List Tm, zs.length ≤ sizes zs
  | [] => Nat.le_refl _
  | b :: r => by have := length_sizes r; have := size_pos b; simp only [sizes, List.length_cons]; omega

mutual
/-- the nodes of a type as it is -/
def nodes : Tm → Nat
  | .mk k _ _ zs => if k = 2 then 1 + nodesL zs else 1
def nodesL : List Tm → Nat
  | [] => 0
  | t :: r => nodes t + nodesL r
end
theorem nodesL_append (zs bs : List Tm) : nodesL (zs ++ bs) = nodesL zs + nodesL bs := by
  induction zs with
  | nil => simp [nodesL]
  | cons a r ih => simp only [List.cons_append, nodesL, ih]; omega
theorem nodesL_take {zs : List Tm} {i : Nat} {t : Tm} (h : zs[i]? = some t) : nodesL (zs.take (i + 1)) = nodesL (zs.take i) + nodes t := by
  rw [List.take_add_one, h, nodesL_append]; simp [nodesL]
theorem nodes_le : ∀ t, nodes t ≤ size t := by
  refine Tm.ind fun k s v zs ih => ?_
  have : ∀ zs : List Tm, (∀ a ∈ zs, nodes a ≤ size a) → nodesL zs ≤ sizes zs := by
    intro zs
    induction zs with
    | nil => intro _; simp [nodesL, sizes]
    | cons a r ihr => intro h; have := h a List.mem_cons_self; have := ihr fun b hb => h b (List.mem_cons_of_mem _ hb); simp only [nodesL, sizes]; omega
  have := this zs ih
  simp only [nodes, size]
  split <;> omega
theorem nodesL_le : ∀ zs, nodesL zs ≤ sizes zs
  | [] => Nat.le_refl _
  | b :: r => by have := nodesL_le r; have := nodes_le b; simp only [sizes, nodesL]; omega
theorem sizes_take {zs : List Tm} {i : Nat} : sizes (zs.take i) ≤ sizes zs := by
  induction zs generalizing i with
  | nil => simp
  | cons a r ih => cases i with
    | zero => simp [sizes]
    | succ i => simp only [List.take_succ_cons, sizes]; have := @ih i; omega

mutual
/-- a type with just the fields of its kind -/
def clean : Tm → Tm
  | .mk k s v zs => if k = 3 then .mk 3 s 0 [] else if k = 4 then .mk 4 ⟨#[]⟩ v [] else if k = 2 then .mk 2 s 0 (cleans zs) else .mk k ⟨#[]⟩ 0 []
def cleans : List Tm → List Tm
  | [] => []
  | t :: r => clean t :: cleans r
end
theorem cleans_eq : ∀ zs, cleans zs = zs.map clean
  | [] => rfl
  | t :: r => by rw [cleans, cleans_eq r]; rfl

mutual
/-- is it a type of a table with so many unknowns? -/
def known (n : Nat) : Tm → Bool
  | .mk k _ v zs => if k = 1 ∨ k = 3 then true else if k = 4 then decide (0 ≤ v ∧ v < n) else if k = 2 then knowns n zs else false
def knowns (n : Nat) : List Tm → Bool
  | [] => true
  | t :: r => known n t && knowns n r
end
theorem knowns_eq {n : Nat} : ∀ zs, knowns n zs = zs.all (known n)
  | [] => rfl
  | t :: r => by rw [knowns, knowns_eq r]; rfl

mutual
def hasV (x : Int) : Tm → Bool
  | .mk k _ v zs => if k = 4 then v == x else if k = 2 then hasVs x zs else false
def hasVs (x : Int) : List Tm → Bool
  | [] => false
  | t :: r => hasV x t || hasVs x r
end
theorem hasVs_eq {x : Int} : ∀ zs, hasVs x zs = zs.any (hasV x)
  | [] => rfl
  | t :: r => by rw [hasVs, hasVs_eq r]; rfl

mutual
/-- a type with one unknown replaced -/
def put (x : Int) (b : Tm) : Tm → Tm
  | .mk k s v zs => if k = 4 ∧ v = x then b else if k = 2 then .mk 2 s 0 (puts x b zs) else .mk k s v zs
def puts (x : Int) (b : Tm) : List Tm → List Tm
  | [] => []
  | t :: r => put x b t :: puts x b r
end
theorem puts_eq {x : Int} {b : Tm} : ∀ zs, puts x b zs = zs.map (put x b)
  | [] => rfl
  | t :: r => by rw [puts, puts_eq r]; rfl

def free (v : Int) : Tm := .mk 4 ⟨#[]⟩ v []
end Go.Uni
end

/- part U1B -/
section
namespace Go.Proofs.YtdgekhanonfikaaDoor.Va
open Go.Vx Go.Av Go.Uni

/-- the bulk that a law reads is at most this -/
abbrev big : Nat := 1099511627776

theorem cE {a b : Int} {p q : Prop} (h1 : a = b → p) (h2 : a ≠ b → q) : cond (a == b) p q := ifE h1 h2
theorem getEq {xs : List Tm} {i : Nat} (h : i < xs.length) : ∃ k s v l, xs[i]? = some (.mk k s v l) := by
  cases e : xs[i] with
  | mk k s v l => exact ⟨k, s, v, l, by rw [List.getElem?_eq_getElem h, e]⟩

theorem Free_spec (v : Int) : PCalls ax 17 [.int .i64 v] fun r => r = [.agg (enc (free v))] :=
  Free.calls (K := fun r => r = [.agg (enc (free v))]) (by unfold Free.W; rfl)

theorem Nodes_spec : ∀ t : Tm, size t ≤ big → PCalls ax 21 [.agg (enc t)] fun r => r = [.int .i64 (nodes t)] := by
  refine Tm.ind fun k s v xs ih => ?_
  intro hs
  refine Nodes.calls (K := fun r => r = [.int .i64 (nodes (.mk k s v xs))]) ?_
  unfold Nodes.W
  simp only [size] at hs
  refine ifE (fun hk => ?_) (fun hk => by simp [nodes, hk])
  have hnl := nodesL_le xs
  have hls := length_sizes xs
  have hb : big = 1099511627776 := rfl
  refine ⟨fun us => ∃ i : Nat, i ≤ xs.length ∧ us = [.int .i64 ((1 + nodesL (xs.take i) : Nat) : Int), .int .i64 i], fun us => match us with | [_, .int _ i] => xs.length - i.toNat | _ => 0, ⟨0, Nat.zero_le _, by simp [nodesL]⟩, ?_⟩
  rintro n m ⟨i, hi, e⟩
  cases e
  rw [encs_length]
  refine ifD (fun hlt => ?_) (fun hge => ?_)
  · have hi' : i < xs.length := by omega
    obtain ⟨k', s', v', l', he⟩ := getEq hi'
    have hm := List.mem_of_getElem? he
    have hsz := size_mem hm
    have hsn := nodes_le (.mk k' s' v' l')
    have htk : nodesL (xs.take (i + 1)) = _ := nodesL_take he
    have hle : nodesL (xs.take (i + 1)) ≤ sizes xs := Nat.le_trans (nodesL_le _) sizes_take
    refine ⟨by omega, hlt, k', s', v', encs l', row_encs (by simpa using he), ?_⟩
    have hle0 : nodesL (xs.take i) ≤ sizes xs := Nat.le_trans (nodesL_le _) sizes_take
    refine (ih _ hm (by omega)).mono fun r hr => ⟨_, hr, ?_⟩
    rw [w64 (by omega) (by omega), w64 (by omega) (by omega)]
    exact ⟨⟨i + 1, hi', by rw [htk]; congr 2; push_cast; omega⟩, by simp only; omega⟩
  · have : i = xs.length := by omega
    subst this
    simp [nodes, hk]
theorem raw_spec : ∀ t : Tm, size t ≤ big → PCalls ax 52 [.agg (enc t)] fun r => r = [.int .i64 (nodes t)] := by
  refine Tm.ind fun k s v xs ih => ?_
  intro hs
  refine raw.calls (K := fun r => r = [.int .i64 (nodes (.mk k s v xs))]) ?_
  unfold raw.W
  simp only [size] at hs
  refine ifE (fun hk => ?_) (fun hk => by simp [nodes, hk])
  have hnl := nodesL_le xs
  have hls := length_sizes xs
  have hb : big = 1099511627776 := rfl
  refine ⟨fun us => ∃ i : Nat, i ≤ xs.length ∧ us = [.int .i64 ((1 + nodesL (xs.take i) : Nat) : Int), .int .i64 i], fun us => match us with | [_, .int _ i] => xs.length - i.toNat | _ => 0, ⟨0, Nat.zero_le _, by simp [nodesL]⟩, ?_⟩
  rintro n m ⟨i, hi, e⟩
  cases e
  rw [encs_length]
  refine ifD (fun hlt => ?_) (fun hge => ?_)
  · have hi' : i < xs.length := by omega
    obtain ⟨k', s', v', l', he⟩ := getEq hi'
    have hm := List.mem_of_getElem? he
    have hsz := size_mem hm
    have hsn := nodes_le (.mk k' s' v' l')
    have htk : nodesL (xs.take (i + 1)) = _ := nodesL_take he
    have hle : nodesL (xs.take (i + 1)) ≤ sizes xs := Nat.le_trans (nodesL_le _) sizes_take
    refine ⟨by omega, hlt, k', s', v', encs l', row_encs (by simpa using he), ?_⟩
    have hle0 : nodesL (xs.take i) ≤ sizes xs := Nat.le_trans (nodesL_le _) sizes_take
    refine (ih _ hm (by omega)).mono fun r hr => ⟨_, hr, ?_⟩
    rw [w64 (by omega) (by omega), w64 (by omega) (by omega)]
    exact ⟨⟨i + 1, hi', by rw [htk]; congr 2; push_cast; omega⟩, by simp only; omega⟩
  · have : i = xs.length := by omega
    subst this
    simp [nodes, hk]

theorem lrow {xs : List Tm} {i : Nat} {t : Tm} (h : xs[i]? = some t) : List.take 4 (Av.rowAt (encs xs) ((i : Int).toNat)) = enc t := row_encs (by simpa using h)
theorem map_take_succ {xs : List Tm} {i : Nat} {t : Tm} {f : Tm → Tm} (h : xs[i]? = some t) : encs ((xs.take i).map f) ++ [enc (f t)] = encs ((xs.take (i + 1)).map f) := by
  rw [List.take_add_one, h, List.map_append, encs_append]; rfl

theorem clean_spec : ∀ t : Tm, size t ≤ big → PCalls ax 35 [.agg (enc t)] fun r => r = [.agg (enc (clean t))] := by
  refine Tm.ind fun k s v xs ih => ?_
  intro hs
  refine clean.calls (K := fun r => r = [.agg (enc (Uni.clean (.mk k s v xs)))]) ?_
  unfold clean.W
  simp only [size] at hs
  have hls := length_sizes xs
  have hb : big = 1099511627776 := rfl
  refine ifE (fun hk => by simp [Uni.clean, hk, enc, encs]) (fun h3 => ifE (fun hk => by simp [Uni.clean, hk, enc, encs]) (fun h4 => ifE (fun hk => ?_) (fun h2 => by simp [Uni.clean, h3, h4, h2, enc, encs])))
  refine ⟨fun us => ∃ i : Nat, i ≤ xs.length ∧ us = [.int .i64 i, .int .i64 k, .str s, .int .i64 0, .sl 4 (encs ((xs.take i).map Uni.clean))], fun us => match us with | .int _ i :: _ => xs.length - i.toNat | _ => 0, ⟨0, Nat.zero_le _, by simp [encs]⟩, ?_⟩
  rintro n k1 s1 v1 l1 ⟨i, hi, e⟩
  cases e
  rw [encs_length]
  refine ifD (fun hlt => ?_) (fun hge => ?_)
  · have hi' : i < xs.length := by omega
    obtain ⟨k', s', v', l', he⟩ := getEq hi'
    have hm := List.mem_of_getElem? he
    have hsz := size_mem hm
    refine ⟨by omega, hlt, k', s', v', encs l', lrow he, ?_⟩
    refine (ih _ hm (by omega)).mono fun r hr => ?_
    obtain ⟨k2, s2, v2, l2, e2⟩ : ∃ k2 s2 v2 l2, Uni.clean (.mk k' s' v' l') = .mk k2 s2 v2 l2 := by cases h : Uni.clean (.mk k' s' v' l'); exact ⟨_, _, _, _, rfl⟩
    refine ⟨k2, s2, v2, encs l2, by rw [hr, e2]; rfl, ?_⟩
    have hl : (encs ((xs.take i).map Uni.clean)).length = i := by simp; omega
    have hn : encs ((xs.take i).map Uni.clean) ++ [[.int .i64 k2, .str s2, .int .i64 v2, .sl 4 (encs l2)]] = encs ((xs.take (i + 1)).map Uni.clean) := by
      rw [← map_take_succ he, e2]; rfl
    rw [hl, w64 (by omega) (by omega), hn]
    refine ⟨by simp only [List.length_cons, List.length_nil]; omega, by simp only [List.length_cons, List.length_nil]; omega, ⟨i + 1, hi', by push_cast; rfl⟩, by simp only; omega⟩
  · have : i = xs.length := by omega
    subst this
    simp [Uni.clean, hk, enc, cleans_eq]
theorem rclean_spec (c : Nat) : ∀ t : Tm, size t ≤ big → known c t = true → PCalls ax 38 [.agg (enc t)] fun r => r = [.agg (enc (clean t))] := by
  refine Tm.ind fun k s v xs ih => ?_
  intro hs hkn
  refine rclean.calls (K := fun r => r = [.agg (enc (Uni.clean (.mk k s v xs)))]) ?_
  unfold rclean.W
  simp only [size] at hs
  have hls := length_sizes xs
  have hb : big = 1099511627776 := rfl
  refine ifE (fun hk => by subst hk; simp [Uni.clean, enc, encs]) (fun h1 => ifE (fun hk => by simp [Uni.clean, hk, enc, encs]) (fun h3 => ifE (fun hk => ?_) (fun h4 => ?_)))
  · refine (Free_spec v).mono fun r hr => ⟨4, ⟨#[]⟩, v, [], by rw [hr]; rfl, by simp [Uni.clean, hk, enc, encs]⟩
  have hk : k = 2 := by
    simp only [known, h1, h3, h4, or_false, if_false] at hkn
    rcases Decidable.em (k = 2) with h | h
    · exact h
    · rw [if_neg h] at hkn; cases hkn
  subst hk
  have hkn' : ∀ x ∈ xs, known c x = true := by
    simp only [known, knowns_eq] at hkn
    simpa using hkn
  refine ⟨fun us => ∃ i : Nat, i ≤ xs.length ∧ us = [.int .i64 i, .int .i64 2, .str s, .int .i64 0, .sl 4 (encs ((xs.take i).map Uni.clean))], fun us => match us with | .int _ i :: _ => xs.length - i.toNat | _ => 0, ⟨0, Nat.zero_le _, by simp [encs]⟩, ?_⟩
  rintro n k1 s1 v1 l1 ⟨i, hi, e⟩
  cases e
  rw [encs_length]
  refine ifD (fun hlt => ?_) (fun hge => ?_)
  · have hi' : i < xs.length := by omega
    obtain ⟨k', s', v', l', he⟩ := getEq hi'
    have hm := List.mem_of_getElem? he
    have hsz := size_mem hm
    refine ⟨by omega, hlt, k', s', v', encs l', lrow he, ?_⟩
    refine (ih _ hm (by omega) (hkn' _ hm)).mono fun r hr => ?_
    obtain ⟨k2, s2, v2, l2, e2⟩ : ∃ k2 s2 v2 l2, Uni.clean (.mk k' s' v' l') = .mk k2 s2 v2 l2 := by cases h : Uni.clean (.mk k' s' v' l'); exact ⟨_, _, _, _, rfl⟩
    refine ⟨k2, s2, v2, encs l2, by rw [hr, e2]; rfl, ?_⟩
    have hl : (encs ((xs.take i).map Uni.clean)).length = i := by simp; omega
    have hn : encs ((xs.take i).map Uni.clean) ++ [[.int .i64 k2, .str s2, .int .i64 v2, .sl 4 (encs l2)]] = encs ((xs.take (i + 1)).map Uni.clean) := by
      rw [← map_take_succ he, e2]; rfl
    rw [hl, w64 (by omega) (by omega), hn]
    refine ⟨by simp only [List.length_cons, List.length_nil]; omega, by simp only [List.length_cons, List.length_nil]; omega, ⟨i + 1, hi', by push_cast; rfl⟩, by simp only; omega⟩
  · have : i = xs.length := by omega
    subst this
    simp [Uni.clean, enc, cleans_eq]

theorem SameTypes_of {xs : List Tm} (ih : ∀ x ∈ xs, ∀ y : Tm, size x ≤ big → PCalls ax 10 [.agg (enc x), .agg (enc y)] fun r => ∃ c : Bool, r = [.bool c] ∧ (c = true ↔ x = y)) (ys : List Tm) (hs : sizes xs ≤ big) :
    PCalls ax 22 [.sl 4 (encs xs), .sl 4 (encs ys)] fun r => ∃ c : Bool, r = [.bool c] ∧ (c = true ↔ xs = ys) := by
  refine SameTypes.calls (K := fun r => ∃ c : Bool, r = [.bool c] ∧ (c = true ↔ xs = ys)) ?_
  unfold SameTypes.W
  have hls := length_sizes xs
  have hb : big = 1099511627776 := rfl
  simp only [encs_length]
  refine ifNE (fun hne => ⟨false, rfl, by simp; rintro rfl; exact hne rfl⟩) (fun heq => ?_)
  have hl : xs.length = ys.length := by omega
  refine ⟨fun us => ∃ i : Nat, i ≤ xs.length ∧ us = [.int .i64 i] ∧ xs.take i = ys.take i, fun us => match us with | .int _ i :: _ => xs.length - i.toNat | _ => 0, ⟨0, Nat.zero_le _, rfl, rfl⟩, ?_⟩
  rintro n ⟨i, hi, e, htk⟩
  cases e
  refine ifD (fun hlt => ?_) (fun hge => ?_)
  · have hi' : i < xs.length := by omega
    obtain ⟨k', s', v', l', he⟩ := getEq hi'
    obtain ⟨k2, s2, v2, l2, he2⟩ := getEq (xs := ys) (i := i) (by omega)
    have hm := List.mem_of_getElem? he
    have hsz := size_mem hm
    refine ⟨by omega, hlt, k', s', v', encs l', lrow he, by omega, by omega, k2, s2, v2, encs l2, lrow he2, ?_⟩
    refine (ih _ hm (.mk k2 s2 v2 l2) (by omega)).mono fun r ⟨c, hr, hc⟩ => ⟨c, hr, ifN (fun h => ?_) (fun h => ?_)⟩
    · refine ⟨false, rfl, by simp only [Bool.false_eq_true, false_iff]; intro hxy; subst hxy; rw [he] at he2; rw [hc.2 (Option.some.inj he2)] at h; cases h⟩
    · rw [w64 (by omega) (by omega)]
      refine ⟨⟨i + 1, hi', by push_cast; rfl, ?_⟩, by simp only; omega⟩
      rw [List.take_add_one, List.take_add_one, he, he2, htk, hc.1 h]
  · have hx : xs.take i = xs := List.take_of_length_le (by omega)
    have hy : ys.take i = ys := List.take_of_length_le (by omega)
    exact ⟨true, rfl, by rw [hx, hy] at htk; simp [htk]⟩

theorem RSame_spec : ∀ a b : Tm, size a ≤ big → PCalls ax 10 [.agg (enc a), .agg (enc b)] fun r => ∃ c : Bool, r = [.bool c] ∧ (c = true ↔ a = b) := by
  refine Tm.ind fun k s v xs ih => ?_
  rintro ⟨k', s', v', ys⟩ hs
  simp only [size] at hs
  refine RSame.calls (K := fun r => ∃ c : Bool, r = [.bool c] ∧ (c = true ↔ Tm.mk k s v xs = .mk k' s' v' ys)) ?_
  unfold RSame.W
  refine ifE (fun h1 => ifB (fun h2 => ifE (fun h3 => ?_) (fun h3 => ⟨false, rfl, by simp [h3]⟩)) (fun h2 => ⟨false, rfl, by simp [strEq] at h2; simp [h2]⟩)) (fun h1 => ⟨false, rfl, by simp [h1]⟩)
  have h2' : s = s' := by simpa [strEq] using h2
  refine (SameTypes_of ih ys (by omega)).mono fun r ⟨c, hr, hc⟩ => ⟨c, hr, c, rfl, by rw [hc]; simp [h1, h2', h3]⟩
theorem SameTypes_spec (xs ys : List Tm) (hs : sizes xs ≤ big) : PCalls ax 22 [.sl 4 (encs xs), .sl 4 (encs ys)] fun r => ∃ c : Bool, r = [.bool c] ∧ (c = true ↔ xs = ys) :=
  SameTypes_of (fun x _ y h => RSame_spec x y h) ys hs
end Go.Proofs.YtdgekhanonfikaaDoor.Va
end

/- part U1C -/
section
namespace Go.Proofs.YtdgekhanonfikaaDoor.Va
open Go.Vx Go.Av Go.Uni

theorem take_any {xs : List Tm} {i : Nat} {t : Tm} {f : Tm → Bool} (h : xs[i]? = some t) : (xs.take (i + 1)).any f = ((xs.take i).any f || f t) := by
  rw [List.take_add_one, h, List.any_append]; simp
theorem take_all {xs : List Tm} {i : Nat} {t : Tm} {f : Tm → Bool} (h : xs[i]? = some t) : (xs.take (i + 1)).all f = ((xs.take i).all f && f t) := by
  rw [List.take_add_one, h, List.all_append]; simp
theorem any_of_get {xs : List Tm} {i : Nat} {t : Tm} {f : Tm → Bool} (h : xs[i]? = some t) (hf : f t = true) : xs.any f = true := List.any_eq_true.2 ⟨t, List.mem_of_getElem? h, hf⟩
theorem all_of_get {xs : List Tm} {i : Nat} {t : Tm} {f : Tm → Bool} (h : xs[i]? = some t) (hf : f t = false) : xs.all f = false := by
  rw [Bool.eq_false_iff]; intro ha
  rw [List.all_eq_true.1 ha t (List.mem_of_getElem? h)] at hf; cases hf

theorem has_spec (x : Int) : ∀ t : Tm, size t ≤ big → PCalls ax 66 [.agg (enc t), .int .i64 x] fun r => r = [.bool (hasV x t)] := by
  refine Tm.ind fun k s v xs ih => ?_
  intro hs
  refine has.calls (K := fun r => r = [.bool (hasV x (.mk k s v xs))]) ?_
  unfold has.W
  simp only [size] at hs
  have hls := length_sizes xs
  have hb : big = 1099511627776 := rfl
  refine ifE (fun hk => by simp [hasV, hk]) (fun h4 => ?_)
  refine ⟨fun us => ∃ i : Nat, i ≤ xs.length ∧ us = [.int .i64 i] ∧ (k = 2 → (xs.take i).any (hasV x) = false), fun us => match us with | .int _ i :: _ => xs.length - i.toNat | _ => 0, ⟨0, Nat.zero_le _, rfl, fun _ => rfl⟩, ?_⟩
  rintro n ⟨i, hi, e, htk⟩
  cases e
  rw [encs_length]
  refine ifD (fun hlt => ?_) (fun hge => ?_)
  · have hi' : i < xs.length := by omega
    obtain ⟨k', s', v', l', he⟩ := getEq hi'
    have hm := List.mem_of_getElem? he
    have hsz := size_mem hm
    have hw : IntKind.i64.wrap ((i : Int) + 1) = ((i + 1 : Nat) : Int) := by rw [w64 (by omega) (by omega)]; push_cast; rfl
    refine ⟨by omega, hlt, k', s', v', encs l', lrow he, ifE (fun hk => ?_) (fun hk => ?_)⟩
    · refine (ih _ hm (by omega)).mono fun r hr => ⟨_, hr, ifB (fun h => ?_) (fun h => ?_)⟩
      · subst hk; simp [hasV, hasVs_eq, any_of_get he h]
      · rw [hw]
        refine ⟨⟨i + 1, hi', rfl, fun hk => ?_⟩, by simp only [Int.toNat_natCast]; omega⟩
        rw [take_any he, htk hk, h]; rfl
    · rw [hw]
      exact ⟨⟨i + 1, hi', rfl, fun h => absurd h hk⟩, by simp only [Int.toNat_natCast]; omega⟩
  · have hx : xs.take i = xs := List.take_of_length_le (by omega)
    rw [hx] at htk
    by_cases hk : k = 2
    · simp [hasV, hk, hasVs_eq, htk hk]
    · simp [hasV, h4, hk]

theorem put_spec (x : Int) (b : Tm) : ∀ t : Tm, size t ≤ big → PCalls ax 67 [.agg (enc t), .int .i64 x, .agg (enc b)] fun r => r = [.agg (enc (Uni.put x b t))] := by
  refine Tm.ind fun k s v xs ih => ?_
  intro hs
  cases b with
  | mk kb sb vb ab =>
  refine put.calls (K := fun r => r = [.agg (enc (Uni.put x (.mk kb sb vb ab) (.mk k s v xs)))]) ?_
  unfold put.W
  simp only [size] at hs
  have hls := length_sizes xs
  have hb : big = 1099511627776 := rfl
  refine ⟨fun _ => ¬ (k = 4 ∧ v = x), ifE (fun hk => ifE (fun hv => by simp [Uni.put, hk, hv, enc]) (fun hv => fun h => hv h.2)) (fun hk => fun h => hk h.1), fun h4 => ?_⟩
  refine ifNE (fun hk => by simp [Uni.put, h4, hk, enc]) (fun hk => ?_)
  refine ⟨fun us => ∃ i : Nat, i ≤ xs.length ∧ us = [.int .i64 i, .int .i64 2, .str s, .int .i64 0, .sl 4 (encs ((xs.take i).map (Uni.put x (.mk kb sb vb ab))))], fun us => match us with | .int _ i :: _ => xs.length - i.toNat | _ => 0, ⟨0, Nat.zero_le _, by simp [encs]⟩, ?_⟩
  rintro n k1 s1 v1 l1 ⟨i, hi, e⟩
  cases e
  rw [encs_length]
  refine ifD (fun hlt => ?_) (fun hge => ?_)
  · have hi' : i < xs.length := by omega
    obtain ⟨k', s', v', l', he⟩ := getEq hi'
    have hm := List.mem_of_getElem? he
    have hsz := size_mem hm
    refine ⟨by omega, hlt, k', s', v', encs l', lrow he, ?_⟩
    refine (ih _ hm (by omega)).mono fun r hr => ?_
    obtain ⟨k2, s2, v2, l2, e2⟩ : ∃ k2 s2 v2 l2, Uni.put x (.mk kb sb vb ab) (.mk k' s' v' l') = .mk k2 s2 v2 l2 := by cases h : Uni.put x (.mk kb sb vb ab) (.mk k' s' v' l'); exact ⟨_, _, _, _, rfl⟩
    refine ⟨k2, s2, v2, encs l2, by rw [hr, e2]; rfl, ?_⟩
    have hl : (encs ((xs.take i).map (Uni.put x (.mk kb sb vb ab)))).length = i := by simp; omega
    have hn : encs ((xs.take i).map (Uni.put x (.mk kb sb vb ab))) ++ [[.int .i64 k2, .str s2, .int .i64 v2, .sl 4 (encs l2)]] = encs ((xs.take (i + 1)).map (Uni.put x (.mk kb sb vb ab))) := by
      rw [← map_take_succ he, e2]; rfl
    rw [hl, w64 (by omega) (by omega), hn]
    refine ⟨by simp only [List.length_cons, List.length_nil]; omega, by simp only [List.length_cons, List.length_nil]; omega, ⟨i + 1, hi', by push_cast; rfl⟩, by simp only; omega⟩
  · have : i = xs.length := by omega
    subst this
    simp [Uni.put, hk, enc, puts_eq]

theorem data_spec (s : ByteArray) (xs : List Tm) : PCalls ax 32 [.str s, .sl 4 (encs xs)] fun r => r = [.agg (enc (.mk 2 s 0 xs))] :=
  data.calls (K := fun r => r = [.agg (enc (.mk 2 s 0 xs))]) (by unfold data.W; rfl)

/-! ### the reference's table -/
abbrev RT (M : List Tm) : List Ob := [.box [.own 1], .lst 32 4 false (encs M)]

theorem RKnown_spec (M : List Tm) : ∀ t : Tm, size t ≤ big → SCalls ax 20 [.ptr 0 0, .agg (enc t)] (RT M) fun r o => r = [.bool (known M.length t)] ∧ o = RT M := by
  refine Tm.ind fun k s v xs ih => ?_
  intro hs
  refine RKnown.calls (K := fun r o => r = [.bool (known M.length (.mk k s v xs))] ∧ o = RT M) ?_
  unfold RKnown.W
  simp only [size] at hs
  have hls := length_sizes xs
  have hb : big = 1099511627776 := rfl
  refine ⟨fun us => us = [.bool (decide (k = 1 ∨ k = 3))], ifE (fun hk => by simp [hk]) (fun hk => by simp [hk, BEq.beq]), fun b hbb => ?_⟩
  cases hbb
  refine ifD (fun h13 => ⟨by simp [known, h13], rfl⟩) (fun h13 => ifE (fun h4 => ?_) (fun h4 => ifE (fun h2 => ?_) (fun h2 => ⟨by simp [known, h13, h4, h2], rfl⟩)))
  · refine ifD (fun h => ⟨by simp [known, h4]; omega, rfl⟩) (fun h => ⟨by simp [known, h4]; omega, rfl⟩)
  · have hkk : known M.length (.mk k s v xs) = xs.all (known M.length) := by simp [known, h2, knowns_eq]
    refine ⟨fun us => ∃ i : Nat, i ≤ xs.length ∧ us = [.int .i64 i, .sl 4 (encs M)] ∧ (xs.take i).all (known M.length) = true, fun us => match us with | .int _ i :: _ => xs.length - i.toNat | _ => 0, ⟨0, Nat.zero_le _, rfl, rfl⟩, ?_⟩
    rintro n L ⟨i, hi, e, htk⟩
    cases e
    rw [encs_length]
    refine ifD (fun hlt => ?_) (fun hge => ?_)
    · have hi' : i < xs.length := by omega
      obtain ⟨k', s', v', l', he⟩ := getEq hi'
      have hm := List.mem_of_getElem? he
      have hsz := size_mem hm
      have hw : IntKind.i64.wrap ((i : Int) + 1) = ((i + 1 : Nat) : Int) := by rw [w64 (by omega) (by omega)]; push_cast; rfl
      refine ⟨by omega, hlt, k', s', v', encs l', lrow he, ?_⟩
      refine (ih _ hm (by omega)).mono fun r o ⟨hr, ho⟩ => ⟨_, _, hr, ho, ifN (fun h => ?_) (fun h => ?_)⟩
      · rw [hkk, all_of_get he h]; exact ⟨rfl, rfl⟩
      · rw [hw]
        refine ⟨⟨i + 1, hi', rfl, ?_⟩, by simp only [Int.toNat_natCast]; omega⟩
        rw [take_all he, htk, h]; rfl
    · have hx : xs.take i = xs := List.take_of_length_le (by omega)
      rw [hx] at htk
      rw [hkk, htk]; exact ⟨rfl, rfl⟩
end Go.Proofs.YtdgekhanonfikaaDoor.Va
end

/- part U1D -/
section
namespace Go.Proofs.YtdgekhanonfikaaDoor.Va
open Go.Vx Go.Av Go.Uni

/-- the program's table: of each unknown what it is bound to -/
def encB : Option Tm → List V
  | none => [.int .i64 0, .str ⟨#[]⟩, .int .i64 0, .sl 4 [], .bool false]
  | some (.mk k s v l) => [.int .i64 k, .str s, .int .i64 v, .sl 4 (encs l), .bool true]
def encBs (L : List (Option Tm)) : List (List V) := L.map encB
abbrev UT (L : List (Option Tm)) : List Ob := [.box [.own 1], .lst 69 5 false (encBs L)]
@[simp] theorem encBs_length (L : List (Option Tm)) : (encBs L).length = L.length := by simp [encBs]
theorem encB_flag (b : Option Tm) : List.take 1 (List.drop 4 (encB b)) = [.bool b.isSome] := by
  rcases b with _ | ⟨k, s, v, l⟩ <;> rfl
theorem rowB {L : List (Option Tm)} {i : Nat} {b : Option Tm} (h : L[i]? = some b) : Av.rowAt (encBs L) i = encB b := by
  rw [encBs, Av.rowAt, List.getD_eq_getElem?_getD, List.getElem?_map, h]; rfl

theorem Fresh_spec (L : List (Option Tm)) (h : L.length ≤ 1000) : SCalls ax 11 [.ptr 0 0] (UT L) fun r o => r = [.agg (enc (free L.length))] ∧ o = [.box [.own 2], .dead, .lst 69 5 false (encBs (L ++ [none]))] := by
  refine Fresh.calls (K := fun r o => r = [.agg (enc (free L.length))] ∧ o = [.box [.own 2], .dead, .lst 69 5 false (encBs (L ++ [none]))]) ?_
  unfold Fresh.W
  have he : encBs L ++ [[.int .i64 0, .str ⟨#[]⟩, .int .i64 0, .sl 4 [], .bool false]] = encBs (L ++ [none]) := by simp [encBs, encB]
  rw [he]
  simp only [encBs_length, List.length_append, List.length_cons, List.length_nil]
  refine ⟨by omega, by omega, ?_, trivial⟩
  rw [w64 (by omega) (by omega)]
  simp [enc, free, encs]
theorem Len_spec (L : List (Option Tm)) : SCalls ax 19 [.ptr 0 0] (UT L) fun r o => r = [.int .i64 L.length] ∧ o = UT L :=
  Len.calls (K := fun r o => r = [.int .i64 L.length] ∧ o = UT L) (by unfold Len.W; simp)
theorem New_spec : SCalls ax 9 [] [] fun r o => r = [.ptr 0 0] ∧ o = [.box [.nls]] :=
  New.calls (K := fun r o => r = [.ptr 0 0] ∧ o = [.box [.nls]]) (by unfold New.W; exact ⟨rfl, rfl⟩)
theorem RFresh_spec (M : List Tm) (h : M.length ≤ 1000) : SCalls ax 12 [.ptr 0 0] (RT M) fun r o => r = [.agg (enc (free M.length))] ∧ o = [.box [.own 2], .dead, .lst 32 4 false (encs (M ++ [free M.length]))] := by
  refine RFresh.calls (K := fun r o => r = [.agg (enc (free M.length))] ∧ o = [.box [.own 2], .dead, .lst 32 4 false (encs (M ++ [free M.length]))]) ?_
  unfold RFresh.W
  have hset : List.set (encs M ++ [[.int .i64 0, .str ⟨#[]⟩, .int .i64 0, .sl 4 []]]) M.length [.int .i64 4, .str ⟨#[]⟩, .int .i64 M.length, .sl 4 []] = encs (M ++ [free M.length]) := by
    rw [List.set_append_right _ _ (by simp)]
    simp [free, enc, encs]
  simp only [encs_length, List.length_append, List.length_cons, List.length_nil, List.length_set, Int.toNat_natCast]
  have fin : PCalls ax 17 [.int .i64 (IntKind.i64.wrap (((M.length + (0 + 1) : Nat) : Int) - 1))] fun r => r = [.agg (enc (free M.length))] := by
    have := Free_spec (IntKind.i64.wrap (((M.length + (0 + 1) : Nat) : Int) - 1))
    have e : IntKind.i64.wrap (((M.length + (0 + 1) : Nat) : Int) - 1) = M.length := by rw [w64 (by omega) (by omega)]; omega
    rw [e] at this ⊢; exact this
  have hwr : IntKind.i64.wrap (((M.length + (0 + 1) : Nat) : Int) - 1) = M.length := by rw [w64 (by omega) (by omega)]; omega
  have half : PCalls ax 17 [.int .i64 M.length] fun r => ∃ (n1 : Int) (s2 : ByteArray) (n3 : Int) (l4 : List (List V)), r = [.agg [.int .i64 n1, .str s2, .int .i64 n3, .sl 4 l4]] ∧ List.set (encs M ++ [[.int .i64 0, .str ⟨#[]⟩, .int .i64 0, .sl 4 []]]) M.length [.int .i64 n1, .str s2, .int .i64 n3, .sl 4 l4] = encs (M ++ [free M.length]) :=
    (Free_spec M.length).mono fun r hr => ⟨4, ⟨#[]⟩, M.length, [], by rw [hr]; rfl, hset⟩
  have h1 : ∀ (l : List (List V)), l = encs (M ++ [free M.length]) → PCalls ax 17 [.int .i64 (IntKind.i64.wrap (((M.length + (0 + 1) : Nat) : Int) - 1))] fun r => ∃ (n6 : Int) (s7 : ByteArray) (n8 : Int) (l9 : List (List V)), r = [.agg [.int .i64 n6, .str s7, .int .i64 n8, .sl 4 l9]] ∧ ([V.agg [.int .i64 n6, .str s7, .int .i64 n8, .sl 4 l9]] = [.agg (enc (free M.length))] ∧ [Ob.box [.own 2], .dead, .lst 32 4 false l] = [.box [.own 2], .dead, .lst 32 4 false (encs (M ++ [free M.length]))]) :=
    fun l hl => fin.mono fun r hr => ⟨4, ⟨#[]⟩, M.length, [], by rw [hr]; rfl, rfl, by rw [hl]⟩
  constructor
  · refine half.mono fun r ⟨a, b, c, d, hr, hs⟩ => ⟨a, b, c, d, hr, by omega, by omega, by omega, by omega, ⟨by omega, h1 _ hs⟩, by omega, h1 _ hs⟩
  · refine half.mono fun r ⟨a, b, c, d, hr, hs⟩ => ⟨a, b, c, d, hr, by omega, by omega, by omega, by omega, ⟨by omega, h1 _ hs⟩, by omega, h1 _ hs⟩
end Go.Proofs.YtdgekhanonfikaaDoor.Va
end

/- part U1E -/
section
namespace Go.Proofs.YtdgekhanonfikaaDoor.Va
open Go.Vx Go.Av Go.Uni

abbrev KU (L : List (Option Tm)) : List Ob := [.box [.ptr 1 0], .box [.own 2], .lst 69 5 false (encBs L)]

theorem known1_of {L : List (Option Tm)} {t : Tm} (h : SCalls ax 51 [.ptr 0 0, .agg (enc t)] (UT L) fun r o => r = [.bool (known L.length t)] ∧ o = UT L) :
    SCalls ax 64 [.agg (enc t), .ptr 0 0] (KU L) fun r o => r = [.bool (!known L.length t)] ∧ o = KU L := by
  cases t with
  | mk k s v xs =>
  refine known1.calls (K := fun r o => r = [.bool (!known L.length (.mk k s v xs))] ∧ o = KU L) ?_
  unfold known1.W
  exact h.mono fun r o ⟨hr, ho⟩ => ⟨_, _, hr, ho, rfl, rfl⟩

theorem IndexK_of {L : List (Option Tm)} {xs : List Tm} (hs : sizes xs ≤ big) (ih : ∀ t ∈ xs, SCalls ax 51 [.ptr 0 0, .agg (enc t)] (UT L) fun r o => r = [.bool (known L.length t)] ∧ o = UT L) :
    SCalls ax 71 [.sl 4 (encs xs), .fn 64 [] [.ptr 0 0]] (KU L) fun r o => ∃ n : Int, r = [.int .i64 n] ∧ o = KU L ∧ (decide (n ≥ 0) = !xs.all (known L.length)) := by
  refine IndexK.calls (K := fun r o => ∃ n : Int, r = [.int .i64 n] ∧ o = KU L ∧ (decide (n ≥ 0) = !xs.all (known L.length))) ?_
  unfold IndexK.W
  have hls := length_sizes xs
  have hb : big = 1099511627776 := rfl
  refine ⟨fun us => ∃ i : Nat, i ≤ xs.length ∧ us = [.int .i64 i, .sl 5 (encBs L)] ∧ (xs.take i).all (known L.length) = true, fun us => match us with | .int _ i :: _ => xs.length - i.toNat | _ => 0, ⟨0, Nat.zero_le _, rfl, rfl⟩, ?_⟩
  rintro n M ⟨i, hi, e, htk⟩
  cases e
  rw [encs_length]
  refine ifD (fun hlt => ?_) (fun hge => ?_)
  · have hi' : i < xs.length := by omega
    obtain ⟨k', s', v', l', he⟩ := getEq hi'
    have hm := List.mem_of_getElem? he
    have hw : IntKind.i64.wrap ((i : Int) + 1) = ((i + 1 : Nat) : Int) := by rw [w64 (by omega) (by omega)]; push_cast; rfl
    refine ⟨by omega, hlt, k', s', v', encs l', lrow he, ?_⟩
    refine (known1_of (ih _ hm)).mono fun r o ⟨hr, ho⟩ => ⟨_, _, hr, ho, ifN (fun h => ?_) (fun h => ?_)⟩
    · exact ⟨i, rfl, rfl, by rw [all_of_get he h]; simp⟩
    · rw [hw]
      refine ⟨⟨i + 1, hi', rfl, ?_⟩, by simp only [Int.toNat_natCast]; omega⟩
      rw [take_all he, htk, h]; rfl
  · have hx : xs.take i = xs := List.take_of_length_le (by omega)
    rw [hx] at htk
    exact ⟨-1, rfl, rfl, by rw [htk]; simp⟩

theorem ContainsK_of {L : List (Option Tm)} {xs : List Tm} (hs : sizes xs ≤ big) (ih : ∀ t ∈ xs, SCalls ax 51 [.ptr 0 0, .agg (enc t)] (UT L) fun r o => r = [.bool (known L.length t)] ∧ o = UT L) :
    SCalls ax 63 [.sl 4 (encs xs), .fn 64 [] [.ptr 0 0]] (KU L) fun r o => r = [.bool (!xs.all (known L.length))] ∧ o = KU L := by
  refine ContainsK.calls (K := fun r o => r = [.bool (!xs.all (known L.length))] ∧ o = KU L) ?_
  unfold ContainsK.W
  exact (IndexK_of hs ih).mono fun r o ⟨n, hr, ho, hn⟩ => ⟨n, _, hr, ho, by rw [hn], rfl⟩

theorem known_spec (L : List (Option Tm)) : ∀ t : Tm, size t ≤ big → SCalls ax 51 [.ptr 0 0, .agg (enc t)] (UT L) fun r o => r = [.bool (known L.length t)] ∧ o = UT L := by
  refine Tm.ind fun k s v xs ih => ?_
  intro hs
  refine known.calls (K := fun r o => r = [.bool (Uni.known L.length (.mk k s v xs))] ∧ o = UT L) ?_
  unfold known.W
  simp only [size] at hs
  refine ⟨fun us => us = [.bool (decide (k = 1 ∨ k = 3))], ifE (fun hk => by simp [hk]) (fun hk => by simp [hk, BEq.beq]), fun b hbb => ?_⟩
  cases hbb
  refine ifD (fun h13 => ⟨by simp [Uni.known, h13], rfl⟩) (fun h13 => ifE (fun h4 => ?_) (fun h4 => ifE (fun h2 => ?_) (fun h2 => ⟨by simp [Uni.known, h13, h4, h2], rfl⟩)))
  · refine ifD (fun h => ⟨by simp [Uni.known, h4]; omega, rfl⟩) (fun h => ⟨by simp [Uni.known, h4]; omega, rfl⟩)
  · have hkk : Uni.known L.length (.mk k s v xs) = xs.all (Uni.known L.length) := by simp [Uni.known, h2, knowns_eq]
    refine (ContainsK_of (by omega) fun t ht => ih t ht (by have := size_mem ht; omega)).mono fun r o ⟨hr, ho⟩ => ⟨_, _, hr, ho, by rw [hkk]; simp, rfl⟩
end Go.Proofs.YtdgekhanonfikaaDoor.Va
end

/- part U1F -/
section
namespace Go.Proofs.YtdgekhanonfikaaDoor.Va
open Go.Vx Go.Av Go.Uni

/-- the error of types that are handed in: by its variable -/
def taken (n : Nat) (xs : List Tm) : Option Nat := if xs.all (known n) = false then some 1 else if xs.any (fun t => decide (200 < nodes t)) = true then some 0 else none
/-- an error's number -/
def numE : Option Nat → Int
  | none => 0
  | some 0 => 4
  | some 1 => 16
  | some 2 => 6
  | _ => -1

theorem Rtake_spec (M : List Tm) (xs : List Tm) (hs : sizes xs ≤ big) : SCalls ax 36 [.ptr 0 0, .sl 4 (encs xs)] (RT M) fun r o => r = [.int .i64 (numE (taken M.length xs))] ∧ o = RT M := by
  refine Rtake.calls (K := fun r o => r = [.int .i64 (numE (taken M.length xs))] ∧ o = RT M) ?_
  unfold Rtake.W
  have hls := length_sizes xs
  have hb : big = 1099511627776 := rfl
  refine ⟨fun us => ∃ i : Nat, i ≤ xs.length ∧ us = [.int .i64 i, .sl 4 (encs M)] ∧ (xs.take i).all (known M.length) = true, fun us => match us with | .int _ i :: _ => xs.length - i.toNat | _ => 0, ⟨0, Nat.zero_le _, rfl, rfl⟩, ?_⟩
  rintro n L ⟨i, hi, e, htk⟩
  cases e
  rw [encs_length]
  refine ifD (fun hlt => ?_) (fun hge => ?_)
  · have hi' : i < xs.length := by omega
    obtain ⟨k', s', v', l', he⟩ := getEq hi'
    have hm := List.mem_of_getElem? he
    have hsz := size_mem hm
    have hw : IntKind.i64.wrap ((i : Int) + 1) = ((i + 1 : Nat) : Int) := by rw [w64 (by omega) (by omega)]; push_cast; rfl
    refine ⟨by omega, hlt, k', s', v', encs l', lrow he, ?_⟩
    refine (RKnown_spec M (.mk k' s' v' l') (by omega)).mono fun r o ⟨hr, ho⟩ => ⟨_, _, hr, ho, ifN (fun h => ?_) (fun h => ?_)⟩
    · exact ⟨by simp [taken, all_of_get he h, numE], rfl⟩
    · rw [hw]
      refine ⟨⟨i + 1, hi', rfl, ?_⟩, by simp only [Int.toNat_natCast]; omega⟩
      rw [take_all he, htk, h]; rfl
  · have hx : xs.take i = xs := List.take_of_length_le (by omega)
    rw [hx] at htk
    refine ⟨fun us => ∃ i : Nat, i ≤ xs.length ∧ us = [.int .i64 i] ∧ (xs.take i).any (fun t => decide (200 < nodes t)) = false, fun us => match us with | .int _ i :: _ => xs.length - i.toNat | _ => 0, ⟨0, Nat.zero_le _, rfl, rfl⟩, ?_⟩
    rintro n ⟨j, hj, e, hth⟩
    cases e
    refine ifD (fun hlt => ?_) (fun hge => ?_)
    · have hj' : j < xs.length := by omega
      obtain ⟨k', s', v', l', he⟩ := getEq hj'
      have hm := List.mem_of_getElem? he
      have hsz := size_mem hm
      have hw : IntKind.i64.wrap ((j : Int) + 1) = ((j + 1 : Nat) : Int) := by rw [w64 (by omega) (by omega)]; push_cast; rfl
      refine ⟨by omega, hlt, k', s', v', encs l', lrow he, ?_⟩
      refine (Nodes_spec (.mk k' s' v' l') (by omega)).mono fun r hr => ⟨_, hr, ifD (fun h => ?_) (fun h => ?_)⟩
      · refine ⟨?_, rfl⟩
        have := any_of_get (f := fun t => decide (200 < nodes t)) he (by simp; omega)
        simp [taken, htk, this, numE]
      · rw [hw]
        refine ⟨⟨j + 1, hj', rfl, ?_⟩, by simp only [Int.toNat_natCast]; omega⟩
        rw [take_any he, hth]; simp; omega
    · have hx : xs.take j = xs := List.take_of_length_le (by omega)
      rw [hx] at hth
      exact ⟨by simp [taken, htk, hth, numE], rfl⟩

theorem take_spec (M : List (Option Tm)) (xs : List Tm) (hs : sizes xs ≤ big) : SCalls ax 33 [.ptr 0 0, .sl 4 (encs xs)] (UT M) fun r o => r = [.err (taken M.length xs)] ∧ o = UT M := by
  refine take.calls (K := fun r o => r = [.err (taken M.length xs)] ∧ o = UT M) ?_
  unfold take.W
  have hls := length_sizes xs
  have hb : big = 1099511627776 := rfl
  refine ⟨fun us => ∃ i : Nat, i ≤ xs.length ∧ us = [.int .i64 i, .sl 5 (encBs M)] ∧ (xs.take i).all (known M.length) = true, fun us => match us with | .int _ i :: _ => xs.length - i.toNat | _ => 0, ⟨0, Nat.zero_le _, rfl, rfl⟩, ?_⟩
  rintro n L ⟨i, hi, e, htk⟩
  cases e
  rw [encs_length]
  refine ifD (fun hlt => ?_) (fun hge => ?_)
  · have hi' : i < xs.length := by omega
    obtain ⟨k', s', v', l', he⟩ := getEq hi'
    have hm := List.mem_of_getElem? he
    have hsz := size_mem hm
    have hw : IntKind.i64.wrap ((i : Int) + 1) = ((i + 1 : Nat) : Int) := by rw [w64 (by omega) (by omega)]; push_cast; rfl
    refine ⟨by omega, hlt, k', s', v', encs l', lrow he, ?_⟩
    refine (known_spec M (.mk k' s' v' l') (by omega)).mono fun r o ⟨hr, ho⟩ => ⟨_, _, hr, ho, ifN (fun h => ?_) (fun h => ?_)⟩
    · exact ⟨by simp [taken, all_of_get he h], rfl⟩
    · rw [hw]
      refine ⟨⟨i + 1, hi', rfl, ?_⟩, by simp only [Int.toNat_natCast]; omega⟩
      rw [take_all he, htk, h]; rfl
  · have hx : xs.take i = xs := List.take_of_length_le (by omega)
    rw [hx] at htk
    refine ⟨fun us => ∃ i : Nat, i ≤ xs.length ∧ us = [.int .i64 i] ∧ (xs.take i).any (fun t => decide (200 < nodes t)) = false, fun us => match us with | .int _ i :: _ => xs.length - i.toNat | _ => 0, ⟨0, Nat.zero_le _, rfl, rfl⟩, ?_⟩
    rintro n ⟨j, hj, e, hth⟩
    cases e
    refine ifD (fun hlt => ?_) (fun hge => ?_)
    · have hj' : j < xs.length := by omega
      obtain ⟨k', s', v', l', he⟩ := getEq hj'
      have hm := List.mem_of_getElem? he
      have hsz := size_mem hm
      have hw : IntKind.i64.wrap ((j : Int) + 1) = ((j + 1 : Nat) : Int) := by rw [w64 (by omega) (by omega)]; push_cast; rfl
      refine ⟨by omega, hlt, k', s', v', encs l', lrow he, ?_⟩
      refine (raw_spec (.mk k' s' v' l') (by omega)).mono fun r hr => ⟨_, hr, ifD (fun h => ?_) (fun h => ?_)⟩
      · refine ⟨?_, rfl⟩
        have := any_of_get (f := fun t => decide (200 < nodes t)) he (by simp; omega)
        simp [taken, htk, this]
      · rw [hw]
        refine ⟨⟨j + 1, hj', rfl, ?_⟩, by simp only [Int.toNat_natCast]; omega⟩
        rw [take_any he, hth]; simp; omega
    · have hx : xs.take j = xs := List.take_of_length_le (by omega)
      rw [hx] at hth
      exact ⟨by simp [taken, htk, hth], rfl⟩
end Go.Proofs.YtdgekhanonfikaaDoor.Va
end

/- part U1G -/
section
namespace Go.Uni
mutual
/-- a type with its unknowns replaced by what the table has -/
def inst (M : List Tm) : Tm → Tm
  | .mk k s v xs => if k = 4 then (match M[v.toNat]? with | some t => t | none => .mk k s v xs) else if k = 2 then .mk 2 s 0 (insts M xs) else .mk k s v xs
def insts (M : List Tm) : List Tm → List Tm
  | [] => []
  | t :: r => inst M t :: insts M r
end
theorem insts_eq {M : List Tm} : ∀ xs, insts M xs = xs.map (inst M)
  | [] => rfl
  | t :: r => by rw [insts, insts_eq r]; rfl
theorem nodes_pos (t : Tm) : 1 ≤ nodes t := by cases t; simp only [nodes]; split <;> omega
/-- the sum of the nodes -/
theorem nodesL_mem {a : Tm} : ∀ {xs : List Tm}, a ∈ xs → nodes a ≤ nodesL xs
  | b :: r, h => by
    simp only [nodesL]
    rcases List.mem_cons.1 h with rfl | h
    · omega
    · have := nodesL_mem h; omega
end Go.Uni
namespace Go.Proofs.YtdgekhanonfikaaDoor.Va
open Go.Vx Go.Av Go.Uni

theorem Rhead_spec (M : List Tm) (t : Tm) (hk : known M.length t = true) : SCalls ax 55 [.ptr 0 0, .agg (enc t)] (RT M) fun r o => ∃ u, r = [.agg (enc u)] ∧ o = RT M ∧ (if t.kind = 4 then M[t.var.toNat]? = some u else u = t) := by
  cases t with
  | mk k s v xs =>
  refine Rhead.calls (K := fun r o => ∃ u, r = [.agg (enc u)] ∧ o = RT M ∧ (if (Tm.mk k s v xs).kind = 4 then M[(Tm.mk k s v xs).var.toNat]? = some u else u = Tm.mk k s v xs)) ?_
  unfold Rhead.W
  refine ifE (fun h4 => ?_) (fun h4 => ⟨.mk k s v xs, rfl, rfl, by simp [h4]⟩)
  have hv : 0 ≤ v ∧ v < M.length := by simpa [known, h4] using hk
  obtain ⟨k', s', v', l', he⟩ := getEq (xs := M) (i := v.toNat) (by omega)
  rw [encs_length]
  exact ⟨hv.1, hv.2, k', s', v', encs l', row_encs he, .mk k' s' v' l', rfl, rfl, by simp [h4, he]⟩

/-- what the table has: it stands for itself, or holds no unknown that is bound -/
theorem Rnow_spec (M : List Tm) (hM : ∀ t ∈ M, size t ≤ 1000000 ∧ Uni.clean t = t) : ∀ (t : Tm) (left : Int), size t ≤ big → Uni.clean t = t → known M.length t = true → 0 ≤ left → left ≤ 1073741824 →
    SCalls ax 41 [.ptr 0 0, .agg (enc t), .int .i64 left] (RT M) fun r o => ∃ (y : Tm) (l : Int), r = [.agg (enc y), .int .i64 l] ∧ o = RT M ∧ -1000000 ≤ l ∧ l < left ∧ (0 ≤ l → y = inst M t ∧ l = left - nodes (inst M t)) ∧ (l < 0 → left < nodes (inst M t)) := by
  refine Tm.ind fun k s v xs ih => ?_
  intro left hs hcl hk h0 h1
  refine Rnow.calls (K := fun r o => ∃ (y : Tm) (l : Int), r = [.agg (enc y), .int .i64 l] ∧ o = RT M ∧ -1000000 ≤ l ∧ l < left ∧ (0 ≤ l → y = inst M (.mk k s v xs) ∧ l = left - nodes (inst M (.mk k s v xs))) ∧ (l < 0 → left < nodes (inst M (.mk k s v xs)))) ?_
  unfold Rnow.W
  simp only [size] at hs
  have hls := length_sizes xs
  have hb : big = 1099511627776 := rfl
  rw [encs_length]
  refine ⟨fun us => ∃ b : Bool, us = [.bool b] ∧ (b = true → k = 4) ∧ (b = false → k = 4 → ∃ s' l', M[v.toNat]? = some (.mk 4 s' v l')), ?_, ?_⟩
  · refine ifE (fun h4 => ?_) (fun h4 => ⟨false, rfl, (fun h => by cases h), fun _ h => absurd h h4⟩)
    have hv : 0 ≤ v ∧ v < M.length := by simpa [known, h4] using hk
    obtain ⟨k', s', v', l', he⟩ := getEq (xs := M) (i := v.toNat) (by omega)
    have hr : Av.rowAt (encs M) v.toNat = enc (.mk k' s' v' l') := by rw [← enc_take, ← row_encs he]; simp [encs_eq, Av.rowAt, he, enc_take]
    refine ⟨hv.1, hv.2, k', by rw [hr]; rfl, ifNE (fun hne => ⟨true, rfl, fun _ => h4, fun h => by cases h⟩) (fun heq => ⟨hv.1, hv.2, v', by rw [hr]; rfl, v' != v, rfl, fun _ => h4, fun h _ => ?_⟩)⟩
    have : v' = v := by simpa using h
    subst this; subst heq
    exact ⟨s', l', he⟩
  · rintro b ⟨b', e, hb1, hb2⟩
    cases e
    refine ifB (fun hbt => ?_) (fun hbf => ?_)
    · have h4 := hb1 hbt
      have hv : 0 ≤ v ∧ v < M.length := by simpa [known, h4] using hk
      obtain ⟨k', s', v', l', he⟩ := getEq (xs := M) (i := v.toNat) (by omega)
      have hsm := (hM _ (List.mem_of_getElem? he)).1
      have hn := nodes_le (.mk k' s' v' l')
      have hnp := nodes_pos (.mk k' s' v' l')
      have hi : inst M (.mk k s v xs) = .mk k' s' v' l' := by simp [inst, h4, he]
      refine ⟨hv.1, hv.2, k', s', v', encs l', row_encs he, ?_⟩
      refine (Nodes_spec (.mk k' s' v' l') (by omega)).mono fun r hr => ⟨_, hr, .mk k' s' v' l', _, rfl, rfl, ?_⟩
      rw [w64 (by omega) (by omega), hi]
      exact ⟨by omega, by omega, fun _ => ⟨rfl, rfl⟩, fun _ => by omega⟩
    · rw [w64 (by omega) (by omega)]
      have hN : nodesL ([] : List Tm) = 0 := rfl
      refine ifNE (fun h2 => ?_) (fun h2 => ?_)
      · have hit : inst M (.mk k s v xs) = .mk k s v xs := by
          by_cases h4 : k = 4
          · subst h4
            obtain ⟨s', l', he⟩ := hb2 hbf rfl
            have hcl' := (hM _ (List.mem_of_getElem? he)).2
            simp [Uni.clean] at hcl hcl'
            simp [inst, he, hcl.2, hcl'.2]
            simp [← hcl.1, ← hcl'.1]
          · simp [inst, h4, h2]
        have hn : nodes (.mk k s v xs) = 1 := by simp [nodes, h2]
        refine ⟨.mk k s v xs, left - 1, rfl, rfl, by omega, by omega, fun _ => ?_, fun _ => ?_⟩
        · rw [hit, hn]; exact ⟨rfl, by omega⟩
        · rw [hit, hn]; omega
      · subst h2
        have hclx : ∀ x ∈ xs, Uni.clean x = x := by
          simp [Uni.clean, cleans_eq] at hcl
          exact fun x hx => by
            have := hcl.2
            obtain ⟨i, hi, rfl⟩ := List.getElem_of_mem hx
            have h := congrArg (fun l => l[i]?) this
            simp [hi] at h
            exact h
        have hkx : ∀ x ∈ xs, known M.length x = true := by
          simp only [known, knowns_eq] at hk
          simpa using hk
        have hit : inst M (.mk 2 s v xs) = .mk 2 s 0 (xs.map (inst M)) := by simp [inst, insts_eq]
        have hnt : nodes (inst M (.mk 2 s v xs)) = 1 + nodesL (xs.map (inst M)) := by rw [hit]; simp [nodes]
        have hle : ∀ i, nodesL ((xs.take i).map (inst M)) ≤ nodesL (xs.map (inst M)) := fun i => by
          conv => rhs; rw [← List.take_append_drop i xs, List.map_append, nodesL_append]
          omega
        refine ⟨fun us => ∃ (i : Nat) (acc : List Tm) (l : Int), us = [.int .i64 l, .int .i64 i, .int .i64 2, .str s, .int .i64 0, .sl 4 (encs acc), .sl 4 (encs M)] ∧ i ≤ xs.length ∧ acc.length = i ∧ -1000000 ≤ l ∧ l < left ∧ (0 ≤ l → acc = (xs.take i).map (inst M) ∧ l = left - 1 - nodesL ((xs.take i).map (inst M))) ∧ (l < 0 → left < 1 + nodesL ((xs.take i).map (inst M))),
          fun us => match us with | _ :: .int _ i :: _ => xs.length - i.toNat | _ => 0, ⟨0, [], left - 1, rfl, Nat.zero_le _, rfl, by omega, by omega, fun _ => ⟨rfl, by simp [hN]⟩, fun _ => by simp [hN]; omega⟩, ?_⟩
        rintro n73 n74 n75 s76 n77 l78 l79 ⟨i, acc, l, e, hi, hacc, hl1, hl2, hl3, hl4⟩
        cases e
        rw [encs_length]
        refine ifD (fun hlt => ?_) (fun hge => ?_)
        · have hi' : i < xs.length := by omega
          obtain ⟨k', s', v', l', he⟩ := getEq hi'
          have hm := List.mem_of_getElem? he
          have hsz := size_mem hm
          have hw : IntKind.i64.wrap ((i : Int) + 1) = ((i + 1 : Nat) : Int) := by rw [w64 (by omega) (by omega)]; push_cast; rfl
          refine ⟨by omega, hlt, k', s', v', encs l', lrow he, ifD (fun hneg => ?_) (fun hpos => ?_)⟩
          · refine ⟨.mk 2 s 0 acc, n73, rfl, rfl, hl1, hl2, fun h => by omega, fun _ => ?_⟩
            have := hl4 hneg
            have := hle i
            rw [hnt]; omega
          · obtain ⟨ha, hl⟩ := hl3 (by omega)
            refine (ih (.mk k' s' v' l') hm n73 (by omega) (hclx _ hm) (hkx _ hm) (by omega) (by omega)).mono fun r o ⟨y, l2, hr, ho, b1, b2, b3, b4⟩ => ?_
            obtain ⟨ky, sy, vy, ly⟩ := y
            have hlen : (encs acc).length = i := by simp [hacc]
            have hap : encs acc ++ [[.int .i64 ky, .str sy, .int .i64 vy, .sl 4 (encs ly)]] = encs (acc ++ [.mk ky sy vy ly]) := by simp [encs, enc]
            have htk : nodesL ((xs.take (i + 1)).map (inst M)) = nodesL ((xs.take i).map (inst M)) + nodes (inst M (.mk k' s' v' l')) := by
              rw [List.take_add_one, he, List.map_append, nodesL_append]; simp [nodesL]
            refine ⟨ky, sy, vy, encs ly, l2, encs M, hr, ho, ?_⟩
            rw [hlen, hw, hap]
            refine ⟨by simp only [List.length_cons, List.length_nil]; omega, by simp only [List.length_cons, List.length_nil]; omega, ⟨i + 1, acc ++ [.mk ky sy vy ly], l2, rfl, hi', by simp [hacc], b1, by omega, fun h => ?_, fun h => ?_⟩, by simp only [Int.toNat_natCast]; omega⟩
            · obtain ⟨c1, c2⟩ := b3 h
              refine ⟨?_, by rw [htk]; omega⟩
              rw [c1, ha, List.take_add_one, he, List.map_append]; rfl
            · have := b4 h
              rw [htk]; omega
        · have hx : xs.take i = xs := List.take_of_length_le (by omega)
          rw [hx] at hl3 hl4
          refine ⟨.mk 2 s 0 acc, n73, rfl, rfl, hl1, hl2, fun h => ?_, fun h => by rw [hnt]; have := hl4 h; omega⟩
          obtain ⟨c1, c2⟩ := hl3 h
          exact ⟨by rw [hit, c1], by rw [hnt]; omega⟩
end Go.Proofs.YtdgekhanonfikaaDoor.Va
end

/- part U1H -/
section
namespace Go.Uni
theorem sizes_map {f : Tm → Tm} {B : Nat} : ∀ xs : List Tm, (∀ x ∈ xs, size (f x) ≤ size x * B) → sizes (xs.map f) ≤ sizes xs * B
  | [], _ => by simp [sizes]
  | x :: r, h => by
    have h1 := h x List.mem_cons_self
    have h2 := sizes_map r fun y hy => h y (List.mem_cons_of_mem _ hy)
    simp only [List.map_cons, sizes, Nat.add_mul]; omega
theorem size_put (v : Int) (b : Tm) : ∀ t, size (put v b t) ≤ size t * size b := by
  have hb := size_pos b
  refine Tm.ind fun k s w xs ih => ?_
  unfold put
  split
  · have := Nat.mul_le_mul_right (size b) (size_pos (.mk k s w xs)); omega
  · split
    · have := sizes_map xs ih
      rw [puts_eq]
      simp only [size, Nat.add_mul]; omega
    · have := Nat.mul_le_mul_left (size (.mk k s w xs)) hb; omega
theorem size_inst {M : List Tm} {B : Nat} (hB : 1 ≤ B) (hM : ∀ x ∈ M, size x ≤ B) : ∀ t, size (inst M t) ≤ size t * B := by
  refine Tm.ind fun k s w xs ih => ?_
  have keep : size (.mk k s w xs) ≤ size (.mk k s w xs) * B := by have := Nat.mul_le_mul_left (size (.mk k s w xs)) hB; omega
  unfold inst
  split
  · split
    · rename_i t ht
      have h1 := hM t (List.mem_of_getElem? ht)
      have := Nat.mul_le_mul_right B (size_pos (.mk k s w xs)); omega
    · exact keep
  · split
    · have := sizes_map xs ih
      rw [insts_eq]
      simp only [size, Nat.add_mul]; omega
    · exact keep
/-- what binding an unknown comes to: the error's number and the table -/
def bindR (M : List Tm) (v : Int) (b : Tm) : Int × List Tm := if hasV v b = true then (6, M) else if M.any (fun x => decide (200 < nodes (put v b x))) = true then (4, M) else (0, M.map (put v b))
end Go.Uni
namespace Go.Proofs.YtdgekhanonfikaaDoor.Va
open Go.Vx Go.Av Go.Uni

abbrev RT2 (M : List Tm) : List Ob := [.box [.own 2], .dead, .lst 32 4 false (encs M)]

theorem Rbind_spec (M : List Tm) (hM : ∀ x ∈ M, size x ≤ 200 ∧ Uni.clean x = x) (hMl : M.length ≤ 1000) (v : Int) (a : Tm) (hs : size a ≤ 200) (hc : Uni.clean a = a) (hk : known M.length a = true) :
    SCalls ax 56 [.ptr 0 0, .int .i64 v, .agg (enc a)] (RT M) fun r o => r = [.int .i64 (bindR M v (inst M a)).1] ∧ o = RT2 (bindR M v (inst M a)).2 := by
  have hsi := size_inst (B := 200) (by omega) (fun x hx => (hM x hx).1) a
  have hsp := fun x => size_put v (inst M a) x
  have hin := nodes_le (inst M a)
  obtain ⟨k, s, w, xs⟩ := a
  refine Rbind.calls (K := fun r o => r = [.int .i64 (bindR M v (inst M (.mk k s w xs))).1] ∧ o = RT2 (bindR M v (inst M (.mk k s w xs))).2) ?_
  unfold Rbind.W
  have hb : big = 1099511627776 := rfl
  refine (Rnow_spec M (fun x hx => ⟨by have := (hM x hx).1; omega, (hM x hx).2⟩) (.mk k s w xs) 1073741824 (by omega) hc hk (by omega) (by omega)).mono fun r o ⟨y, l, hr, ho, b1, b2, b3, b4⟩ => ?_
  have hl : 0 ≤ l := by
    rcases Int.lt_or_le l 0 with h | h
    · have := b4 h; omega
    · exact h
  obtain ⟨hy, _⟩ := b3 hl
  rw [← hy] at hsi hsp hin ⊢
  obtain ⟨ky, sy, vy, ly⟩ := y
  refine ⟨ky, sy, vy, encs ly, l, encs M, hr, ho, ?_⟩
  refine (has_spec v (.mk ky sy vy ly) (by omega)).mono fun r hr => ⟨_, hr, ifB (fun h => by simp [bindR, h]) (fun hh => ?_)⟩
  refine ⟨fun us => ∃ i : Nat, i ≤ M.length ∧ us = [.sl 4 (encs ((M.take i).map (Uni.put v (.mk ky sy vy ly)))), .int .i64 i] ∧ (M.take i).any (fun x => decide (200 < nodes (Uni.put v (.mk ky sy vy ly) x))) = false, fun us => match us with | [_, .int _ i] => M.length - i.toNat | _ => 0, ⟨0, Nat.zero_le _, rfl, rfl⟩, ?_⟩
  rintro l61 n62 ⟨i, hi, e, htk⟩
  cases e
  rw [encs_length]
  refine ifD (fun hlt => ?_) (fun hge => ?_)
  · have hi' : i < M.length := by omega
    obtain ⟨k', s', v', l', he⟩ := getEq hi'
    have hm := List.mem_of_getElem? he
    have hsx := (hM _ hm).1
    have hspx := hsp (.mk k' s' v' l')
    have hmul := Nat.mul_le_mul hsx hsi
    have hw : IntKind.i64.wrap ((i : Int) + 1) = ((i + 1 : Nat) : Int) := by rw [w64 (by omega) (by omega)]; push_cast; rfl
    refine ⟨by omega, hlt, k', s', v', encs l', lrow he, ?_⟩
    refine (put_spec v (.mk ky sy vy ly) (.mk k' s' v' l') (by omega)).mono fun r hr => ?_
    obtain ⟨k2, s2, v2, l2, e2⟩ : ∃ k2 s2 v2 l2, Uni.put v (.mk ky sy vy ly) (.mk k' s' v' l') = .mk k2 s2 v2 l2 := by cases h : Uni.put v (.mk ky sy vy ly) (.mk k' s' v' l'); exact ⟨_, _, _, _, rfl⟩
    refine ⟨k2, s2, v2, encs l2, by rw [hr, e2]; rfl, ?_⟩
    have hbnd : size (Uni.put v (.mk ky sy vy ly) (.mk k' s' v' l')) ≤ big := by
      have h3 : size (Tm.mk k' s' v' l') * size (Tm.mk ky sy vy ly) ≤ 200 * (200 * 200) := Nat.mul_le_mul hsx (by omega)
      omega
    refine (Nodes_spec (.mk k2 s2 v2 l2) (by rw [← e2]; exact hbnd)).mono fun r hr => ⟨_, hr, ifD (fun h => ?_) (fun h => ?_)⟩
    · have := any_of_get (f := fun x => decide (200 < nodes (Uni.put v (.mk ky sy vy ly) x))) he (by rw [e2]; simp; omega)
      simp [bindR, hh, this]
    · have hlen : (encs ((M.take i).map (Uni.put v (.mk ky sy vy ly)))).length = i := by simp; omega
      have hn : encs ((M.take i).map (Uni.put v (.mk ky sy vy ly))) ++ [[.int .i64 k2, .str s2, .int .i64 v2, .sl 4 (encs l2)]] = encs ((M.take (i + 1)).map (Uni.put v (.mk ky sy vy ly))) := by
        rw [← map_take_succ he, e2]; rfl
      rw [hlen, hw, hn]
      refine ⟨by simp only [List.length_cons, List.length_nil]; omega, by simp only [List.length_cons, List.length_nil]; omega, ⟨i + 1, hi', rfl, ?_⟩, by simp only [Int.toNat_natCast]; omega⟩
      rw [take_any he, htk, e2]; simp; omega
  · have hx : M.take i = M := List.take_of_length_le (by omega)
    rw [hx] at htk ⊢
    simp [bindR, hh, htk]
end Go.Proofs.YtdgekhanonfikaaDoor.Va
end

/- part U1I -/
section
namespace Go.Uni
def headR (M : List Tm) (t : Tm) : Tm := if t.kind = 4 then (match M[t.var.toNat]? with | some u => u | none => t) else t
/-- one after the other, until an error -/
def seqR (f : List Tm → Tm → Tm → Option (Int × List Tm)) : List Tm → List Tm → List Tm → Option (Int × List Tm)
  | M, x :: xs, y :: ys => match f M x y with
    | some (0, M') => seqR f M' xs ys
    | r => r
  | M, _, _ => some (0, M)
def unifyR : Nat → List Tm → Tm → Tm → Option (Int × List Tm)
  | 0, _, _, _ => none
  | n + 1, M, a, b =>
    let a' := headR M a
    let b' := headR M b
    if a'.kind = 4 ∨ b'.kind = 4 then
      if a'.kind = b'.kind ∧ a'.var = b'.var then some (0, M)
      else if a'.kind = 4 then some (bindR M a'.var (inst M b')) else some (bindR M b'.var (inst M a'))
    else if a'.kind ≠ b'.kind then some (6, M) else if a'.name ≠ b'.name then some (6, M) else if a'.args.length ≠ b'.args.length then some (6, M)
    else seqR (unifyR n) M a'.args b'.args
/-- what the reference's table holds -/
structure OkR (M : List Tm) : Prop where
  len : M.length ≤ 1000
  el : ∀ x ∈ M, size x ≤ 200 ∧ clean x = x ∧ known M.length x = true
/-- a type that unify is called with -/
def OkT (n : Nat) (t : Tm) : Prop := size t ≤ 200 ∧ clean t = t ∧ known n t = true
end Go.Uni
end

/- part U1J -/
section
namespace Go.Uni
/-- a clean type with children -/
theorem clean_mk {k : Int} {s : ByteArray} {v : Int} {xs : List Tm} (h : clean (.mk k s v xs) = .mk k s v xs) : (k = 2 → v = 0 ∧ ∀ x ∈ xs, clean x = x) ∧ (k ≠ 2 → xs = []) ∧ (k = 4 → s = ⟨#[]⟩) := by
  unfold clean at h
  refine ⟨fun hk => ?_, fun hk => ?_, fun hk => ?_⟩
  · subst hk
    simp [cleans_eq] at h
    refine ⟨h.1.symm, fun x hx => ?_⟩
    obtain ⟨i, hi, rfl⟩ := List.getElem_of_mem hx
    have h := congrArg (fun l => l[i]?) h.2
    simp [hi] at h
    exact h
  · split at h
    · simp at h; exact h.2.2
    · split at h
      · simp at h; exact h.2.2
      · simp at h; exact h.2.2
  · subst hk
    simp at h; exact h.1.symm
theorem clean_args {k : Int} {s : ByteArray} {xs : List Tm} (hk : k = 2) (h : ∀ x ∈ xs, clean x = x) : clean (.mk k s 0 xs) = .mk k s 0 xs := by
  subst hk
  simp only [clean, cleans_eq]
  have : xs.map clean = xs := by
    conv => rhs; rw [← List.map_id xs]
    exact List.map_congr_left h
  simp [this]
theorem size_clean : ∀ t, clean t = t → size t = nodes t := by
  refine Tm.ind fun k s v xs ih h => ?_
  obtain ⟨h2, h3, _⟩ := clean_mk h
  simp only [size, nodes]
  by_cases hk : k = 2
  · rw [if_pos hk]
    obtain ⟨_, hx⟩ := h2 hk
    have : ∀ ys : List Tm, (∀ y ∈ ys, size y = nodes y) → sizes ys = nodesL ys := by
      intro ys
      induction ys with
      | nil => intro _; rfl
      | cons y r ihr => intro hh; simp only [sizes, nodesL]; rw [hh y List.mem_cons_self, ihr fun z hz => hh z (List.mem_cons_of_mem _ hz)]
    rw [this xs fun x hm => ih x hm (hx x hm)]
  · rw [if_neg hk, h3 hk]; rfl

theorem clean_put {v : Int} {b : Tm} (hb : clean b = b) : ∀ t, clean t = t → clean (put v b t) = put v b t := by
  refine Tm.ind fun k s w xs ih h => ?_
  obtain ⟨h2, _, _⟩ := clean_mk h
  unfold put
  split
  · exact hb
  · split
    · rename_i hk
      obtain ⟨_, hx⟩ := h2 hk
      rw [puts_eq]
      exact clean_args rfl fun y hy => by
        obtain ⟨x, hm, rfl⟩ := List.mem_map.1 hy
        exact ih x hm (hx x hm)
    · exact h
theorem clean_inst {M : List Tm} (hM : ∀ x ∈ M, clean x = x) : ∀ t, clean t = t → clean (inst M t) = inst M t := by
  refine Tm.ind fun k s w xs ih h => ?_
  obtain ⟨h2, _, _⟩ := clean_mk h
  unfold inst
  split
  · split
    · rename_i u hu; exact hM u (List.mem_of_getElem? hu)
    · exact h
  · split
    · rename_i hk
      obtain ⟨_, hx⟩ := h2 hk
      rw [insts_eq]
      exact clean_args rfl fun y hy => by
        obtain ⟨x, hm, rfl⟩ := List.mem_map.1 hy
        exact ih x hm (hx x hm)
    · exact h
theorem known_two {n : Nat} {s : ByteArray} {v : Int} {xs : List Tm} : known n (.mk 2 s v xs) = xs.all (known n) := by simp [known, knowns_eq]
theorem known_put {n : Nat} {v : Int} {b : Tm} (hb : known n b = true) : ∀ t, known n t = true → known n (put v b t) = true := by
  refine Tm.ind fun k s w xs ih h => ?_
  unfold put
  split
  · exact hb
  · split
    · rename_i hk
      subst hk
      rw [known_two, List.all_eq_true] at h
      rw [puts_eq, known_two, List.all_eq_true]
      intro y hy
      obtain ⟨x, hm, rfl⟩ := List.mem_map.1 hy
      exact ih x hm (h x hm)
    · exact h
theorem known_inst {n : Nat} {M : List Tm} (hM : ∀ x ∈ M, known n x = true) : ∀ t, known n t = true → known n (inst M t) = true := by
  refine Tm.ind fun k s w xs ih h => ?_
  unfold inst
  split
  · split
    · rename_i u hu; exact hM u (List.mem_of_getElem? hu)
    · exact h
  · split
    · rename_i hk
      subst hk
      rw [known_two, List.all_eq_true] at h
      rw [insts_eq, known_two, List.all_eq_true]
      intro y hy
      obtain ⟨x, hm, rfl⟩ := List.mem_map.1 hy
      exact ih x hm (h x hm)
    · exact h
end Go.Uni
end

/- part U1K -/
section
namespace Go.Uni
theorem bindR_ok {M : List Tm} (hM : OkR M) {v : Int} {b : Tm} (hb : clean b = b ∧ known M.length b = true) : OkR (bindR M v b).2 ∧ (bindR M v b).2.length = M.length := by
  unfold bindR
  split
  · exact ⟨hM, rfl⟩
  · split
    · exact ⟨hM, rfl⟩
    · rename_i h
      refine ⟨⟨by simpa using hM.len, fun x hx => ?_⟩, by simp⟩
      obtain ⟨y, hy, rfl⟩ := List.mem_map.1 hx
      obtain ⟨_, h2, h3⟩ := hM.el y hy
      have hc := clean_put (v := v) hb.1 y h2
      refine ⟨?_, hc, by simpa using known_put (v := v) hb.2 y h3⟩
      rw [size_clean _ hc]
      rcases Nat.lt_or_ge 200 (nodes (put v b y)) with h4 | h4
      · exact absurd (List.any_eq_true.2 ⟨y, hy, by simpa using h4⟩) h
      · exact h4
theorem headR_ok {M : List Tm} (hM : OkR M) {t : Tm} (ht : OkT M.length t) : OkT M.length (headR M t) := by
  unfold headR
  split
  · split
    · rename_i u hu; exact hM.el u (List.mem_of_getElem? hu)
    · exact ht
  · exact ht
theorem args_ok {n : Nat} {t : Tm} (ht : OkT n t) : ∀ x ∈ t.args, OkT n x := by
  obtain ⟨k, s, v, xs⟩ := t
  obtain ⟨h1, h2, h3⟩ := ht
  intro x hx
  have hx : x ∈ xs := hx
  obtain ⟨c2, c3, _⟩ := clean_mk h2
  by_cases hk : k = 2
  · subst hk
    rw [known_two, List.all_eq_true] at h3
    have : size x ≤ sizes xs := size_mem hx
    simp only [size] at h1
    exact ⟨by omega, (c2 rfl).2 x hx, h3 x hx⟩
  · rw [c3 hk] at hx; simp at hx
end Go.Uni
end

/- part U1L -/
section
namespace Go.Proofs.YtdgekhanonfikaaDoor.Va
open Go.Vx Go.Av Go.Uni

theorem Rhead_spec' {M : List Tm} {t : Tm} (hk : known M.length t = true) : SCalls ax 55 [.ptr 0 0, .agg (enc t)] (RT M) fun r o => r = [.agg (enc (headR M t))] ∧ o = RT M := by
  refine (Rhead_spec M t hk).mono fun r o ⟨u, hr, ho, h⟩ => ⟨?_, ho⟩
  have : headR M t = u := by
    unfold headR
    split
    · rename_i h4; rw [if_pos h4] at h; rw [h]
    · rename_i h4; rw [if_neg h4] at h; exact h.symm
  rw [this]; exact hr

theorem unifyR_ok : ∀ (n : Nat) (M : List Tm) (a b : Tm) (res : Int × List Tm), OkR M → OkT M.length a → OkT M.length b → unifyR n M a b = some res → OkR res.2 ∧ res.2.length = M.length
  | 0, M, a, b, res, _, _, _, h => by cases h
  | n + 1, M, a, b, res, hM, ha, hb, h => by
    have ha' := headR_ok hM ha
    have hb' := headR_ok hM hb
    have hin : ∀ t, OkT M.length t → clean (inst M t) = inst M t ∧ known M.length (inst M t) = true := fun t ht => ⟨clean_inst (fun x hx => (hM.el x hx).2.1) t ht.2.1, known_inst (fun x hx => (hM.el x hx).2.2) t ht.2.2⟩
    have sq : ∀ (xs ys : List Tm) (M' : List Tm), OkR M' → M'.length = M.length → (∀ x ∈ xs, OkT M.length x) → (∀ y ∈ ys, OkT M.length y) → ∀ res, seqR (unifyR n) M' xs ys = some res → OkR res.2 ∧ res.2.length = M.length := by
      intro xs
      induction xs with
      | nil => intro ys M' h1 h2 _ _ res h; simp [seqR] at h; subst h; exact ⟨h1, h2⟩
      | cons x xs ihx =>
        intro ys M' h1 h2 hx hy res h
        cases ys with
        | nil => simp [seqR] at h; subst h; exact ⟨h1, h2⟩
        | cons y ys =>
          simp only [seqR] at h
          cases hu : unifyR n M' x y with
          | none => rw [hu] at h; cases h
          | some r =>
            obtain ⟨k1, k2⟩ := unifyR_ok n M' x y r h1 (h2 ▸ hx x List.mem_cons_self) (h2 ▸ hy y List.mem_cons_self) hu
            rw [hu] at h
            split at h
            · rename_i M2 e
              cases e
              exact ihx ys M2 k1 (k2.trans h2) (fun z hz => hx z (List.mem_cons_of_mem _ hz)) (fun z hz => hy z (List.mem_cons_of_mem _ hz)) res h
            · cases h; exact ⟨k1, k2.trans h2⟩
    simp only [unifyR] at h
    split at h
    · split at h
      · cases h; exact ⟨hM, rfl⟩
      · split at h
        · cases h; exact bindR_ok hM (hin _ hb')
        · cases h; exact bindR_ok hM (hin _ ha')
    · split at h
      · cases h; exact ⟨hM, rfl⟩
      · split at h
        · cases h; exact ⟨hM, rfl⟩
        · split at h
          · cases h; exact ⟨hM, rfl⟩
          · exact sq _ _ M hM rfl (args_ok ha') (args_ok hb') res h
end Go.Proofs.YtdgekhanonfikaaDoor.Va
end

/- part U1N -/
section
namespace Go.Proofs.YtdgekhanonfikaaDoor.Va
open Go.Vx Go.Av Go.Uni

theorem Runify_spec : ∀ (n : Nat) (M : List Tm) (a b : Tm) (res : Int × List Tm), OkR M → OkT M.length a → OkT M.length b → unifyR n M a b = some res →
    SCalls ax 37 [.ptr 0 0, .agg (enc a), .agg (enc b)] (RT M) fun r o => r = [.int .i64 res.1] ∧ o = RT2 res.2
  | 0, M, a, b, res, _, _, _, h => by cases h
  | n + 1, M, a, b, res, hM, ha, hb, hu => by
    have ha' := headR_ok hM ha
    have hb' := headR_ok hM hb
    have hha := Rhead_spec' (M := M) ha.2.2
    have hhb := Rhead_spec' (M := M) hb.2.2
    simp only [unifyR] at hu
    obtain ⟨ka, sa, va, la⟩ := a
    obtain ⟨kb, sb, vb, lb⟩ := b
    generalize headR M (.mk ka sa va la) = a' at *
    generalize headR M (.mk kb sb vb lb) = b' at *
    obtain ⟨k1, s1, v1, l1⟩ := a'
    obtain ⟨k2, s2, v2, l2⟩ := b'
    replace hu : (if k1 = 4 ∨ k2 = 4 then
        if k1 = k2 ∧ v1 = v2 then some (0, M)
        else if k1 = 4 then some (bindR M v1 (inst M (.mk k2 s2 v2 l2))) else some (bindR M v2 (inst M (.mk k1 s1 v1 l1)))
      else if k1 ≠ k2 then some (6, M) else if s1 ≠ s2 then some (6, M) else if l1.length ≠ l2.length then some (6, M)
      else seqR (unifyR n) M l1 l2) = some res := hu
    refine Runify.calls (K := fun r o => r = [.int .i64 res.1] ∧ o = RT2 res.2) ?_
    unfold Runify.W
    refine hha.mono fun r o ⟨hr, ho⟩ => ⟨k1, s1, v1, encs l1, encs M, hr, ho, ?_⟩
    refine hhb.mono fun r o ⟨hr, ho⟩ => ⟨k2, s2, v2, encs l2, encs M, hr, ho, ?_⟩
    refine ⟨fun us => us = [.bool (decide (k1 = 4 ∨ k2 = 4))], ifE (fun h => by simp [h]) (fun h => by simp [h, BEq.beq]), fun c hc => ?_⟩
    cases hc
    refine ifD (fun h4 => ?_) (fun h4 => ?_)
    · rw [if_pos h4] at hu
      refine ⟨fun _ => ¬ (k1 = k2 ∧ v1 = v2), ifE (fun hk => ifE (fun hv => ?_) (fun hv h => hv h.2)) (fun hk h => hk h.1), fun hne => ?_⟩
      · rw [if_pos ⟨hk, hv⟩] at hu; cases hu; exact ⟨rfl, rfl⟩
      · rw [if_neg hne] at hu
        refine ifE (fun hk => ?_) (fun hk => ?_)
        · rw [if_pos hk] at hu; cases hu
          exact (Rbind_spec M (fun x hx => ⟨(hM.el x hx).1, (hM.el x hx).2.1⟩) hM.len v1 (.mk k2 s2 v2 l2) hb'.1 hb'.2.1 hb'.2.2).mono fun r o ⟨hr, ho⟩ => ⟨_, _, hr, ho, rfl, rfl⟩
        · rw [if_neg hk] at hu; cases hu
          exact (Rbind_spec M (fun x hx => ⟨(hM.el x hx).1, (hM.el x hx).2.1⟩) hM.len v2 (.mk k1 s1 v1 l1) ha'.1 ha'.2.1 ha'.2.2).mono fun r o ⟨hr, ho⟩ => ⟨_, _, hr, ho, rfl, rfl⟩
    · rw [if_neg h4] at hu
      refine ifNE (fun hk => ?_) (fun hk => ?_)
      · rw [if_pos hk] at hu; cases hu; exact ⟨rfl, rfl⟩
      rw [if_neg (by simpa using hk)] at hu
      refine ifN (fun hs => ?_) (fun hs => ?_)
      · rw [if_pos (by simpa [strEq] using hs)] at hu; cases hu; exact ⟨rfl, rfl⟩
      rw [if_neg (by simpa [strEq] using hs)] at hu
      simp only [encs_length]
      refine ifNE (fun hl => ?_) (fun hl => ?_)
      · rw [if_pos (by omega)] at hu; cases hu; exact ⟨rfl, rfl⟩
      rw [if_neg (by omega)] at hu
      have hls := length_sizes l1
      have hsz := ha'.1
      simp only [size] at hsz
      have hx := args_ok ha'
      have hy := args_ok hb'
      refine ⟨fun us => ∃ (i : Nat) (M' : List Tm), us = [.int .i64 i, .sl 4 (encs M')] ∧ i ≤ l1.length ∧ OkR M' ∧ M'.length = M.length ∧ seqR (unifyR n) M' (l1.drop i) (l2.drop i) = some res, fun us => match us with | .int _ i :: _ => l1.length - i.toNat | _ => 0, ⟨0, M, rfl, Nat.zero_le _, hM, rfl, hu⟩, ?_⟩
      rintro m L ⟨i, M', e, hi, h1, h2, h3⟩
      cases e
      refine ifD (fun hlt => ?_) (fun hge => ?_)
      · have hi' : i < l1.length := by omega
        obtain ⟨k', s', v', l', he⟩ := getEq hi'
        obtain ⟨k'', s'', v'', l'', he2⟩ := getEq (xs := l2) (i := i) (by omega)
        have hw : IntKind.i64.wrap ((i : Int) + 1) = ((i + 1 : Nat) : Int) := by rw [w64 (by omega) (by omega)]; push_cast; rfl
        have d1 : l1.drop i = .mk k' s' v' l' :: l1.drop (i + 1) := by rw [List.drop_eq_getElem_cons hi']; congr 1; exact Option.some.inj ((List.getElem?_eq_getElem hi').symm.trans he)
        have d2 : l2.drop i = .mk k'' s'' v'' l'' :: l2.drop (i + 1) := by rw [List.drop_eq_getElem_cons (by omega)]; congr 1; exact Option.some.inj ((List.getElem?_eq_getElem (by omega)).symm.trans he2)
        rw [d1, d2] at h3
        simp only [seqR] at h3
        refine ⟨by omega, hlt, k', s', v', encs l', lrow he, by omega, by omega, k'', s'', v'', encs l'', lrow he2, ?_⟩
        have ox : OkT M'.length (.mk k' s' v' l') := h2 ▸ hx _ (List.mem_of_getElem? he)
        have oy : OkT M'.length (.mk k'' s'' v'' l'') := h2 ▸ hy _ (List.mem_of_getElem? he2)
        cases hq : unifyR n M' (.mk k' s' v' l') (.mk k'' s'' v'' l'') with
        | none => rw [hq] at h3; cases h3
        | some q =>
          obtain ⟨q1, q2⟩ := unifyR_ok n M' _ _ q h1 ox oy hq
          rw [hq] at h3
          refine (Runify_spec n M' _ _ q h1 ox oy hq).mono fun r o ⟨hr, ho⟩ => ⟨_, _, hr, ho, ifNE (fun hne => ?_) (fun heq => ?_)⟩
          · split at h3
            · rename_i e; cases e; exact absurd rfl hne
            · cases h3; exact ⟨rfl, rfl⟩
          · split at h3
            · rename_i M2 e
              cases e
              rw [hw]
              exact ⟨⟨i + 1, M2, rfl, hi', q1, q2.trans h2, h3⟩, by simp only [Int.toNat_natCast]; omega⟩
            · rename_i hno
              obtain ⟨q0, qM⟩ := q
              dsimp only at heq
              subst heq
              exact absurd rfl (hno qM)
      · have hd : l1.drop i = [] := List.drop_eq_nil_of_le (by omega)
        rw [hd] at h3
        simp only [seqR] at h3
        cases h3
        exact ⟨rfl, rfl⟩
end Go.Proofs.YtdgekhanonfikaaDoor.Va
end

/- part U1O -/
section
namespace Go.Uni
theorem nodes_clean : ∀ t, nodes (clean t) ≤ nodes t := by
  refine Tm.ind fun k s v xs ih => ?_
  unfold clean
  split
  · rename_i hk; subst hk; simp [nodes]
  · split
    · rename_i hk; subst hk; simp [nodes]
    · split
      · rename_i hk
        subst hk
        simp only [nodes, if_true]
        have : ∀ ys : List Tm, (∀ y ∈ ys, nodes (clean y) ≤ nodes y) → nodesL (ys.map clean) ≤ nodesL ys := by
          intro ys
          induction ys with
          | nil => intro _; exact Nat.le_refl _
          | cons y r ihr => intro h; simp only [List.map_cons, nodesL]; have := h y List.mem_cons_self; have := ihr fun z hz => h z (List.mem_cons_of_mem _ hz); omega
        have := this xs ih
        rw [cleans_eq]; omega
      · rename_i hk; simp [nodes, hk]
theorem clean_clean : ∀ t, clean (clean t) = clean t := by
  refine Tm.ind fun k s v xs ih => ?_
  conv => lhs; arg 1; unfold clean
  conv => rhs; unfold clean
  split
  · simp [clean]
  · split
    · simp [clean]
    · split
      · rename_i hk
        rw [cleans_eq]
        exact clean_args rfl fun y hy => by
          obtain ⟨x, hm, rfl⟩ := List.mem_map.1 hy
          exact ih x hm
      · rename_i h3 h4 h2; simp [clean, h3, h4, h2]
theorem known_clean {n : Nat} : ∀ t, known n t = true → known n (clean t) = true := by
  refine Tm.ind fun k s v xs ih h => ?_
  unfold clean
  split
  · simp [known]
  · split
    · rename_i hk; subst hk; simpa [known] using h
    · split
      · rename_i hk
        subst hk
        rw [known_two, List.all_eq_true] at h
        rw [cleans_eq, known_two, List.all_eq_true]
        intro y hy
        obtain ⟨x, hm, rfl⟩ := List.mem_map.1 hy
        exact ih x hm (h x hm)
      · rename_i h3 h4 h2
        simp only [known, h3, h4, h2, or_false, if_false] at h ⊢
        exact h
theorem okT_clean {n : Nat} {t : Tm} (h1 : known n t = true) (h2 : nodes t ≤ 200) : OkT n (clean t) := by
  refine ⟨?_, clean_clean t, known_clean t h1⟩
  rw [size_clean _ (clean_clean t)]
  exact Nat.le_trans (nodes_clean t) h2
end Go.Uni
end

/- part U1Q -/
section
namespace Go.Proofs.YtdgekhanonfikaaDoor.Va
open Go.Vx Go.Av Go.Uni

theorem taken_none {n : Nat} {xs : List Tm} (h : taken n xs = none) : ∀ x ∈ xs, known n x = true ∧ nodes x ≤ 200 := by
  unfold taken at h
  split at h
  · cases h
  · rename_i h1
    split at h
    · cases h
    · rename_i h2
      intro x hx
      refine ⟨List.all_eq_true.1 (by simpa using h1) x hx, ?_⟩
      rcases Nat.lt_or_ge 200 (nodes x) with h4 | h4
      · exact absurd (List.any_eq_true.2 ⟨x, hx, by simpa using h4⟩) h2
      · exact h4
theorem taken_some {n : Nat} {xs : List Tm} : taken n xs = none ∨ taken n xs = some 0 ∨ taken n xs = some 1 := by
  unfold taken
  split
  · exact .inr (.inr rfl)
  · split
    · exact .inr (.inl rfl)
    · exact .inl rfl

theorem RUnify_spec (n : Nat) (M : List Tm) (a b : Tm) (res : Int × List Tm) (hM : OkR M) (hs : size a + size b ≤ big) (h1 : taken M.length [a, b] = none → unifyR n M (Uni.clean a) (Uni.clean b) = some res)
    (h2 : taken M.length [a, b] ≠ none → res = (numE (taken M.length [a, b]), M)) :
    SCalls ax 15 [.ptr 0 0, .agg (enc a), .agg (enc b)] (RT M) fun r o => r = [.int .i64 res.1] ∧ o = RT2 res.2 := by
  have htk := Rtake_spec M [a, b] (by simp only [sizes]; omega)
  have hca := rclean_spec M.length a (by omega)
  have hcb := rclean_spec M.length b (by omega)
  have hta := fun h : taken M.length [a, b] = none => taken_none h a (by simp)
  have htb := fun h : taken M.length [a, b] = none => taken_none h b (by simp)
  have hrun := fun h : taken M.length [a, b] = none => Runify_spec n M (Uni.clean a) (Uni.clean b) res hM (okT_clean (hta h).1 (hta h).2) (okT_clean (htb h).1 (htb h).2) (h1 h)
  generalize Uni.clean a = ca at *
  generalize Uni.clean b = cb at *
  obtain ⟨ka, sa, va, la⟩ := a
  obtain ⟨kb, sb, vb, lb⟩ := b
  obtain ⟨k1, s1, v1, l1⟩ := ca
  obtain ⟨k2, s2, v2, l2⟩ := cb
  refine RUnify.calls (K := fun r o => r = [.int .i64 res.1] ∧ o = RT2 res.2) ?_
  unfold RUnify.W
  refine htk.mono fun r o ⟨hr, ho⟩ => ⟨_, encs M, hr, ho, ifNE (fun hne => ?_) (fun heq => ?_)⟩
  · rw [h2 fun h => by rw [h] at hne; exact hne rfl]; exact ⟨rfl, rfl⟩
  · have hn : taken M.length [.mk ka sa va la, .mk kb sb vb lb] = none := by
      rcases taken_some (n := M.length) (xs := [.mk ka sa va la, .mk kb sb vb lb]) with h | h | h
      · exact h
      · rw [h] at heq; cases heq
      · rw [h] at heq; cases heq
    refine (hca (hta hn).1).mono fun r hr => ⟨k1, s1, v1, encs l1, hr, ?_⟩
    refine (hcb (htb hn).1).mono fun r hr => ⟨k2, s2, v2, encs l2, hr, ?_⟩
    exact (hrun hn).mono fun r o ⟨hr, ho⟩ => ⟨_, _, hr, ho, rfl, rfl⟩

theorem RResolve_spec (M : List Tm) (a : Tm) (hM : OkR M) (hs : size a ≤ big) :
    SCalls ax 18 [.ptr 0 0, .agg (enc a)] (RT M) fun r o => o = RT M ∧
      r = if taken M.length [a] = none then (if nodes (inst M (Uni.clean a)) ≤ 200 then [.agg (enc (inst M (Uni.clean a))), .int .i64 0] else [.agg (enc (.mk 0 ⟨#[]⟩ 0 [])), .int .i64 4]) else [.agg (enc (.mk 0 ⟨#[]⟩ 0 [])), .int .i64 (numE (taken M.length [a]))] := by
  have htk := Rtake_spec M [a] (by simp only [sizes]; omega)
  have hca := rclean_spec M.length a (by omega)
  have hta := fun h : taken M.length [a] = none => taken_none h a (by simp)
  have hnow := fun h : taken M.length [a] = none => Rnow_spec M (fun x hx => ⟨by have := (hM.el x hx).1; omega, (hM.el x hx).2.1⟩) (Uni.clean a) 200 (by have := (okT_clean (hta h).1 (hta h).2).1; have hb : big = 1099511627776 := rfl; omega) (clean_clean a) (known_clean a (hta h).1) (by omega) (by omega)
  generalize Uni.clean a = ca at *
  obtain ⟨ka, sa, va, la⟩ := a
  obtain ⟨k1, s1, v1, l1⟩ := ca
  refine RResolve.calls (K := fun r o => o = RT M ∧ r = if taken M.length [.mk ka sa va la] = none then (if nodes (inst M (.mk k1 s1 v1 l1)) ≤ 200 then [.agg (enc (inst M (.mk k1 s1 v1 l1))), .int .i64 0] else [.agg (enc (.mk 0 ⟨#[]⟩ 0 [])), .int .i64 4]) else [.agg (enc (.mk 0 ⟨#[]⟩ 0 [])), .int .i64 (numE (taken M.length [.mk ka sa va la]))]) ?_
  unfold RResolve.W
  refine htk.mono fun r o ⟨hr, ho⟩ => ⟨_, encs M, hr, ho, ifNE (fun hne => ?_) (fun heq => ?_)⟩
  · rw [if_neg (fun h => by rw [h] at hne; exact hne rfl)]; exact ⟨rfl, rfl⟩
  · have hn : taken M.length [.mk ka sa va la] = none := by
      rcases taken_some (n := M.length) (xs := [.mk ka sa va la]) with h | h | h
      · exact h
      · rw [h] at heq; cases heq
      · rw [h] at heq; cases heq
    rw [if_pos hn]
    refine (hca (hta hn).1).mono fun r hr => ⟨k1, s1, v1, encs l1, hr, ?_⟩
    refine (hnow hn).mono fun r o ⟨y, l, hr, ho, b1, b2, b3, b4⟩ => ?_
    obtain ⟨k2, s2, v2, l2⟩ := y
    refine ⟨k2, s2, v2, encs l2, l, encs M, hr, ho, ifD (fun h => ?_) (fun h => ?_)⟩
    · have := b4 h
      rw [if_neg (by omega)]; exact ⟨rfl, rfl⟩
    · obtain ⟨c1, c2⟩ := b3 (by omega)
      rw [if_pos (by omega), ← c1]; exact ⟨rfl, rfl⟩
end Go.Proofs.YtdgekhanonfikaaDoor.Va
end

/- part U1R -/
section
namespace Go.Uni

/-- what the program's table L holds, resolved, is what the reference's M holds -/
structure Rel (L : List (Option Tm)) (M : List Tm) : Prop where
  ml : M.length ≤ 1000
  mel : ∀ x ∈ M, clean x = x ∧ known M.length x = true
  len : L.length = M.length
  no : ∀ v : Nat, L[v]? = some none → M[v]? = some (free v)
  yes : ∀ (v : Nat) t, L[v]? = some (some t) → OkT M.length t ∧ M[v]? = some (inst M t)
  rank : ∃ r : Nat → Nat, ∀ (v : Nat) t, L[v]? = some (some t) → ∀ w : Nat, hasV w t = true → r w < r v

theorem hasV_two {x : Int} {s : ByteArray} {v : Int} {xs : List Tm} : hasV x (.mk 2 s v xs) = xs.any (hasV x) := by simp [hasV, hasVs_eq]
theorem inst_two {M : List Tm} {s : ByteArray} {v : Int} {xs : List Tm} : inst M (.mk 2 s v xs) = .mk 2 s 0 (xs.map (inst M)) := by simp [inst, insts_eq]
theorem inst_four {M : List Tm} {s : ByteArray} {v : Int} {xs : List Tm} {u : Tm} (h : M[v.toNat]? = some u) : inst M (.mk 4 s v xs) = u := by simp [inst, h]
theorem inst_other {M : List Tm} {k : Int} {s : ByteArray} {v : Int} {xs : List Tm} (h4 : k ≠ 4) (h2 : k ≠ 2) : inst M (.mk k s v xs) = .mk k s v xs := by simp [inst, h4, h2]
theorem known_four {n : Nat} {s : ByteArray} {v : Int} {xs : List Tm} : known n (.mk 4 s v xs) = true ↔ 0 ≤ v ∧ v < n := by simp [known]
theorem known_free {n v : Nat} (h : v < n) : known n (free v) = true := by unfold free; rw [known_four]; omega
theorem known_kind {n : Nat} {t : Tm} (h : known n t = true) : t.kind = 1 ∨ t.kind = 3 ∨ t.kind = 4 ∨ t.kind = 2 := by
  obtain ⟨k, s, v, xs⟩ := t
  simp only [known] at h
  simp only [Tm.kind_mk]
  split at h
  · omega
  · split at h
    · omega
    · split at h
      · omega
      · cases h
/-- the unknowns of a type of the table are unknowns of the table -/
theorem hasV_known {n : Nat} {x : Int} : ∀ t, known n t = true → hasV x t = true → 0 ≤ x ∧ x < n := by
  refine Tm.ind fun k s v xs ih hk hx => ?_
  by_cases h4 : k = 4
  · subst h4
    rw [known_four] at hk
    simp [hasV] at hx
    omega
  · by_cases h2 : k = 2
    · subst h2
      rw [known_two, List.all_eq_true] at hk
      rw [hasV_two, List.any_eq_true] at hx
      obtain ⟨a, ha, hx⟩ := hx
      exact ih a ha (hk a ha) hx
    · simp [hasV, h4, h2] at hx
/-- a type whose unknowns stand for what is resolved is resolved by one step -/
theorem inst_idem {M : List Tm} : ∀ t, (∀ (w : Nat) u, hasV w t = true → M[w]? = some u → inst M u = u) → known M.length t = true → inst M (inst M t) = inst M t := by
  refine Tm.ind fun k s v xs ih h hk => ?_
  by_cases h4 : k = 4
  · subst h4
    have hv := known_four.1 hk
    obtain ⟨u, hu⟩ : ∃ u, M[v.toNat]? = some u := ⟨_, List.getElem?_eq_getElem (by omega)⟩
    rw [inst_four hu]
    refine h v.toNat u ?_ hu
    simp [hasV]; omega
  · by_cases h2 : k = 2
    · subst h2
      rw [known_two, List.all_eq_true] at hk
      rw [inst_two, inst_two, List.map_map]
      congr 1
      refine List.map_congr_left fun a ha => ih a ha (fun w u hw hu => h w u ?_ hu) (hk a ha)
      rw [hasV_two, List.any_eq_true]; exact ⟨a, ha, hw⟩
    · rw [inst_other h4 h2, inst_other h4 h2]
theorem Rel.idem {L : List (Option Tm)} {M : List Tm} (R : Rel L M) : ∀ (w : Nat) u, M[w]? = some u → inst M u = u := by
  obtain ⟨r, hr⟩ := R.rank
  have main : ∀ (n w : Nat) u, r w ≤ n → M[w]? = some u → inst M u = u := by
    intro n
    induction n with
    | zero =>
      intro w u hn hu
      have hw : w < L.length := by rw [R.len]; exact (List.getElem?_eq_some_iff.1 hu).1
      rcases e : L[w]? with _ | _ | t
      · rw [List.getElem?_eq_none_iff] at e; omega
      · have := R.no w e
        rw [hu] at this; cases this
        exact inst_four (by simpa using hu)
      · obtain ⟨h1, h2⟩ := R.yes w t e
        rw [hu] at h2; cases h2
        refine inst_idem t (fun x y hx _ => ?_) h1.2.2
        have := hr w t e x hx; omega
    | succ n ih =>
      intro w u hn hu
      have hw : w < L.length := by rw [R.len]; exact (List.getElem?_eq_some_iff.1 hu).1
      rcases e : L[w]? with _ | _ | t
      · rw [List.getElem?_eq_none_iff] at e; omega
      · have := R.no w e
        rw [hu] at this; cases this
        exact inst_four (by simpa using hu)
      · obtain ⟨h1, h2⟩ := R.yes w t e
        rw [hu] at h2; cases h2
        refine inst_idem t (fun x y hx hy => ih x y ?_ hy) h1.2.2
        have := hr w t e x hx; omega
  exact fun w u hu => main _ w u (Nat.le_refl _) hu
theorem Rel.inst_inst {L : List (Option Tm)} {M : List Tm} (R : Rel L M) {t : Tm} (hk : known M.length t = true) : inst M (inst M t) = inst M t := inst_idem t (fun w u _ hu => R.idem w u hu) hk

/-- binding an unknown, and resolving -/
theorem inst_map_put {M : List Tm} {v : Int} {b : Tm} : ∀ t, known M.length t = true → inst (M.map (put v b)) t = put v b (inst M t) := by
  refine Tm.ind fun k s w xs ih hk => ?_
  by_cases h4 : k = 4
  · subst h4
    have hv := known_four.1 hk
    obtain ⟨u, hu⟩ : ∃ u, M[w.toNat]? = some u := ⟨_, List.getElem?_eq_getElem (by omega)⟩
    rw [inst_four hu, inst_four (u := put v b u) (by simp [hu])]
  · by_cases h2 : k = 2
    · subst h2
      rw [known_two, List.all_eq_true] at hk
      rw [inst_two, inst_two]
      simp only [put, puts_eq, List.map_map]
      simp only [show ((2 : Int) = 4) = False by simp, false_and, if_false, if_true]
      congr 1
      exact List.map_congr_left fun a ha => ih a ha (hk a ha)
    · rw [inst_other h4 h2, inst_other h4 h2]
      simp [put, h4, h2]
theorem put_no {v : Int} {b : Tm} : ∀ t, clean t = t → hasV v t = false → put v b t = t := by
  refine Tm.ind fun k s w xs ih hc hn => ?_
  obtain ⟨c2, _, _⟩ := clean_mk hc
  by_cases h4 : k = 4
  · subst h4
    simp [hasV] at hn
    simp [put, hn]
  · by_cases h2 : k = 2
    · subst h2
      obtain ⟨h0, hx⟩ := c2 rfl
      rw [hasV_two, List.any_eq_false] at hn
      simp only [put, puts_eq, show ((2 : Int) = 4) = False by simp, false_and, if_false, if_true, h0]
      congr 1
      conv => rhs; rw [← List.map_id xs]
      exact List.map_congr_left fun a ha => ih a ha (hx a ha) (by simpa using hn a ha)
    · simp [put, h4, h2]
theorem put_free_same {v : Int} {b : Tm} : put v b (free v) = b := by simp [put, free]
theorem put_free_other {v w : Int} {b : Tm} (h : w ≠ v) : put v b (free w) = free w := by simp [put, free, h]
theorem hasV_free {v w : Int} : hasV v (free w) = (w == v) := by simp [hasV, free]
theorem hasV_inst {M : List Tm} {v : Int} {w : Nat} {u : Tm} (hu : M[w]? = some u) (hv : hasV v u = true) : ∀ t, hasV w t = true → hasV v (inst M t) = true := by
  refine Tm.ind fun k s x xs ih hx => ?_
  by_cases h4 : k = 4
  · subst h4
    simp [hasV] at hx
    subst hx
    rw [inst_four (by simpa using hu)]; exact hv
  · by_cases h2 : k = 2
    · subst h2
      rw [hasV_two, List.any_eq_true] at hx
      obtain ⟨a, ha, hx⟩ := hx
      rw [inst_two, hasV_two, List.any_eq_true]
      exact ⟨inst M a, List.mem_map_of_mem ha, ih a ha hx⟩
    · simp [hasV, h4, h2] at hx
theorem bound_of (r : Nat → Nat) : ∀ n : Nat, ∃ B, ∀ w < n, r w ≤ B
  | 0 => ⟨0, fun _ h => by omega⟩
  | n + 1 => by
    obtain ⟨B, hB⟩ := bound_of r n
    refine ⟨B + r n, fun w hw => ?_⟩
    rcases Nat.lt_or_ge w n with h | h
    · have := hB w h; omega
    · have : w = n := by omega
      subst this; omega
/-- an unknown is bound: both tables are in step again -/
theorem Rel.bind {L : List (Option Tm)} {M : List Tm} (R : Rel L M) {v : Nat} {a : Tm} (hv : L[v]? = some none) (ha : OkT M.length a) (hn : hasV v (inst M a) = false) : Rel (L.set v (some a)) (M.map (put v (inst M a))) := by
  have hic : clean (inst M a) = inst M a := clean_inst (fun x hx => (R.mel x hx).1) a ha.2.1
  have hik : known M.length (inst M a) = true := known_inst (fun x hx => (R.mel x hx).2) a ha.2.2
  have hvl : v < L.length := (List.getElem?_eq_some_iff.1 hv).1
  have hMv := R.no v hv
  refine ⟨by simpa using R.ml, fun x hx => ?_, by simpa using R.len, fun w hw => ?_, fun w t hw => ?_, ?_⟩
  · obtain ⟨y, hy, rfl⟩ := List.mem_map.1 hx
    obtain ⟨h1, h2⟩ := R.mel y hy
    exact ⟨clean_put hic y h1, by simpa using known_put hik y h2⟩
  · rw [List.getElem?_set] at hw
    split at hw
    · simp at hw
    · rename_i hne
      rw [List.getElem?_map, R.no w hw]
      simp only [Option.map_some]
      rw [put_free_other (by omega)]
  · rw [List.getElem?_set] at hw
    split at hw
    · rename_i he
      subst he
      cases hw
      refine ⟨by simpa using ha, ?_⟩
      rw [List.getElem?_map, hMv]
      simp only [Option.map_some]
      rw [put_free_same, inst_map_put a ha.2.2, put_no _ hic hn]
    · obtain ⟨h1, h2⟩ := R.yes w t hw
      refine ⟨by simpa using h1, ?_⟩
      rw [List.getElem?_map, h2, inst_map_put t h1.2.2]; rfl
  · obtain ⟨r, hr⟩ := R.rank
    obtain ⟨B, hB⟩ := bound_of r M.length
    refine ⟨fun x => r x + (match M[x]? with | some u => if hasV v u = true then 1 + B else 0 | none => 0), fun x t hx w hw => ?_⟩
    rw [List.getElem?_set] at hx
    split at hx
    · rename_i he
      subst he
      cases hx
      have hwk := hasV_known a ha.2.2 hw
      obtain ⟨u, hu⟩ : ∃ u, M[w]? = some u := ⟨_, List.getElem?_eq_getElem (by omega)⟩
      have hno : hasV v u = false := by
        rw [Bool.eq_false_iff]; intro h
        rw [hasV_inst hu h a hw] at hn; cases hn
      have hyes : hasV v (free v) = true := by simp [hasV_free]
      have := hB w (by omega)
      show r w + (match M[w]? with | some u => if hasV v u = true then 1 + B else 0 | none => 0) < r v + (match M[v]? with | some u => if hasV v u = true then 1 + B else 0 | none => 0)
      rw [hu, hMv]
      simp only [hno, hyes, Bool.false_eq_true, if_false, if_true, eq_self]
      omega
    · obtain ⟨h1, h2⟩ := R.yes x t hx
      have hwk := hasV_known t h1.2.2 hw
      obtain ⟨u, hu⟩ : ∃ u, M[w]? = some u := ⟨_, List.getElem?_eq_getElem (by omega)⟩
      have hlt := hr x t hx w hw
      simp only [hu, h2]
      by_cases h : hasV v u = true
      · rw [if_pos h, if_pos (hasV_inst hu h t hw)]; omega
      · rw [if_neg h]; omega
end Go.Uni
end

/- part U1S -/
section
namespace Go.Uni

def unb (L : List (Option Tm)) : Nat := L.countP (·.isNone)
theorem unb_set {L : List (Option Tm)} {v : Nat} {a : Tm} (h : L[v]? = some none) : unb (L.set v (some a)) + 1 = unb L := by
  induction L generalizing v with
  | nil => simp at h
  | cons x r ih =>
    cases v with
    | zero => simp at h; subst h; simp [unb]
    | succ v =>
      have := ih (v := v) (by simpa using h)
      simp only [unb, List.set_cons_succ, List.countP_cons] at this ⊢
      omega

/-- a type at whose head no bound unknown stands -/
def Headed (M : List Tm) (u : Tm) : Prop := u.kind = 4 → M[u.var.toNat]? = some (free u.var)
theorem headR_inst {L : List (Option Tm)} {M : List Tm} (R : Rel L M) {t : Tm} (hk : known M.length t = true) : inst M (headR M t) = inst M t ∧ Headed M (headR M t) := by
  obtain ⟨k, s, v, xs⟩ := t
  by_cases h4 : k = 4
  · subst h4
    have hv := known_four.1 hk
    obtain ⟨u, hu⟩ : ∃ u, M[v.toNat]? = some u := ⟨_, List.getElem?_eq_getElem (by omega)⟩
    have hh : headR M (.mk 4 s v xs) = u := by simp [headR, hu]
    have hi := R.idem _ u hu
    obtain ⟨hc, hku⟩ := R.mel u (List.mem_of_getElem? hu)
    rw [hh, inst_four hu]
    refine ⟨hi, fun hk4 => ?_⟩
    obtain ⟨k', s', v', xs'⟩ := u
    obtain ⟨c1, c2, c3⟩ := clean_mk hc
    simp only [Tm.kind_mk] at hk4
    subst hk4
    rw [c2 (by omega), c3 rfl] at hi hku
    have hv' := known_four.1 hku
    obtain ⟨y, hy⟩ : ∃ y, M[v'.toNat]? = some y := ⟨_, List.getElem?_eq_getElem (by omega)⟩
    rw [inst_four hy] at hi
    simp only [Tm.var_mk, hy, hi]; rfl
  · have hh : headR M (.mk k s v xs) = .mk k s v xs := by simp [headR, h4]
    rw [hh]
    exact ⟨rfl, fun h => absurd h h4⟩
/-- two such types that are one when resolved -/
theorem headed_same {M : List Tm} {u h : Tm} (hu : Headed M u) (hh : Headed M h) (cu : clean u = u) (ch : clean h = h) (ku : known M.length u = true) (kh : known M.length h = true) (e : inst M u = inst M h) :
    u.kind = h.kind ∧ u.name = h.name ∧ u.var = h.var ∧ u.args.length = h.args.length ∧ u.args.map (inst M) = h.args.map (inst M) := by
  have main : ∀ t : Tm, Headed M t → clean t = t → known M.length t = true → inst M t = .mk t.kind t.name t.var (t.args.map (inst M)) := by
    rintro ⟨k, s, v, xs⟩ ht hc hk
    obtain ⟨c1, c2, c3⟩ := clean_mk hc
    by_cases h4 : k = 4
    · subst h4
      have hm := ht rfl
      simp only [Tm.var_mk] at hm
      rw [inst_four hm, c2 (by omega), c3 rfl]; rfl
    · by_cases h2 : k = 2
      · subst h2
        rw [inst_two, (c1 rfl).1]; rfl
      · rw [inst_other h4 h2, c2 h2]; rfl
  rw [main u hu cu ku, main h hh ch kh] at e
  obtain ⟨k, s, v, xs⟩ := u
  obtain ⟨k', s', v', xs'⟩ := h
  simp only [Tm.kind_mk, Tm.name_mk, Tm.var_mk, Tm.args_mk, Tm.mk.injEq] at e ⊢
  refine ⟨e.1, e.2.1, e.2.2.1, ?_, e.2.2.2⟩
  have := congrArg List.length e.2.2.2
  simpa using this

/-- what was one when resolved stays one -/
def Ext (M M' : List Tm) : Prop := M'.length = M.length ∧ ∀ t u, known M.length t = true → known M.length u = true → inst M t = inst M u → inst M' t = inst M' u
theorem Ext.refl (M : List Tm) : Ext M M := ⟨rfl, fun _ _ _ _ h => h⟩
theorem Ext.trans {M M' M2 : List Tm} (h : Ext M M') (g : Ext M' M2) : Ext M M2 := ⟨g.1.trans h.1, fun t u ht hu e => g.2 t u (h.1 ▸ ht) (h.1 ▸ hu) (h.2 t u ht hu e)⟩
theorem bindR_ext (M : List Tm) (v : Int) (b : Tm) : Ext M (bindR M v b).2 := by
  unfold bindR
  split
  · exact .refl M
  · split
    · exact .refl M
    · exact ⟨by simp, fun t u ht hu e => by rw [inst_map_put t ht, inst_map_put u hu, e]⟩
theorem unifyR_ext : ∀ (n : Nat) (M : List Tm) (a b : Tm) (res : Int × List Tm), unifyR n M a b = some res → Ext M res.2
  | 0, M, a, b, res, h => by cases h
  | n + 1, M, a, b, res, h => by
    have sq : ∀ (xs ys : List Tm) (M' : List Tm) res, seqR (unifyR n) M' xs ys = some res → Ext M' res.2 := by
      intro xs
      induction xs with
      | nil => intro ys M' res h; simp [seqR] at h; subst h; exact .refl _
      | cons x xs ihx =>
        intro ys M' res h
        cases ys with
        | nil => simp [seqR] at h; subst h; exact .refl _
        | cons y ys =>
          simp only [seqR] at h
          cases hu : unifyR n M' x y with
          | none => rw [hu] at h; cases h
          | some r =>
            have k1 := unifyR_ext n M' x y r hu
            rw [hu] at h
            split at h
            · rename_i M2 e
              cases e
              exact k1.trans (ihx ys M2 res h)
            · cases h; exact k1
    simp only [unifyR] at h
    split at h
    · split at h
      · cases h; exact .refl _
      · split at h
        · cases h; exact bindR_ext _ _ _
        · cases h; exact bindR_ext _ _ _
    · split at h
      · cases h; exact .refl _
      · split at h
        · cases h; exact .refl _
        · split at h
          · cases h; exact .refl _
          · exact sq _ _ M res h

/-- binding an unknown: the table of the program that goes with it -/
theorem bindR_rel {L : List (Option Tm)} {M : List Tm} (R : Rel L M) {v : Nat} {a : Tm} (hv : L[v]? = some none) (ha : OkT M.length a) :
    ((bindR M v (inst M a)).1 = 0 ∧ (bindR M v (inst M a)).2 = M.map (put v (inst M a)) ∧ Rel (L.set v (some a)) (M.map (put v (inst M a)))) ∨ ((bindR M v (inst M a)).1 ≠ 0 ∧ (bindR M v (inst M a)).2 = M) := by
  unfold bindR
  split
  · exact .inr ⟨by simp, rfl⟩
  · rename_i h
    split
    · exact .inr ⟨by simp, rfl⟩
    · exact .inl ⟨rfl, rfl, R.bind hv ha (by simpa using h)⟩

/-- an unknown that stands for itself is not bound -/
theorem Rel.unbound {L : List (Option Tm)} {M : List Tm} (R : Rel L M) {v : Nat} (h : M[v]? = some (free v)) : L[v]? = some none := by
  obtain ⟨r, hr⟩ := R.rank
  have main : ∀ (n x : Nat) (w : Int), r x ≤ n → M[x]? = some (free w) → ∃ y : Nat, L[y]? = some none ∧ free w = free y := by
    intro n
    induction n with
    | zero =>
      intro x w hn hu
      have hw : x < L.length := by rw [R.len]; exact (List.getElem?_eq_some_iff.1 hu).1
      rcases e : L[x]? with _ | _ | t
      · rw [List.getElem?_eq_none_iff] at e; omega
      · have := R.no x e
        rw [hu] at this
        exact ⟨x, e, Option.some.inj this⟩
      · obtain ⟨h1, h2⟩ := R.yes x t e
        rw [hu] at h2
        have h3 := Option.some.inj h2
        obtain ⟨k', s', v', xs'⟩ := t
        by_cases h4 : k' = 4
        · subst h4
          have hv' := known_four.1 h1.2.2
          have := hr x _ e v'.toNat (by simp [hasV]; omega)
          omega
        · by_cases h2 : k' = 2
          · subst h2; rw [inst_two] at h3; simp [free] at h3
          · rw [inst_other h4 h2] at h3; simp [free] at h3; omega
    | succ n ih =>
      intro x w hn hu
      have hw : x < L.length := by rw [R.len]; exact (List.getElem?_eq_some_iff.1 hu).1
      rcases e : L[x]? with _ | _ | t
      · rw [List.getElem?_eq_none_iff] at e; omega
      · have := R.no x e
        rw [hu] at this
        exact ⟨x, e, Option.some.inj this⟩
      · obtain ⟨h1, h2⟩ := R.yes x t e
        rw [hu] at h2
        have h3 := Option.some.inj h2
        obtain ⟨k', s', v', xs'⟩ := t
        by_cases h4 : k' = 4
        · subst h4
          have hv' := known_four.1 h1.2.2
          have := hr x _ e v'.toNat (by simp [hasV]; omega)
          obtain ⟨u, hu'⟩ : ∃ u, M[v'.toNat]? = some u := ⟨_, List.getElem?_eq_getElem (by omega)⟩
          rw [inst_four hu'] at h3
          exact ih v'.toNat w (by omega) (h3 ▸ hu')
        · by_cases h2 : k' = 2
          · subst h2; rw [inst_two] at h3; simp [free] at h3
          · rw [inst_other h4 h2] at h3; simp [free] at h3; omega
  obtain ⟨y, h1, h2⟩ := main _ v v (Nat.le_refl _) h
  have : v = y := by simp [free] at h2; omega
  rw [this]; exact h1
end Go.Uni
end

/- part U1T -/
section
namespace Go.Uni
/-- what head comes to -/
def Hd (L : List (Option Tm)) (M : List Tm) (t u : Tm) : Prop := known M.length u = true ∧ inst M u = inst M t ∧ (u.kind = 4 → L[u.var.toNat]? = some none) ∧ (u = t ∨ OkT M.length u)
theorem Hd.headed {L : List (Option Tm)} {M : List Tm} {t u : Tm} (R : Rel L M) (h : Hd L M t u) : Headed M u := fun h4 => by
  have h1 := R.no _ (h.2.2.1 h4)
  have hk := h.1
  obtain ⟨k, s, v, xs⟩ := u
  simp only [Tm.kind_mk] at h4
  subst h4
  have hv := known_four.1 hk
  simp only [Tm.var_mk] at h1 ⊢
  rw [h1]; congr 2; omega
theorem Hd.okT {L : List (Option Tm)} {M : List Tm} {t u : Tm} (h : Hd L M t u) (ht : OkT M.length t) : OkT M.length u := by
  rcases h.2.2.2 with e | e
  · rw [e]; exact ht
  · exact e
end Go.Uni
namespace Go.Proofs.YtdgekhanonfikaaDoor.Va
open Go.Vx Go.Av Go.Uni

theorem encB_some (t : Tm) : List.take 4 (encB (some t)) = enc t := by obtain ⟨k, s, v, l⟩ := t; rfl

theorem head_loop {L : List (Option Tm)} {M : List Tm} (R : Rel L M) {t : Tm} (hk : known M.length t = true) (J : Tm → Prop) (hJ : ∀ u, Hd L M t u → J u) (k : Int) (s : ByteArray) (v : Int) (xs : List Tm) (ht : t = .mk k s v xs) (Q : List V → Prop) (hQ : ∀ u, J u → Q (enc u)) :
    ∃ (I19 : List V → Prop) (μ20 : List V → Nat), I19 [(.int .i64 k), (.str s), (.int .i64 v), (.sl 4 (encs xs))] ∧ (∀ (n21 : Int) (s22 : ByteArray) (n23 : Int) (l24 : List (List V)), I19 [(.int .i64 n21), (.str s22), (.int .i64 n23), (.sl 4 l24)] →
 (bif (n21 == (4 : Int)) then (0 ≤ n23 ∧ n23 < (List.length (encBs L) : Int) ∧ (∃ (b25 : Bool), List.take 1 (List.drop 4 (Av.rowAt (encBs L) ((n23 : Int).toNat))) = [(.bool b25)] ∧ (bif b25 then
 (0 ≤ n23 ∧ n23 < (List.length (encBs L) : Int) ∧ (∃ (n26 : Int) (s27 : ByteArray) (n28 : Int) (l29 : List (List V)), List.take 4 (Av.rowAt (encBs L) ((n23 : Int).toNat)) = [(.int .i64 n26), (.str s27), (.int .i64 n28), (.sl 4 l29)] ∧ (I19 [(.int .i64 n26), (.str s27), (.int .i64 n28), (.sl 4 l29)] ∧ μ20 [(.int .i64 n26), (.str s27), (.int .i64 n28), (.sl 4 l29)] < μ20 [(.int .i64 n21), (.str s22), (.int .i64 n23), (.sl 4 l24)])))
 else
 (Q [(.int .i64 n21), (.str s22), (.int .i64 n23), (.sl 4 l24)])))) else (Q [(.int .i64 n21), (.str s22), (.int .i64 n23), (.sl 4 l24)]))) := by
  obtain ⟨r, hr⟩ := R.rank
  refine ⟨fun us => ∃ u, us = enc u ∧ known M.length u = true ∧ inst M u = inst M t ∧ (u = t ∨ OkT M.length u), fun us => match us with | [.int _ k, _, .int _ v, _] => if k = 4 then 1 + r v.toNat else 0 | _ => 0, ⟨t, by rw [ht]; rfl, hk, rfl, .inl rfl⟩, ?_⟩
  rintro k1 s1 v1 l1 ⟨⟨k1', s1', v1', xs1⟩, e, h1, h2, h3⟩
  simp only [enc, List.cons.injEq, V.int.injEq, V.str.injEq, V.sl.injEq, true_and, and_true] at e
  obtain ⟨rfl, rfl, rfl, rfl⟩ := e
  refine ifE (fun h4 => ?_) (fun h4 => hQ _ (hJ _ ⟨h1, h2, fun h => absurd h h4, h3⟩))
  subst h4
  have hv := known_four.1 h1
  have hl := R.len
  refine ⟨hv.1, by rw [encBs_length]; omega, ?_⟩
  rcases e : L[v1.toNat]? with _ | _ | t'
  · rw [List.getElem?_eq_none_iff] at e; omega
  · refine ⟨false, by rw [rowB e, encB_flag]; rfl, ?_⟩
    exact hQ (.mk 4 s1 v1 xs1) (hJ _ ⟨h1, h2, fun _ => e, h3⟩)
  · refine ⟨true, by rw [rowB e, encB_flag]; rfl, hv.1, by rw [encBs_length]; omega, ?_⟩
    obtain ⟨y1, y2⟩ := R.yes _ _ e
    have hrank := hr _ _ e
    obtain ⟨k2, s2, v2, xs2⟩ := t'
    refine ⟨k2, s2, v2, encs xs2, by rw [rowB e, encB_some]; rfl, ⟨.mk k2 s2 v2 xs2, rfl, y1.2.2, ?_, .inr y1⟩, ?_⟩
    · rw [← h2, inst_four y2]
    · simp only [if_true]
      by_cases h4 : k2 = 4
      · subst h4
        have hv2 := known_four.1 y1.2.2
        have := hrank v2.toNat (by simp [hasV]; omega)
        simp only [if_true]; omega
      · rw [if_neg h4]; omega

theorem head_spec {L : List (Option Tm)} {M : List Tm} (R : Rel L M) {t : Tm} (hk : known M.length t = true) : SCalls ax 53 [.ptr 0 0, .agg (enc t)] (UT L) fun r o => ∃ u, r = [.agg (enc u)] ∧ o = UT L ∧ Hd L M t u := by
  obtain ⟨k, s, v, xs⟩ := t
  refine head.calls (K := fun r o => ∃ u, r = [.agg (enc u)] ∧ o = UT L ∧ Hd L M (.mk k s v xs) u) ?_
  unfold head.W
  exact head_loop R hk (Hd L M (.mk k s v xs)) (fun _ h => h) k s v xs rfl (fun us => ∃ u, [V.agg us] = [.agg (enc u)] ∧ UT L = UT L ∧ Hd L M (.mk k s v xs) u) (fun u h => ⟨u, rfl, rfl, h⟩)

theorem OkT.le {n : Nat} {t : Tm} (h : OkT n t) : size t ≤ big := by have := h.1; have hb : big = 1099511627776 := rfl; omega
theorem Hd_size {L : List (Option Tm)} {M : List Tm} {t u : Tm} (h : Hd L M t u) (hs : size t ≤ big) : size u ≤ big := by
  rcases h.2.2.2 with e | e
  · rw [e]; exact hs
  · exact OkT.le e

theorem nodes_spec {L : List (Option Tm)} {M : List Tm} (R : Rel L M) : ∀ (n : Nat) (t : Tm), known M.length t = true → size t ≤ big → nodes (inst M t) ≤ n → ∀ left : Int, 0 ≤ left → left ≤ 1073741824 →
    SCalls ax 39 [.ptr 0 0, .agg (enc t), .int .i64 left] (UT L) fun r o => ∃ l : Int, r = [.int .i64 l] ∧ o = UT L ∧ -1 ≤ l ∧ l < left ∧ (0 ≤ l → l = left - nodes (inst M t)) ∧ (l < 0 → left < nodes (inst M t)) := by
  intro n
  induction n with
  | zero => intro t _ _ h; have := nodes_pos (inst M t); omega
  | succ n ih =>
    intro t hk hs hn left h0 h1
    obtain ⟨k, s, v, xs⟩ := t
    refine nodes.calls (K := fun r o => ∃ l : Int, r = [.int .i64 l] ∧ o = UT L ∧ -1 ≤ l ∧ l < left ∧ (0 ≤ l → l = left - nodes (inst M (.mk k s v xs))) ∧ (l < 0 → left < nodes (inst M (.mk k s v xs)))) ?_
    unfold nodes.W
    refine ⟨fun us => ∃ u, us = enc u ∧ Hd L M (.mk k s v xs) u, head_loop R hk (Hd L M (.mk k s v xs)) (fun _ h => h) k s v xs rfl (fun us => ∃ u, us = enc u ∧ Hd L M (.mk k s v xs) u) (fun u h => ⟨u, rfl, h⟩), ?_⟩
    rintro k1 s1 v1 l1 ⟨⟨k1', s1', v1', xs1⟩, e, hd⟩
    simp only [enc, List.cons.injEq, V.int.injEq, V.str.injEq, V.sl.injEq, true_and, and_true] at e
    obtain ⟨rfl, rfl, rfl, rfl⟩ := e
    have hsu := Hd_size hd hs
    have hed := hd.headed R
    obtain ⟨hku, hi, hu4, hok⟩ := hd
    rw [← hi] at hn ⊢
    rw [w64 (by omega) (by omega)]
    refine ifNE (fun h2 => ?_) (fun h2 => ?_)
    · have : nodes (inst M (.mk k1 s1 v1 xs1)) = 1 := by
        by_cases h4 : k1 = 4
        · subst h4
          rw [inst_four (by simpa using hed rfl)]; rfl
        · rw [inst_other h4 h2]; simp [nodes, h2]
      exact ⟨left - 1, rfl, rfl, by omega, by omega, fun _ => by omega, fun _ => by omega⟩
    · subst h2
      have hkx : ∀ x ∈ xs1, known M.length x = true := by rw [known_two, List.all_eq_true] at hku; exact hku
      have hnt : nodes (inst M (.mk 2 s1 v1 xs1)) = 1 + nodesL (xs1.map (inst M)) := by rw [inst_two]; simp [nodes]
      have hle : ∀ i, nodesL ((xs1.take i).map (inst M)) ≤ nodesL (xs1.map (inst M)) := fun i => by
        conv => rhs; rw [← List.take_append_drop i xs1, List.map_append, nodesL_append]
        omega
      simp only [size] at hsu
      have hls := length_sizes xs1
      have hb : big = 1099511627776 := rfl
      refine ⟨fun us => ∃ (i : Nat) (l : Int), us = [.int .i64 l, .int .i64 i, .sl 5 (encBs L)] ∧ i ≤ xs1.length ∧ -1 ≤ l ∧ l < left ∧ (0 ≤ l → l = left - 1 - nodesL ((xs1.take i).map (inst M))) ∧ (l < 0 → left < 1 + nodesL ((xs1.take i).map (inst M))),
        fun us => match us with | _ :: .int _ i :: _ => xs1.length - i.toNat | _ => 0, ⟨0, left - 1, rfl, Nat.zero_le _, by omega, by omega, fun _ => by simp [nodesL], fun _ => by simp [nodesL]; omega⟩, ?_⟩
      rintro l2 n2 l3 ⟨i, l, e, hi, hl1, hl2, hl3, hl4⟩
      cases e
      rw [encs_length]
      refine ifD (fun hlt => ?_) (fun hge => ?_)
      · have hi' : i < xs1.length := by omega
        obtain ⟨k', s', v', l', he⟩ := getEq hi'
        have hm := List.mem_of_getElem? he
        have hsz := size_mem hm
        have hw : IntKind.i64.wrap ((i : Int) + 1) = ((i + 1 : Nat) : Int) := by rw [w64 (by omega) (by omega)]; push_cast; rfl
        have htk : nodesL ((xs1.take (i + 1)).map (inst M)) = nodesL ((xs1.take i).map (inst M)) + nodes (inst M (.mk k' s' v' l')) := by
          rw [List.take_add_one, he, List.map_append, nodesL_append]; simp [nodesL]
        have hle1 := hle (i + 1)
        refine ⟨by omega, hlt, k', s', v', encs l', lrow he, ifD (fun hneg => ?_) (fun hpos => ?_)⟩
        · have := hl4 hneg
          have := hle i
          exact ⟨l2, rfl, rfl, hl1, hl2, fun h => by omega, fun _ => by omega⟩
        · have hl := hl3 (by omega)
          refine (ih (.mk k' s' v' l') (hkx _ hm) (by omega) (by omega) l2 (by omega) (by omega)).mono fun r o ⟨l, hr, ho, b1, b2, b3, b4⟩ => ⟨l, _, hr, ho, ?_⟩
          rw [hw]
          refine ⟨⟨i + 1, l, rfl, hi', b1, by omega, fun h => ?_, fun h => ?_⟩, by simp only [Int.toNat_natCast]; omega⟩
          · have := b3 h; rw [htk]; omega
          · have := b4 h; rw [htk]; omega
      · have hx : xs1.take i = xs1 := List.take_of_length_le (by omega)
        rw [hx] at hl3 hl4
        exact ⟨l2, rfl, rfl, hl1, hl2, fun h => by have := hl3 h; omega, fun h => by have := hl4 h; omega⟩
end Go.Proofs.YtdgekhanonfikaaDoor.Va
end

/- part U1V -/
section
namespace Go.Proofs.YtdgekhanonfikaaDoor.Va
open Go.Vx Go.Av Go.Uni

abbrev KW (L : List (Option Tm)) (v : Int) : List Ob := [.box [.ptr 1 0], .box [.own 2], .lst 69 5 false (encBs L), .box [.int .i64 v]]
theorem any_map {xs : List Tm} {f : Tm → Tm} {p : Tm → Bool} : (xs.map f).any p = xs.any fun x => p (f x) := by rw [List.any_map]; rfl

theorem within1_of {L : List (Option Tm)} {v : Int} {c : Bool} {t : Tm} (h : SCalls ax 65 [.ptr 0 0, .int .i64 v, .agg (enc t)] (UT L) fun r o => r = [.bool c] ∧ o = UT L) :
    SCalls ax 72 [.agg (enc t), .ptr 0 0, .ptr 3 0] (KW L v) fun r o => r = [.bool c] ∧ o = KW L v := by
  obtain ⟨k, s, w, xs⟩ := t
  refine within1.calls (K := fun r o => r = [.bool c] ∧ o = KW L v) ?_
  unfold within1.W
  exact h.mono fun r o ⟨hr, ho⟩ => ⟨_, _, hr, ho, rfl, rfl⟩
theorem IndexW_of {L : List (Option Tm)} {v : Int} {xs : List Tm} {f : Tm → Bool} (hs : sizes xs ≤ big) (ih : ∀ t ∈ xs, SCalls ax 65 [.ptr 0 0, .int .i64 v, .agg (enc t)] (UT L) fun r o => r = [.bool (f t)] ∧ o = UT L) :
    SCalls ax 71 [.sl 4 (encs xs), .fn 72 [] [.ptr 0 0, .ptr 3 0]] (KW L v) fun r o => ∃ n : Int, r = [.int .i64 n] ∧ o = KW L v ∧ (decide (n ≥ 0) = xs.any f) := by
  refine IndexW.calls (K := fun r o => ∃ n : Int, r = [.int .i64 n] ∧ o = KW L v ∧ (decide (n ≥ 0) = xs.any f)) ?_
  unfold IndexW.W
  have hls := length_sizes xs
  have hb : big = 1099511627776 := rfl
  refine ⟨fun us => ∃ i : Nat, i ≤ xs.length ∧ us = [.int .i64 i, .int .i64 v, .sl 5 (encBs L)] ∧ (xs.take i).any f = false, fun us => match us with | .int _ i :: _ => xs.length - i.toNat | _ => 0, ⟨0, Nat.zero_le _, rfl, rfl⟩, ?_⟩
  rintro n v' M ⟨i, hi, e, htk⟩
  cases e
  rw [encs_length]
  refine ifD (fun hlt => ?_) (fun hge => ?_)
  · have hi' : i < xs.length := by omega
    obtain ⟨k', s', v', l', he⟩ := getEq hi'
    have hm := List.mem_of_getElem? he
    have hw : IntKind.i64.wrap ((i : Int) + 1) = ((i + 1 : Nat) : Int) := by rw [w64 (by omega) (by omega)]; push_cast; rfl
    refine ⟨by omega, hlt, k', s', v', encs l', lrow he, ?_⟩
    refine (within1_of (ih _ hm)).mono fun r o ⟨hr, ho⟩ => ⟨_, _, _, hr, ho, ifB (fun h => ?_) (fun h => ?_)⟩
    · exact ⟨i, rfl, rfl, by rw [any_of_get he h]; simp⟩
    · rw [hw]
      refine ⟨⟨i + 1, hi', rfl, ?_⟩, by simp only [Int.toNat_natCast]; omega⟩
      rw [take_any he, htk, h]; rfl
  · have hx : xs.take i = xs := List.take_of_length_le (by omega)
    rw [hx] at htk
    exact ⟨-1, rfl, rfl, by rw [htk]; simp⟩
theorem ContainsW_of {L : List (Option Tm)} {v : Int} {xs : List Tm} {f : Tm → Bool} (hs : sizes xs ≤ big) (ih : ∀ t ∈ xs, SCalls ax 65 [.ptr 0 0, .int .i64 v, .agg (enc t)] (UT L) fun r o => r = [.bool (f t)] ∧ o = UT L) :
    SCalls ax 63 [.sl 4 (encs xs), .fn 72 [] [.ptr 0 0, .ptr 3 0]] (KW L v) fun r o => r = [.bool (xs.any f)] ∧ o = KW L v := by
  refine ContainsW.calls (K := fun r o => r = [.bool (xs.any f)] ∧ o = KW L v) ?_
  unfold ContainsW.W
  exact (IndexW_of hs ih).mono fun r o ⟨n, hr, ho, hn⟩ => ⟨n, _, _, hr, ho, by rw [hn], rfl⟩

theorem within_spec {L : List (Option Tm)} {M : List Tm} (R : Rel L M) (v : Int) : ∀ (n : Nat) (t : Tm), OkT M.length t → nodes (inst M t) ≤ n →
    SCalls ax 65 [.ptr 0 0, .int .i64 v, .agg (enc t)] (UT L) fun r o => r = [.bool (hasV v (inst M t))] ∧ o = UT L := by
  intro n
  induction n with
  | zero => intro t _ h; have := nodes_pos (inst M t); omega
  | succ n ih =>
    intro t ht hn
    have hhd := head_spec R ht.2.2
    obtain ⟨k, s, w, xs⟩ := t
    refine within.calls (K := fun r o => r = [.bool (hasV v (inst M (.mk k s w xs)))] ∧ o = UT L) ?_
    unfold within.W
    refine hhd.mono fun r o ⟨u, hr, ho, hd⟩ => ?_
    have hed := hd.headed R
    have hou := hd.okT ht
    obtain ⟨hku, hi, hu4, _⟩ := hd
    rw [← hi] at hn ⊢
    obtain ⟨k1, s1, v1, xs1⟩ := u
    refine ⟨k1, s1, v1, encs xs1, _, hr, ho, ifE (fun h4 => ?_) (fun h4 => ifE (fun h2 => ?_) (fun h2 => ?_))⟩
    · subst h4
      rw [inst_four (by simpa using hed rfl), hasV_free]; exact ⟨rfl, rfl⟩
    · subst h2
      have hx := args_ok hou
      have hsz := hou.1
      simp only [size] at hsz
      have hnt : nodes (inst M (.mk 2 s1 v1 xs1)) = 1 + nodesL (xs1.map (inst M)) := by rw [inst_two]; simp [nodes]
      have hb : big = 1099511627776 := rfl
      refine (ContainsW_of (L := L) (v := v) (f := fun x => hasV v (inst M x)) (xs := xs1) (by omega) fun x hm => ih x (hx x hm) ?_).mono fun r o ⟨hr, ho⟩ => ⟨_, _, _, hr, ho, ?_, rfl⟩
      · have := nodesL_mem (List.mem_map_of_mem (f := inst M) hm); omega
      · rw [inst_two, hasV_two, any_map]
    · rw [inst_other h4 h2]
      simp [hasV, h4, h2]

theorem resolve_spec {L : List (Option Tm)} {M : List Tm} (R : Rel L M) : ∀ (n : Nat) (t : Tm), OkT M.length t → nodes (inst M t) ≤ n →
    SCalls ax 40 [.ptr 0 0, .agg (enc t)] (UT L) fun r o => r = [.agg (enc (inst M t))] ∧ o = UT L := by
  intro n
  induction n with
  | zero => intro t _ h; have := nodes_pos (inst M t); omega
  | succ n ih =>
    intro t ht hn
    have hhd := head_spec R ht.2.2
    obtain ⟨k, s, w, xs⟩ := t
    refine resolve.calls (K := fun r o => r = [.agg (enc (inst M (.mk k s w xs)))] ∧ o = UT L) ?_
    unfold resolve.W
    refine hhd.mono fun r o ⟨u, hr, ho, hd⟩ => ?_
    have hed := hd.headed R
    have hou := hd.okT ht
    obtain ⟨hku, hi, hu4, _⟩ := hd
    rw [← hi] at hn ⊢
    obtain ⟨k1, s1, v1, xs1⟩ := u
    obtain ⟨c1, c2, c3⟩ := clean_mk hou.2.1
    refine ⟨k1, s1, v1, encs xs1, _, hr, ho, ifNE (fun h2 => ?_) (fun h2 => ?_)⟩
    · by_cases h4 : k1 = 4
      · subst h4
        rw [inst_four (by simpa using hed rfl), c3 rfl]; exact ⟨rfl, rfl⟩
      · rw [inst_other h4 h2, c2 h2]; exact ⟨rfl, rfl⟩
    · subst h2
      have hx := args_ok hou
      have hsz := hou.1
      simp only [size] at hsz
      have hls := length_sizes xs1
      have hnt : nodes (inst M (.mk 2 s1 v1 xs1)) = 1 + nodesL (xs1.map (inst M)) := by rw [inst_two]; simp [nodes]
      refine ⟨fun us => ∃ i : Nat, i ≤ xs1.length ∧ us = [.int .i64 i, .int .i64 2, .str s1, .int .i64 0, .sl 4 (encs ((xs1.take i).map (inst M))), .sl 5 (encBs L)], fun us => match us with | .int _ i :: _ => xs1.length - i.toNat | _ => 0, ⟨0, Nat.zero_le _, rfl⟩, ?_⟩
      rintro n50 n51 s52 n53 l54 l55 ⟨i, hi, e⟩
      cases e
      rw [encs_length]
      refine ifD (fun hlt => ?_) (fun hge => ?_)
      · have hi' : i < xs1.length := by omega
        obtain ⟨k', s', v', l', he⟩ := getEq hi'
        have hm := List.mem_of_getElem? he
        have hw : IntKind.i64.wrap ((i : Int) + 1) = ((i + 1 : Nat) : Int) := by rw [w64 (by omega) (by omega)]; push_cast; rfl
        refine ⟨by omega, hlt, k', s', v', encs l', lrow he, ?_⟩
        refine (ih (.mk k' s' v' l') (hx _ hm) (by have := nodesL_mem (List.mem_map_of_mem (f := inst M) hm); omega)).mono fun r o ⟨hr, ho⟩ => ?_
        obtain ⟨k2, s2, v2, l2, e2⟩ : ∃ k2 s2 v2 l2, inst M (.mk k' s' v' l') = .mk k2 s2 v2 l2 := by cases h : inst M (.mk k' s' v' l'); exact ⟨_, _, _, _, rfl⟩
        refine ⟨k2, s2, v2, encs l2, _, by rw [hr, e2]; rfl, ho, ?_⟩
        have hlen : (encs ((xs1.take i).map (inst M))).length = i := by simp; omega
        have hn : encs ((xs1.take i).map (inst M)) ++ [[.int .i64 k2, .str s2, .int .i64 v2, .sl 4 (encs l2)]] = encs ((xs1.take (i + 1)).map (inst M)) := by
          rw [← map_take_succ he, e2]; rfl
        rw [hlen, hw, hn]
        exact ⟨by simp only [List.length_cons, List.length_nil]; omega, by simp only [List.length_cons, List.length_nil]; omega, ⟨i + 1, hi', rfl⟩, by simp only [Int.toNat_natCast]; omega⟩
      · have hx : xs1.take i = xs1 := List.take_of_length_le (by omega)
        rw [hx, inst_two]; exact ⟨rfl, rfl⟩
end Go.Proofs.YtdgekhanonfikaaDoor.Va
end

/- part U1W -/
section
namespace Go.Proofs.YtdgekhanonfikaaDoor.Va
open Go.Vx Go.Av Go.Uni

theorem encBs_set (L : List (Option Tm)) (v : Nat) (b : Option Tm) : List.set (encBs L) v (encB b) = encBs (L.set v b) := by simp [encBs, List.map_set]
theorem any_nodes {M : List Tm} {f : Tm → Tm} {i : Nat} {x : Tm} (hx : M[i]? = some x) (h : 200 < nodes (f x)) : M.any (fun x => decide (200 < nodes (f x))) = true := any_of_get' hx (by simpa using h)
  where any_of_get' {xs : List Tm} {i : Nat} {t : Tm} {f : Tm → Bool} (h : xs[i]? = some t) (hf : f t = true) : xs.any f = true := List.any_eq_true.2 ⟨t, List.mem_of_getElem? h, hf⟩

theorem set_self {L : List (Option Tm)} {v : Nat} {b : Option Tm} (h : L[v]? = some b) : L.set v b = L := by
  induction L generalizing v with
  | nil => rfl
  | cons x r ih => cases v with
    | zero => simp at h; simp [h]
    | succ v => simp at h; simp [ih h]

/-- an error as its number says it -/
def ErrN (e : Option Nat) (n : Int) : Prop := numE e = n ∧ (e = none ∨ e = some 0 ∨ e = some 1 ∨ e = some 2)

theorem bind_spec {L : List (Option Tm)} {M : List Tm} (R : Rel L M) {v : Nat} (hv : L[v]? = some none) {a : Tm} (ha : OkT M.length a) :
    SCalls ax 54 [.ptr 0 0, .int .i64 v, .agg (enc a)] (UT L) fun r o => ∃ e L', r = [.err e] ∧ o = UT L' ∧ ErrN e (bindR M v (inst M a)).1 ∧ Rel L' (bindR M v (inst M a)).2 := by
  have hin := within_spec R v _ a ha (Nat.le_refl _)
  obtain ⟨k, s, w, xs⟩ := a
  refine bind.calls (K := fun r o => ∃ e L', r = [.err e] ∧ o = UT L' ∧ ErrN e (bindR M v (inst M (.mk k s w xs))).1 ∧ Rel L' (bindR M v (inst M (.mk k s w xs))).2) ?_
  unfold bind.W
  refine hin.mono fun r o ⟨hr, ho⟩ => ⟨_, _, hr, ho, ifB (fun h => ?_) (fun hh => ?_)⟩
  · have : bindR M v (inst M (.mk k s w xs)) = (6, M) := by simp [bindR, h]
    rw [this]
    exact ⟨some 2, L, rfl, rfl, ⟨rfl, by simp⟩, R⟩
  · have hvl : v < L.length := (List.getElem?_eq_some_iff.1 hv).1
    have R1 := R.bind hv ha hh
    have hset : List.set (encBs L) ((v : Int).toNat) [.int .i64 k, .str s, .int .i64 w, .sl 4 (encs xs), .bool true] = encBs (L.set v (some (.mk k s w xs))) := encBs_set L v (some (.mk k s w xs))
    rw [hset]
    simp only [encBs_length, List.length_set, Int.toNat_natCast]
    have hback : List.set (encBs (L.set v (some (.mk k s w xs)))) v [.int .i64 0, .str (⟨#[]⟩ : ByteArray), .int .i64 0, .sl 4 [], .bool false] = encBs L := by
      have := encBs_set (L.set v (some (.mk k s w xs))) v none
      rw [List.set_set, set_self hv] at this
      exact this
    generalize hL1 : L.set v (some (.mk k s w xs)) = L1 at *
    have hl1 : L1.length = L.length := by rw [← hL1]; simp
    have hlM := R.len
    have hML := R.ml
    refine ⟨by omega, by omega, by omega, fun us => ∃ i : Nat, i ≤ M.length ∧ us = [.int .i64 i, .sl 5 (encBs L1)] ∧ (M.take i).any (fun x => decide (200 < nodes (Uni.put v (inst M (.mk k s w xs)) x))) = false, fun us => match us with | .int _ i :: _ => M.length - i.toNat | _ => 0, ⟨0, Nat.zero_le _, rfl, rfl⟩, ?_⟩
    rintro n27 l28 ⟨i, hi, e, htk⟩
    cases e
    refine ifD (fun hlt => ?_) (fun hge => ?_)
    · have hi' : i < M.length := by omega
      obtain ⟨k', s', v', l', he⟩ := getEq hi'
      have hw : IntKind.i64.wrap ((i : Int) + 1) = ((i + 1 : Nat) : Int) := by rw [w64 (by omega) (by omega)]; push_cast; rfl
      have hif : inst (M.map (Uni.put v (inst M (.mk k s w xs)))) (free i) = Uni.put v (inst M (.mk k s w xs)) (.mk k' s' v' l') := inst_four (by simp [he])
      have hkn : known (M.map (Uni.put v (inst M (.mk k s w xs)))).length (free i) = true := known_free (by simpa using hi')
      refine (nodes_spec R1 _ (free i) hkn (by simp [free, size, sizes, big]) (Nat.le_refl _) 200 (by omega) (by omega)).mono fun r o ⟨l, hr, ho, b1, b2, b3, b4⟩ => ⟨l, _, hr, ho, ifD (fun h => ?_) (fun h => ?_)⟩
      · have h5 := b4 h
        rw [hif] at h5
        have : bindR M v (inst M (.mk k s w xs)) = (4, M) := by
          have := any_nodes (f := Uni.put v (inst M (.mk k s w xs))) he (by omega)
          simp [bindR, hh, this]
        rw [this, hback]
        simp only [encBs_length]
        exact ⟨by omega, by omega, by omega, some 0, L, rfl, rfl, ⟨rfl, by simp⟩, R⟩
      · rw [hw]
        refine ⟨⟨i + 1, hi', rfl, ?_⟩, by simp only [Int.toNat_natCast]; omega⟩
        have h5 := b3 (by omega)
        rw [hif] at h5
        rw [take_any he, htk]; simp; omega
    · have hx : M.take i = M := List.take_of_length_le (by omega)
      rw [hx] at htk
      have : bindR M v (inst M (.mk k s w xs)) = (0, M.map (Uni.put v (inst M (.mk k s w xs)))) := by simp [bindR, hh, htk]
      rw [this]
      exact ⟨none, L1, rfl, rfl, ⟨rfl, by simp⟩, R1⟩
end Go.Proofs.YtdgekhanonfikaaDoor.Va
end

/- part U1X -/
section
namespace Go.Uni
/-- the program's heads against the reference's -/
theorem heads {L : List (Option Tm)} {M : List Tm} (R : Rel L M) {a a' u : Tm} (ha : OkT M.length a) (ha' : OkT M.length a') (e : inst M a = inst M a') (hd : Hd L M a u) :
    u.kind = (headR M a').kind ∧ u.name = (headR M a').name ∧ u.var = (headR M a').var ∧ u.args.length = (headR M a').args.length ∧ u.args.map (inst M) = (headR M a').args.map (inst M) ∧ inst M u = inst M (headR M a') := by
  have h1 := hd.headed R
  have h2 := hd.okT ha
  obtain ⟨h3, h4⟩ := headR_inst R ha'.2.2
  have h5 : clean (headR M a') = headR M a' ∧ known M.length (headR M a') = true := by
    unfold headR
    split
    · split
      · rename_i w hw; exact R.mel w (List.mem_of_getElem? hw)
      · exact ha'.2
    · exact ha'.2
  have h6 : inst M u = inst M (headR M a') := by rw [hd.2.1, e, h3]
  obtain ⟨b1, b2, b3, b4, b5⟩ := headed_same h1 h4 h2.2.1 h5.1 h2.2.2 h5.2 h6
  exact ⟨b1, b2, b3, b4, b5, h6⟩
end Go.Uni
namespace Go.Proofs.YtdgekhanonfikaaDoor.Va
open Go.Vx Go.Av Go.Uni

theorem unify_spec : ∀ (n : Nat) (L : List (Option Tm)) (M : List Tm) (a b a' b' : Tm) (res : Int × List Tm), Rel L M → OkR M → OkT M.length a → OkT M.length b → OkT M.length a' → OkT M.length b' →
    inst M a = inst M a' → inst M b = inst M b' → unifyR n M a' b' = some res →
    SCalls ax 34 [.ptr 0 0, .agg (enc a), .agg (enc b)] (UT L) fun r o => ∃ e L', r = [.err e] ∧ o = UT L' ∧ ErrN e res.1 ∧ Rel L' res.2
  | 0, L, M, a, b, a', b', res, _, _, _, _, _, _, _, _, h => by cases h
  | n + 1, L, M, a, b, a', b', res, R, hM, ha, hb, ha', hb', ea, eb, hu => by
    have hha := head_spec R ha.2.2
    have hhb := head_spec R hb.2.2
    obtain ⟨ka, sa, va, la⟩ := a
    obtain ⟨kb, sb, vb, lb⟩ := b
    refine unify.calls (K := fun r o => ∃ e L', r = [.err e] ∧ o = UT L' ∧ ErrN e res.1 ∧ Rel L' res.2) ?_
    unfold unify.W
    refine hha.mono fun r o ⟨u, hr, ho, hdu⟩ => ?_
    obtain ⟨a1, a2, a3, a4, a5, a6⟩ := heads R ha ha' ea hdu
    have ou := hdu.okT ha
    have hu0 := hdu.2.2.1
    have hai := headR_ok hM ha'
    refine ⟨u.kind, u.name, u.var, encs u.args, _, by rw [hr]; cases u; rfl, ho, ?_⟩
    refine hhb.mono fun r o ⟨w, hr, ho, hdw⟩ => ?_
    obtain ⟨b1, b2, b3, b4, b5, b6⟩ := heads R hb hb' eb hdw
    have ow := hdw.okT hb
    have hw0 := hdw.2.2.1
    have hbi := headR_ok hM hb'
    refine ⟨w.kind, w.name, w.var, encs w.args, _, by rw [hr]; cases w; rfl, ho, ?_⟩
    simp only [unifyR] at hu
    generalize headR M a' = x at *
    generalize headR M b' = y at *
    obtain ⟨k1, s1, v1, l1⟩ := u
    obtain ⟨k2, s2, v2, l2⟩ := w
    simp only [Tm.kind_mk, Tm.name_mk, Tm.var_mk, Tm.args_mk] at *
    rw [← a1, ← a2, ← a3, ← a4, ← b1, ← b2, ← b3, ← b4] at hu
    refine ⟨fun us => us = [.bool (decide (k1 = 4 ∧ k2 = 4 ∧ v1 = v2))], ifE (fun h => ifE (fun h2 => by simp [h, h2, BEq.beq]) (fun h2 => by simp [h2])) (fun h => by simp [h]), fun c hc => ?_⟩
    cases hc
    refine ifD (fun h4 => ?_) (fun hn4 => ?_)
    · obtain ⟨h1, h2, h3⟩ := h4
      rw [if_pos (.inl h1), if_pos ⟨by omega, h3⟩] at hu
      cases hu
      exact ⟨none, L, rfl, rfl, ⟨rfl, by simp⟩, R⟩
    refine ifE (fun h4 => ?_) (fun h4 => ?_)
    · subst h4
      rw [if_pos (.inl rfl), if_neg (fun h => hn4 ⟨rfl, h.1.symm, h.2⟩), if_pos rfl] at hu
      have hv := known_four.1 ou.2.2
      obtain ⟨v, rfl⟩ : ∃ v : Nat, v1 = v := ⟨v1.toNat, by omega⟩
      rw [← b6] at hu
      cases hu
      refine (bind_spec R (by simpa using hu0 rfl) ow).mono fun r o ⟨e, L', hr, ho, h1, h2⟩ => ⟨e, _, hr, ho, e, L', rfl, rfl, h1, h2⟩
    refine ifE (fun h5 => ?_) (fun h5 => ?_)
    · subst h5
      rw [if_pos (.inr rfl), if_neg (fun h => h4 h.1), if_neg h4] at hu
      have hv := known_four.1 ow.2.2
      obtain ⟨v, rfl⟩ : ∃ v : Nat, v2 = v := ⟨v2.toNat, by omega⟩
      rw [← a6] at hu
      cases hu
      refine (bind_spec R (by simpa using hw0 rfl) ou).mono fun r o ⟨e, L', hr, ho, h1, h2⟩ => ⟨e, _, hr, ho, e, L', rfl, rfl, h1, h2⟩
    rw [if_neg (by omega)] at hu
    obtain ⟨c1, c2, c3⟩ := clean_mk ou.2.1
    obtain ⟨d1, d2, d3⟩ := clean_mk ow.2.1
    have same : k1 = k2 → s1 = s2 → k1 ≠ 2 → res = (0, M) := fun e1 e2 e3 => by
      rw [if_neg (by simpa using e1), if_neg (by simpa using e2)] at hu
      rw [c2 e3] at a4
      rw [c2 e3, d2 (by omega)] at hu
      rw [if_neg (by simp)] at hu
      have : x.args = [] := by simpa using a4.symm
      rw [this] at hu
      simp only [seqR] at hu
      exact (Option.some.inj hu).symm
    have other : (k1 ≠ k2 ∨ s1 ≠ s2 ∨ l1.length ≠ l2.length) → res = (6, M) := fun h => by
      split at hu
      · exact (Option.some.inj hu).symm
      · split at hu
        · exact (Option.some.inj hu).symm
        · split at hu
          · exact (Option.some.inj hu).symm
          · rename_i e1 e2 e3
            rcases h with h | h | h
            · exact absurd h e1
            · exact absurd h e2
            · exact absurd h e3
    refine ⟨fun us => us = [.bool (decide (k1 = 1 ∧ k2 = 1))], ifE (fun h => by simp [h, BEq.beq]) (fun h => by simp [h]), fun c hc => ?_⟩
    cases hc
    refine ifD (fun h11 => ?_) (fun hn11 => ?_)
    · have hs1 : s1 = ⟨#[]⟩ := by
        have := ou.2.1; rw [h11.1] at this; simp [Uni.clean] at this; exact this.1.symm
      have hs2 : s2 = ⟨#[]⟩ := by
        have := ow.2.1; rw [h11.2] at this; simp [Uni.clean] at this; exact this.1.symm
      rw [same (by omega) (by rw [hs1, hs2]) (by omega)]
      exact ⟨none, L, rfl, rfl, ⟨rfl, by simp⟩, R⟩
    refine ⟨fun us => us = [.bool (decide (k1 = 3 ∧ k2 = 3 ∧ s1 = s2))], ifE (fun h => ifE (fun h2 => by simp [h, h2, strEq]) (fun h2 => by simp [h2])) (fun h => by simp [h]), fun c hc => ?_⟩
    cases hc
    refine ifD (fun h33 => ?_) (fun hn33 => ?_)
    · rw [same (by omega) h33.2.2 (by omega)]
      exact ⟨none, L, rfl, rfl, ⟨rfl, by simp⟩, R⟩
    refine ⟨fun us => us = [.bool (decide (k1 = 2 ∧ k2 = 2 ∧ s1 = s2 ∧ l1.length = l2.length))], ifE (fun h => ifE (fun h2 => ifB (fun h3 => ?_) (fun h3 => ?_)) (fun h2 => by simp [h2])) (fun h => by simp [h]), fun c hc => ?_⟩
    · have h3' : s1 = s2 := by simpa [strEq] using h3
      simp only [encs_length, h, h2, h3', true_and, List.cons.injEq, V.bool.injEq, and_true]
      rw [Bool.eq_iff_iff]; simp; omega
    · have h3' : s1 ≠ s2 := by simpa [strEq] using h3
      simp [h3']
    cases hc
    refine ifD (fun h22 => ?_) (fun hn22 => ?_)
    · obtain ⟨rfl, rfl, rfl, hll⟩ := h22
      rw [if_neg (by simp), if_neg (by simp), if_neg (by simpa using hll)] at hu
      have hls := length_sizes l1
      have hsz := ou.1
      simp only [size] at hsz
      have hx := args_ok ou
      have hy := args_ok ow
      have hx' := args_ok hai
      have hy' := args_ok hbi
      refine ⟨fun us => ∃ (i : Nat) (L' : List (Option Tm)) (M' : List Tm), us = [.int .i64 i, .sl 5 (encBs L')] ∧ i ≤ l1.length ∧ Rel L' M' ∧ OkR M' ∧ Ext M M' ∧ seqR (unifyR n) M' (x.args.drop i) (y.args.drop i) = some res, fun us => match us with | .int _ i :: _ => l1.length - i.toNat | _ => 0, ⟨0, L, M, rfl, Nat.zero_le _, R, hM, .refl M, hu⟩, ?_⟩
      rintro m Lx ⟨i, L', M', e, hi, R', hM', hE, h3⟩
      cases e
      simp only [encs_length]
      refine ifD (fun hlt => ?_) (fun hge => ?_)
      · have hi' : i < l1.length := by omega
        obtain ⟨k', s', v', l', he⟩ := getEq hi'
        obtain ⟨k'', s'', v'', l'', he2⟩ := getEq (xs := l2) (i := i) (by omega)
        obtain ⟨x', hx1⟩ : ∃ x', x.args[i]? = some x' := ⟨_, List.getElem?_eq_getElem (by omega)⟩
        obtain ⟨y', hy1⟩ : ∃ y', y.args[i]? = some y' := ⟨_, List.getElem?_eq_getElem (by omega)⟩
        have hw : IntKind.i64.wrap ((i : Int) + 1) = ((i + 1 : Nat) : Int) := by rw [w64 (by omega) (by omega)]; push_cast; rfl
        have d1 : x.args.drop i = x' :: x.args.drop (i + 1) := by rw [List.drop_eq_getElem_cons (by omega)]; congr 1; exact Option.some.inj ((List.getElem?_eq_getElem (by omega)).symm.trans hx1)
        have d2 : y.args.drop i = y' :: y.args.drop (i + 1) := by rw [List.drop_eq_getElem_cons (by omega)]; congr 1; exact Option.some.inj ((List.getElem?_eq_getElem (by omega)).symm.trans hy1)
        rw [d1, d2] at h3
        simp only [seqR] at h3
        have ox := hx _ (List.mem_of_getElem? he)
        have oy := hy _ (List.mem_of_getElem? he2)
        have ox' := hx' _ (List.mem_of_getElem? hx1)
        have oy' := hy' _ (List.mem_of_getElem? hy1)
        have ex : inst M (.mk k' s' v' l') = inst M x' := by
          have := congrArg (fun l => l[i]?) a5
          simpa [he, hx1] using this
        have ey : inst M (.mk k'' s'' v'' l'') = inst M y' := by
          have := congrArg (fun l => l[i]?) b5
          simpa [he2, hy1] using this
        have ex' := hE.2 _ _ ox.2.2 ox'.2.2 ex
        have ey' := hE.2 _ _ oy.2.2 oy'.2.2 ey
        have hlen := hE.1
        rw [← hlen] at ox oy ox' oy'
        refine ⟨by omega, hlt, k', s', v', encs l', lrow he, by omega, by omega, k'', s'', v'', encs l'', lrow he2, ?_⟩
        cases hq : unifyR n M' x' y' with
        | none => rw [hq] at h3; cases h3
        | some q =>
          obtain ⟨q1, q2⟩ := unifyR_ok n M' _ _ q hM' ox' oy' hq
          have qE := unifyR_ext n M' _ _ q hq
          rw [hq] at h3
          refine (unify_spec n L' M' _ _ x' y' q R' hM' ox oy ox' oy' ex' ey' hq).mono fun r o ⟨e, L2, hr, ho, hN, R2⟩ => ⟨_, _, hr, ho, ifN (fun hne => ?_) (fun heq => ?_)⟩
          · split at h3
            · rename_i hz; cases hz
              have : e = none := by
                rcases hN.2 with h | h | h | h
                · exact h
                · rw [h] at hN; exact absurd hN.1 (by simp [numE])
                · rw [h] at hN; exact absurd hN.1 (by simp [numE])
                · rw [h] at hN; exact absurd hN.1 (by simp [numE])
              rw [this] at hne; cases hne
            · cases h3; exact ⟨e, L2, rfl, rfl, hN, R2⟩
          · have hen : e = none := by simpa using heq
            subst hen
            split at h3
            · rename_i M2 hz
              cases hz
              rw [hw]
              exact ⟨⟨i + 1, L2, M2, rfl, hi', R2, q1, hE.trans qE, h3⟩, by simp only [Int.toNat_natCast]; omega⟩
            · rename_i hno
              obtain ⟨q0, qM⟩ := q
              have : q0 = 0 := hN.1.symm
              subst this
              exact absurd rfl (hno qM)
      · have hd : x.args.drop i = [] := List.drop_eq_nil_of_le (by omega)
        rw [hd] at h3
        simp only [seqR] at h3
        cases h3
        exact ⟨none, L', rfl, rfl, ⟨rfl, by simp⟩, R'⟩
    · have hres : res = (6, M) := by
        by_cases e1 : k1 = k2
        · by_cases e2 : s1 = s2
          · by_cases e3 : l1.length = l2.length
            · exfalso
              have := known_kind ou.2.2
              simp only [Tm.kind_mk] at this
              rcases this with h | h | h | h
              · exact hn11 ⟨h, by omega⟩
              · exact hn33 ⟨h, by omega, e2⟩
              · exact h4 h
              · exact hn22 ⟨h, by omega, e2, e3⟩
            · exact other (.inr (.inr e3))
          · exact other (.inr (.inl e2))
        · exact other (.inl e1)
      rw [hres]
      exact ⟨some 2, L, rfl, rfl, ⟨rfl, by simp⟩, R⟩
end Go.Proofs.YtdgekhanonfikaaDoor.Va
end

/- part U1Y -/
section
namespace Go.Uni
open Go.Proofs.YtdgekhanonfikaaDoor.Va (unifyR_ok)
theorem size_pos_le {M : List Tm} (hM : OkR M) {t : Tm} (ht : OkT M.length t) : nodes (inst M t) ≤ 40000 := by
  have h1 := size_inst (B := 200) (by omega) (fun x hx => (hM.el x hx).1) t
  have h2 := nodes_le (inst M t)
  have := ht.1
  omega
/-- what unify leaves: a table in step, and either nothing bound or one unknown less that is not bound -/
def Step (L : List (Option Tm)) (M : List Tm) (M' : List Tm) : Prop := ∃ L', Rel L' M' ∧ OkR M' ∧ ((unb L' = unb L ∧ M' = M) ∨ unb L' < unb L)
theorem bindR_step {L : List (Option Tm)} {M : List Tm} (R : Rel L M) (hM : OkR M) {v : Nat} {a : Tm} (hv : L[v]? = some none) (ha : OkT M.length a) : Step L M (bindR M v (inst M a)).2 := by
  have hok := (bindR_ok hM (v := v) (b := inst M a) ⟨clean_inst (fun x hx => (hM.el x hx).2.1) a ha.2.1, known_inst (fun x hx => (hM.el x hx).2.2) a ha.2.2⟩).1
  rcases bindR_rel R hv ha with ⟨_, h2, h3⟩ | ⟨_, h2⟩
  · rw [h2] at hok ⊢
    exact ⟨_, h3, hok, .inr (by have := unb_set (a := a) hv; omega)⟩
  · rw [h2] at hok ⊢
    exact ⟨L, R, hok, .inl ⟨rfl, rfl⟩⟩
theorem exI {p : Prop} [Decidable p] {α : Type} {A B : Option α} {Q : α → Prop} (h1 : p → ∃ r, A = some r ∧ Q r) (h2 : ¬ p → ∃ r, B = some r ∧ Q r) : ∃ r, (if p then A else B) = some r ∧ Q r := by
  split
  · exact h1 ‹_›
  · exact h2 ‹_›
theorem unifyR_total (C : Nat) (hC : 40001 ≤ C) : ∀ (n : Nat) (L : List (Option Tm)) (M : List Tm) (a b : Tm), Rel L M → OkR M → OkT M.length a → OkT M.length b → unb L * C + nodes (inst M a) ≤ n → ∃ res, unifyR n M a b = some res ∧ Step L M res.2
  | 0, L, M, a, b, _, _, _, _, h => by have := nodes_pos (inst M a); omega
  | n + 1, L, M, a, b, R, hM, ha, hb, hn => by
    have ha' := headR_ok hM ha
    have hb' := headR_ok hM hb
    obtain ⟨ia, hda⟩ := headR_inst R ha.2.2
    obtain ⟨_, hdb⟩ := headR_inst R hb.2.2
    rw [← ia] at hn
    have stay : Step L M M := ⟨L, R, hM, .inl ⟨rfl, rfl⟩⟩
    simp only [unifyR]
    generalize headR M a = x at *
    generalize headR M b = y at *
    obtain ⟨k1, s1, v1, l1⟩ := x
    obtain ⟨k2, s2, v2, l2⟩ := y
    simp only [Tm.kind_mk, Tm.name_mk, Tm.var_mk, Tm.args_mk]
    refine exI (fun h4 => exI (fun _ => ⟨_, rfl, stay⟩) (fun _ => exI (fun h4 => ?_) (fun hk => ?_))) (fun _ => exI (fun _ => ⟨_, rfl, stay⟩) (fun _ => exI (fun _ => ⟨_, rfl, stay⟩) (fun _ => exI (fun _ => ⟨_, rfl, stay⟩) (fun _ => ?_))))
    · subst h4
      have hv := known_four.1 ha'.2.2
      have h5 := hda rfl
      obtain ⟨v, rfl⟩ : ∃ v : Nat, v1 = v := ⟨v1.toNat, by omega⟩
      exact ⟨_, rfl, bindR_step R hM (R.unbound (by simpa using h5)) hb'⟩
    · have h4 : k2 = 4 := by omega
      subst h4
      have hv := known_four.1 hb'.2.2
      have h5 := hdb rfl
      obtain ⟨v, rfl⟩ : ∃ v : Nat, v2 = v := ⟨v2.toNat, by omega⟩
      exact ⟨_, rfl, bindR_step R hM (R.unbound (by simpa using h5)) ha'⟩
    · have hx := args_ok ha'
      have hy := args_ok hb'
      have hk : k1 ≠ 2 → l1 = [] := (clean_mk ha'.2.1).2.1
      have hsm : ∀ t ∈ l1, nodes (inst M t) + 1 ≤ nodes (inst M (.mk k1 s1 v1 l1)) := by
        intro t ht
        by_cases h2 : k1 = 2
        · subst h2
          rw [inst_two]
          have := nodesL_mem (List.mem_map_of_mem (f := inst M) ht)
          simp only [nodes, if_true]; omega
        · rw [hk h2] at ht; simp at ht
      have hn0 : unb L * C + nodes (inst M (.mk k1 s1 v1 l1)) ≤ n + 1 := hn
      have sq : ∀ (xs ys : List Tm) (L' : List (Option Tm)) (M' : List Tm), Rel L' M' → OkR M' → M'.length = M.length → ((unb L' = unb L ∧ M' = M) ∨ unb L' < unb L) → (∀ t ∈ xs, t ∈ l1) → (∀ t ∈ ys, t ∈ l2) → ∃ res, seqR (unifyR n) M' xs ys = some res ∧ Step L M res.2 := by
        intro xs
        induction xs with
        | nil => intro ys L' M' R' hM' _ hs _ _; exact ⟨(0, M'), by simp [seqR], L', R', hM', hs⟩
        | cons x xs ihx =>
          intro ys L' M' R' hM' hl hs hxs hys
          cases ys with
          | nil => exact ⟨(0, M'), by simp [seqR], L', R', hM', hs⟩
          | cons y ys =>
            have ox : OkT M'.length x := hl ▸ hx x (hxs x List.mem_cons_self)
            have oy : OkT M'.length y := hl ▸ hy y (hys y List.mem_cons_self)
            have hle : unb L' * C + nodes (inst M' x) ≤ n := by
              rcases hs with ⟨h1, h2⟩ | h
              · subst h2
                have := hsm x (hxs x List.mem_cons_self)
                rw [h1]; omega
              · have := size_pos_le hM' ox
                have : (unb L' + 1) * C ≤ unb L * C := Nat.mul_le_mul_right C h
                rw [Nat.add_mul] at this
                omega
            obtain ⟨q, hq, L2, R2, hM2, hs2⟩ := unifyR_total C hC n L' M' x y R' hM' ox oy hle
            have hlen := (unifyR_ok n M' x y q hM' ox oy hq).2
            have hs3 : (unb L2 = unb L ∧ q.2 = M) ∨ unb L2 < unb L := by
              rcases hs with ⟨h1, h2⟩ | h
              · rw [h1, h2] at hs2; exact hs2
              · rcases hs2 with ⟨h3, _⟩ | h3
                · exact .inr (by omega)
                · exact .inr (by omega)
            simp only [seqR, hq]
            obtain ⟨q0, qM⟩ := q
            by_cases hz : q0 = 0
            · subst hz
              exact ihx ys L2 qM R2 hM2 (hlen.trans hl) hs3 (fun t ht => hxs t (List.mem_cons_of_mem _ ht)) (fun t ht => hys t (List.mem_cons_of_mem _ ht))
            · refine ⟨(q0, qM), ?_, L2, R2, hM2, hs3⟩
              split
              · rename_i hz2; cases hz2; exact absurd rfl hz
              · rfl
      exact sq l1 l2 L M R hM rfl (.inl ⟨rfl, rfl⟩) (fun _ h => h) (fun _ h => h)
end Go.Uni
end

/- part U2A -/
section
namespace Go.Uni
open Go.Proofs.YtdgekhanonfikaaDoor.Va
/-- what Unify comes to at the reference -/
def Uni1 (M : List Tm) (a b : Tm) (res : Int × List Tm) : Prop := (taken M.length [a, b] = none → ∃ n, unifyR n M (clean a) (clean b) = some res) ∧ (taken M.length [a, b] ≠ none → res = (numE (taken M.length [a, b]), M))
theorem unb_le (L : List (Option Tm)) : unb L ≤ L.length := List.countP_le_length
theorem uni_ex {L : List (Option Tm)} {M : List Tm} (R : Rel L M) (hM : OkR M) (a b : Tm) : ∃ res, Uni1 M a b res ∧ OkR res.2 ∧ res.2.length = M.length ∧ Ext M res.2 := by
  by_cases h : taken M.length [a, b] = none
  · have hk := taken_none h
    have ha := okT_clean (hk a (by simp)).1 (hk a (by simp)).2
    have hb := okT_clean (hk b (by simp)).1 (hk b (by simp)).2
    obtain ⟨res, h1, h2⟩ := unifyR_total 40001 (Nat.le_refl _) _ L M (clean a) (clean b) R hM ha hb (Nat.le_refl _)
    obtain ⟨h3, h4⟩ := unifyR_ok _ M _ _ res hM ha hb h1
    exact ⟨res, ⟨fun _ => ⟨_, h1⟩, fun g => absurd h g⟩, h3, h4, unifyR_ext _ _ _ _ _ h1⟩
  · exact ⟨_, ⟨fun g => absurd g h, fun _ => rfl⟩, hM, rfl, .refl M⟩
/-- resolving a type and resolving it cleaned -/
theorem nodes_inst_clean {M : List Tm} : ∀ t, known M.length t = true → nodes (inst M (clean t)) = nodes (inst M t) := by
  refine Tm.ind fun k s v xs ih hk => ?_
  have hkk := known_kind hk
  simp only [Tm.kind_mk] at hkk
  by_cases h4 : k = 4
  · subst h4
    have hv := known_four.1 hk
    obtain ⟨u, hu⟩ : ∃ u, M[v.toNat]? = some u := ⟨_, List.getElem?_eq_getElem (by omega)⟩
    rw [inst_four hu]
    have : clean (.mk 4 s v xs) = .mk 4 ⟨#[]⟩ v [] := by simp [clean]
    rw [this, inst_four hu]
  · by_cases h2 : k = 2
    · subst h2
      have : clean (.mk 2 s v xs) = .mk 2 s 0 (xs.map clean) := by simp [clean, cleans_eq]
      rw [this, inst_two, inst_two]
      rw [known_two, List.all_eq_true] at hk
      simp only [nodes, if_true, List.map_map]
      have : ∀ ys : List Tm, (∀ y ∈ ys, nodes (inst M (clean y)) = nodes (inst M y)) → nodesL (ys.map (inst M ∘ clean)) = nodesL (ys.map (inst M)) := by
        intro ys
        induction ys with
        | nil => intro _; rfl
        | cons y r ihr => intro h; simp only [List.map_cons, nodesL, Function.comp]; rw [h y List.mem_cons_self, ← ihr fun z hz => h z (List.mem_cons_of_mem _ hz)]
      rw [this xs fun x hx => ih x hx (hk x hx)]
    · rw [inst_other h4 h2]
      by_cases h3 : k = 3
      · subst h3
        have : clean (.mk 3 s v xs) = .mk 3 s 0 [] := by simp [clean]
        rw [this, inst_other (by omega) (by omega)]; rfl
      · have : clean (.mk k s v xs) = .mk k ⟨#[]⟩ 0 [] := by simp [clean, h4, h2, h3]
        rw [this, inst_other h4 h2]; simp [nodes, h2]
end Go.Uni
namespace Go.Proofs.YtdgekhanonfikaaDoor.Va
open Go.Vx Go.Av Go.Uni

theorem RUnify_spec' (M : List Tm) (a b : Tm) (res : Int × List Tm) (hM : OkR M) (hs : size a + size b ≤ big) (h : Uni1 M a b res) :
    SCalls ax 15 [.ptr 0 0, .agg (enc a), .agg (enc b)] (RT M) fun r o => r = [.int .i64 res.1] ∧ o = RT2 res.2 := by
  by_cases g : taken M.length [a, b] = none
  · obtain ⟨n, hn⟩ := h.1 g
    exact RUnify_spec n M a b res hM hs (fun _ => hn) h.2
  · exact RUnify_spec 0 M a b res hM hs (fun k => absurd k g) h.2

theorem Unify_spec {L : List (Option Tm)} {M : List Tm} (R : Rel L M) (hM : OkR M) (a b : Tm) (res : Int × List Tm) (hs : size a + size b ≤ big) (h : Uni1 M a b res) :
    SCalls ax 14 [.ptr 0 0, .agg (enc a), .agg (enc b)] (UT L) fun r o => ∃ e L', r = [.err e] ∧ o = UT L' ∧ ErrN e res.1 ∧ Rel L' res.2 := by
  have htk := take_spec L [a, b] (by simp only [sizes]; omega)
  rw [R.len] at htk
  have hca := clean_spec a (by omega)
  have hcb := clean_spec b (by omega)
  have hta := fun h : taken M.length [a, b] = none => taken_none h a (by simp)
  have htb := fun h : taken M.length [a, b] = none => taken_none h b (by simp)
  have hrun := fun g : taken M.length [a, b] = none => (h.1 g).elim fun n hn => unify_spec n L M (Uni.clean a) (Uni.clean b) (Uni.clean a) (Uni.clean b) res R hM (okT_clean (hta g).1 (hta g).2) (okT_clean (htb g).1 (htb g).2) (okT_clean (hta g).1 (hta g).2) (okT_clean (htb g).1 (htb g).2) rfl rfl hn
  have h2 := h.2
  generalize Uni.clean a = ca at *
  generalize Uni.clean b = cb at *
  obtain ⟨ka, sa, va, la⟩ := a
  obtain ⟨kb, sb, vb, lb⟩ := b
  obtain ⟨k1, s1, v1, l1⟩ := ca
  obtain ⟨k2, s2, v2, l2⟩ := cb
  refine Unify.calls (K := fun r o => ∃ e L', r = [.err e] ∧ o = UT L' ∧ ErrN e res.1 ∧ Rel L' res.2) ?_
  unfold Unify.W
  refine htk.mono fun r o ⟨hr, ho⟩ => ⟨_, _, hr, ho, ifN (fun hne => ?_) (fun heq => ?_)⟩
  · have hn : taken M.length [.mk ka sa va la, .mk kb sb vb lb] ≠ none := fun h => by rw [h] at hne; cases hne
    rw [h2 hn]
    refine ⟨_, L, rfl, rfl, ⟨rfl, ?_⟩, R⟩
    rcases taken_some (n := M.length) (xs := [.mk ka sa va la, .mk kb sb vb lb]) with h | h | h <;> rw [h] <;> simp
  · have hn : taken M.length [.mk ka sa va la, .mk kb sb vb lb] = none := by simpa using heq
    refine hca.mono fun r hr => ⟨k1, s1, v1, encs l1, hr, ?_⟩
    refine hcb.mono fun r hr => ⟨k2, s2, v2, encs l2, hr, ?_⟩
    exact (hrun hn).mono fun r o ⟨e, L', hr, ho, h3, h4⟩ => ⟨_, _, hr, ho, e, L', rfl, rfl, h3, h4⟩

/-- what Resolve comes to: the type and the error -/
def resR (M : List Tm) (a : Tm) : Tm × Option Nat := if taken M.length [a] = none then (if nodes (inst M (Uni.clean a)) ≤ 200 then (inst M (Uni.clean a), none) else (.mk 0 ⟨#[]⟩ 0 [], some 0)) else (.mk 0 ⟨#[]⟩ 0 [], taken M.length [a])
theorem RResolve_spec' (M : List Tm) (a : Tm) (hM : OkR M) (hs : size a ≤ big) :
    SCalls ax 18 [.ptr 0 0, .agg (enc a)] (RT M) fun r o => r = [.agg (enc (resR M a).1), .int .i64 (numE (resR M a).2)] ∧ o = RT M :=
  (RResolve_spec M a hM hs).mono fun r o ⟨ho, hr⟩ => ⟨by rw [hr]; unfold resR; by_cases h1 : taken M.length [a] = none <;> by_cases h2 : nodes (inst M (Uni.clean a)) ≤ 200 <;> simp only [h1, h2, if_true, if_false] <;> rfl, ho⟩
theorem Resolve_spec {L : List (Option Tm)} {M : List Tm} (R : Rel L M) (a : Tm) (hs : size a ≤ big) :
    SCalls ax 16 [.ptr 0 0, .agg (enc a)] (UT L) fun r o => r = [.agg (enc (resR M a).1), .err (resR M a).2] ∧ o = UT L := by
  have htk := take_spec L [a] (by simp only [sizes]; omega)
  rw [R.len] at htk
  have hca := clean_spec a hs
  have hta := fun h : taken M.length [a] = none => taken_none h a (by simp)
  have hnow := fun h : taken M.length [a] = none => nodes_spec R _ a (hta h).1 hs (Nat.le_refl _) 200 (by omega) (by omega)
  have hres := fun g : taken M.length [a] = none => resolve_spec R _ (Uni.clean a) (okT_clean (hta g).1 (hta g).2) (Nat.le_refl _)
  have hnn := fun g : taken M.length [a] = none => nodes_inst_clean a (hta g).1
  have hRR : resR M a = if taken M.length [a] = none then (if nodes (inst M (Uni.clean a)) ≤ 200 then (inst M (Uni.clean a), none) else (.mk 0 ⟨#[]⟩ 0 [], some 0)) else (.mk 0 ⟨#[]⟩ 0 [], taken M.length [a]) := rfl
  generalize resR M a = RR at *
  generalize Uni.clean a = ca at *
  obtain ⟨ka, sa, va, la⟩ := a
  obtain ⟨k1, s1, v1, l1⟩ := ca
  refine Resolve.calls (K := fun r o => r = [.agg (enc RR.1), .err RR.2] ∧ o = UT L) ?_
  unfold Resolve.W
  refine htk.mono fun r o ⟨hr, ho⟩ => ⟨_, _, hr, ho, ifN (fun hne => ?_) (fun heq => ?_)⟩
  · have hn : taken M.length [.mk ka sa va la] ≠ none := fun h => by rw [h] at hne; cases hne
    rw [hRR, if_neg hn]; exact ⟨rfl, rfl⟩
  · have hn : taken M.length [.mk ka sa va la] = none := by simpa using heq
    rw [if_pos hn] at hRR
    refine (hnow hn).mono fun r o ⟨l, hr, ho, b1, b2, b3, b4⟩ => ⟨_, _, hr, ho, ifD (fun h => ?_) (fun h => ?_)⟩
    · have := b4 h
      rw [hRR, if_neg (by rw [hnn hn]; omega)]; exact ⟨rfl, rfl⟩
    · have := b3 (by omega)
      rw [if_pos (by rw [hnn hn]; omega)] at hRR
      refine hca.mono fun r hr => ⟨k1, s1, v1, encs l1, hr, ?_⟩
      refine (hres hn).mono fun r o ⟨hr, ho⟩ => ?_
      rw [hRR]
      obtain ⟨k2, s2, v2, l2, e2⟩ : ∃ k2 s2 v2 l2, inst M (.mk k1 s1 v1 l1) = .mk k2 s2 v2 l2 := by cases h : inst M (.mk k1 s1 v1 l1); exact ⟨_, _, _, _, rfl⟩
      rw [e2] at hr ⊢
      exact ⟨k2, s2, v2, encs l2, _, hr, ho, rfl, rfl⟩

end Go.Proofs.YtdgekhanonfikaaDoor.Va
end

/- part U2B -/
section
namespace Go.Uni
open Go.Proofs.YtdgekhanonfikaaDoor.Va
/-- a table of unknowns that are not bound -/
def opens (n : Nat) : List Tm := (List.range n).map fun (i : Nat) => free i
@[simp] theorem start_length (n : Nat) : (opens n).length = n := by simp [opens]
theorem start_succ (n : Nat) : opens n ++ [free n] = opens (n + 1) := by simp [opens, List.range_succ]
theorem start_get {n i : Nat} (h : i < n) : (opens n)[i]? = some (free i) := by simp [opens, h]
theorem start_ok {n : Nat} (h : n ≤ 1000) : OkR (opens n) := by
  refine ⟨by simpa using h, fun x hx => ?_⟩
  simp only [opens, List.mem_map, List.mem_range] at hx
  obtain ⟨i, hi, rfl⟩ := hx
  exact ⟨by simp [free, size, sizes], by simp [free, clean], known_free (by simpa using hi)⟩
theorem start_rel {n : Nat} (h : n ≤ 1000) : Rel (List.replicate n none) (opens n) := by
  have hok := start_ok h
  refine ⟨hok.len, fun x hx => (hok.el x hx).2, by simp, fun v hv => ?_, fun v t hv => ?_, fun _ => 0, fun v t hv => ?_⟩
  · have := (List.getElem?_eq_some_iff.1 hv).1
    exact start_get (by simpa using this)
  · rw [List.getElem?_replicate] at hv; split at hv <;> simp at hv
  · rw [List.getElem?_replicate] at hv; split at hv <;> simp at hv
def listN : ByteArray := ⟨#[108, 105, 115, 116]⟩
def tInt : Tm := .mk 1 ⟨#[]⟩ 0 []
theorem alive1 : Uni1 (opens 2) (.mk 2 listN 0 [free 0]) (.mk 2 listN 0 [tInt]) (0, [tInt, free 1]) := ⟨fun _ => ⟨4, by rfl⟩, fun h => absurd (by rfl) h⟩
theorem alive2 : Uni1 [tInt, free 1] (free 1) (.mk 2 listN 0 [free 1]) (6, [tInt, free 1]) := ⟨fun _ => ⟨4, by rfl⟩, fun h => absurd (by rfl) h⟩
theorem alive3 : resR [tInt, free 1] (free 0) = (tInt, none) := by rfl
end Go.Uni
namespace Go.Proofs.YtdgekhanonfikaaDoor.Va
open Go.Vx Go.Av Go.Uni
theorem Uni1.ok {M : List Tm} (hM : OkR M) {a b : Tm} {res : Int × List Tm} (h : Uni1 M a b res) : OkR res.2 ∧ res.2.length = M.length ∧ Ext M res.2 := by
  by_cases g : taken M.length [a, b] = none
  · have hk := taken_none g
    obtain ⟨n, hn⟩ := h.1 g
    obtain ⟨h3, h4⟩ := unifyR_ok _ M _ _ res hM (okT_clean (hk a (by simp)).1 (hk a (by simp)).2) (okT_clean (hk b (by simp)).1 (hk b (by simp)).2) hn
    exact ⟨h3, h4, unifyR_ext _ _ _ _ _ hn⟩
  · rw [h.2 g]; exact ⟨hM, rfl, .refl M⟩
theorem alive_spec : PCalls ax 8 [] fun r => r = [.bool true] := by
  refine alive.calls (K := fun r => r = [.bool true]) ?_
  unfold alive.W
  refine New_spec.mono fun r o ⟨hr, ho⟩ => ⟨hr, ho, fun us => us = [.sl 5 (encBs [])], rfl, ?_⟩
  rintro l e
  cases e
  refine (Fresh_spec [] (by decide)).mono fun r o ⟨hr, ho⟩ => ⟨4, ⟨#[]⟩, 0, [], _, by rw [hr]; rfl, ho, ?_⟩
  refine (Fresh_spec [none] (by decide)).mono fun r o ⟨hr, ho⟩ => ⟨4, ⟨#[]⟩, 1, [], _, by rw [hr]; rfl, ho, ?_⟩
  refine (data_spec listN [free 0]).mono fun r hr => ⟨2, listN, 0, encs [free 0], hr, ?_⟩
  refine (data_spec listN [tInt]).mono fun r hr => ⟨2, listN, 0, encs [tInt], hr, ?_⟩
  have R0 : Uni.Rel [none, none] (opens 2) := start_rel (n := 2) (by decide)
  have k0 := start_ok (n := 2) (by decide)
  refine (Unify_spec R0 k0 (.mk 2 listN 0 [free 0]) (.mk 2 listN 0 [tInt]) _ (by decide) alive1).mono fun r o ⟨e, L1, hr, ho, he, R1⟩ => ⟨_, _, hr, ho, ?_⟩
  obtain ⟨k1, _, _⟩ := Uni1.ok k0 alive1
  refine (data_spec listN [free 1]).mono fun r hr => ⟨2, listN, 0, encs [free 1], hr, ?_⟩
  refine (Unify_spec R1 k1 (free 1) (.mk 2 listN 0 [free 1]) _ (by decide) alive2).mono fun r o ⟨e2, L2, hr, ho, he2, R2⟩ => ⟨_, _, hr, ho, ?_⟩
  refine (Resolve_spec R2 (free 0) (by decide)).mono fun r o ⟨hr, ho⟩ => ⟨1, ⟨#[]⟩, 0, [], none, _, by rw [hr, alive3]; rfl, ho, ?_⟩
  have he : e = none := by
    rcases he with ⟨h1, h | h | h | h⟩ <;> subst h <;> simp [numE] at h1 ⊢
  have he2 : e2 = some 2 := by
    rcases he2 with ⟨h1, h | h | h | h⟩ <;> subst h <;> simp [numE] at h1 ⊢
  subst he he2
  refine (Len_spec L2).mono fun r o ⟨hr, ho⟩ => ⟨_, _, hr, ho, ?_⟩
  rw [R2.len]; rfl
end Go.Proofs.YtdgekhanonfikaaDoor.Va
end

/- part U2C -/
section
namespace Go.Uni
open Go.Proofs.YtdgekhanonfikaaDoor.Va
theorem unifyR_self : ∀ (n : Nat) (M : List Tm) (a : Tm) (res : Int × List Tm), unifyR n M a a = some res → res = (0, M)
  | 0, _, _, _, h => by cases h
  | n + 1, M, a, res, h => by
    have sq : ∀ (xs : List Tm) res, seqR (unifyR n) M xs xs = some res → res = (0, M) := by
      intro xs
      induction xs with
      | nil => intro res h; simp [seqR] at h; exact h.symm
      | cons x xs ihx =>
        intro res h
        simp only [seqR] at h
        cases hu : unifyR n M x x with
        | none => rw [hu] at h; cases h
        | some r =>
          rw [hu, unifyR_self n M x r hu] at h
          exact ihx res h
    simp only [unifyR] at h
    split at h
    · simp at h; exact h.symm
    · simp at h; exact sq _ _ h
theorem resR_free {M : List Tm} (hM : OkR M) {v : Nat} {u : Tm} (hu : M[v]? = some u) : resR M (free v) = (u, none) := by
  have hv := (List.getElem?_eq_some_iff.1 hu).1
  have hk := known_free hv
  have htk : taken M.length [free v] = none := by
    have hn : nodes (free v) = 1 := by simp [free, nodes]
    simp [taken, hk, hn]
  have hc : clean (free v) = free v := by simp [free, clean]
  have hi : inst M (free v) = u := inst_four (by simpa using hu)
  have := (hM.el u (List.mem_of_getElem? hu))
  have hn := nodes_le u
  unfold resR
  rw [if_pos htk, hc, hi, if_pos (by omega)]
theorem resR_out {M : List Tm} {v : Int} (hv : ¬ (0 ≤ v ∧ v < M.length)) : resR M (free v) = (.mk 0 ⟨#[]⟩ 0 [], some 1) := by
  have hk : known M.length (free v) = false := by rw [Bool.eq_false_iff]; intro h; exact hv (known_four.1 h)
  have htk : taken M.length [free v] = some 1 := by simp [taken, hk]
  unfold resR
  rw [htk]; simp
theorem twelve (n : Int) : ∃ k : Nat, k < 12 ∧ Int.tmod (IntKind.i64.wrap (Int.tmod n 12 + 12)) 12 = k := by
  have h1 : -12 < Int.tmod n 12 := by have := Int.tmod_lt_of_pos (-n) (show (0 : Int) < 12 by omega); rw [Int.neg_tmod] at this; omega
  have h2 := Int.tmod_lt_of_pos n (show (0 : Int) < 12 by omega)
  rw [Vx.w64 (by omega) (by omega)]
  have h3 := Int.tmod_nonneg 12 (show 0 ≤ Int.tmod n 12 + 12 by omega)
  have h4 := Int.tmod_lt_of_pos (Int.tmod n 12 + 12) (show (0 : Int) < 12 by omega)
  exact ⟨_, by omega, (Int.toNat_of_nonneg h3).symm⟩
theorem encs_replicate (n : Nat) (t : Tm) : encs (List.replicate n t) = List.replicate n (enc t) := by rw [encs_eq, List.map_replicate]
end Go.Uni
namespace Go.Proofs.YtdgekhanonfikaaDoor.Va
open Go.Vx Go.Av Go.Uni

theorem replicate_none (n : Nat) : List.replicate n (none : Option Tm) ++ [none] = List.replicate (n + 1) none := by rw [List.replicate_succ']
theorem Fresh_start {n : Nat} (h : n ≤ 1000) : SCalls ax 11 [.ptr 0 0] [.box [.own 1], .lst 69 5 false (encBs (List.replicate n none))] fun r o => r = [.agg (enc (free n))] ∧ o = [.box [.own 2], .dead, .lst 69 5 false (encBs (List.replicate (n + 1) none))] := by
  have := Fresh_spec (List.replicate n none) (by simpa using h)
  rw [List.length_replicate, replicate_none] at this
  exact this
theorem ErrN.eq {e : Option Nat} {n : Int} (h : ErrN e n) : (n = 0 → e = none) ∧ (n = 4 → e = some 0) ∧ (n = 6 → e = some 2) ∧ (n = 16 → e = some 1) := by
  obtain ⟨h1, h⟩ := h
  subst h1
  rcases h with h | h | h | h <;> subst h <;> simp [numE]

end Go.Proofs.YtdgekhanonfikaaDoor.Va
end

/- part U2D -/
section
namespace Go.Uni
open Go.Proofs.YtdgekhanonfikaaDoor.Va
theorem resR_err (M : List Tm) (a : Tm) : ErrN (resR M a).2 (numE (resR M a).2) := by
  refine ⟨rfl, ?_⟩
  unfold resR
  split
  · split <;> simp
  · rcases taken_some (n := M.length) (xs := [a]) with h | h | h <;> rw [h] <;> simp
theorem resR_size {M : List Tm} (hM : OkR M) (a : Tm) : size (resR M a).1 ≤ 40000 := by
  unfold resR
  split
  · rename_i h
    have hk := taken_none h a (by simp)
    have ho := okT_clean hk.1 hk.2
    have h1 := size_inst (B := 200) (by omega) (fun x hx => (hM.el x hx).1) (clean a)
    have := ho.1
    split
    · simp only; omega
    · simp [size, sizes]
  · simp [size, sizes]
/-- two types, as a row -/
def encP (p : Tm × Tm) : List Av.V := enc p.1 ++ enc p.2
theorem rowP {ps : List (Tm × Tm)} {i : Nat} {p : Tm × Tm} (h : ps[i]? = some p) : List.take 8 (Av.rowAt (ps.map encP) i) = encP p := by
  rw [Av.rowAt, List.getD_eq_getElem?_getD, List.getElem?_map, h]
  obtain ⟨⟨_, _, _, _⟩, ⟨_, _, _, _⟩⟩ := p
  rfl
end Go.Uni
namespace Go.Proofs.YtdgekhanonfikaaDoor.Va
open Go.Vx Go.Av Go.Uni

abbrev errT : List (List V) := [[(.err (some 3))], [(.err (some 4))], [(.err (some 5))], [(.err (some 0))], [(.err (some 6))], [(.err (some 2))], [(.err (some 7))], [(.err (some 8))], [(.err (some 9))], [(.err (some 10))], [(.err (some 11))], [(.err (some 12))], [(.err (some 13))], [(.err (some 14))], [(.err (some 15))], [(.err (some 1))]]
theorem errT_row : ∀ i : Nat, i < 16 → ∃ y, List.take 1 (Av.rowAt errT i) = [.err (some y)] ∧ (0 = y ↔ i = 3) ∧ (1 = y ↔ i = 15) ∧ (2 = y ↔ i = 5)
  | 0, _ => ⟨3, rfl, by decide⟩
  | 1, _ => ⟨4, rfl, by decide⟩
  | 2, _ => ⟨5, rfl, by decide⟩
  | 3, _ => ⟨0, rfl, by decide⟩
  | 4, _ => ⟨6, rfl, by decide⟩
  | 5, _ => ⟨2, rfl, by decide⟩
  | 6, _ => ⟨7, rfl, by decide⟩
  | 7, _ => ⟨8, rfl, by decide⟩
  | 8, _ => ⟨9, rfl, by decide⟩
  | 9, _ => ⟨10, rfl, by decide⟩
  | 10, _ => ⟨11, rfl, by decide⟩
  | 11, _ => ⟨12, rfl, by decide⟩
  | 12, _ => ⟨13, rfl, by decide⟩
  | 13, _ => ⟨14, rfl, by decide⟩
  | 14, _ => ⟨15, rfl, by decide⟩
  | 15, _ => ⟨1, rfl, by decide⟩
  | n + 16, h => by omega
theorem tm_cases (t : Tm) : ∃ k s v l, t = .mk k s v l := by obtain ⟨k, s, v, l⟩ := t; exact ⟨_, _, _, _, rfl⟩

end Go.Proofs.YtdgekhanonfikaaDoor.Va
end

/- part U2E -/
section
namespace Go.Uni
open Go.Proofs.YtdgekhanonfikaaDoor.Va
/-- along a list: what holds behind each step -/
theorem seqR_rel {n : Nat} (ih : ∀ (L : List (Option Tm)) (M : List Tm) (a b : Tm) (res : Int × List Tm), Rel L M → OkR M → OkT M.length a → OkT M.length b → unifyR n M a b = some res → ∃ L', Rel L' res.2) :
    ∀ (xs ys : List Tm) (L : List (Option Tm)) (M : List Tm) (res : Int × List Tm), Rel L M → OkR M → (∀ x ∈ xs, OkT M.length x) → (∀ y ∈ ys, OkT M.length y) → seqR (unifyR n) M xs ys = some res → ∃ L', Rel L' res.2 := by
  intro xs
  induction xs with
  | nil => intro ys L M res R _ _ _ h; simp [seqR] at h; subst h; exact ⟨L, R⟩
  | cons x xs ihx =>
    intro ys L M res R hM hx hy h
    cases ys with
    | nil => simp [seqR] at h; subst h; exact ⟨L, R⟩
    | cons y ys =>
      simp only [seqR] at h
      cases hu : unifyR n M x y with
      | none => rw [hu] at h; cases h
      | some r =>
        have ox := hx x List.mem_cons_self
        have oy := hy y List.mem_cons_self
        obtain ⟨L1, R1⟩ := ih L M x y r R hM ox oy hu
        obtain ⟨hM1, hl⟩ := unifyR_ok n M x y r hM ox oy hu
        rw [hu] at h
        split at h
        · rename_i M2 e
          cases e
          exact ihx ys L1 M2 res R1 hM1 (fun z hz => hl ▸ hx z (List.mem_cons_of_mem _ hz)) (fun z hz => hl ▸ hy z (List.mem_cons_of_mem _ hz)) h
        · cases h; exact ⟨L1, R1⟩
theorem unifyR_rel : ∀ (n : Nat) (L : List (Option Tm)) (M : List Tm) (a b : Tm) (res : Int × List Tm), Rel L M → OkR M → OkT M.length a → OkT M.length b → unifyR n M a b = some res → ∃ L', Rel L' res.2
  | 0, _, _, _, _, _, _, _, _, _, h => by cases h
  | n + 1, L, M, a, b, res, R, hM, ha, hb, h => by
    have ha' := headR_ok hM ha
    have hb' := headR_ok hM hb
    obtain ⟨_, hda⟩ := headR_inst R ha.2.2
    obtain ⟨_, hdb⟩ := headR_inst R hb.2.2
    simp only [unifyR] at h
    generalize headR M a = x at *
    generalize headR M b = y at *
    obtain ⟨k1, s1, v1, l1⟩ := x
    obtain ⟨k2, s2, v2, l2⟩ := y
    replace h : (if k1 = 4 ∨ k2 = 4 then
        if k1 = k2 ∧ v1 = v2 then some (0, M)
        else if k1 = 4 then some (bindR M v1 (inst M (.mk k2 s2 v2 l2))) else some (bindR M v2 (inst M (.mk k1 s1 v1 l1)))
      else if k1 ≠ k2 then some (6, M) else if s1 ≠ s2 then some (6, M) else if l1.length ≠ l2.length then some (6, M)
      else seqR (unifyR n) M l1 l2) = some res := h
    have bnd : ∀ (v : Nat) (t : Tm), M[v]? = some (free v) → OkT M.length t → ∃ L', Rel L' (bindR M v (inst M t)).2 := fun v t hv ht => by
      rcases bindR_rel R (R.unbound hv) ht with ⟨_, h2, h3⟩ | ⟨_, h2⟩
      · rw [h2]; exact ⟨_, h3⟩
      · rw [h2]; exact ⟨L, R⟩
    split at h
    · split at h
      · cases h; exact ⟨L, R⟩
      · split at h
        · rename_i h4
          subst h4
          have hv := known_four.1 ha'.2.2
          have h5 := hda rfl
          obtain ⟨v, rfl⟩ : ∃ v : Nat, v1 = v := ⟨v1.toNat, by omega⟩
          cases h
          exact bnd v _ (by simpa using h5) hb'
        · have h4 : k2 = 4 := by omega
          subst h4
          have hv := known_four.1 hb'.2.2
          have h5 := hdb rfl
          obtain ⟨v, rfl⟩ : ∃ v : Nat, v2 = v := ⟨v2.toNat, by omega⟩
          cases h
          exact bnd v _ (by simpa using h5) ha'
    · split at h
      · cases h; exact ⟨L, R⟩
      · split at h
        · cases h; exact ⟨L, R⟩
        · split at h
          · cases h; exact ⟨L, R⟩
          · exact seqR_rel (unifyR_rel n) _ _ L M res R hM (args_ok ha') (args_ok hb') h
/-- types that are the same when resolved are unified at once -/
theorem unifyR_same : ∀ (n : Nat) (L : List (Option Tm)) (M : List Tm) (a b : Tm) (res : Int × List Tm), Rel L M → OkR M → OkT M.length a → OkT M.length b → inst M a = inst M b → unifyR n M a b = some res → res = (0, M)
  | 0, _, _, _, _, _, _, _, _, _, _, h => by cases h
  | n + 1, L, M, a, b, res, R, hM, ha, hb, e, h => by
    have ha' := headR_ok hM ha
    have hb' := headR_ok hM hb
    obtain ⟨ia, hda⟩ := headR_inst R ha.2.2
    obtain ⟨ib, hdb⟩ := headR_inst R hb.2.2
    have hs := headed_same hda hdb ha'.2.1 hb'.2.1 ha'.2.2 hb'.2.2 (by rw [ia, ib, e])
    simp only [unifyR] at h
    generalize headR M a = x at *
    generalize headR M b = y at *
    obtain ⟨h1, h2, h3, h4, h5⟩ := hs
    split at h
    · rw [if_pos ⟨h1, h3⟩] at h; cases h; rfl
    · rw [if_neg (by simpa using h1), if_neg (by simpa using h2), if_neg (by simpa using h4)] at h
      have hx := args_ok ha'
      have hy := args_ok hb'
      have sq : ∀ (xs ys : List Tm), (∀ x ∈ xs, OkT M.length x) → (∀ y ∈ ys, OkT M.length y) → xs.map (inst M) = ys.map (inst M) → seqR (unifyR n) M xs ys = some res → res = (0, M) := by
        intro xs
        induction xs with
        | nil => intro ys _ _ _ h; simp [seqR] at h; exact h.symm
        | cons x xs ihx =>
          intro ys hx hy hm h
          cases ys with
          | nil => simp [seqR] at h; exact h.symm
          | cons y ys =>
            simp only [List.map_cons, List.cons.injEq] at hm
            simp only [seqR] at h
            cases hu : unifyR n M x y with
            | none => rw [hu] at h; cases h
            | some r =>
              rw [hu, unifyR_same n L M x y r R hM (hx x List.mem_cons_self) (hy y List.mem_cons_self) hm.1 hu] at h
              exact ihx ys (fun z hz => hx z (List.mem_cons_of_mem _ hz)) (fun z hz => hy z (List.mem_cons_of_mem _ hz)) hm.2 h
      exact sq _ _ hx hy h5 h
/-- **behind a unification both types are the same when resolved** -/
theorem unifyR_makes : ∀ (n : Nat) (L : List (Option Tm)) (M : List Tm) (a b : Tm) (M' : List Tm), Rel L M → OkR M → OkT M.length a → OkT M.length b → unifyR n M a b = some (0, M') → inst M' a = inst M' b
  | 0, _, _, _, _, _, _, _, _, _, h => by cases h
  | n + 1, L, M, a, b, M', R, hM, ha, hb, h => by
    have hE := unifyR_ext _ _ _ _ _ h
    have ha' := headR_ok hM ha
    have hb' := headR_ok hM hb
    obtain ⟨ia, hda⟩ := headR_inst R ha.2.2
    obtain ⟨ib, hdb⟩ := headR_inst R hb.2.2
    have e1 : inst M' a = inst M' (headR M a) := hE.2 _ _ ha.2.2 ha'.2.2 ia.symm
    have e2 : inst M' b = inst M' (headR M b) := hE.2 _ _ hb.2.2 hb'.2.2 ib.symm
    rw [e1, e2]
    simp only [unifyR] at h
    generalize headR M a = x at *
    generalize headR M b = y at *
    obtain ⟨k1, s1, v1, l1⟩ := x
    obtain ⟨k2, s2, v2, l2⟩ := y
    replace h : (if k1 = 4 ∨ k2 = 4 then
        if k1 = k2 ∧ v1 = v2 then some (0, M)
        else if k1 = 4 then some (bindR M v1 (inst M (.mk k2 s2 v2 l2))) else some (bindR M v2 (inst M (.mk k1 s1 v1 l1)))
      else if k1 ≠ k2 then some (6, M) else if s1 ≠ s2 then some (6, M) else if l1.length ≠ l2.length then some (6, M)
      else seqR (unifyR n) M l1 l2) = some (0, M') := h
    have bnd : ∀ (v : Nat) (s : ByteArray) (xs : List Tm) (t : Tm), M[v]? = some (free v) → OkT M.length t → OkT M.length (.mk 4 s v xs) → bindR M v (inst M t) = (0, M') → inst M' (.mk 4 s v xs) = inst M' t := fun v s xs t hv ht hf hb => by
      unfold bindR at hb
      split at hb
      · cases hb
      · rename_i hno
        split at hb
        · cases hb
        · cases hb
          rw [inst_map_put t ht.2.2, inst_map_put _ hf.2.2, inst_four (u := free v) (by simpa using hv), put_free_same]
          exact (put_no _ (clean_inst (fun x hx => (hM.el x hx).2.1) t ht.2.1) (by simpa using hno)).symm
    split at h
    · split at h
      · rename_i hh
        cases h
        have hk4 : k1 = 4 := by omega
        have hk4' : k2 = 4 := by omega
        subst hk4
        subst hk4'
        have h5 := hda rfl
        have h6 := hdb rfl
        simp only [Tm.var_mk] at h5 h6
        rw [inst_four h5, inst_four h6, hh.2]
      · split at h
        · rename_i h4
          subst h4
          have hv := known_four.1 ha'.2.2
          have h5 := hda rfl
          obtain ⟨v, rfl⟩ : ∃ v : Nat, v1 = v := ⟨v1.toNat, by omega⟩
          exact bnd v _ _ _ (by simpa using h5) hb' ha' (Option.some.inj h)
        · have h4 : k2 = 4 := by omega
          subst h4
          have hv := known_four.1 hb'.2.2
          have h5 := hdb rfl
          obtain ⟨v, rfl⟩ : ∃ v : Nat, v2 = v := ⟨v2.toNat, by omega⟩
          exact (bnd v _ _ _ (by simpa using h5) ha' hb' (Option.some.inj h)).symm
    · split at h
      · cases h
      · split at h
        · cases h
        · split at h
          · cases h
          · rename_i h4 h1 h2 h3
            have h1 : k1 = k2 := by simpa using h1
            have h2 : s1 = s2 := by simpa using h2
            have h3 : l1.length = l2.length := by simpa using h3
            subst h1
            subst h2
            have hx := args_ok ha'
            have hy := args_ok hb'
            have sq : ∀ (xs ys : List Tm) (L : List (Option Tm)) (M : List Tm), Rel L M → OkR M → (∀ x ∈ xs, OkT M.length x) → (∀ y ∈ ys, OkT M.length y) → xs.length = ys.length → seqR (unifyR n) M xs ys = some (0, M') → xs.map (inst M') = ys.map (inst M') ∧ Ext M M' := by
              intro xs
              induction xs with
              | nil => intro ys L M _ _ _ _ hl h; simp [seqR] at h; subst h; cases ys with
                | nil => exact ⟨rfl, .refl _⟩
                | cons => simp at hl
              | cons x xs ihx =>
                intro ys L M R hM hx hy hl h
                cases ys with
                | nil => simp at hl
                | cons y ys =>
                  simp only [seqR] at h
                  cases hu : unifyR n M x y with
                  | none => rw [hu] at h; cases h
                  | some r =>
                    have ox := hx x List.mem_cons_self
                    have oy := hy y List.mem_cons_self
                    obtain ⟨L1, R1⟩ := unifyR_rel n L M x y r R hM ox oy hu
                    obtain ⟨hM1, hl1⟩ := unifyR_ok n M x y r hM ox oy hu
                    have hE1 := unifyR_ext n M x y r hu
                    rw [hu] at h
                    split at h
                    · rename_i M2 e
                      cases e
                      have hm := unifyR_makes n L M x y M2 R hM ox oy hu
                      obtain ⟨q1, q2⟩ := ihx ys L1 M2 R1 hM1 (fun z hz => hl1 ▸ hx z (List.mem_cons_of_mem _ hz)) (fun z hz => hl1 ▸ hy z (List.mem_cons_of_mem _ hz)) (by simpa using hl) h
                      refine ⟨?_, hE1.trans q2⟩
                      rw [List.map_cons, List.map_cons, q1, q2.2 x y (hl1.symm ▸ ox.2.2) (hl1.symm ▸ oy.2.2) hm]
                    · rename_i hno
                      cases h
                      exact absurd rfl (hno M')
            obtain ⟨q1, _⟩ := sq l1 l2 L M R hM hx hy h3 h
            obtain ⟨c1, c2, _⟩ := clean_mk ha'.2.1
            obtain ⟨d1, d2, _⟩ := clean_mk hb'.2.1
            have hk4 : k1 ≠ 4 := by omega
            by_cases hk : k1 = 2
            · subst hk
              rw [inst_two, inst_two, q1]
            · rw [inst_other hk4 hk, inst_other hk4 hk, c2 hk, d2 hk]
              have z1 := ha'.2.1
              have z2 := hb'.2.1
              simp only [clean, hk, hk4, if_false] at z1 z2
              split at z1
              · simp only [Tm.mk.injEq] at z1 z2
                rw [if_pos ‹_›] at z2
                simp only [Tm.mk.injEq] at z2
                rw [← z1.2.2.1, ← z2.2.2.1]
              · rw [if_neg ‹_›] at z2
                simp only [Tm.mk.injEq] at z1 z2
                rw [← z1.2.2.1, ← z2.2.2.1]
end Go.Uni
end

/- part U4A -/
section
namespace Go.Uni
open Go.Proofs.YtdgekhanonfikaaDoor.Va

/-- an unknown that has the type that it is replaced by: nothing changes -/
theorem inst_put {N : List Tm} {v : Nat} {b u : Tm} (hu : N[v]? = some u) (e : inst N b = u) : ∀ t, inst N (put v b t) = inst N t := by
  refine Tm.ind fun k s w xs ih => ?_
  unfold put
  split
  · rename_i h
    obtain ⟨rfl, rfl⟩ := h
    rw [inst_four (u := u) (by simpa using hu), e]
  · split
    · rename_i h2
      subst h2
      rw [inst_two, inst_two, puts_eq, List.map_map]
      congr 1
      exact List.map_congr_left fun x hx => ih x hx
    · rfl
/-- an unknown within a type has fewer nodes than the type -/
theorem nodes_occ {N : List Tm} {v : Nat} {u : Tm} (hu : N[v]? = some u) : ∀ t, hasV v t = true → nodes u ≤ nodes (inst N t) ∧ (t.kind ≠ 4 → nodes u < nodes (inst N t)) := by
  refine Tm.ind fun k s w xs ih h => ?_
  by_cases h4 : k = 4
  · subst h4
    have hw : w = v := by simpa [hasV] using h
    subst hw
    rw [inst_four (u := u) (by simpa using hu)]
    exact ⟨Nat.le_refl _, fun h => absurd rfl h⟩
  · by_cases h2 : k = 2
    · subst h2
      rw [hasV_two, List.any_eq_true] at h
      obtain ⟨x, hx, hv⟩ := h
      have h1 := (ih x hx hv).1
      rw [inst_two]
      have h3 : nodes (inst N x) ≤ nodesL (xs.map (inst N)) := nodesL_mem (List.mem_map_of_mem hx)
      simp only [nodes, if_true]
      exact ⟨by omega, fun _ => by omega⟩
    · simp [hasV, h4, h2] at h

theorem unifyR_most : ∀ (n : Nat) (L : List (Option Tm)) (M : List Tm) (a b : Tm) (res : Int × List Tm) (N : List Tm), Rel L M → OkR M → OkT M.length a → OkT M.length b → Ext M N → inst N a = inst N b → unifyR n M a b = some res → res.1 ≠ 6 ∧ (res.1 = 0 → Ext res.2 N)
  | 0, _, _, _, _, _, _, _, _, _, _, _, _, h => by cases h
  | n + 1, L, M, a, b, res, N, R, hM, ha, hb, hE, hab, h => by
    have ha' := headR_ok hM ha
    have hb' := headR_ok hM hb
    obtain ⟨ia, hda⟩ := headR_inst R ha.2.2
    obtain ⟨ib, hdb⟩ := headR_inst R hb.2.2
    have e1 : inst N a = inst N (headR M a) := hE.2 _ _ ha.2.2 ha'.2.2 ia.symm
    have e2 : inst N b = inst N (headR M b) := hE.2 _ _ hb.2.2 hb'.2.2 ib.symm
    rw [e1, e2] at hab
    simp only [unifyR] at h
    generalize headR M a = x at *
    generalize headR M b = y at *
    obtain ⟨k1, s1, v1, l1⟩ := x
    obtain ⟨k2, s2, v2, l2⟩ := y
    replace h : (if k1 = 4 ∨ k2 = 4 then
        if k1 = k2 ∧ v1 = v2 then some (0, M)
        else if k1 = 4 then some (bindR M v1 (inst M (.mk k2 s2 v2 l2))) else some (bindR M v2 (inst M (.mk k1 s1 v1 l1)))
      else if k1 ≠ k2 then some (6, M) else if s1 ≠ s2 then some (6, M) else if l1.length ≠ l2.length then some (6, M)
      else seqR (unifyR n) M l1 l2) = some res := h
    have inn : ∀ t, known M.length t = true → inst N (inst M t) = inst N t := fun t ht => hE.2 _ _ (known_inst (fun x hx => (hM.el x hx).2.2) t ht) ht (R.inst_inst ht)
    have bnd : ∀ (v : Nat) (s : ByteArray) (xs : List Tm) (t : Tm), M[v]? = some (free v) → OkT M.length t → Headed M t → ¬ (t.kind = 4 ∧ t.var = v) → inst N (.mk 4 s v xs) = inst N t → (bindR M v (inst M t)).1 ≠ 6 ∧ ((bindR M v (inst M t)).1 = 0 → Ext (bindR M v (inst M t)).2 N) := fun v s xs t hv ht hd hno he => by
      have hvl : v < N.length := by rw [hE.1]; exact (List.getElem?_eq_some_iff.1 hv).1
      obtain ⟨u, hu⟩ : ∃ u, N[v]? = some u := ⟨_, List.getElem?_eq_getElem hvl⟩
      rw [inst_four (u := u) (by simpa using hu)] at he
      unfold bindR
      split
      · rename_i hh
        exfalso
        obtain ⟨_, hlt⟩ := nodes_occ hu _ hh
        rw [inn t ht.2.2, ← he] at hlt
        refine absurd (hlt fun hk => ?_) (Nat.lt_irrefl _)
        obtain ⟨k, s, w, xs⟩ := t
        have h4 : k = 4 := Decidable.byContradiction fun h4 => by
          by_cases h2 : k = 2
          · subst h2; rw [inst_two] at hk; simp at hk
          · rw [inst_other h4 h2] at hk; exact h4 hk
        subst h4
        have hw : M[w.toNat]? = some (free w) := hd rfl
        rw [inst_four hw] at hh
        simp only [Tm.var_mk, Tm.kind_mk] at hno
        rw [hasV_free] at hh
        exact hno ⟨trivial, by simpa using hh⟩
      · split
        · exact ⟨(by decide : (4 : Int) ≠ 6), fun h => absurd h (by decide : (4 : Int) ≠ 0)⟩
        · refine ⟨(by decide : (0 : Int) ≠ 6), fun _ => ⟨by rw [List.length_map]; exact hE.1, fun t1 u1 ht1 hu1 heq => ?_⟩⟩
          rw [List.length_map] at ht1 hu1
          rw [inst_map_put _ ht1, inst_map_put _ hu1] at heq
          have hby : inst N (inst M t) = u := by rw [inn t ht.2.2]; exact he.symm
          rw [← inn t1 ht1, ← inn u1 hu1, ← inst_put hu hby (inst M t1), ← inst_put hu hby (inst M u1)]
          exact congrArg (inst N) heq
    split at h
    · rename_i h4
      split at h
      · cases h; exact ⟨(by decide : (0 : Int) ≠ 6), fun _ => hE⟩
      · rename_i hno
        split at h
        · rename_i h4
          subst h4
          have hv := known_four.1 ha'.2.2
          have h5 := hda rfl
          obtain ⟨v, rfl⟩ : ∃ v : Nat, v1 = v := ⟨v1.toNat, by omega⟩
          cases h
          exact bnd v _ _ _ (by simpa using h5) hb' hdb (fun hh => hno ⟨hh.1.symm, hh.2.symm⟩) hab
        · rename_i hk1
          have h4 : k2 = 4 := by omega
          subst h4
          have hv := known_four.1 hb'.2.2
          have h5 := hdb rfl
          obtain ⟨v, rfl⟩ : ∃ v : Nat, v2 = v := ⟨v2.toNat, by omega⟩
          cases h
          exact bnd v _ _ _ (by simpa using h5) ha' hda (fun hh => hk1 hh.1) hab.symm
    · rename_i h4
      have hk1 : k1 ≠ 4 := fun h => h4 (.inl h)
      have hk2 : k2 ≠ 4 := fun h => h4 (.inr h)
      have shape : ∀ (k : Int) (s : ByteArray) (v : Int) (xs : List Tm), k ≠ 4 → OkT M.length (.mk k s v xs) → (inst N (.mk k s v xs)).kind = k ∧ (inst N (.mk k s v xs)).name = s ∧ (inst N (.mk k s v xs)).args = xs.map (inst N) := fun k s v xs hk ho => by
        by_cases h2 : k = 2
        · subst h2; rw [inst_two]; exact ⟨rfl, rfl, rfl⟩
        · rw [inst_other hk h2]
          obtain ⟨_, c2, _⟩ := clean_mk ho.2.1
          rw [c2 h2]
          exact ⟨rfl, rfl, rfl⟩
      obtain ⟨p1, p2, p3⟩ := shape _ _ _ _ hk1 ha'
      obtain ⟨q1, q2, q3⟩ := shape _ _ _ _ hk2 hb'
      rw [hab] at p1 p2 p3
      have r1 : k1 = k2 := p1.symm.trans q1
      have r2 : s1 = s2 := p2.symm.trans q2
      have r3 : l1.map (inst N) = l2.map (inst N) := p3.symm.trans q3
      have r4 : l1.length = l2.length := by simpa using congrArg List.length r3
      rw [if_neg (by simpa using r1), if_neg (by simpa using r2), if_neg (by simpa using r4)] at h
      have hx := args_ok ha'
      have hy := args_ok hb'
      have sq : ∀ (xs ys : List Tm) (L : List (Option Tm)) (M : List Tm) (res : Int × List Tm), Rel L M → OkR M → (∀ x ∈ xs, OkT M.length x) → (∀ y ∈ ys, OkT M.length y) → Ext M N → xs.map (inst N) = ys.map (inst N) → seqR (unifyR n) M xs ys = some res → res.1 ≠ 6 ∧ (res.1 = 0 → Ext res.2 N) := by
        intro xs
        induction xs with
        | nil => intro ys L M res _ _ _ _ hE _ h; simp [seqR] at h; subst h; exact ⟨(by decide : (0 : Int) ≠ 6), fun _ => hE⟩
        | cons x xs ihx =>
          intro ys L M res R hM hx hy hE hm h
          cases ys with
          | nil => simp at hm
          | cons y ys =>
            simp only [List.map_cons, List.cons.injEq] at hm
            simp only [seqR] at h
            cases hu : unifyR n M x y with
            | none => rw [hu] at h; cases h
            | some r =>
              have ox := hx x List.mem_cons_self
              have oy := hy y List.mem_cons_self
              obtain ⟨L1, R1⟩ := unifyR_rel n L M x y r R hM ox oy hu
              obtain ⟨hM1, hl1⟩ := unifyR_ok n M x y r hM ox oy hu
              have hm1 := unifyR_most n L M x y r N R hM ox oy hE hm.1 hu
              rw [hu] at h
              split at h
              · rename_i M2 e
                cases e
                exact ihx ys L1 M2 res R1 hM1 (fun z hz => hl1 ▸ hx z (List.mem_cons_of_mem _ hz)) (fun z hz => hl1 ▸ hy z (List.mem_cons_of_mem _ hz)) (hm1.2 rfl) hm.2 h
              · cases h; exact hm1
      exact sq l1 l2 L M res R hM hx hy hE r3 h
end Go.Uni
end

/- part U4B -/
section
namespace Go.Uni

mutual
/-- a type with its unknowns numbered anew; those that were met, in order -/
def plainT (m : List Int) : Tm → Tm × List Int
  | .mk k s v xs => (.mk k s (if k = 4 then (m.idxOf v : Nat) else v) (plainL (if k = 4 ∧ v ∉ m then m ++ [v] else m) xs).1, (plainL (if k = 4 ∧ v ∉ m then m ++ [v] else m) xs).2)
def plainL (m : List Int) : List Tm → List Tm × List Int
  | [] => ([], m)
  | t :: r => ((plainT m t).1 :: (plainL (plainT m t).2 r).1, (plainL (plainT m t).2 r).2)
end
mutual
/-- a type with its unknowns renamed -/
def ren (f : Int → Int) : Tm → Tm
  | .mk k s v xs => .mk k s (if k = 4 then f v else v) (rens f xs)
def rens (f : Int → Int) : List Tm → List Tm
  | [] => []
  | t :: r => ren f t :: rens f r
end
mutual
def allV (D : Int → Prop) : Tm → Prop
  | .mk k _ v xs => (k = 4 → D v) ∧ allVs D xs
def allVs (D : Int → Prop) : List Tm → Prop
  | [] => True
  | t :: r => allV D t ∧ allVs D r
end
theorem rens_eq {f : Int → Int} : ∀ xs, rens f xs = xs.map (ren f)
  | [] => rfl
  | t :: r => by rw [rens, rens_eq r]; rfl
theorem allVs_iff {D : Int → Prop} : ∀ xs, allVs D xs ↔ ∀ x ∈ xs, allV D x
  | [] => by simp [allVs]
  | t :: r => by simp [allVs, allVs_iff r]
theorem idx_map {D : Int → Prop} {f : Int → Int} (hf : ∀ a b, D a → D b → f a = f b → a = b) : ∀ (m : List Int) (v : Int), (∀ a ∈ m, D a) → D v → (m.map f).idxOf (f v) = m.idxOf v ∧ (f v ∈ m.map f ↔ v ∈ m)
  | [], v, _, _ => by simp
  | a :: m, v, hm, hv => by
    obtain ⟨h1, h2⟩ := idx_map hf m v (fun b hb => hm b (List.mem_cons_of_mem _ hb)) hv
    have ha := hm a List.mem_cons_self
    have hiff : f v = f a ↔ v = a := ⟨fun h => hf _ _ hv ha h, fun h => by rw [h]⟩
    refine ⟨?_, ?_⟩
    · rw [List.map_cons, List.idxOf_cons, List.idxOf_cons, h1]
      by_cases e : a = v
      · subst e; simp
      · have e' : f a ≠ f v := fun h => e (hf _ _ ha hv h)
        rw [show (f a == f v) = false from beq_eq_false_iff_ne.2 e', show (a == v) = false from beq_eq_false_iff_ne.2 e]
    · rw [List.map_cons, List.mem_cons, List.mem_cons, h2, hiff]
theorem plain_ren {D : Int → Prop} {f : Int → Int} (hf : ∀ a b, D a → D b → f a = f b → a = b) : ∀ (t : Tm) (m : List Int), (∀ a ∈ m, D a) → allV D t → plainT (m.map f) (ren f t) = ((plainT m t).1, (plainT m t).2.map f) ∧ ∀ a ∈ (plainT m t).2, D a := by
  refine Tm.ind fun k s v xs ih => ?_
  intro m hm hv
  have sq : ∀ (xs : List Tm), (∀ x ∈ xs, ∀ (m : List Int), (∀ a ∈ m, D a) → allV D x → plainT (m.map f) (ren f x) = ((plainT m x).1, (plainT m x).2.map f) ∧ ∀ a ∈ (plainT m x).2, D a) → ∀ (m : List Int), (∀ a ∈ m, D a) → allVs D xs →
      plainL (m.map f) (rens f xs) = ((plainL m xs).1, (plainL m xs).2.map f) ∧ ∀ a ∈ (plainL m xs).2, D a := by
    intro xs
    induction xs with
    | nil => intro _ m hm _; exact ⟨rfl, hm⟩
    | cons x r ihr =>
      intro hx m hm hv
      obtain ⟨v1, v2⟩ := hv
      obtain ⟨h1, h2⟩ := hx x List.mem_cons_self m hm v1
      obtain ⟨h3, h4⟩ := ihr (fun y hy => hx y (List.mem_cons_of_mem _ hy)) _ h2 v2
      simp only [rens, plainL, h1, h3]
      exact ⟨trivial, h4⟩
  obtain ⟨v1, v2⟩ := hv
  by_cases h4 : k = 4
  · subst h4
    obtain ⟨i1, i2⟩ := idx_map hf m v hm (v1 rfl)
    have hm' : ∀ a ∈ (if (4 : Int) = 4 ∧ v ∉ m then m ++ [v] else m), D a := by
      intro a ha
      split at ha
      · rcases List.mem_append.1 ha with h | h
        · exact hm a h
        · rw [List.mem_singleton.1 h]; exact v1 rfl
      · exact hm a ha
    obtain ⟨q1, q2⟩ := sq xs ih _ hm' v2
    have e : (if (4 : Int) = 4 ∧ f v ∉ m.map f then m.map f ++ [f v] else m.map f) = (if (4 : Int) = 4 ∧ v ∉ m then m ++ [v] else m).map f := by
      by_cases h : v ∈ m
      · have h' := i2.2 h; rw [if_neg (fun g => g.2 h'), if_neg (fun g => g.2 h)]
      · have h' := fun g => h (i2.1 g); rw [if_pos ⟨rfl, h'⟩, if_pos ⟨rfl, h⟩]; simp
    rw [show ren f (.mk 4 s v xs) = .mk 4 s (f v) (rens f xs) by simp [ren]]
    have p : ∀ (m : List Int) (v : Int) (xs : List Tm), plainT m (.mk 4 s v xs) = (.mk 4 s (m.idxOf v : Nat) (plainL (if (4 : Int) = 4 ∧ v ∉ m then m ++ [v] else m) xs).1, (plainL (if (4 : Int) = 4 ∧ v ∉ m then m ++ [v] else m) xs).2) := fun _ _ _ => by rw [plainT]; rfl
    rw [p, p, e, q1, i1]
    exact ⟨rfl, q2⟩
  · have e : ∀ (w : Int) (m : List Int), (if k = 4 ∧ w ∉ m then m ++ [w] else m) = m := fun w m => if_neg (fun g => h4 g.1)
    obtain ⟨q1, q2⟩ := sq xs ih _ hm v2
    simp only [ren, plainT, if_neg h4, e, q1]
    exact ⟨trivial, q2⟩
theorem plain_rens {D : Int → Prop} {f : Int → Int} (hf : ∀ a b, D a → D b → f a = f b → a = b) : ∀ (xs : List Tm) (m : List Int), (∀ a ∈ m, D a) → allVs D xs → plainL (m.map f) (xs.map (ren f)) = ((plainL m xs).1, (plainL m xs).2.map f)
  | [], m, _, _ => rfl
  | x :: r, m, hm, hv => by
    obtain ⟨v1, v2⟩ := hv
    obtain ⟨h1, h2⟩ := plain_ren hf x m hm v1
    have h3 := plain_rens hf r _ h2 v2
    simp only [List.map_cons, plainL, h1, h3]

/-- the unknowns of a type that stays as it is are unbound -/
theorem fixed_unbound {M : List Tm} : ∀ t, clean t = t → known M.length t = true → inst M t = t → allV (fun v => 0 ≤ v ∧ M[v.toNat]? = some (free v)) t := by
  refine Tm.ind fun k s v xs ih hc hk hi => ?_
  obtain ⟨c2, cn, c4⟩ := clean_mk hc
  by_cases h4 : k = 4
  · subst h4
    have hx := cn (by decide)
    have hs := c4 rfl
    subst hx hs
    have hv := known_four.1 hk
    obtain ⟨u, hu⟩ : ∃ u, M[v.toNat]? = some u := ⟨_, List.getElem?_eq_getElem (by omega)⟩
    rw [inst_four hu] at hi
    exact ⟨fun _ => ⟨hv.1, by rw [hu, hi]; rfl⟩, trivial⟩
  · refine ⟨fun h => absurd h h4, ?_⟩
    by_cases h2 : k = 2
    · subst h2
      rw [inst_two] at hi
      rw [known_two, List.all_eq_true] at hk
      simp only [Tm.mk.injEq, true_and] at hi
      rw [allVs_iff]
      intro x hx
      have hxi : inst M x = x := by
        obtain ⟨i, hi1, rfl⟩ := List.getElem_of_mem hx
        have := congrArg (fun l => l[i]?) hi.2
        simpa [hi1] using this
      exact ih x hx ((c2 rfl).2 x hx) (hk x hx) hxi
    · rw [cn h2]; trivial
theorem inst_ren {N : List Tm} {f : Int → Int} {D : Int → Prop} (hf : ∀ v, D v → N[v.toNat]? = some (free (f v))) : ∀ t, clean t = t → allV D t → inst N t = ren f t := by
  refine Tm.ind fun k s v xs ih hc hv => ?_
  obtain ⟨c2, cn, c4⟩ := clean_mk hc
  obtain ⟨v1, v2⟩ := hv
  by_cases h4 : k = 4
  · subst h4
    have hx := cn (by decide)
    have hs := c4 rfl
    subst hx hs
    rw [inst_four (hf v (v1 rfl))]
    rfl
  · by_cases h2 : k = 2
    · subst h2
      have := (c2 rfl).1
      subst this
      rw [inst_two]
      simp only [ren, rens_eq]
      rw [allVs_iff] at v2
      rw [show xs.map (inst N) = xs.map (ren f) from List.map_congr_left fun x hx => ih x hx ((c2 rfl).2 x hx) (v2 x hx)]
      simp
    · have hx := cn h2
      subst hx
      rw [inst_other h4 h2]
      simp [ren, rens, h4]

/-- **two tables, each an instance of the other, are one when their unknowns are numbered anew** -/
theorem plain_turns {L L' : List (Option Tm)} {M N : List Tm} (RM : Rel L M) (RN : Rel L' N) (h1 : Ext M N) (h2 : Ext N M) : (plainL [] M).1 = (plainL [] N).1 := by
  let D : Int → Prop := fun v => 0 ≤ v ∧ M[v.toNat]? = some (free v)
  let f : Int → Int := fun v => ((N[v.toNat]?).getD (free 0)).var
  have key : ∀ v, D v → N[v.toNat]? = some (free (f v)) ∧ M[(f v).toNat]? = some (free v) := by
    intro v ⟨hv0, hv⟩
    have hlt : v.toNat < M.length := (List.getElem?_eq_some_iff.1 hv).1
    obtain ⟨y, hy⟩ : ∃ y, N[v.toNat]? = some y := ⟨_, List.getElem?_eq_getElem (by rw [h1.1]; exact hlt)⟩
    obtain ⟨hc, hk⟩ := RN.mel y (List.mem_of_getElem? hy)
    have hkf : known N.length (free v) = true := known_four.2 ⟨hv0, by rw [h1.1]; omega⟩
    have hyy : inst N y = inst N (free v) := by rw [RN.idem _ y hy]; exact (inst_four hy).symm
    have hm := h2.2 y (free v) hk hkf hyy
    rw [show inst M (free v) = free v from inst_four hv] at hm
    have hfv : f v = y.var := by show ((N[v.toNat]?).getD (free 0)).var = _; rw [hy]; rfl
    obtain ⟨k, s, w, xs⟩ := y
    obtain ⟨_, cn, c4⟩ := clean_mk hc
    have h4 : k = 4 := Decidable.byContradiction fun h4 => by
      have := congrArg Tm.kind hm
      by_cases hh : k = 2
      · subst hh; rw [inst_two] at this; simp [free] at this
      · rw [inst_other h4 hh] at this; simp [free] at this; exact h4 this
    subst h4
    have hx := cn (by decide)
    have hs := c4 rfl
    subst hx hs
    rw [hfv]
    refine ⟨hy, ?_⟩
    have hw := known_four.1 hk
    obtain ⟨u, hu⟩ : ∃ u, M[w.toNat]? = some u := ⟨_, List.getElem?_eq_getElem (by rw [← h1.1]; omega)⟩
    rw [inst_four hu] at hm
    simp only [Tm.var_mk]
    rw [hu, hm]
  have inj : ∀ a b, D a → D b → f a = f b → a = b := fun a b ha hb e => by
    have := (key a ha).2.symm.trans (e ▸ (key b hb).2)
    simpa [free] using this
  have hall : allVs D M := (allVs_iff M).2 fun x hx => by
    obtain ⟨i, hi, rfl⟩ := List.getElem_of_mem hx
    obtain ⟨hc, hk⟩ := RM.mel _ hx
    exact fixed_unbound _ hc hk (RM.idem i _ (List.getElem?_eq_getElem hi))
  have hN : N = M.map (ren f) := by
    refine List.ext_getElem (by rw [List.length_map]; exact h1.1) fun i hi1 hi2 => ?_
    rw [List.length_map] at hi2
    have hx := List.getElem?_eq_getElem hi2
    have hy := List.getElem?_eq_getElem hi1
    have hmem := List.mem_of_getElem? hx
    obtain ⟨hc, hk⟩ := RM.mel _ hmem
    rw [List.getElem_map, ← inst_ren (fun v hv => (key v hv).1) _ hc ((allVs_iff M).1 hall _ hmem)]
    have e1 : inst M M[i] = inst M (free i) := by rw [RM.idem i _ hx]; exact (inst_four (by simp)).symm
    have e2 := h1.2 _ _ hk (known_free hi2) e1
    rw [e2]
    exact (inst_four (by simp)).symm
  have := plain_rens inj M [] (fun a ha => by simp at ha) hall
  rw [← hN] at this
  rw [List.map_nil] at this
  rw [this]
end Go.Uni
end

/- part U4C -/
section
namespace Go.Uni
open Go.Av
/-- a map's rows: the unknowns that were met, with their numbers -/
def mrowsF : Nat → List Int → List (List V)
  | _, [] => []
  | k, v :: r => [.int .i64 v, .int .i64 k] :: mrowsF (k + 1) r
def mrows (m : List Int) : List (List V) := mrowsF 0 m
theorem mrowsF_length : ∀ (k : Nat) (m : List Int), (mrowsF k m).length = m.length
  | _, [] => rfl
  | k, v :: r => by rw [mrowsF, List.length_cons, List.length_cons, mrowsF_length]
theorem mrowsF_snoc : ∀ (k : Nat) (m : List Int) (v : Int), mrowsF k (m ++ [v]) = mrowsF k m ++ [[.int .i64 v, .int .i64 ((k + m.length : Nat) : Int)]]
  | _, [], _ => rfl
  | k, a :: r, v => by
    rw [List.cons_append, mrowsF, mrowsF_snoc, mrowsF, List.cons_append, List.length_cons, show k + 1 + r.length = k + (r.length + 1) by omega]
theorem mrowsF_look : ∀ (k : Nat) (m : List Int) (v : Int), lookV (mrowsF k m) v = if v ∈ m then some (.int .i64 ((k + m.idxOf v : Nat) : Int)) else none
  | _, [], _ => by simp [mrowsF, lookV]
  | k, a :: r, v => by
    have h : lookV (mrowsF k (a :: r)) v = cond (decide (v = a)) (some (.int .i64 k)) (lookV (mrowsF (k + 1) r) v) := rfl
    rw [h, mrowsF_look]
    by_cases e : v = a
    · subst e; simp
    · rw [decide_eq_false e, cond_false, List.idxOf_cons, show (a == v) = false from beq_eq_false_iff_ne.2 (Ne.symm e), cond_false]
      simp only [List.mem_cons, e, false_or]
      split
      · rw [show k + 1 + r.idxOf v = k + (r.idxOf v + 1) by omega]
      · rfl
theorem mrows_length (m : List Int) : (mrows m).length = m.length := mrowsF_length 0 m
theorem mrows_snoc (m : List Int) (v : Int) : mrows (m ++ [v]) = mrows m ++ [[.int .i64 v, .int .i64 (m.length : Int)]] := by
  have := mrowsF_snoc 0 m v; rwa [Nat.zero_add] at this
theorem mrows_look (m : List Int) (v : Int) : lookV (mrows m) v = if v ∈ m then some (.int .i64 (m.idxOf v : Nat)) else none := by
  have := mrowsF_look 0 m v; rwa [Nat.zero_add] at this
theorem plainL_snoc : ∀ (ys : List Tm) (m : List Int) (t : Tm), plainL m (ys ++ [t]) = ((plainL m ys).1 ++ [(plainT (plainL m ys).2 t).1], (plainT (plainL m ys).2 t).2)
  | [], m, t => rfl
  | y :: ys, m, t => by
    rw [List.cons_append, plainL, plainL_snoc, plainL]; rfl
theorem plainL_length : ∀ (ys : List Tm) (m : List Int), (plainL m ys).1.length = ys.length
  | [], _ => rfl
  | y :: ys, m => by rw [plainL, List.length_cons, List.length_cons, plainL_length]
end Go.Uni
namespace Go.Proofs.YtdgekhanonfikaaDoor.Va
open Go.Vx Go.Av Go.Uni

theorem plain_spec : ∀ t : Tm, size t ≤ big → ∀ m : List Int,
    SCalls ax 42 [.agg (enc t), .ptr 0 0, .ptr 2 0] [.box [.map 1], .lst 76 0 false (mrows m), .box [.fn 42 [] [.ptr 0 0, .ptr 2 0]]] fun r o => r = [.agg (enc (plainT m t).1)] ∧ o = [.box [.map 1], .lst 76 0 false (mrows (plainT m t).2), .box [.fn 42 [] [.ptr 0 0, .ptr 2 0]]] := by
  refine Tm.ind fun k s v xs ih => ?_
  intro hs m
  have hb : big = 1099511627776 := rfl
  have hlen := length_sizes xs
  simp only [size] at hs
  refine plain.calls (K := fun r o => r = [.agg (enc (plainT m (.mk k s v xs)).1)] ∧ o = [.box [.map 1], .lst 76 0 false (mrows (plainT m (.mk k s v xs)).2), .box [.fn 42 [] [.ptr 0 0, .ptr 2 0]]]) ?_
  unfold plain.W
  rw [plainT]
  generalize hm1 : (if k = 4 ∧ v ∉ m then m ++ [v] else m) = m1
  generalize hv1 : (if k = 4 then ((m.idxOf v : Nat) : Int) else v) = v1
  refine ⟨fun us => us = [.int .i64 k, .str s, .int .i64 v1, .sl 4 (encs xs), .sl 0 (mrows m1)], ifE (fun h4 => ?_) (fun h4 => ?_), ?_⟩
  · subst h4
    rw [if_pos rfl] at hv1
    rw [mrows_look]
    by_cases hv : v ∈ m
    · rw [if_neg (fun h => h.2 hv)] at hm1
      rw [if_pos hv]
      subst hm1 hv1
      exact ⟨fun u h => by cases h; exact ⟨_, rfl, rfl⟩, fun h => by cases h⟩
    · rw [if_pos ⟨rfl, hv⟩] at hm1
      rw [if_neg hv]
      subst hm1 hv1
      refine ⟨fun u h => (by cases h), fun _ => ⟨rfl, ?_⟩⟩
      rw [mrows_snoc, mrows_length, List.idxOf_eq_length hv]
  · rw [if_neg h4] at hv1
    rw [if_neg (fun h => h4 h.1)] at hm1
    subst hm1 hv1
    rfl
  · rintro n10 s11 n12 l13 l14 e
    cases e
    rw [encs_length]
    refine ⟨fun us => ∃ i : Nat, i ≤ xs.length ∧ us = [.sl 4 (encs (plainL m1 (xs.take i)).1), .int .i64 i, .sl 0 (mrows (plainL m1 (xs.take i)).2)], fun us => match us with | [_, .int _ i, _] => xs.length - i.toNat | _ => 0, ⟨0, Nat.zero_le _, rfl⟩, ?_⟩
    rintro l44 n45 l46 ⟨i, hi, e⟩
    cases e
    refine ifD (fun hlt => ?_) (fun hge => ?_)
    · have hi' : i < xs.length := by omega
      obtain ⟨t, ht⟩ : ∃ t, xs[i]? = some t := ⟨_, List.getElem?_eq_getElem hi'⟩
      have hmem := List.mem_of_getElem? ht
      have hsz := size_mem hmem
      have hrow := row_encs ht
      have hsp := ih t hmem (by omega) (plainL m1 (xs.take i)).2
      have htk : xs.take (i + 1) = xs.take i ++ [t] := by rw [List.take_add_one, ht]; rfl
      have hsn := plainL_snoc (xs.take i) m1 t
      rw [← htk] at hsn
      have hpl := plainL_length (xs.take i) m1
      rw [List.length_take] at hpl
      generalize hp : plainT (plainL m1 (xs.take i)).2 t = p at hsp hsn
      obtain ⟨⟨k1, s1, v2, l1⟩, m2⟩ := p
      obtain ⟨kt, st, vt, lt⟩ := t
      refine ⟨by omega, hlt, kt, st, vt, encs lt, by rw [Int.toNat_natCast, hrow]; rfl, ?_⟩
      refine hsp.mono fun r o ⟨hr, ho⟩ => ⟨_, _, _, _, _, hr, ho, ?_⟩
      rw [encs_length, hpl, w64 (by omega) (by omega)]
      simp only [List.length_cons, List.length_nil]
      refine ⟨by omega, by omega, ⟨i + 1, by omega, ?_⟩, by simp only [Int.toNat_natCast]; omega⟩
      rw [hsn, encs_append]
      rfl
    · have hx : xs.take i = xs := List.take_of_length_le (by omega)
      rw [hx]
      exact ⟨rfl, rfl⟩

theorem Plain_spec (xs : List Tm) (hs : sizes xs ≤ big) : PCalls ax 23 [.sl 4 (encs xs)] fun r => r = [.sl 4 (encs (plainL [] xs).1)] := by
  have hb : big = 1099511627776 := rfl
  have hlen := length_sizes xs
  refine Plain.calls (K := fun r => r = [.sl 4 (encs (plainL [] xs).1)]) ?_
  unfold Plain.W
  rw [encs_length]
  refine ⟨fun us => ∃ i : Nat, i ≤ xs.length ∧ us = [.sl 4 (encs (plainL [] (xs.take i)).1), .int .i64 i, .sl 0 (mrows (plainL [] (xs.take i)).2)], fun us => match us with | [_, .int _ i, _] => xs.length - i.toNat | _ => 0, ⟨0, Nat.zero_le _, rfl⟩, ?_⟩
  rintro l44 n45 l46 ⟨i, hi, e⟩
  cases e
  refine ifD (fun hlt => ?_) (fun hge => ?_)
  · have hi' : i < xs.length := by omega
    obtain ⟨t, ht⟩ : ∃ t, xs[i]? = some t := ⟨_, List.getElem?_eq_getElem hi'⟩
    have hmem := List.mem_of_getElem? ht
    have hsz := size_mem hmem
    have hrow := row_encs ht
    have hsp := plain_spec t (by omega) (plainL [] (xs.take i)).2
    have htk : xs.take (i + 1) = xs.take i ++ [t] := by rw [List.take_add_one, ht]; rfl
    have hsn := plainL_snoc (xs.take i) [] t
    rw [← htk] at hsn
    have hpl := plainL_length (xs.take i) []
    rw [List.length_take] at hpl
    generalize hp : plainT (plainL [] (xs.take i)).2 t = p at hsp hsn
    obtain ⟨⟨k1, s1, v2, l1⟩, m2⟩ := p
    obtain ⟨kt, st, vt, lt⟩ := t
    refine ⟨by omega, hlt, kt, st, vt, encs lt, by rw [Int.toNat_natCast, hrow]; rfl, ?_⟩
    refine hsp.mono fun r o ⟨hr, ho⟩ => ⟨_, _, _, _, _, hr, ho, ?_⟩
    rw [encs_length, hpl, w64 (by omega) (by omega)]
    simp only [List.length_cons, List.length_nil]
    refine ⟨by omega, by omega, ⟨i + 1, by omega, ?_⟩, by simp only [Int.toNat_natCast]; omega⟩
    rw [hsn, encs_append]
    rfl
  · have hx : xs.take i = xs := List.take_of_length_le (by omega)
    rw [hx]
end Go.Proofs.YtdgekhanonfikaaDoor.Va
end
