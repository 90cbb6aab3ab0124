/- The chapter's first example, at the model's run. -/
import Derived.Test.YtahagnfdpemmaaaDoorFB
import Derived.Test.YtahagnfdpemmaaaDoorF8
import Derived.Test.YtahagnfdpemmaaaDoorFA
import Derived.Shelf.Abstract
/- part Y4M -/
section
namespace Go.Dm
open Go.Av Go.Lx Go.Dr Go.Uni

/-! ### instances -/
def lookE : List (ByteArray × Tm) → ByteArray → Option Tm
  | [], _ => none
  | (a, t) :: l, q => cond (decide (q = a)) (some t) (lookE l q)
def mapE (env : List (ByteArray × Tm)) : List (List V) := env.map fun p => [.str p.1, .agg (enc p.2)]
theorem look_mapE (q : ByteArray) : ∀ env : List (ByteArray × Tm), lookS (mapE env) q = (lookE env q).map fun t => .agg (enc t)
  | [] => rfl
  | (a, t) :: l => by
    show cond (decide (q = a)) (some (V.agg (enc t))) (lookS (mapE l) q) = _
    rw [look_mapE q l, lookE]
    cases decide (q = a) <;> rfl
theorem lookE_none {q : ByteArray} : ∀ {env : List (ByteArray × Tm)}, q ∉ env.map (·.1) → lookE env q = none
  | [], _ => rfl
  | (a, t) :: l, h => by
    rw [List.map_cons, List.mem_cons, not_or] at h
    rw [lookE, decide_eq_false h.1, cond_false]
    exact lookE_none h.2
mutual
def instE (env : List (ByteArray × Tm)) : Te → Tm
  | .mk b s zs => if b then (lookE env s).getD (.mk 3 s 0 []) else if s = ⟨#[105, 110, 116]⟩ ∧ zs.length = 0 then .mk 1 ⟨#[]⟩ 0 [] else .mk 2 s 0 (instEs env zs)
def instEs (env : List (ByteArray × Tm)) : List Te → List Tm
  | [] => []
  | t :: r => instE env t :: instEs env r
end
theorem instEs_eq (env : List (ByteArray × Tm)) : ∀ zs, instEs env zs = zs.map (instE env)
  | [] => rfl
  | t :: r => by rw [instEs, instEs_eq env r]; rfl

/-! ### lists that are not too long -/
mutual
def thin (c : Nat) : Tm → Prop
  | .mk _ _ _ zs => zs.length ≤ c ∧ thins c zs
def thins (c : Nat) : List Tm → Prop
  | [] => True
  | t :: r => thin c t ∧ thins c r
end
theorem thins_iff {c : Nat} : ∀ xs, thins c xs ↔ ∀ x ∈ xs, thin c x
  | [] => by simp [thins]
  | t :: r => by simp [thins, thins_iff r]
theorem lookE_mem {q : ByteArray} {t : Tm} : ∀ {env : List (ByteArray × Tm)}, lookE env q = some t → t ∈ env.map (·.2)
  | (a, u) :: l, h => by
    rw [lookE] at h
    cases hd : decide (q = a) with
    | true => rw [hd] at h; cases h; exact List.mem_cons_self
    | false => rw [hd] at h; exact List.mem_cons_of_mem _ (lookE_mem h)
theorem thin_inst {c : Nat} {env : List (ByteArray × Tm)} (he : ∀ t ∈ env.map (·.2), thin c t) : ∀ t : Te, wideE c t → thin c (instE env t) := by
  refine Te.ind fun b s zs ih hs => ?_
  obtain ⟨hl, hs⟩ := hs
  rw [wideEs_iff] at hs
  rw [instE]
  split
  · cases h : lookE env s with
    | none => exact ⟨Nat.zero_le _, trivial⟩
    | some t => exact he t (lookE_mem h)
  · split
    · exact ⟨Nat.zero_le _, trivial⟩
    · rw [instEs_eq]
      refine ⟨by rw [List.length_map]; omega, (thins_iff _).2 fun x hx => ?_⟩
      obtain ⟨y, hy, rfl⟩ := List.mem_map.1 hx
      exact ih y hy (hs y hy)
theorem tm_cases (t : Tm) : ∃ k s v l, t = .mk k s v l := by cases t; exact ⟨_, _, _, _, rfl⟩

/-! ### data -/
inductive Dd where
  | mk (c : Bool) (n : Int) (s : ByteArray) (zs : List Dd)
theorem Dd.ind {p : Dd → Prop} (h : ∀ c n s zs, (∀ a ∈ zs, p a) → p (.mk c n s zs)) : ∀ t, p t
  | .mk c n s zs => h c n s zs (go zs)
where go : ∀ zs : List Dd, ∀ a ∈ zs, p a
  | b :: r, a, hm => by
    rcases List.mem_cons.1 hm with e | e
    · rw [e]; exact Dd.ind h b
    · exact go r a e
mutual
def encX : Dd → List V
  | .mk c n s zs => [.bool c, .int .i64 n, .str s, .sl 4 (encXs zs)]
def encXs : List Dd → List (List V)
  | [] => []
  | t :: r => encX t :: encXs r
end
theorem encXs_eq : ∀ zs, encXs zs = zs.map encX
  | [] => rfl
  | t :: r => by rw [encXs, encXs_eq r]; rfl
@[simp] theorem encXs_length (zs : List Dd) : (encXs zs).length = zs.length := by rw [encXs_eq]; simp
@[simp] theorem encXs_append (a b : List Dd) : encXs (a ++ b) = encXs a ++ encXs b := by simp [encXs_eq]
theorem encX_take (t : Dd) : (encX t).take 4 = encX t := by cases t; rfl
theorem xrow {zs : List Dd} {i : Nat} {t : Dd} (h : zs[i]? = some t) : List.take 4 (Av.rowAt (encXs zs) ((i : Int).toNat)) = encX t := by
  rw [Int.toNat_natCast, encXs_eq, Av.rowAt, List.getD_eq_getElem?_getD, List.getElem?_map, h]
  exact encX_take t
theorem dd_cases (t : Dd) : ∃ c n s zs, t = .mk c n s zs := by cases t; exact ⟨_, _, _, _, rfl⟩
theorem xget {zs : List Dd} {i : Nat} (h : i < zs.length) : ∃ c n s l, zs[i]? = some (.mk c n s l) := by
  have he := List.getElem?_eq_getElem h
  obtain ⟨c, n, s, l, e⟩ := dd_cases zs[i]
  exact ⟨c, n, s, l, by rw [he, e]⟩
/-! data with just the fields of their kind, not too wide -/
mutual
def cleanD (w : Nat) : Dd → Prop
  | .mk c n s zs => zs.length ≤ w ∧ (c = true → n = 0) ∧ (c = false → s = ⟨#[]⟩ ∧ zs = []) ∧ cleanDs w zs
def cleanDs (w : Nat) : List Dd → Prop
  | [] => True
  | t :: r => cleanD w t ∧ cleanDs w r
end
theorem cleanDs_iff {w : Nat} : ∀ xs, cleanDs w xs ↔ ∀ x ∈ xs, cleanD w x
  | [] => by simp [cleanDs]
  | t :: r => by simp [cleanDs, cleanDs_iff r]
def num (n : Int) : Dd := .mk false n ⟨#[]⟩ []

/-! ### rows -/
def prodR (ls : List (List Dd)) : List (List Dd) := ls.foldl (fun acc l => acc.flatMap fun r => l.map fun d => r ++ [d]) [[]]
theorem prodR_nil : prodR [] = [[]] := rfl
theorem prodR_snoc (ls : List (List Dd)) (l : List Dd) : prodR (ls ++ [l]) = (prodR ls).flatMap fun r => l.map fun d => r ++ [d] := by
  rw [prodR, List.foldl_append]; rfl
theorem flatMap_length_const {α β : Type} (f : α → List β) (m : Nat) : ∀ l : List α, (∀ x ∈ l, (f x).length = m) → (l.flatMap f).length = l.length * m
  | [], _ => by simp
  | a :: l, h => by
    rw [List.flatMap_cons, List.length_append, h a List.mem_cons_self, flatMap_length_const f m l fun x hx => h x (List.mem_cons_of_mem _ hx), List.length_cons, Nat.add_mul]; omega
theorem flatMap_get {α β : Type} (f : α → List β) (m : Nat) : ∀ (l : List α) (k i : Nat), (∀ x ∈ l, (f x).length = m) → i < m → (l.flatMap f)[k * m + i]? = (l[k]?).bind fun x => (f x)[i]?
  | [], k, i, _, _ => by simp
  | a :: l, 0, i, h, hi => by
    rw [List.flatMap_cons, Nat.zero_mul, Nat.zero_add, List.getElem?_append_left (by rw [h a List.mem_cons_self]; exact hi)]; rfl
  | a :: l, k + 1, i, h, hi => by
    have ha := h a List.mem_cons_self
    rw [List.flatMap_cons, List.getElem?_append_right (by rw [ha, Nat.add_mul]; omega), ha, show (k + 1) * m + i - m = k * m + i by rw [Nat.add_mul]; omega, flatMap_get f m l k i (fun x hx => h x (List.mem_cons_of_mem _ hx)) hi]; rfl
theorem prodR_len (ls : List (List Dd)) (l : List Dd) : (prodR (ls ++ [l])).length = (prodR ls).length * l.length := by
  rw [prodR_snoc]; exact flatMap_length_const _ _ _ fun x _ => by simp
theorem prodR_get (ls : List (List Dd)) (l : List Dd) {k i : Nat} {r : List Dd} {d : Dd} (hk : (prodR ls)[k]? = some r) (hi : l[i]? = some d) : (prodR (ls ++ [l]))[k * l.length + i]? = some (r ++ [d]) := by
  rw [prodR_snoc, flatMap_get _ l.length _ k i (fun x _ => by simp) (List.getElem?_eq_some_iff.1 hi).1, hk]
  simp [hi]
theorem prodR_each : ∀ (ls : List (List Dd)) (r : List Dd), r ∈ prodR ls → r.length = ls.length ∧ ∀ x ∈ r, ∃ l ∈ ls, x ∈ l := by
  intro ls
  suffices h : ∀ n, ∀ ls : List (List Dd), ls.length = n → ∀ r ∈ prodR ls, r.length = ls.length ∧ ∀ x ∈ r, ∃ l ∈ ls, x ∈ l from h ls.length ls rfl
  intro n
  induction n with
  | zero =>
    intro ls h r hr
    rw [List.eq_nil_of_length_eq_zero h] at hr ⊢
    rw [prodR_nil, List.mem_singleton] at hr
    subst hr
    exact ⟨rfl, fun x hx => by cases hx⟩
  | succ n ih =>
    intro ls h r hr
    obtain ⟨init, l, rfl⟩ : ∃ init l, ls = init ++ [l] := ⟨ls.dropLast, ls.getLast (by intro e; rw [e] at h; simp at h), by rw [List.dropLast_concat_getLast]⟩
    rw [prodR_snoc] at hr
    obtain ⟨r0, hr0, hr⟩ := List.mem_flatMap.1 hr
    obtain ⟨d, hd, rfl⟩ := List.mem_map.1 hr
    obtain ⟨h1, h2⟩ := ih init (by simpa using h) r0 hr0
    refine ⟨by simp [h1], fun x hx => ?_⟩
    rcases List.mem_append.1 hx with hx | hx
    · obtain ⟨l', hl', hx'⟩ := h2 x hx
      exact ⟨l', List.mem_append_left _ hl', hx'⟩
    · rw [List.mem_singleton.1 hx]
      exact ⟨l, by simp, hd⟩
theorem nodup_flatMap_of {α β : Type} (f : α → List β) : ∀ l : List α, l.Nodup → (∀ x ∈ l, (f x).Nodup) → (∀ x ∈ l, ∀ y ∈ l, ∀ b, b ∈ f x → b ∈ f y → x = y) → (l.flatMap f).Nodup
  | [], _, _, _ => List.nodup_nil
  | a :: l, h, h1, h2 => by
    rw [List.nodup_cons] at h
    rw [List.flatMap_cons, List.nodup_append]
    refine ⟨h1 a List.mem_cons_self, nodup_flatMap_of f l h.2 (fun x hx => h1 x (List.mem_cons_of_mem _ hx)) fun x hx y hy => h2 x (List.mem_cons_of_mem _ hx) y (List.mem_cons_of_mem _ hy), fun b hb c hc e => ?_⟩
    subst e
    obtain ⟨y, hy, hby⟩ := List.mem_flatMap.1 hc
    have := h2 a List.mem_cons_self y (List.mem_cons_of_mem _ hy) b hb hby
    subst this
    exact h.1 hy
theorem nodup_map_of {α β : Type} (f : α → β) : ∀ l : List α, l.Nodup → (∀ x ∈ l, ∀ y ∈ l, f x = f y → x = y) → (l.map f).Nodup
  | [], _, _ => List.nodup_nil
  | a :: l, h, h1 => by
    rw [List.nodup_cons] at h
    rw [List.map_cons, List.nodup_cons]
    refine ⟨fun hm => ?_, nodup_map_of f l h.2 fun x hx y hy => h1 x (List.mem_cons_of_mem _ hx) y (List.mem_cons_of_mem _ hy)⟩
    obtain ⟨y, hy, e⟩ := List.mem_map.1 hm
    have := h1 y (List.mem_cons_of_mem _ hy) a List.mem_cons_self e
    subst this
    exact h.1 hy
theorem prodR_nodup : ∀ (ls : List (List Dd)), (∀ l ∈ ls, l.Nodup) → (prodR ls).Nodup := by
  intro ls
  suffices h : ∀ n, ∀ ls : List (List Dd), ls.length = n → (∀ l ∈ ls, l.Nodup) → (prodR ls).Nodup from h ls.length ls rfl
  intro n
  induction n with
  | zero =>
    intro ls h _
    rw [List.eq_nil_of_length_eq_zero h, prodR_nil]; simp
  | succ n ih =>
    intro ls h hn
    obtain ⟨init, l, rfl⟩ : ∃ init l, ls = init ++ [l] := ⟨ls.dropLast, ls.getLast (by intro e; rw [e] at h; simp at h), by rw [List.dropLast_concat_getLast]⟩
    rw [prodR_snoc]
    refine nodup_flatMap_of _ _ (ih init (by simpa using h) fun x hx => hn x (List.mem_append_left _ hx)) (fun r _ => nodup_map_of _ _ (hn l (by simp)) fun x _ y _ e => ?_) fun x _ y _ b hx hy => ?_
    · exact List.cons.inj (List.append_cancel_left e) |>.1
    · obtain ⟨d, _, rfl⟩ := List.mem_map.1 hx
      obtain ⟨d', _, e⟩ := List.mem_map.1 hy
      exact (List.append_inj_left' e rfl).symm

/-! ### data of a type -/
def fieldsP (c : Ct) : Tm → Option (List Tm)
  | .mk k s _ ar => if k = 2 ∧ s = c.ty ∧ ar.length = c.vars.length then some (c.args.map (instE (c.vars.zip ar))) else none
def ofTy (cs : List Ct) (s : ByteArray) : List Ct := cs.filter fun c => decide (c.ty = s)
def mkD (c : Ct) (r : List Dd) : Dd := .mk true 0 c.name r
def rowsOf' (f : Tm → List Dd) (t : Tm) (c : Ct) : List Dd := match fieldsP c t with
  | none => []
  | some fs => (prodR (fs.map f)).map (mkD c)
def dom (cs : List Ct) : Nat → Tm → List Dd
  | d, .mk k s v ar => if k = 1 then [num 0, num 1, num 2] else if k = 3 ∨ k = 4 then [num 0] else
    match d with
    | 0 => []
    | d + 1 => ((ofTy cs s).flatMap (rowsOf' (dom cs d) (.mk k s v ar))).take 300
def depN (d : Int) : Nat := if 1 ≤ d ∧ d ≤ 4 then d.toNat else 0
theorem dom_len (cs : List Ct) (d : Nat) (t : Tm) : (dom cs d t).length ≤ 300 := by
  obtain ⟨k, s, v, ar⟩ := t
  cases d <;> rw [dom] <;> split
  · simp
  · split <;> simp
  · simp
  · split
    · simp
    · exact List.length_take_le _ _
end Go.Dm
end

/- part Y4N -/
section
namespace Go.Dm
open Go.Av Go.Lx Go.Dr Go.Uni

def encW (R : List (List Dd)) : List (List V) := R.map fun r => [.sl 4 (encXs r)]
@[simp] theorem encW_length (R : List (List Dd)) : (encW R).length = R.length := by simp [encW]
theorem encW_append (a b : List (List Dd)) : encW (a ++ b) = encW a ++ encW b := by simp [encW]
theorem wrow {R : List (List Dd)} {i : Nat} {r : List Dd} (h : R[i]? = some r) : List.take 1 (Av.rowAt (encW R) ((i : Int).toNat)) = [.sl 4 (encXs r)] := by
  rw [Int.toNat_natCast, encW, Av.rowAt, List.getD_eq_getElem?_getD, List.getElem?_map, h]; rfl
theorem cap_snoc {α : Type} (a : List α) (x : α) : (a ++ [x]).take 300 = if (a.take 300).length < 300 then a.take 300 ++ [x] else a.take 300 := by
  rw [List.length_take]
  split
  · rw [List.take_of_length_le (l := a ++ [x]) (by simp; omega), List.take_of_length_le (l := a) (by omega)]
  · rw [List.take_append_of_le_length (by omega)]
theorem cap_append {α : Type} (a b : List α) : (a ++ b.take 300).take 300 = (a ++ b).take 300 := by
  rw [List.take_append, List.take_append, List.take_take, show min (300 - a.length) 300 = 300 - a.length by omega]
theorem cap_left {α : Type} (a b : List α) : (a.take 300 ++ b).take 300 = (a ++ b).take 300 := by
  rw [List.take_append, List.take_append, List.take_take, List.length_take]
  simp only [Nat.min_self]
  by_cases h : a.length ≤ 300
  · rw [show min 300 a.length = a.length by omega]
  · rw [show 300 - min 300 a.length = 0 by omega, show 300 - a.length = 0 by omega]
theorem cap_flat {α β : Type} (g : α → List β) (hg : ∀ x, g x ≠ []) : ∀ (n m : Nat) (l : List α), m ≤ n → ((l.take n).flatMap g).take m = (l.flatMap g).take m
  | n, m, [], _ => by simp
  | 0, m, x :: l, h => by rw [show m = 0 by omega]; simp
  | n + 1, m, x :: l, h => by
    rw [List.take_succ_cons, List.flatMap_cons, List.flatMap_cons, List.take_append, List.take_append]
    have : 1 ≤ (g x).length := by
      cases hx : g x with
      | nil => exact absurd hx (hg x)
      | cons _ _ => simp
    rw [cap_flat g hg n (m - (g x).length) l (by omega)]
def prodT (ls : List (List Dd)) : List (List Dd) := ls.foldl (fun acc l => (acc.flatMap fun r => l.map fun d => r ++ [d]).take 300) [[]]
theorem prodT_snoc (ls : List (List Dd)) (l : List Dd) : prodT (ls ++ [l]) = ((prodT ls).flatMap fun r => l.map fun d => r ++ [d]).take 300 := by
  rw [prodT, List.foldl_append]; rfl
theorem prodT_eq (ls : List (List Dd)) : prodT ls = (prodR ls).take 300 := by
  suffices h : ∀ n, ∀ ls : List (List Dd), ls.length = n → prodT ls = (prodR ls).take 300 from h ls.length ls rfl
  intro n
  induction n with
  | zero =>
    intro ls h
    rw [List.eq_nil_of_length_eq_zero h]; rfl
  | succ n ih =>
    intro ls h
    obtain ⟨init, l, rfl⟩ : ∃ init l, ls = init ++ [l] := ⟨ls.dropLast, ls.getLast (by intro e; rw [e] at h; simp at h), by rw [List.dropLast_concat_getLast]⟩
    rw [prodT_snoc, prodR_snoc, ih init (by simpa using h)]
    cases l with
    | nil =>
      have hz : ∀ l : List (List Dd), l.flatMap (fun r => ([] : List Dd).map fun d => r ++ [d]) = [] := fun l => by
        induction l with
        | nil => rfl
        | cons a l ih => rw [List.flatMap_cons, ih]; rfl
      rw [hz, hz]
    | cons x l => exact cap_flat _ (fun r => by simp) 300 300 _ (Nat.le_refl _)
theorem prodT_len (ls : List (List Dd)) : (prodT ls).length ≤ 300 := by rw [prodT_eq]; exact List.length_take_le _ _
theorem prodT_row {ls : List (List Dd)} {r : List Dd} (h : r ∈ prodT ls) : r.length = ls.length := by
  rw [prodT_eq] at h
  exact (prodR_each ls r (List.mem_of_mem_take h)).1
theorem flat_snoc {α β : Type} (g : α → List β) {l : List α} {i : Nat} {x : α} (h : l[i]? = some x) : (l.take (i + 1)).flatMap g = (l.take i).flatMap g ++ g x := by
  rw [List.take_add_one, h, List.flatMap_append]; simp
theorem map_snoc {α β : Type} (g : α → β) {l : List α} {i : Nat} {x : α} (h : l[i]? = some x) : (l.take (i + 1)).map g = (l.take i).map g ++ [g x] := by
  rw [List.take_add_one, h, List.map_append]; simp

/-! ### the domain's equations -/
theorem dom_int (cs : List Ct) (d : Nat) (s : ByteArray) (v : Int) (ar : List Tm) : dom cs d (.mk 1 s v ar) = [num 0, num 1, num 2] := by
  cases d <;> rw [dom, if_pos rfl]
theorem dom_one (cs : List Ct) (d : Nat) {k : Int} (s : ByteArray) (v : Int) (ar : List Tm) (h : k = 3 ∨ k = 4) : dom cs d (.mk k s v ar) = [num 0] := by
  cases d <;> rw [dom, if_neg (by omega), if_pos h]
theorem dom_zero (cs : List Ct) {k : Int} (s : ByteArray) (v : Int) (ar : List Tm) (h1 : k ≠ 1) (h : ¬ (k = 3 ∨ k = 4)) : dom cs 0 (.mk k s v ar) = [] := by
  rw [dom, if_neg h1, if_neg h]
theorem dom_succ (cs : List Ct) (d : Nat) {k : Int} (s : ByteArray) (v : Int) (ar : List Tm) (h1 : k ≠ 1) (h : ¬ (k = 3 ∨ k = 4)) : dom cs (d + 1) (.mk k s v ar) = ((ofTy cs s).flatMap (rowsOf' (dom cs d) (.mk k s v ar))).take 300 := by
  rw [dom, if_neg h1, if_neg h]
theorem depN_pred {d : Int} (h1 : 1 ≤ d) (h4 : d ≤ 4) : depN d = depN (d - 1) + 1 := by
  unfold depN
  rw [if_pos ⟨h1, h4⟩]
  split <;> omega
theorem depN_out {d : Int} (h : ¬ (1 ≤ d ∧ d ≤ 4)) : depN d = 0 := by unfold depN; rw [if_neg h]

/-! ### all of it clean, no two the same -/
theorem dom_clean {cs : List Ct} (hG : GoodX cs) : ∀ (d : Nat) (t : Tm), ∀ x ∈ dom cs d t, cleanD 20000 x
  | d, .mk k s v ar => by
    have hnum : ∀ n : Int, cleanD 20000 (num n) := fun n => ⟨by simp, fun h => (by cases h), fun _ => ⟨rfl, rfl⟩, trivial⟩
    by_cases h1 : k = 1
    · subst h1
      rw [dom_int]
      intro x hx
      rcases List.mem_cons.1 hx with rfl | hx
      · exact hnum _
      rcases List.mem_cons.1 hx with rfl | hx
      · exact hnum _
      · rw [List.mem_singleton.1 hx]; exact hnum _
    by_cases h3 : k = 3 ∨ k = 4
    · rw [dom_one cs d s v ar h3]
      intro x hx
      rw [List.mem_singleton.1 hx]; exact hnum _
    cases d with
    | zero => rw [dom_zero cs s v ar h1 h3]; intro x hx; cases hx
    | succ d =>
      rw [dom_succ cs d s v ar h1 h3]
      intro x hx
      obtain ⟨c, hc, hx⟩ := List.mem_flatMap.1 (List.mem_of_mem_take hx)
      have hc' : c ∈ cs := (List.mem_filter.1 hc).1
      unfold rowsOf' at hx
      split at hx
      · cases hx
      · rename_i fs hfs
        obtain ⟨r, hr, rfl⟩ := List.mem_map.1 hx
        obtain ⟨hrl, hre⟩ := prodR_each _ r hr
        have hal := (hG.each c hc').2.2.1
        have hfl : fs.length = c.args.length := by
          rw [fieldsP] at hfs
          split at hfs
          · cases hfs; simp
          · cases hfs
        rw [List.length_map] at hrl
        refine ⟨by omega, fun _ => rfl, fun h => (by cases h), (cleanDs_iff _).2 fun y hy => ?_⟩
        obtain ⟨l, hl, hy⟩ := hre y hy
        obtain ⟨t, _, rfl⟩ := List.mem_map.1 hl
        exact dom_clean hG d t y hy
theorem dom_nodup {cs : List Ct} (hG : GoodX cs) : ∀ (d : Nat) (t : Tm), (dom cs d t).Nodup
  | d, .mk k s v ar => by
    by_cases h1 : k = 1
    · subst h1
      rw [dom_int]
      simp [num]
    by_cases h3 : k = 3 ∨ k = 4
    · rw [dom_one cs d s v ar h3]; simp
    cases d with
    | zero => rw [dom_zero cs s v ar h1 h3]; exact List.nodup_nil
    | succ d =>
      rw [dom_succ cs d s v ar h1 h3]
      refine List.Sublist.nodup (List.take_sublist _ _) ?_
      have hck : ∀ c ∈ ofTy cs s, c ∈ cs := fun c hc => (List.mem_filter.1 hc).1
      have hrows : ∀ c, ∀ x ∈ rowsOf' (dom cs d) (.mk k s v ar) c, ∃ r, x = mkD c r ∧ r.length = c.args.length := fun c x hx => by
        unfold rowsOf' at hx
        split at hx
        · cases hx
        · rename_i fs hfs
          obtain ⟨r, hr, rfl⟩ := List.mem_map.1 hx
          refine ⟨r, rfl, ?_⟩
          rw [(prodR_each _ r hr).1, List.length_map]
          rw [fieldsP] at hfs
          split at hfs
          · cases hfs; simp
          · cases hfs
      have hcs : cs.Nodup := by
        have := hG.keys
        exact List.Pairwise.of_map key (fun a b h e => h (by rw [e])) this
      refine nodup_flatMap_of _ _ (hcs.sublist List.filter_sublist) (fun c hc => ?_) fun c hc c' hc' x hx hx' => ?_
      · unfold rowsOf'
        split
        · exact List.nodup_nil
        · refine nodup_map_of _ _ (prodR_nodup _ fun l hl => ?_) fun x _ y _ e => by cases e; rfl
          obtain ⟨t, _, rfl⟩ := List.mem_map.1 hl
          exact dom_nodup hG d t
      · obtain ⟨r, rfl, hr⟩ := hrows c x hx
        obtain ⟨r', e, hr'⟩ := hrows c' _ hx'
        have h := hG.keys
        have hk : key c = key c' := by
          simp only [mkD, Dd.mk.injEq] at e
          simp only [key, e.2.2.1, ← hr, ← hr', e.2.2.2]
        clear hx hx' hrows hr hr' e
        have key_inj : ∀ (cs : List Ct), (cs.map key).Nodup → ∀ {a b : Ct}, a ∈ cs → b ∈ cs → key a = key b → a = b := by
          intro cs
          induction cs with
          | nil => intro _ a b ha; cases ha
          | cons x r ih =>
            intro h
            rw [List.map_cons, List.nodup_cons] at h
            intro a b ha hb e
            rcases List.mem_cons.1 ha with ea | ha'
            · rcases List.mem_cons.1 hb with eb | hb'
              · rw [ea, eb]
              · exact absurd (List.mem_map.2 ⟨b, hb', by rw [← e, ea]⟩) h.1
            · rcases List.mem_cons.1 hb with eb | hb'
              · exact absurd (List.mem_map.2 ⟨a, ha', by rw [e, eb]⟩) h.1
              · exact ih h.2 ha' hb' e
        exact key_inj cs h (hck c hc) (hck c' hc') hk
end Go.Dm
end

/- part Y4C -/
section
namespace Go.Proofs.YtahagnfdpemmaaaDoor.Va
open Go.Vx Go.Av Go.Lx Go.Dr Go.Dm Go.Uni Go.RowKit

def rOps : Code → Array Oper
  | .region _ ops _ => ops
  | _ => #[]
noncomputable def r2 : Array Oper := rOps (Av.part [.snd, .fst, .snd, .snd, .fst] (Tryd.f36.body.getD .skip))
noncomputable def r10 : Array Oper := rOps (Av.part [.snd, .snd, .snd, .snd, .snd, .inn, .bod, .inn, .snd, .inn, .inn, .snd, .snd, .fst, .inn, .snd, .fst] (Tryd.f36.body.getD .skip))
theorem body36 : Tryd.f36.body.getD .skip = .seq rA.c (.seq (.seq rB.c (.cond (.tmp 12) (.seq (.region 2 r2 false) .ret) .skip)) (.seq rD.c (.seq rE.c (.seq rF.c (.block 0 (.rangeFunc (.tmp 30) #[31] rG.c (.block 1 (.seq rH.c (.block 2 (.loop (.seq rI.c (.seq (.cond (.tmp 35) .skip (.exit 2)) (.seq (.block 3 (.seq rJ.c (.seq (.region 10 r10 true) (.cond (.tmp 49) .ret .skip)))) rL.c))))))))))))) := by kernel_rfl
noncomputable def o2 : Oper := r2.toList.getD 1 ⟨none, .move (.const undef), 0, "", #[], none⟩
noncomputable def o10 : Oper := r10.toList.getD 10 ⟨none, .move (.const undef), 0, "", #[], none⟩
noncomputable def o11 : Oper := r10.toList.getD 11 ⟨none, .move (.const undef), 0, "", #[], none⟩
theorem r2_drop : r2.toList.drop 1 = [o2] := by kernel_rfl
theorem r10_drop : r10.toList.drop 10 = [o10, o11] := by kernel_rfl
theorem rC_c : rC.c = .region 2 ⟨r2.toList.take 1⟩ false := by kernel_rfl
theorem rK_c : rK.c = .region 10 ⟨r10.toList.take 10⟩ true := by kernel_rfl
theorem o2_op : o2.op = .call { callee := .value (.tmp 13), args := #[.const (.slice none 0 0)], argTypes := #[34] } ∧ o2.dst = some 14 ∧ o2.guard = none := ⟨by kernel_rfl, by kernel_rfl, by kernel_rfl⟩
theorem o10_op : o10.op = .call { callee := .value (.tmp 38), args := #[.tmp 47], argTypes := #[34] } ∧ o10.dst = some 48 ∧ o10.guard = none := ⟨by kernel_rfl, by kernel_rfl, by kernel_rfl⟩
theorem o11_op : o11.op = .unOp .not 4 (.tmp 48) ∧ o11.dst = some 49 ∧ o11.guard = none := ⟨by kernel_rfl, by kernel_rfl, by kernel_rfl⟩
theorem r10_ok : splitOk r10 10 = true := by kernel_rfl
theorem r2_ok : (r2.toList.all fun o => o.guard.isNone) = true := by kernel_rfl
theorem n36 : Tryd.f36.ntmps = 51 := by kernel_rfl
theorem res36 : Tryd.f36.results.toList = [] := by kernel_rfl

theorem args_getD (l : List Value) (k t : Nat) : (l.toArray ++ Array.replicate k undef).getD t undef = l.getD t undef := by
  simp only [Array.getD_eq_getD_getElem?, List.getD_eq_getElem?_getD]
  by_cases ht : t < l.length
  · rw [Array.getElem?_append_left (by simpa using ht)]; simp
  · rw [Array.getElem?_append_right (by simpa using ht), List.getElem?_eq_none (by omega), Array.getElem?_replicate]
    split <;> rfl
abbrev ptrV (b : Nat) : Value := .pointer (some ⟨b, 0, none⟩)
abbrev σ3 (fs xa xb xc : List (List V)) (d : Int) : Store := [⟨0, .box [.sl 4 fs]⟩, ⟨0, .box [.sl 20 xa, .sl 6 xb, .sl 5 xc]⟩, ⟨0, .box [.int .i64 d]⟩]
abbrev σ4 (fs xa xb xc : List (List V)) (d : Int) (y : Nat) : Store := [⟨0, .box [.sl 4 fs]⟩, ⟨0, .box [.sl 20 xa, .sl 6 xb, .sl 5 xc]⟩, ⟨0, .box [.int .i64 d]⟩, ⟨0, .box [.yl y]⟩]
abbrev σ8 (fs xa xb xc : List (List V)) (d : Int) (y : Nat) (tl hs : List (List V)) : Store := [⟨0, .box [.sl 4 fs]⟩, ⟨0, .box [.sl 20 xa, .sl 6 xb, .sl 5 xc]⟩, ⟨0, .box [.int .i64 d]⟩, ⟨0, .box [.yl y]⟩, ⟨0, .box [.sl 4 tl]⟩, ⟨0, .box [.sl 4 hs]⟩, ⟨0, .box [.sl 20 xa, .sl 6 xb, .sl 5 xc]⟩, ⟨0, .box [.int .i64 d]⟩]
/-- what the iterator's variables hold -/
def rowPre (G : Nat → Value) (Z : Nat → Nat → Prop) (b0 b1 b2 : Nat) (xa xb xc : List (List V)) (fs : List Tm) (d : Int) (M : Nat → Prop) (W : World) : Prop :=
  ∃ F β, Sim ax.gs G W F β (σ3 (encs fs) xa xb xc d) ∧ β 0 = ptrV b0 ∧ β 1 = ptrV b1 ∧ β 2 = ptrV b2 ∧ (∀ b o, F b o → ¬ M b) ∧ (∀ i b, Has β i (getO (σ3 (encs fs) xa xb xc d) i) b → ¬ M b) ∧ (∀ g ∈ ax.gs, ∀ t b, G g = .iface t (.pointer (some b)) → ¬ M b.block) ∧ (∀ g cs, G g = .agg cs → ¬ M g) ∧ (∀ b o, F b o → Z b o) ∧ (∀ i b, Has β i (getO (σ3 (encs fs) xa xb xc d) i) b → ∀ o, Z b o) ∧ ∀ b o, W.heap.size ≤ b → Z b o
/-- what it hands on -/
def rowE (G : Nat → Value) (Z : Nat → Nat → Prop) (b0 b1 b2 : Nat) (rows : List (List Dd)) (k : Nat) (x : Array Value) (M : Nat → Prop) (W : World) : Prop :=
  ∃ (Fx : Nat → Nat → Prop) (v : Value) (row : List Dd), rows[k]? = some row ∧ x = #[v] ∧ (∀ b o, Fx b o → b < W.heap.size ∧ ¬ M b ∧ b ≠ b0 ∧ b ≠ b1 ∧ b ≠ b2 ∧ Z b o) ∧ FV ax.gs G W Fx (.sl 4 (encXs row)) v
theorem rows_spec (xa xb xc fs : List (List V)) (d : Int) : SCalls ax 16 [.agg [.sl 20 xa, .sl 6 xb, .sl 5 xc], .sl 4 fs, .int .i64 d] [] fun r o => r = [.fn 36 [] [.ptr 0 0, .ptr 1 0, .ptr 2 0]] ∧ o = [.box [.sl 4 fs], .box [.sl 20 xa, .sl 6 xb, .sl 5 xc], .box [.int .i64 d]] :=
  rows.calls ⟨rfl, rfl⟩
theorem trow {zs : List Tm} {i : Nat} {t : Tm} (h : zs[i]? = some t) : List.take 4 (Av.rowAt (encs zs) ((i : Int).toNat)) = enc t := row_encs (by simpa using h)
theorem encs_take (zs : List Tm) (n : Nat) : (encs zs).take n = encs (zs.take n) := by rw [encs_eq, encs_eq, List.map_take]

/-- the end of the iterator's run -/
theorem rows_fin {J Jx : Nat → (Nat → Prop) → World → Prop} {W : World} {n : Nat} (hJs : ∀ k M W1 W2, J k M W1 → Calmly W.heap.size W1 W2 → J k M W2) (hJxs : ∀ k M W1 W2, Jx k M W1 → Calmly W.heap.size W1 W2 → Jx k M W2) {a : Act} {W' : World} (hM : Marks W.heap.size a.defers W') (_hs : a.tmps.size = Tryd.f36.ntmps)
    (h : (∃ M', J n M' W') ∨ ∃ k M', k < n ∧ Jx k M' W') : LeavesInM Fence.wide 0 ax.P Tryd.f36 a.tmps (fun e W' => (∃ v, e = .returned v) ∧ ((∃ M', J n M' W') ∨ ∃ k M', k < n ∧ Jx k M' W')) a.defers .returning W' := by
  obtain ⟨Ds, e, h1, h2⟩ := hM
  rw [e]
  refine leave_marks Ds W' h1 h2 fun w' hc => ?_
  obtain ⟨v, h3, _⟩ := results_run (P := ax.P) (w := w') (fn := Tryd.f36) (R := fun _ => True) tysOk (e := fun t => a.tmps.getD t undef) (n := a.tmps.size) (a := { a with defers := [] }) ⟨rfl, fun _ => rfl, rfl⟩ (by rw [res36]; exact trivial)
  refine ⟨v, h3, ⟨v, rfl⟩, ?_⟩
  rcases h with ⟨M', h⟩ | ⟨k, M', hk, h⟩
  · exact .inl ⟨M', hJs _ _ _ _ h hc⟩
  · exact .inr ⟨k, M', hk, hJxs _ _ _ _ h hc⟩
end Go.Proofs.YtahagnfdpemmaaaDoor.Va
end

/- part Y4B -/
section
namespace Go.Proofs.YtahagnfdpemmaaaDoor.Va
open Go.Vx Go.Av Go.Lx Go.Dr Go.Dm Go.Uni Go.RowKit

abbrev KN (vs0 : List V) (σ' : Store) : Exit → List V → Store → Prop := fun ex vs σ => ex = .normal ∧ vs = vs0 ∧ σ = σ'
abbrev σ9 (fs xa xb xc : List (List V)) (d : Int) (y : Nat) (tl hs : List (List V)) (v : Nat) (bx : List V) : Store := [⟨0, .box [.sl 4 fs]⟩, ⟨0, .box [.sl 20 xa, .sl 6 xb, .sl 5 xc]⟩, ⟨0, .box [.int .i64 d]⟩, ⟨0, .box [.yl y]⟩, ⟨0, .box [.sl 4 tl]⟩, ⟨0, .box [.sl 4 hs]⟩, ⟨0, .box [.sl 20 xa, .sl 6 xb, .sl 5 xc]⟩, ⟨0, .box [.int .i64 d]⟩, ⟨v, .box bx⟩]
abbrev σ11 (fs xa xb xc : List (List V)) (d : Int) (y : Nat) (tl hs : List (List V)) (bx : List V) (fz : Bool) (r : List (List V)) : Store := [⟨0, .box [.sl 4 fs]⟩, ⟨0, .box [.sl 20 xa, .sl 6 xb, .sl 5 xc]⟩, ⟨0, .box [.int .i64 d]⟩, ⟨0, .box [.yl y]⟩, ⟨0, .box [.sl 4 tl]⟩, ⟨0, .box [.sl 4 hs]⟩, ⟨0, .box [.sl 20 xa, .sl 6 xb, .sl 5 xc]⟩, ⟨0, .box [.int .i64 d]⟩, ⟨0, .box bx⟩, ⟨0, .lst 39 4 false [bx]⟩, ⟨cond fz 1 0, .lst 39 4 fz r⟩]
theorem _root_.Go.Vx.Keep.orr {M M' Q : Nat → Prop} {w w' : World} (h : Keep M M' w w') (hQ : ∀ b, Q b → b < w.heap.size) : Keep (fun b => M b ∨ Q b) (fun b => M' b ∨ Q b) w w' where
  os := h.os
  tape := h.tape
  output := h.output
  size := h.size
  block := fun b hb hm => h.block b hb fun h1 => hm (.inl h1)
  new := fun b hb => hb.elim (fun h1 => (h.new b h1).imp .inl id) fun h1 => .inl (.inr h1)
  lt := fun b hb => hb.elim (h.lt b) fun h1 => Nat.lt_of_lt_of_le (hQ b h1) h.size
section
variable {G : Nat → Value} {Z : Nat → Nat → Prop} {M : Nat → Prop} {wL : World} {FL : Nat → Nat → Prop} {βL : Nat → Value} {σL : Store} {a : Act} {w : World}
theorem row_split (hE : ErrOk ax.P ax.gs ax.ift ax.tabs G) {F : Fence} (hO : Opn F) {Q : Exit → Act → World → Prop} {h fs xa xb xc tl hs ar r : List (List V)} {d m i n : Int} {y : Nat} {c : Bool} {s : ByteArray}
    (hr : h ++ [[.bool c, .int .i64 n, .str s, .sl 4 ar]] = r) (hb : h.length ≤ 20000)
    (s7 : StC ax G (Av.CR ax.gs G Z M wL FL βL σL) [] Tryd.f36.ntmps (envL [(1, (.ptr 0 0)), (2, (.ptr 1 0)), (3, (.ptr 2 0)), (4, (.ptr 3 0)), (6, (.ptr 4 0)), (7, (.sl 4 h)), (32, (.sl 4 tl)), (33, (.int .i64 m)), (34, (.int .i64 i)), (9, (.ptr 8 0))]) (σ9 fs xa xb xc d y tl hs 0 [.bool c, .int .i64 n, .str s, .sl 4 ar]) a w)
    (tail : ∀ a' w', StC ax G (Av.CR ax.gs G Z M wL FL βL σL) [] Tryd.f36.ntmps (envL ([1, 2, 3, 4, 6, 7, 32, 33, 34, 38, 47].zip [.ptr 0 0, .ptr 1 0, .ptr 2 0, .ptr 3 0, .ptr 4 0, .sl 4 h, .sl 4 tl, .int .i64 m, .int .i64 i, .yl y, .own 10])) (σ11 fs xa xb xc d y tl hs [.bool c, .int .i64 n, .str s, .sl 4 ar] false r) a' w' → Below w.heap.size w w' → wpListIn F 0 ax.P r10 Q [o10, o11] a' w') :
    (Code.region 10 r10 true).wpIn F 0 ax.P Q a w := by
  have hWK : rK.W h m i fs xa xb xc d y tl hs c n s ar (KN [.ptr 0 0, .ptr 1 0, .ptr 2 0, .ptr 3 0, .ptr 4 0, .sl 4 h, .sl 4 tl, .int .i64 m, .int .i64 i, .yl y, .own 10] (σ11 fs xa xb xc d y tl hs [.bool c, .int .i64 n, .str s, .sl 4 ar] false r)) := by
    have hT : List.take ((h.length : Int).toNat) h = h := by rw [Int.toNat_natCast]; exact List.take_length
    unfold rK.W
    rw [hT, hr]
    refine ⟨rfl, by omega, by omega, by simp, ?_, ?_, rfl, rfl, rfl⟩
    · simp only [List.length_cons, List.length_nil]; omega
    · simp only [List.length_cons, List.length_nil]; omega
  have hok := rK.ok
  have hca := rK.calm
  have hW := Eq.mp (rK.eq h m i fs xa xb xc d y tl hs c n s ar (KN [.ptr 0 0, .ptr 1 0, .ptr 2 0, .ptr 3 0, .ptr 4 0, .sl 4 h, .sl 4 tl, .int .i64 m, .int .i64 i, .yl y, .own 10] (σ11 fs xa xb xc d y tl hs [.bool c, .int .i64 n, .str s, .sl 4 ar] false r))) hWK
  rw [rK_c] at hok hca hW
  refine StC.split (C := Av.CR ax.gs G Z M wL FL βL σL) (K := fun vs σ => vs = [.ptr 0 0, .ptr 1 0, .ptr 2 0, .ptr 3 0, .ptr 4 0, .sl 4 h, .sl 4 tl, .int .i64 m, .int .i64 i, .yl y, .own 10] ∧ σ = σ11 fs xa xb xc d y tl hs [.bool c, .int .i64 n, .str s, .sl 4 ar] false r) (sl := fun e => [e 1, e 2, e 3, e 4, e 6, e 7, e 32, e 33, e 34, e 38, e 47]) (slots := [1, 2, 3, 4, 6, 7, 32, 33, 34, 38, 47]) (k := 10) CR.shut tysOk fnsOk follows eqOk rfl hE hO r10_ok (fun _ => rfl) hok hca hW s7 ?_
  rintro vs σ a5 w5 ⟨rfl, rfl⟩ s8 ⟨F1, β1, F2, β2, _, _, q5⟩
  have q5 := q5.below_same (ver_same rfl)
  rw [r10_drop]
  exact tail _ _ s8 q5

theorem row_yield (_hE : ErrOk ax.P ax.gs ax.ift ax.tabs G) {F : Fence} (hO : Opn F) {Q : Exit → Act → World → Prop} {h fs xa xb xc tl hs r : List (List V)} {d m i : Int} {y : Nat} {bx : List V}
    (s8 : StC ax G (Av.CR ax.gs G Z M wL FL βL σL) [] Tryd.f36.ntmps (envL ([1, 2, 3, 4, 6, 7, 32, 33, 34, 38, 47].zip [.ptr 0 0, .ptr 1 0, .ptr 2 0, .ptr 3 0, .ptr 4 0, .sl 4 h, .sl 4 tl, .int .i64 m, .int .i64 i, .yl y, .own 10])) (σ11 fs xa xb xc d y tl hs bx false r) a w)
    (_hσ : σL.length ≤ 8) {R : Ending → World → Prop}
    (hY : ∀ (Fx : Nat → Nat → Prop) (v : Value), (∀ b o, Fx b o → b < w.heap.size ∧ ¬ M b ∧ ∀ i b', i < 3 → i < σL.length → βL i = ptrV b' → b ≠ b') → (∀ b o, Fx b o → Z b o) → FV ax.gs G w Fx (.sl 4 r) v → YieldAt F 0 ax.P y #[v] w R)
    (hR : ∀ e w', R e w' → ∃ b M', e = .returned (.bool b) ∧ Keep M M' w w' ∧ ∀ a', a'.eval (.tmp 49) = .bool (!b) → StC ax G (Av.CR ax.gs G Z M' wL FL βL σL) [] Tryd.f36.ntmps (envL [(1, (.ptr 0 0)), (2, (.ptr 1 0)), (3, (.ptr 2 0)), (4, (.ptr 3 0)), (6, (.ptr 4 0)), (7, (.sl 4 h)), (32, (.sl 4 tl)), (33, (.int .i64 m)), (34, (.int .i64 i))]) (σ11 fs xa xb xc d y tl hs bx true r) a' w' → Q .normal a' w') :
    wpListIn F 0 ax.P r10 Q [o10, o11] a w := by
  have y5 : a.eval (.tmp 38) = .func (.yield y) #[] #[] := s8.ylAt rfl
  obtain ⟨ρ5, F5, β5, h1, h2, h3, h4⟩ := s8
  have r47 := h2 47
  obtain ⟨F6, p1, p2, p3⟩ := h3.freeze (i := 10) (t := 39) (z := 4) (fz := false) (l := r) rfl (by decide)
  have h5 := CR.shut h4 h3 p2
  have e47 : a.eval (.tmp 47) = β5 10 := by
    rw [h1.eval]
    obtain ⟨aa, nn, cc, e, _, hb⟩ := RV.own_inv (i := 10) r47
    show ρ5 47 = _
    rw [e]
    exact (hb 39 4 false r rfl).symm
  have s9 : StC ax G (Av.CR ax.gs G Z M wL FL βL σL) [] Tryd.f36.ntmps (envL ([1, 2, 3, 4, 6, 7, 32, 33, 34, 38, 47].zip [.ptr 0 0, .ptr 1 0, .ptr 2 0, .ptr 3 0, .ptr 4 0, .sl 4 h, .sl 4 tl, .int .i64 m, .int .i64 i, .yl y, .own 10])) (σ11 fs xa xb xc d y tl hs bx true r) a w := ⟨ρ5, F6, β5, h1, fun t => (h2 t).mono p2.carry, p1, h5⟩
  unfold wpListIn
  rw [if_pos (by simp [Region.wanted, o10_op.2.2])]
  refine yield_op hO o10_op.1 rfl y5 (vs := #[β5 10]) (by simp [e47]) (hY F6 (β5 10) (fun b o hf => ⟨p1.lt b o hf, h5.1.f b o hf, fun i b' hi hi8 e => ?_⟩) h5.1.z.1 p3) ?_
  · rintro rfl
    have hb : β5 i = ptrV b := (h5.2.ext i (by omega)).1.trans e
    refine p1.dis i b o ⟨⟨?_, ?_⟩, ?_⟩ hf
    · match i, hi with
      | 0, _ => trivial
      | 1, _ => trivial
      | 2, _ => trivial
    · rw [hb]; rfl
    · match i, hi with
      | 0, _ => trivial
      | 1, _ => trivial
      | 2, _ => trivial
  rintro e w' hr
  obtain ⟨b, M', rfl, hk, hq⟩ := hR e w' hr
  refine ⟨_, rfl, ?_⟩
  have t1 := s9.keepR hk
  have t2 := t1.putV (d := 48) (by rw [n36]; decide) (u := .bool b) (v := .bool b) fun _ _ => .fz _ _ (.bool b)
  rw [o10_op.2.1]
  unfold wpListIn
  rw [if_pos (by simp [Region.wanted, o11_op.2.2])]
  refine not_op hO o11_op.1 (t2.boolAt (t := 48) (b := b) rfl) ?_
  rw [o11_op.2.1]
  have t3 := t2.putV (d := 49) (by rw [n36]; decide) (u := .bool (!b)) (v := .bool (!b)) fun _ _ => .fz _ _ (.bool (!b))
  unfold wpListIn
  refine hq _ (t3.boolAt rfl) (t3.env (envL_sub _ fun x hx => ?_))
  rcases List.mem_cons.1 hx with rfl | hx
  · rfl
  rcases List.mem_cons.1 hx with rfl | hx
  · rfl
  rcases List.mem_cons.1 hx with rfl | hx
  · rfl
  rcases List.mem_cons.1 hx with rfl | hx
  · rfl
  rcases List.mem_cons.1 hx with rfl | hx
  · rfl
  rcases List.mem_cons.1 hx with rfl | hx
  · rfl
  rcases List.mem_cons.1 hx with rfl | hx
  · rfl
  rcases List.mem_cons.1 hx with rfl | hx
  · rfl
  · rw [List.mem_singleton.1 hx]; rfl
end
end Go.Proofs.YtahagnfdpemmaaaDoor.Va
end

/- part Y4D -/
section
namespace Go.Proofs.YtahagnfdpemmaaaDoor.Va
open Go.Vx Go.Av Go.Lx Go.Dr Go.Dm Go.Uni Go.RowKit

set_option maxHeartbeats 600000 in
theorem rows_iter {G : Nat → Value} {Z : Nat → Nat → Prop} (hE : ErrOk ax.P ax.gs ax.ift ax.tabs G) (xa xb xc : List (List V)) (d : Int) (f : Tm → List Dd) (hf : ∀ t, (f t).length ≤ 300)
    (hDom : ∀ t, thin 20000 t → PCalls ax 7 [.agg [.sl 20 xa, .sl 6 xb, .sl 5 xc], .agg (enc t), .int .i64 d] fun r => r = [.sl 4 (encXs (f t))]) :
    ∀ (N : Nat) (fs : List Tm), fs.length = N → N ≤ 20000 → thins 20000 fs → ∀ b0 b1 b2 : Nat, Iter2 Fence.wide ax.P 36 #[ptrV b0, ptrV b1, ptrV b2] (prodR (fs.map f)).length (rowE G Z b0 b1 b2 (prodR (fs.map f))) (rowPre G Z b0 b1 b2 xa xb xc fs d) := by
  intro N
  induction N using Nat.strongRecOn with
  | _ N ih =>
  intro fs hfs hN hth b0 b1 b2 l J Jx M0 W hPre hM0 hJs hJxs hY hJ0
  have hO := Opn.wide
  obtain ⟨F, β, sim, hβ0, hβ1, hβ2, hcf, hch, hg1, hg2, hz1, hz2, hz3⟩ := hPre
  refine callsIn_of_wp_marks (c := Tryd.f36.body.getD .skip) Tryd.func36 (by kernel_rfl) trivial ?_ rfl
  obtain ⟨a, ha⟩ : ∃ a : Act, a = { tmps := (#[Value.func (.yield l) #[] #[]] ++ #[ptrV b0, ptrV b1, ptrV b2]) ++ Array.replicate (Tryd.f36.ntmps - (#[Value.func (.yield l) #[] #[]] ++ #[ptrV b0, ptrV b1, ptrV b2]).size) undef, defers := [] } := ⟨_, rfl⟩
  have hs : a.tmps.size = Tryd.f36.ntmps := by rw [ha]; simp only [Array.size_append, Array.size_replicate]; kernel_rfl
  have hd : a.defers = [] := by rw [ha]
  have e0 : a.tmps.getD 0 undef = .func (.yield l) #[] #[] := by rw [ha]; exact args_getD [.func (.yield l) #[] #[], ptrV b0, ptrV b1, ptrV b2] _ 0
  have e1 : a.tmps.getD 1 undef = ptrV b0 := by rw [ha]; exact args_getD [.func (.yield l) #[] #[], ptrV b0, ptrV b1, ptrV b2] _ 1
  have e2 : a.tmps.getD 2 undef = ptrV b1 := by rw [ha]; exact args_getD [.func (.yield l) #[] #[], ptrV b0, ptrV b1, ptrV b2] _ 2
  have e3 : a.tmps.getD 3 undef = ptrV b2 := by rw [ha]; exact args_getD [.func (.yield l) #[] #[], ptrV b0, ptrV b1, ptrV b2] _ 3
  rw [← ha]
  clear ha
  have st0 : StC ax G (Av.CR ax.gs G Z M0 W F β (σ3 (encs fs) xa xb xc d)) [] Tryd.f36.ntmps (envL [(0, .yl l), (1, .ptr 0 0), (2, .ptr 1 0), (3, .ptr 2 0)]) (σ3 (encs fs) xa xb xc d) a W := StC.of hs hd (fun x hx => by
    rcases List.mem_cons.1 hx with rfl | hx
    · rw [e0]; exact .yl l
    rcases List.mem_cons.1 hx with rfl | hx
    · rw [e1]; exact .ptr 0 0 b0 0 (show 0 < 3 by decide) fun _ _ => ⟨hβ0, rfl⟩
    rcases List.mem_cons.1 hx with rfl | hx
    · rw [e2]; exact .ptr 1 0 b1 0 (show 1 < 3 by decide) fun _ _ => ⟨hβ1, rfl⟩
    · rw [List.mem_singleton.1 hx, e3]; exact .ptr 2 0 b2 0 (show 2 < 3 by decide) fun _ _ => ⟨hβ2, rfl⟩) sim ⟨⟨hcf, hch, hM0, ⟨hg1, hg2⟩, hz1, hz2, hz3⟩, Carry.refl _ _ _ _⟩
  clear e0 e1 e2 e3
  have cm : ∀ {A B : World}, W.heap.size ≤ A.heap.size → Below A.heap.size A B → Calmly W.heap.size A B := fun h hb => (Calmly.of_below hb).mono h
  rw [body36]
  refine wpIn_seq (StC.pc (vs0 := [.ptr 0 0, .ptr 1 0, .ptr 2 0, .ptr 3 0]) (σ' := σ4 (encs fs) xa xb xc d l) (sl := fun e => [e 1, e 2, e 3, e 4]) (slots := [1, 2, 3, 4]) tysOk fnsOk follows eqOk rfl hE hO (fun _ => rfl) rA.ok rA.calm st0 (Eq.mp (rA.eq l (encs fs) xa xb xc d (KN [.ptr 0 0, .ptr 1 0, .ptr 2 0, .ptr 3 0] (σ4 (encs fs) xa xb xc d l))) ⟨rfl, rfl, rfl⟩) rfl ?_)
  intro a1 W1 s1 q1
  have j1 := hJs _ _ _ _ hJ0 (cm (Nat.le_refl _) q1)
  have z1 : W.heap.size ≤ W1.heap.size := q1.size
  clear q1 st0 hd hs a
  refine wpIn_seq (wpIn_seq (StC.pc (vs0 := [.ptr 0 0, .ptr 1 0, .ptr 2 0, .ptr 3 0, .bool (((encs fs).length : Int) == (0 : Int))]) (σ' := σ4 (encs fs) xa xb xc d l) (sl := fun e => [e 1, e 2, e 3, e 4, e 12]) (slots := [1, 2, 3, 4, 12]) tysOk fnsOk follows eqOk rfl hE hO (fun _ => rfl) rB.ok rB.calm s1 (Eq.mp (rB.eq (encs fs) xa xb xc d l (KN [.ptr 0 0, .ptr 1 0, .ptr 2 0, .ptr 3 0, .bool (((encs fs).length : Int) == (0 : Int))] (σ4 (encs fs) xa xb xc d l))) ⟨rfl, rfl, rfl⟩) rfl ?_))
  intro a2 W2 s2 q2
  have j2 := hJs _ _ _ _ j1 (cm z1 q2)
  have z2 : W.heap.size ≤ W2.heap.size := Nat.le_trans z1 q2.size
  clear q2 s1 j1 z1 a1 W1
  have c12 : a2.eval (.tmp 12) = .bool (((encs fs).length : Int) == (0 : Int)) := by
    obtain ⟨ρ, F', β', h1, h2, _⟩ := s2
    have := h2 12
    rw [show envL ([1, 2, 3, 4, 12].zip [V.ptr 0 0, .ptr 1 0, .ptr 2 0, .ptr 3 0, .bool (((encs fs).length : Int) == (0 : Int))]) 12 = .bool (((encs fs).length : Int) == (0 : Int)) from rfl] at this
    rw [h1.eval]; exact this.bool_inv
  rw [encs_length] at c12 s2
  -- no field: one row, the empty one
  by_cases hnil : fs.length = 0
  · rw [hnil] at c12
    refine wpIn_cond_true c12 (wpIn_seq ?_)
    have hokC := rC.ok
    have hcaC := rC.calm
    have hWC := Eq.mp (rC.eq (encs fs) xa xb xc d l (KN [.ptr 0 0, .ptr 1 0, .ptr 2 0, .ptr 3 0, .yl l] (σ4 (encs fs) xa xb xc d l))) ⟨rfl, rfl, rfl⟩
    rw [rC_c] at hokC hcaC hWC
    refine StC.cut (C := Av.CR ax.gs G Z M0 W F β (σ3 (encs fs) xa xb xc d)) (K := fun vs σ => vs = [.ptr 0 0, .ptr 1 0, .ptr 2 0, .ptr 3 0, .yl l] ∧ σ = σ4 (encs fs) xa xb xc d l) (sl := fun e => [e 1, e 2, e 3, e 4, e 13]) (slots := [1, 2, 3, 4, 13]) (k := 1) CR.shut tysOk fnsOk eqOk rfl hE hO r2_ok (fun _ => rfl) hokC hcaC hWC (s2.env (envL_sub _ fun x hx => ?_)) ?_
    · rcases List.mem_cons.1 hx with rfl | hx
      · rfl
      rcases List.mem_cons.1 hx with rfl | hx
      · rfl
      rcases List.mem_cons.1 hx with rfl | hx
      · rfl
      · rw [List.mem_singleton.1 hx]; rfl
    rintro vs σ a3 W3 ⟨rfl, rfl⟩ s3 ⟨F1, β1, F2, β2, _, _, q3⟩
    have q3 := q3.below_same (ver_same rfl)
    have j3 := hJs _ _ _ _ j2 (cm z2 q3)
    have z3 : W.heap.size ≤ W3.heap.size := Nat.le_trans z2 q3.size
    have y3 : a3.eval (.tmp 13) = .func (.yield l) #[] #[] := by
      obtain ⟨ρ, F', β', h1, h2, _⟩ := s3
      rw [h1.eval]
      exact (h2 13).yl_inv
    have hM3 : ∀ b, M0 b → b < W3.heap.size := fun b hb => Nat.lt_of_lt_of_le (hM0 b hb) z3
    have hrow : (prodR (fs.map f)) = [[]] := by rw [List.eq_nil_of_length_eq_zero hnil]; rfl
    rw [r2_drop]
    unfold wpListIn
    rw [if_pos (by simp [Region.wanted, o2_op.2.2])]
    refine yield_op hO o2_op.1 rfl y3 (vs := #[.slice none 0 0]) (by simp [Act.eval]) (hY 0 _ M0 W3 (by rw [hrow]; decide) ⟨fun _ _ => False, .slice none 0 0, [], by rw [hrow]; rfl, rfl, fun _ _ h => h.elim, ?_⟩ j3 z3 hM3) ?_
    · exact FV.sl 4 [] none 0 (fun _ _ => .nilIface) (Nat.le_refl _) (by simp [maxLen]) (fun e he => by cases he) (fun h => absurd rfl h) (fun i e j u h => by simp at h)
    rintro e W4 ⟨M', hk, h4⟩
    have hlen : (prodR (fs.map f)).length = 1 := by rw [hrow]; rfl
    have hend : (∃ v, e = .returned v) ∧ ((∃ M', J (prodR (fs.map f)).length M' W4) ∨ ∃ k M', k < (prodR (fs.map f)).length ∧ Jx k M' W4) := by
      rw [hlen]
      rcases h4 with ⟨rfl, h⟩ | ⟨rfl, h⟩
      · exact ⟨⟨_, rfl⟩, .inl ⟨M', h⟩⟩
      · exact ⟨⟨_, rfl⟩, .inr ⟨0, M', by decide, h⟩⟩
    obtain ⟨⟨v, rfl⟩, hend⟩ := hend
    refine ⟨v, rfl, ?_⟩
    rw [o2_op.2.1]
    unfold wpListIn
    refine wpIn_ret ?_
    have hz := s3.size
    exact rows_fin hJs hJxs (by rw [show (a3.put (some 14) v).defers = a3.defers from rfl, hz.2]; exact Marks.nil _ _) (by rw [(put_size a3 14 v).1]; exact hz.1) hend
  -- the last field
  rw [show ((fs.length : Int) == (0 : Int)) = false from by rw [beq_eq_false_iff_ne]; omega] at c12
  refine wpIn_cond_false c12 (wpIn_skip ?_)
  obtain ⟨init, t, rfl⟩ : ∃ init t, fs = init ++ [t] := ⟨fs.dropLast, fs.getLast (fun e => hnil (by rw [e]; rfl)), by rw [List.dropLast_concat_getLast]⟩
  have hlen : (init ++ [t]).length = init.length + 1 := by simp
  have hthi : thins 20000 init := (thins_iff _).2 fun x hx => (thins_iff _).1 hth x (List.mem_append_left _ hx)
  have htht : thin 20000 t := (thins_iff _).1 hth t (by simp)
  have hbg : init.length + 1 ≤ 20000 := by omega
  generalize hfsV : encs (init ++ [t]) = fsV at *
  have hfl : fsV.length = init.length + 1 := by rw [← hfsV, encs_length, hlen]
  have s3 := s2.sub (L' := [(1, .ptr 0 0), (2, .ptr 1 0), (3, .ptr 2 0), (4, .ptr 3 0)]) rfl
  clear s2 c12
  refine wpIn_seq (StC.pc (vs0 := [.ptr 0 0, .ptr 1 0, .ptr 2 0, .ptr 3 0, .int .i64 (init.length : Nat)]) (σ' := σ4 fsV xa xb xc d l) (sl := fun e => [e 1, e 2, e 3, e 4, e 5]) (slots := [1, 2, 3, 4, 5]) tysOk fnsOk follows eqOk rfl hE hO (fun _ => rfl) rD.ok rD.calm s3 (Eq.mp (rD.eq fsV xa xb xc d l (KN [.ptr 0 0, .ptr 1 0, .ptr 2 0, .ptr 3 0, .int .i64 (init.length : Nat)] (σ4 fsV xa xb xc d l))) ⟨rfl, by rw [hfl, w64 (by omega) (by omega)]; congr 6; omega, rfl⟩) rfl ?_)
  intro a4 W4 s4 q4
  have j4 := hJs _ _ _ _ j2 (cm z2 q4)
  have z4 : W.heap.size ≤ W4.heap.size := Nat.le_trans z2 q4.size
  clear q4 s3 j2 z2 a2 W2
  have htrow : List.take 4 (Av.rowAt fsV (((init.length : Nat) : Int).toNat)) = enc t := by rw [← hfsV]; exact trow (by simp)
  obtain ⟨tk, ts, tv, tl, htc⟩ := tm_cases t
  have hDt := hDom t htht
  have hee : enc t = [.int .i64 tk, .str ts, .int .i64 tv, .sl 4 (encs tl)] := by rw [htc]; rfl
  rw [hee] at htrow hDt
  obtain ⟨tail, htail⟩ : ∃ tail, encXs (f t) = tail := ⟨_, rfl⟩
  have htll : tail.length = (f t).length := by rw [← htail, encXs_length]
  rw [htail] at hDt
  have hWE : rE.W (init.length : Nat) fsV xa xb xc d l (KN [.ptr 0 0, .ptr 1 0, .ptr 2 0, .ptr 3 0, .int .i64 (init.length : Nat), .ptr 4 0] [⟨0, .box [.sl 4 fsV]⟩, ⟨0, .box [.sl 20 xa, .sl 6 xb, .sl 5 xc]⟩, ⟨0, .box [.int .i64 d]⟩, ⟨0, .box [.yl l]⟩, ⟨1, .box [.sl 4 tail]⟩]) := by
    unfold rE.W
    exact ⟨by omega, by omega, tk, ts, tv, encs tl, htrow, hDt.mono fun r hr => ⟨tail, hr, rfl, rfl, rfl⟩, hDt.mono fun r hr => ⟨tail, hr, rfl, rfl, rfl⟩⟩
  refine wpIn_seq (StC.pc (vs0 := [.ptr 0 0, .ptr 1 0, .ptr 2 0, .ptr 3 0, .int .i64 (init.length : Nat), .ptr 4 0]) (σ' := [⟨0, .box [.sl 4 fsV]⟩, ⟨0, .box [.sl 20 xa, .sl 6 xb, .sl 5 xc]⟩, ⟨0, .box [.int .i64 d]⟩, ⟨0, .box [.yl l]⟩, ⟨1, .box [.sl 4 tail]⟩]) (sl := fun e => [e 1, e 2, e 3, e 4, e 5, e 6]) (slots := [1, 2, 3, 4, 5, 6]) tysOk fnsOk follows eqOk rfl hE hO (fun _ => rfl) rE.ok rE.calm s4 (Eq.mp (rE.eq (init.length : Nat) fsV xa xb xc d l (KN [.ptr 0 0, .ptr 1 0, .ptr 2 0, .ptr 3 0, .int .i64 (init.length : Nat), .ptr 4 0] [⟨0, .box [.sl 4 fsV]⟩, ⟨0, .box [.sl 20 xa, .sl 6 xb, .sl 5 xc]⟩, ⟨0, .box [.int .i64 d]⟩, ⟨0, .box [.yl l]⟩, ⟨1, .box [.sl 4 tail]⟩])) hWE) rfl ?_)
  intro a5 W5 s5 q5
  have j5 := hJs _ _ _ _ j4 (cm z4 q5)
  have z5 : W.heap.size ≤ W5.heap.size := Nat.le_trans z4 q5.size
  clear q5 s4 j4 z4 a4 W4
  have s5a := s5.sub (L' := [(1, .ptr 0 0), (2, .ptr 1 0), (3, .ptr 2 0), (4, .ptr 3 0), (6, .ptr 4 0), (5, .int .i64 (init.length : Nat))]) (by kernel_rfl)
  have s5' := s5a.takeR 5 (by kernel_rfl) (by kernel_rfl) (by kernel_rfl)
  have htk : List.take ((init.length : Nat) : Int).toNat fsV = encs init := by
    rw [← hfsV, Int.toNat_natCast, encs_take]; simp
  have hRows := rows_spec xa xb xc (encs init) d
  have hWF : rF.W (init.length : Nat) fsV xa xb xc d l tail (KN [.ptr 0 0, .ptr 1 0, .ptr 2 0, .ptr 3 0, .ptr 4 0, .fn 36 [] [.ptr 5 0, .ptr 6 0, .ptr 7 0]] (σ8 fsV xa xb xc d l tail (encs init))) := by
    unfold rF.W
    rw [htk]
    exact ⟨by omega, by omega, hRows.mono fun r o ⟨hr, ho⟩ => ⟨_, _, _, _, _, hr, ho, rfl, rfl, rfl⟩⟩
  refine wpIn_seq (StC.pc (vs0 := [.ptr 0 0, .ptr 1 0, .ptr 2 0, .ptr 3 0, .ptr 4 0, .fn 36 [] [.ptr 5 0, .ptr 6 0, .ptr 7 0]]) (σ' := σ8 fsV xa xb xc d l tail (encs init)) (sl := fun e => [e 1, e 2, e 3, e 4, e 6, e 30]) (slots := [1, 2, 3, 4, 6, 30]) tysOk fnsOk follows eqOk rfl hE hO (fun _ => rfl) rF.ok rF.calm s5' (Eq.mp (rF.eq (init.length : Nat) fsV xa xb xc d l tail (KN [.ptr 0 0, .ptr 1 0, .ptr 2 0, .ptr 3 0, .ptr 4 0, .fn 36 [] [.ptr 5 0, .ptr 6 0, .ptr 7 0]] (σ8 fsV xa xb xc d l tail (encs init)))) hWF) rfl ?_)
  intro aL wL sL q6
  have jL := hJs _ _ _ _ j5 (cm z5 q6)
  have zL : W.heap.size ≤ wL.heap.size := Nat.le_trans z5 q6.size
  clear q6 s5 s5' s5a j5 z5 a5 W5 hWE hWF hRows htk hDt hee htc htrow
  obtain ⟨ρL, FL, βL, hrL, eL, simL, cmL, carL⟩ := sL
  obtain ⟨vf, vc, e30, r1, r2⟩ := RV.fn_inv (g := 36) (f := []) (c := [.ptr 5 0, .ptr 6 0, .ptr 7 0]) (eL 30)
  obtain rfl := r1.nil_inv
  obtain ⟨x5, vc5, rfl, r5, r2⟩ := r2.cons_inv
  obtain ⟨x6, vc6, rfl, r6, r2⟩ := r2.cons_inv
  obtain ⟨x7, vc7, rfl, r7, r2⟩ := r2.cons_inv
  obtain rfl := r2.nil_inv
  obtain ⟨b5, o5, rfl, _, hb5⟩ := r5.ptr_inv
  obtain ⟨hβ5, rfl⟩ := hb5 _ rfl
  obtain ⟨b6, o6, rfl, _, hb6⟩ := r6.ptr_inv
  obtain ⟨hβ6, rfl⟩ := hb6 _ rfl
  obtain ⟨b7, o7, rfl, _, hb7⟩ := r7.ptr_inv
  obtain ⟨hβ7, rfl⟩ := hb7 _ rfl
  clear hb5 hb6 hb7 r1 r2 r5 r6 r7
  have hg0 : βL 0 = ptrV b0 := (carL.ext 0 (show 0 < 3 by decide)).1.trans hβ0
  have hg1' : βL 1 = ptrV b1 := (carL.ext 1 (show 1 < 3 by decide)).1.trans hβ1
  have hg2' : βL 2 = ptrV b2 := (carL.ext 2 (show 2 < 3 by decide)).1.trans hβ2
  have hb8 : ∀ i, i < 8 → ∃ ls, getO (σ8 fsV xa xb xc d l tail (encs init)) i = .box ls := fun i hi => by
    match i, hi with
    | 0, _ => exact ⟨_, rfl⟩
    | 1, _ => exact ⟨_, rfl⟩
    | 2, _ => exact ⟨_, rfl⟩
    | 3, _ => exact ⟨_, rfl⟩
    | 4, _ => exact ⟨_, rfl⟩
    | 5, _ => exact ⟨_, rfl⟩
    | 6, _ => exact ⟨_, rfl⟩
    | 7, _ => exact ⟨_, rfl⟩
  have hlt8 : ∀ {i b : Nat} {βx : Nat → Value}, Has βx i (getO (σ8 fsV xa xb xc d l tail (encs init)) i) b → i < 8 := fun {i b βx} h => by
    have := getO_lt (σ := σ8 fsV xa xb xc d l tail (encs init)) (i := i) fun e => by rw [e] at h; exact no_has_dead h
    exact this
  have hmut : ∀ {i b : Nat} {βx : Nat → Value} (o : Nat), Has βx i (getO (σ8 fsV xa xb xc d l tail (encs init)) i) b → Mut βx i (getO (σ8 fsV xa xb xc d l tail (encs init)) i) b o := fun {i b βx} o h => by
    obtain ⟨ls, e⟩ := hb8 i (hlt8 h)
    exact ⟨h, by rw [e]; trivial⟩
  -- the rows of the fields ahead
  obtain ⟨rows0, hrows0⟩ : ∃ rows0, prodR (init.map f) = rows0 := ⟨_, rfl⟩
  have hIt := ih init.length (by omega) init rfl (by omega) hthi b5 b6 b7
  rw [hrows0] at hIt
  have hrows : ∀ {k i : Nat} {row : List Dd} {x : Dd}, rows0[k]? = some row → (f t)[i]? = some x → (prodR ((init ++ [t]).map f))[k * (f t).length + i]? = some (row ++ [x]) := fun h1 h2 => by
    rw [List.map_append]; exact prodR_get _ _ (by rw [hrows0]; exact h1) h2
  have htot : (prodR ((init ++ [t]).map f)).length = rows0.length * (f t).length := by
    rw [List.map_append, ← hrows0]; exact prodR_len _ _
  have hrlen : ∀ {k : Nat} {row : List Dd}, rows0[k]? = some row → row.length = init.length := fun h => by
    rw [← hrows0] at h
    have := (prodR_each _ _ (List.mem_of_getElem? h)).1
    rwa [List.length_map] at this
  let Qb : Nat → Prop := fun b => ∃ i, i < 5 ∧ Has βL i (getO (σ8 fsV xa xb xc d l tail (encs init)) i) b
  let CL : (Nat → Prop) → Beside := fun Mo => Av.CR ax.gs G Z Mo wL FL βL (σ8 fsV xa xb xc d l tail (encs init))
  have hMr : ∀ {a' : Act} {W' : World}, a'.defers = { target := .collected wL.heap.size, args := #[] } :: aL.defers → W'.heap[wL.heap.size]? = some (.deferred (some [])) → Marks W.heap.size a'.defers W' := fun {a' W'} h1 h2 => by
    rw [h1, hrL.defers]
    exact Marks.cons (Marks.nil _ _) zL h2 fun Ds e hD => by
      have : Ds = [] := by simpa using e.symm
      rw [this] at hD; cases hD
  refine wpIn_block (range_run2 hO rfl (gf := 36) (lb := #[ptrV b5, ptrV b6, ptrV b7]) (n := rows0.length) (E := rowE G Z b5 b6 b7 rows0) (Pre := rowPre G Z b5 b6 b7 xa xb xc init d) (by rw [hrL.eval]; exact e30) (Go.Proofs.enters_of Tryd.func36 (by kernel_rfl) rfl)
    (fun k x M W' h => by obtain ⟨_, v, _, _, rfl, _⟩ := h; rfl) hIt
    (fun k M W' => ∃ Mo, (∀ b, M b ↔ Mo b ∨ Qb b) ∧ J (k * (f t).length) Mo W' ∧ ∃ F' β', Sim ax.gs G W' F' β' (σ8 fsV xa xb xc d l tail (encs init)) ∧ CL Mo W' F' β' (σ8 fsV xa xb xc d l tail (encs init)))
    (fun c W' => c = .ret ∧ ∃ k M', k < (prodR ((init ++ [t]).map f)).length ∧ Jx k M' W')
    (fun k a' M W' => ∃ Mo row, (∀ b, M b ↔ Mo b ∨ Qb b) ∧ rows0[k]? = some row ∧ J (k * (f t).length) Mo W' ∧ StC ax G (CL Mo) [] Tryd.f36.ntmps (envL [(1, .ptr 0 0), (2, .ptr 1 0), (3, .ptr 2 0), (4, .ptr 3 0), (6, .ptr 4 0), (7, .sl 4 (encXs row))]) (σ8 fsV xa xb xc d l tail (encs init)) a' W')
    ?hI ?hIx ?hM (M0 := fun b => M0 b ∨ Qb b) ?hM0 ?hPre ?h0 ?hassign ?hbody ?hdone ?hstop)
  case hI =>
    rintro k M A B ⟨Mo, h1, h2, F', β', h3, h4⟩ hc
    obtain ⟨g1, g2⟩ := h4.calm h3 hc
    exact ⟨Mo, h1, hJs _ _ _ _ h2 (hc.mono zL), F', β', g1, g2⟩
  case hIx =>
    rintro c A B ⟨h1, k, M', h2, h3⟩ hc
    exact ⟨h1, k, M', h2, hJxs _ _ _ _ h3 (hc.mono zL)⟩
  case hM =>
    rintro k a' M A B ⟨Mo, row, h1, h2, h3, h4⟩ hc
    exact ⟨Mo, row, h1, h2, hJs _ _ _ _ h3 (hc.mono zL), h4.calmR hc⟩
  case hM0 =>
    rintro b (h | ⟨i, hi, h⟩)
    · exact Nat.lt_of_lt_of_le (hM0 b h) zL
    · exact simL.has_lt h
  case hPre =>
    intro W' hc
    obtain ⟨g1, _⟩ := simL.calm0 hc
    let gg : Nat → Nat := fun i => i + 5
    let ff : Nat → Option Nat := fun i => if i = 5 then some 0 else if i = 6 then some 1 else if i = 7 then some 2 else none
    obtain ⟨k1, _⟩ := g1.restrict (σ1 := σ3 (encs init) xa xb xc d) (g := gg) (f := ff) (fun i hi => by
      match i, hi with
      | 0, _ => rfl
      | 1, _ => rfl
      | 2, _ => rfl) (fun i j _ _ e => by simp only [gg] at e; omega) (fun o k _ hk => by
      simp only [ff] at hk
      split at hk
      · cases hk; exact ⟨show 0 < 3 by decide, by simp only [gg]; omega⟩
      split at hk
      · cases hk; exact ⟨show 1 < 3 by decide, by simp only [gg]; omega⟩
      split at hk
      · cases hk; exact ⟨show 2 < 3 by decide, by simp only [gg]; omega⟩
      · cases hk)
    have nq : ∀ {b : Nat}, Qb b → b < wL.heap.size := fun h => by obtain ⟨i, _, h⟩ := h; exact simL.has_lt h
    refine ⟨FL, fun i => βL (gg i), k1, hβ5, hβ6, hβ7, ?_, ?_, ?_, ?_, cmL.z.1, fun i b hh => ?_, fun b o hb => cmL.z.2.2 b o (Nat.le_trans hc.size hb)⟩
    · rintro b o hf ((h | ⟨i, hi, h⟩) | h | h)
      · exact cmL.f b o hf h
      · exact simL.dis i b o (hmut o h) hf
      · have := simL.lt b o hf; omega
      · have := simL.lt b o hf; omega
    · intro i b hh
      have hi : i < 3 := getO_lt (σ := σ3 (encs init) xa xb xc d) (i := i) fun e => by rw [e] at hh; exact no_has_dead hh
      have hh' : Has βL (i + 5) (getO (σ8 fsV xa xb xc d l tail (encs init)) (i + 5)) b := by
        refine ⟨?_, hh.2⟩
        obtain ⟨ls, e⟩ := hb8 (i + 5) (by omega)
        rw [e]; trivial
      rintro ((h | ⟨j, hj, h⟩) | h | h)
      · exact cmL.h _ b hh' h
      · exact simL.sep j (i + 5) b (by omega) h hh'
      · have := simL.has_lt hh'; omega
      · have := simL.has_lt hh'; omega
    · rintro g hg tt bb e ((h | ⟨j, hj, h⟩) | h | h)
      · exact cmL.gl.1 g hg tt bb e h
      · obtain ⟨_, _, _, t', b', h4, h5, _, h7⟩ := simL.glob g hg
        rw [h4] at e; cases e
        exact h7 j h
      · obtain ⟨_, _, _, t', b', h4, h5, _⟩ := simL.glob g hg
        rw [h4] at e; cases e; omega
      · obtain ⟨_, _, _, t', b', h4, h5, _⟩ := simL.glob g hg
        rw [h4] at e; cases e; omega
    · rintro g cs e ((h | ⟨j, hj, h⟩) | h | h)
      · exact cmL.gl.2 g cs e h
      · exact (simL.tab g cs e).2.2 j h
      · have := (simL.tab g cs e).1; omega
      · have := (simL.tab g cs e).1; omega
    · have hi : i < 3 := getO_lt (σ := σ3 (encs init) xa xb xc d) (i := i) fun e => by rw [e] at hh; exact no_has_dead hh
      refine cmL.z.2.1 (i + 5) b ⟨?_, hh.2⟩
      obtain ⟨ls, e⟩ := hb8 (i + 5) (by omega)
      rw [e]; trivial
  case h0 => exact ⟨M0, fun b => Iff.rfl, by rw [Nat.zero_mul]; exact jL, FL, βL, simL, cmL, Carry.refl _ _ _ _⟩
  case hdone =>
    rintro M W' ⟨Mo, _, h2, _⟩ hk
    exact rows_fin hJs hJxs (hMr rfl hk) hrL.size (.inl ⟨Mo, by rw [htot]; exact h2⟩)
  case hstop =>
    rintro c W' ⟨rfl, h⟩ hk
    exact wpIn_ret (rows_fin hJs hJxs (hMr rfl hk) hrL.size (.inr h))
  case hassign =>
    rintro lr k x M W' hk ⟨Fx, v, row, hrow, rfl, hFx, hfv⟩ hMlt hsz ⟨Mo, h1, h2, F', β', h3, h4⟩
    have hβ : ∀ i, i < 8 → β' i = βL i := fun i hi => (h4.2.ext i hi).1
    have hdis : ∀ i b o, Mut β' i (getO (σ8 fsV xa xb xc d l tail (encs init)) i) b o → ¬ Fx b o := by
      intro i b o hm hf
      obtain ⟨g1, g2, g3, g4, g5, _⟩ := hFx b o hf
      have hi := hlt8 hm.1
      have hv := hm.1.2
      rw [hβ i hi] at hv
      by_cases h5 : i < 5
      · exact g2 (.inl ((h1 b).2 (.inr ⟨i, h5, hm.1.1, hv⟩)))
      · have : i = 5 ∨ i = 6 ∨ i = 7 := by omega
        rcases this with rfl | rfl | rfl
        · rw [hβ5] at hv; exact g3 (by simpa [vblk] using hv.symm)
        · rw [hβ6] at hv; exact g4 (by simpa [vblk] using hv.symm)
        · rw [hβ7] at hv; exact g5 (by simpa [vblk] using hv.symm)
    have simJ := h3.join (fun b o h => (hFx b o h).1) hdis
    have crJ : CL Mo W' (fun b o => F' b o ∨ Fx b o) β' (σ8 fsV xa xb xc d l tail (encs init)) := ⟨⟨fun b o hf => hf.elim (h4.1.f b o) (fun h hm => (hFx b o h).2.1 (.inl ((h1 b).2 (.inl hm)))), h4.1.h, h4.1.lt, h4.1.gl, fun b o hf => hf.elim (h4.1.z.1 b o) (fun h => (hFx b o h).2.2.2.2.2), h4.1.z.2⟩, h4.2.trans ⟨fun b o hf => ⟨.inl hf, rfl⟩, Nat.le_refl _, fun i _ => ⟨rfl, obLe.refl _⟩⟩⟩
    have hrowv : RV ax.gs G W' (fun b o => F' b o ∨ Fx b o) β' (σ8 fsV xa xb xc d l tail (encs init)) (.sl 4 (encXs row)) v := .fz _ _ (hfv.mono fun b o hf => ⟨.inr hf, rfl⟩)
    have z0 : ({ aL with defers := [] } : Act).tmps.size = Tryd.f36.ntmps := hrL.size
    have old : ∀ (s i : Nat), s ≠ 31 → envL ([1, 2, 3, 4, 6, 30].zip [V.ptr 0 0, .ptr 1 0, .ptr 2 0, .ptr 3 0, .ptr 4 0, .fn 36 [] [.ptr 5 0, .ptr 6 0, .ptr 7 0]]) s = .ptr i 0 → RV ax.gs G W' (fun b o => F' b o ∨ Fx b o) β' (σ8 fsV xa xb xc d l tail (encs init)) (.ptr i 0) ((({ aL with defers := [] } : Act).put (some 31) v).tmps.getD s undef) := fun s i hs he => by
      rw [put_get (by rw [z0, n36]; decide), if_neg hs, hrL.at_]
      have := eL s
      rw [he] at this
      exact this.mono crJ.2
    have st : StC ax G (CL Mo) [] Tryd.f36.ntmps (envL [(1, .ptr 0 0), (2, .ptr 1 0), (3, .ptr 2 0), (4, .ptr 3 0), (6, .ptr 4 0), (31, .sl 4 (encXs row))]) (σ8 fsV xa xb xc d l tail (encs init)) (({ aL with defers := [] } : Act).put (some 31) v) W' := StC.of (by rw [(put_size _ _ _).1]; exact z0) rfl (fun x hx => by
      rcases List.mem_cons.1 hx with rfl | hx
      · exact old 1 0 (by decide) rfl
      rcases List.mem_cons.1 hx with rfl | hx
      · exact old 2 1 (by decide) rfl
      rcases List.mem_cons.1 hx with rfl | hx
      · exact old 3 2 (by decide) rfl
      rcases List.mem_cons.1 hx with rfl | hx
      · exact old 4 3 (by decide) rfl
      rcases List.mem_cons.1 hx with rfl | hx
      · exact old 6 4 (by decide) rfl
      · rw [List.mem_singleton.1 hx, put_get (by rw [z0, n36]; decide), if_pos rfl]; exact hrowv) simJ crJ
    rw [show ({ tmps := ((#[31] : Array Tmp).zip #[v]).foldl (fun t (p, v) => t.setIfInBounds p v) aL.tmps, defers := [] } : Act) = ({ aL with defers := [] } : Act).put (some 31) v from by simp only [← Array.foldl_toList, Array.toList_zip, Act.put]; rfl]
    refine StC.pc (vs0 := [.ptr 0 0, .ptr 1 0, .ptr 2 0, .ptr 3 0, .ptr 4 0, .sl 4 (encXs row)]) (σ' := σ8 fsV xa xb xc d l tail (encs init)) (sl := fun e => [e 1, e 2, e 3, e 4, e 6, e 7]) (slots := [1, 2, 3, 4, 6, 7]) tysOk fnsOk follows eqOk rfl hE (hO.inRound lr) (fun _ => rfl) rG.ok rG.calm st (Eq.mp (rG.eq (encXs row) fsV xa xb xc d l tail (encs init) (KN [.ptr 0 0, .ptr 1 0, .ptr 2 0, .ptr 3 0, .ptr 4 0, .sl 4 (encXs row)] (σ8 fsV xa xb xc d l tail (encs init)))) ⟨rfl, rfl, rfl⟩) rfl ?_
    intro a1 W1 s1 q1
    exact ⟨rfl, M, ⟨Mo, row, h1, hrow, hJs _ _ _ _ h2 (cm (Nat.le_trans zL hsz) q1), s1⟩, Keep.of_below q1 hMlt⟩
  case hbody =>
    rintro lr k a1 M W1 hk ⟨Mo, row, h1, hrow, h2, s1⟩ hMlt hsz
    have hsz1 : W.heap.size ≤ W1.heap.size := Nat.le_trans zL hsz
    have hrl := hrlen hrow
    have hfl := hf t
    refine wpIn_block (wpIn_seq (StC.pc (vs0 := [.ptr 0 0, .ptr 1 0, .ptr 2 0, .ptr 3 0, .ptr 4 0, .sl 4 (encXs row), .sl 4 tail, .int .i64 (tail.length : Nat), .int .i64 0]) (σ' := σ8 fsV xa xb xc d l tail (encs init)) (sl := fun e => [e 1, e 2, e 3, e 4, e 6, e 7, e 32, e 33, e 34]) (slots := [1, 2, 3, 4, 6, 7, 32, 33, 34]) tysOk fnsOk follows eqOk rfl hE (hO.inRound lr) (fun _ => rfl) rH.ok rH.calm s1 (Eq.mp (rH.eq (encXs row) fsV xa xb xc d l tail (encs init) (KN [.ptr 0 0, .ptr 1 0, .ptr 2 0, .ptr 3 0, .ptr 4 0, .sl 4 (encXs row), .sl 4 tail, .int .i64 (tail.length : Nat), .int .i64 0] (σ8 fsV xa xb xc d l tail (encs init)))) ⟨rfl, rfl, rfl⟩) rfl ?_))
    intro a2 W2 s2 q2
    have hk2 : Keep M M W1 W2 := Keep.of_below q2 hMlt
    have j2 := hJs _ _ _ _ h2 (cm hsz1 q2)
    clear s1 h2 a1
    -- the loop over the last field's data
    let EN : Nat → List (Nat × V) := fun i => [(1, .ptr 0 0), (2, .ptr 1 0), (3, .ptr 2 0), (4, .ptr 3 0), (6, .ptr 4 0), (7, .sl 4 (encXs row)), (32, .sl 4 tail), (33, .int .i64 (tail.length : Nat)), (34, .int .i64 (i : Nat))]
    have hloop : (Code.loop (.seq rI.c (.seq (.cond (.tmp 35) .skip (.exit 2)) (.seq (.block 3 (.seq rJ.c (.seq (.region 10 r10 true) (.cond (.tmp 49) .ret .skip)))) rL.c)))).wpIn (Fence.wide.inRound lr) 0 ax.P (fun ex _ W' => (ex = .exit 2 ∧ ∃ Mo', J ((k + 1) * (f t).length) Mo' W' ∧ (∃ F' β', Sim ax.gs G W' F' β' (σ8 fsV xa xb xc d l tail (encs init)) ∧ CL Mo' W' F' β' (σ8 fsV xa xb xc d l tail (encs init))) ∧ Keep M (fun b => Mo' b ∨ Qb b) W1 W') ∨ (ex = .ret ∧ (∃ M2, Keep M M2 W1 W') ∧ ∃ k' M', k' < (prodR ((init ++ [t]).map f)).length ∧ Jx k' M' W')) a2 W2 := by
      refine wpIn_loop (fun a W' => ∃ (i : Nat) (Mo' : Nat → Prop), i ≤ (f t).length ∧ J (k * (f t).length + i) Mo' W' ∧ StC ax G (CL Mo') [] Tryd.f36.ntmps (envL (EN i)) (σ8 fsV xa xb xc d l tail (encs init)) a W' ∧ Keep M (fun b => Mo' b ∨ Qb b) W1 W')
        (fun a _ => match a.tmps.getD 34 undef with | .int _ p => (f t).length - p.toNat | _ => 0) ⟨0, Mo, Nat.zero_le _, j2, s2, hk2.congr (fun _ => Iff.rfl) h1⟩ ?_
      rintro a W' ⟨i, Mo', hi, j1, s3, k1⟩
      have hW' : W1.heap.size ≤ W'.heap.size := k1.size
      refine wpIn_seq (StC.pc (vs0 := [.ptr 0 0, .ptr 1 0, .ptr 2 0, .ptr 3 0, .ptr 4 0, .sl 4 (encXs row), .sl 4 tail, .int .i64 (tail.length : Nat), .int .i64 (i : Nat), .bool (decide (((i : Nat) : Int) < ((tail.length : Nat) : Int)))]) (σ' := σ8 fsV xa xb xc d l tail (encs init)) (sl := fun e => [e 1, e 2, e 3, e 4, e 6, e 7, e 32, e 33, e 34, e 35]) (slots := [1, 2, 3, 4, 6, 7, 32, 33, 34, 35]) tysOk fnsOk follows eqOk rfl hE (hO.inRound lr) (fun _ => rfl) rI.ok rI.calm s3 (Eq.mp (rI.eq (encXs row) ((tail.length : Nat) : Int) ((i : Nat) : Int) fsV xa xb xc d l tail (encs init) (KN [.ptr 0 0, .ptr 1 0, .ptr 2 0, .ptr 3 0, .ptr 4 0, .sl 4 (encXs row), .sl 4 tail, .int .i64 (tail.length : Nat), .int .i64 (i : Nat), .bool (decide (((i : Nat) : Int) < ((tail.length : Nat) : Int)))] (σ8 fsV xa xb xc d l tail (encs init)))) ⟨rfl, rfl, rfl⟩) rfl ?_)
      intro a3 W3 s4 q3
      have m3 : ∀ b, Mo' b ∨ Qb b → b < W'.heap.size := k1.lt
      have k3 := k1.trans (Keep.of_below q3 m3)
      have j3 := hJs _ _ _ _ j1 (cm (Nat.le_trans hsz1 hW') q3)
      have z3 : W1.heap.size ≤ W3.heap.size := k3.size
      have c35 : a3.eval (.tmp 35) = .bool (decide (((i : Nat) : Int) < ((tail.length : Nat) : Int))) := s4.boolAt rfl
      have c34 : a.tmps.getD 34 undef = .int .i64 (i : Nat) := s3.intAt rfl
      clear j1 k1 q3 m3 s3 hW'
      by_cases hlt : i < (f t).length
      · rw [htll, decide_eq_true (by omega)] at c35
        refine wpIn_seq (wpIn_cond_true c35 (wpIn_skip ?_))
        have s5 := s4.sub (L' := EN i) (by kernel_rfl)
        clear s4 c35
        -- the datum
        obtain ⟨xcn, xn, xs, xz, hx⟩ := xget hlt
        have hxr : List.take 4 (Av.rowAt tail (((i : Nat) : Int).toNat)) = [.bool xcn, .int .i64 xn, .str xs, .sl 4 (encXs xz)] := by rw [← htail]; exact xrow hx
        have hWJ : rJ.W (encXs row) ((tail.length : Nat) : Int) ((i : Nat) : Int) fsV xa xb xc d l tail (encs init) (KN [.ptr 0 0, .ptr 1 0, .ptr 2 0, .ptr 3 0, .ptr 4 0, .sl 4 (encXs row), .sl 4 tail, .int .i64 (tail.length : Nat), .int .i64 (i : Nat), .ptr 8 0] (σ9 fsV xa xb xc d l tail (encs init) 1 [.bool xcn, .int .i64 xn, .str xs, .sl 4 (encXs xz)])) := by
          unfold rJ.W
          exact ⟨by omega, by omega, xcn, xn, xs, encXs xz, hxr, rfl, rfl, rfl⟩
        refine wpIn_seq (wpIn_block (wpIn_seq (StC.pc (vs0 := [.ptr 0 0, .ptr 1 0, .ptr 2 0, .ptr 3 0, .ptr 4 0, .sl 4 (encXs row), .sl 4 tail, .int .i64 (tail.length : Nat), .int .i64 (i : Nat), .ptr 8 0]) (σ' := σ9 fsV xa xb xc d l tail (encs init) 1 [.bool xcn, .int .i64 xn, .str xs, .sl 4 (encXs xz)]) (sl := fun e => [e 1, e 2, e 3, e 4, e 6, e 7, e 32, e 33, e 34, e 9]) (slots := [1, 2, 3, 4, 6, 7, 32, 33, 34, 9]) tysOk fnsOk follows eqOk rfl hE (hO.inRound lr) (fun _ => rfl) rJ.ok rJ.calm s5 (Eq.mp (rJ.eq (encXs row) ((tail.length : Nat) : Int) ((i : Nat) : Int) fsV xa xb xc d l tail (encs init) (KN [.ptr 0 0, .ptr 1 0, .ptr 2 0, .ptr 3 0, .ptr 4 0, .sl 4 (encXs row), .sl 4 tail, .int .i64 (tail.length : Nat), .int .i64 (i : Nat), .ptr 8 0] (σ9 fsV xa xb xc d l tail (encs init) 1 [.bool xcn, .int .i64 xn, .str xs, .sl 4 (encXs xz)]))) hWJ) rfl ?_)))
        intro a4 W4 s6 q4
        have m4 : ∀ b, Mo' b ∨ Qb b → b < W3.heap.size := k3.lt
        have k4 := k3.trans (Keep.of_below q4 m4)
        have j4 := hJs _ _ _ _ j3 (cm (Nat.le_trans hsz1 z3) q4)
        have z4 : W1.heap.size ≤ W4.heap.size := k4.size
        clear j3 k3 q4 m4 s5 z3 hWJ hxr
        have s7 := s6.takeR 9 (by kernel_rfl) (by kernel_rfl) (by kernel_rfl)
        clear s6
        -- the row with the datum behind it
        refine wpIn_seq (row_split hE (hO.inRound lr) (h := encXs row) (r := encXs (row ++ [.mk xcn xn xs xz])) (by rw [encXs_append]; rfl) (by rw [encXs_length, hrl]; omega) s7 ?_)
        intro a5 W5 s8 q5
        have m5 : ∀ b, Mo' b ∨ Qb b → b < W4.heap.size := k4.lt
        have k5 := k4.trans (Keep.of_below q5 m5)
        have j5 := hJs _ _ _ _ j4 (cm (Nat.le_trans hsz1 z4) q5)
        have z5 : W1.heap.size ≤ W5.heap.size := k5.size
        clear j4 k4 q5 m5 s7 z4
        have hidx : k * (f t).length + i < (prodR ((init ++ [t]).map f)).length := by
          rw [htot]
          have := Nat.mul_le_mul_right (f t).length (show k + 1 ≤ rows0.length from hk)
          rw [Nat.add_mul, Nat.one_mul] at this
          omega
        refine row_yield hE (hO.inRound lr) s8 (show 8 ≤ 8 from Nat.le_refl _) (R := fun e W' => ∃ M', Keep Mo' M' W5 W' ∧ ((e = .returned (.bool true) ∧ J (k * (f t).length + i + 1) M' W') ∨ (e = .returned (.bool false) ∧ Jx (k * (f t).length + i) M' W'))) (fun Fx v hFx hFz hfv => ?_) ?_
        · exact hY (k * (f t).length + i) #[v] Mo' W5 hidx ⟨Fx, v, row ++ [.mk xcn xn xs xz], hrows hrow hx, rfl, fun b o hf => ⟨(hFx b o hf).1, (hFx b o hf).2.1, (hFx b o hf).2.2 0 b0 (by decide) (show 0 < 8 by decide) hg0, (hFx b o hf).2.2 1 b1 (by decide) (show 1 < 8 by decide) hg1', (hFx b o hf).2.2 2 b2 (by decide) (show 2 < 8 by decide) hg2', hFz b o hf⟩, hfv⟩ j5 (Nat.le_trans hsz1 z5) fun b hb => k5.lt b (.inl hb)
        rintro e W6 ⟨M', hk6, h6⟩
        have k6 := k5.trans (hk6.orr fun b hb => k5.lt b (.inr hb))
        rcases h6 with ⟨rfl, j6⟩ | ⟨rfl, j6⟩
        · refine ⟨true, M', rfl, hk6, fun a6 c49 s9 => ?_⟩
          refine wpIn_cond_false c49 (wpIn_skip ?_)
          have s10 := s9.takeR 8 (by kernel_rfl) (by kernel_rfl) (by kernel_rfl)
          refine StC.pc (vs0 := [.ptr 0 0, .ptr 1 0, .ptr 2 0, .ptr 3 0, .ptr 4 0, .sl 4 (encXs row), .sl 4 tail, .int .i64 (tail.length : Nat), .int .i64 ((i + 1 : Nat) : Int)]) (σ' := σ8 fsV xa xb xc d l tail (encs init)) (sl := fun e => [e 1, e 2, e 3, e 4, e 6, e 7, e 32, e 33, e 34]) (slots := [1, 2, 3, 4, 6, 7, 32, 33, 34]) tysOk fnsOk follows eqOk rfl hE (hO.inRound lr) (fun _ => rfl) rL.ok rL.calm s10 (Eq.mp (rL.eq (encXs row) ((tail.length : Nat) : Int) ((i : Nat) : Int) fsV xa xb xc d l tail (encs init) (KN [.ptr 0 0, .ptr 1 0, .ptr 2 0, .ptr 3 0, .ptr 4 0, .sl 4 (encXs row), .sl 4 tail, .int .i64 (tail.length : Nat), .int .i64 ((i + 1 : Nat) : Int)] (σ8 fsV xa xb xc d l tail (encs init)))) ⟨rfl, by rw [w64 (by omega) (by omega)]; rfl, rfl⟩) rfl ?_
          intro a7 W7 s11 q7
          have m7 : ∀ b, M' b ∨ Qb b → b < W6.heap.size := k6.lt
          have k7 := k6.trans (Keep.of_below q7 m7)
          have c34' : a7.tmps.getD 34 undef = .int .i64 ((i + 1 : Nat) : Int) := s11.intAt rfl
          refine ⟨⟨i + 1, M', hlt, hJs _ _ _ _ j6 (cm (Nat.le_trans hsz1 k6.size) q7), s11, k7⟩, ?_⟩
          show (match a7.tmps.getD 34 undef with | .int _ p => (f t).length - p.toNat | _ => 0) < (match a.tmps.getD 34 undef with | .int _ p => (f t).length - p.toNat | _ => 0)
          rw [c34', c34]
          show (f t).length - ((i + 1 : Nat) : Int).toNat < (f t).length - ((i : Nat) : Int).toNat
          rw [Int.toNat_natCast, Int.toNat_natCast]; omega
        · refine ⟨false, M', rfl, hk6, fun a6 c49 s9 => ?_⟩
          refine wpIn_cond_true c49 (wpIn_ret ?_)
          exact .inr ⟨rfl, ⟨_, k6⟩, _, M', hidx, j6⟩
      · rw [decide_eq_false (by omega)] at c35
        refine wpIn_seq (wpIn_cond_false c35 (wpIn_exit ?_))
        have hie : i = (f t).length := by omega
        subst hie
        refine .inl ⟨rfl, Mo', ?_, s4.sim, k3⟩
        rw [Nat.add_mul, Nat.one_mul]; exact j3
    refine wpIn_block (wpIn_mono hloop ?_)
    rintro ex a3 W3 (⟨rfl, Mo', j3, h3, hk3⟩ | ⟨rfl, ⟨M2, hk3⟩, h3⟩)
    · exact ⟨_, hk3, Mo', fun b => Iff.rfl, j3, h3⟩
    · exact ⟨M2, hk3, rfl, h3⟩
end Go.Proofs.YtahagnfdpemmaaaDoor.Va
end

/- part Y4E -/
section
namespace Go.Proofs.YtahagnfdpemmaaaDoor.Va
open Go.Vx Go.Av Go.Lx Go.Dr Go.Dm Go.Uni Go.RowKit

theorem tget {zs : List Tm} {i : Nat} (h : i < zs.length) : ∃ k s v l, zs[i]? = some (.mk k s v l) := by
  have he := List.getElem?_eq_getElem h
  obtain ⟨k, s, v, l, e⟩ := tm_cases zs[i]
  exact ⟨k, s, v, l, by rw [he, e]⟩
theorem copied_spec : ∀ t : Tm, thin 20000 t → PCalls ax 62 [.agg (enc t)] fun r => r = [.agg (enc t)] := by
  refine Tm.ind fun k s v xs ih => ?_
  rintro ⟨hl, hth⟩
  rw [thins_iff] at hth
  refine copied.calls (K := fun r => r = [.agg (enc (.mk k s v xs))]) ?_
  unfold copied.W
  rw [encs_length]
  refine ⟨fun us => ∃ i : Nat, i ≤ xs.length ∧ us = [.sl 4 (encs (xs.take i)), .int .i64 i], fun us => match us with | [_, .int _ i] => xs.length - i.toNat | _ => 0, ⟨0, Nat.zero_le _, rfl⟩, ?_⟩
  rintro l n ⟨i, hi, e⟩
  cases e
  refine ifD (fun hlt => ?_) (fun hge => ?_)
  · have hi' : i < xs.length := by omega
    obtain ⟨k', s', v', l', he⟩ := tget hi'
    have hm := List.mem_of_getElem? he
    refine ⟨by omega, hlt, k', s', v', encs l', trow he, ?_⟩
    refine (ih _ hm (hth _ hm)).mono fun r hr => ⟨k', s', v', encs l', hr, ?_⟩
    have hn : encs (xs.take i) ++ [[.int .i64 k', .str s', .int .i64 v', .sl 4 (encs l')]] = encs (xs.take (i + 1)) := by
      rw [List.take_add_one, he, encs_append]; rfl
    rw [hn, zstep (by omega), encs_length, List.length_take]
    simp only [List.length_cons, List.length_nil]
    exact ⟨by omega, by omega, ⟨i + 1, by omega, rfl⟩, by simp only [Int.toNat_natCast]; omega⟩
  · rw [List.take_of_length_le (by omega)]
    rfl

theorem instE_take (env : List (ByteArray × Tm)) {zs : List Te} {i : Nat} {t : Te} (h : zs[i]? = some t) : encs ((zs.take i).map (instE env)) ++ [enc (instE env t)] = encs ((zs.take (i + 1)).map (instE env)) := by
  rw [List.take_add_one, h, List.map_append, encs_append]; rfl

theorem Instance_spec (env : List (ByteArray × Tm)) (hE : ∀ t ∈ env.map (·.2), thin 20000 t) : ∀ x : Te, wideE 20000 x → SCalls ax 35 [.agg (encE x), .map 0] [.lst 101 0 true (mapE env)] fun r o => r = [.agg (enc (instE env x))] ∧ o = [.lst 101 0 true (mapE env)] := by
  refine Te.ind fun b s zs ih => ?_
  intro hs
  obtain ⟨hls, hs⟩ := hs
  rw [wideEs_iff] at hs
  refine Instance.calls (K := fun r o => r = [.agg (enc (instE env (.mk b s zs)))] ∧ o = [.lst 101 0 true (mapE env)]) ?_
  unfold Instance.W
  rw [instE]
  refine ifB (fun h => ?_) (fun h => ?_)
  · rw [if_pos h, look_mapE]
    cases hl : lookE env s with
    | none => exact ⟨fun u hu => (by cases hu), fun _ => ⟨rfl, rfl⟩⟩
    | some t =>
      refine ⟨fun u hu => ?_, fun hn => (by cases hn)⟩
      obtain ⟨k, s', v, l, rfl⟩ := tm_cases t
      cases hu
      exact ⟨k, s', v, encs l, rfl, (copied_spec _ (hE _ (lookE_mem hl))).mono fun r hr => ⟨_, _, _, _, hr, rfl, rfl⟩⟩
  · rw [if_neg (by simp [h])]
    rw [encEs_length]
    refine ⟨fun _ => ¬ (s = ⟨#[105, 110, 116]⟩ ∧ zs.length = 0), ifB (fun h1 => ifE (fun h2 => ?_) (fun h2 hh => h2 (by omega))) (fun h1 hh => by rw [hh.1] at h1; simp [strEq] at h1), fun hne => ?_⟩
    · have h1' : s = ⟨#[105, 110, 116]⟩ := by simpa [strEq] using h1
      rw [if_pos ⟨h1', by omega⟩]
      exact ⟨rfl, rfl⟩
    · rw [if_neg hne, instEs_eq]
      refine ⟨fun us => ∃ i : Nat, i ≤ zs.length ∧ us = [.int .i64 i, .int .i64 2, .str s, .int .i64 0, .sl 4 (encs ((zs.take i).map (instE env))), .sl 0 (mapE env)], fun us => match us with | .int _ i :: _ => zs.length - i.toNat | _ => 0, ⟨0, Nat.zero_le _, rfl⟩, ?_⟩
      rintro n54 n55 s56 n57 l58 l59 ⟨i, hi, e⟩
      cases e
      refine ifD (fun hlt => ?_) (fun hge => ?_)
      · have hi' : i < zs.length := by omega
        obtain ⟨b', s', l', he⟩ := eget hi'
        have hm := List.mem_of_getElem? he
        refine ⟨by omega, hlt, b', s', encEs l', by rw [erow he]; rfl, ?_⟩
        refine (ih _ hm (hs _ hm)).mono fun r o ⟨hr, ho⟩ => ?_
        have hn := instE_take env he
        obtain ⟨k2, s2, v2, l2, e2⟩ := tm_cases (instE env (.mk b' s' l'))
        rw [e2] at hr hn
        refine ⟨k2, s2, v2, encs l2, mapE env, hr, ho, ?_⟩
        replace hn : encs ((zs.take i).map (instE env)) ++ [[.int .i64 k2, .str s2, .int .i64 v2, .sl 4 (encs l2)]] = encs ((zs.take (i + 1)).map (instE env)) := hn
        rw [hn, zstep (by omega), encs_length, List.length_map, List.length_take]
        simp only [List.length_cons, List.length_nil]
        exact ⟨by omega, by omega, ⟨i + 1, by omega, rfl⟩, by simp only [Int.toNat_natCast]; omega⟩
      · rw [List.take_of_length_le (by omega)]
        exact ⟨rfl, rfl⟩

theorem look_first {s : ByteArray} : ∀ (env : List (ByteArray × Tm)) (i : Nat) (p : ByteArray × Tm), env[i]? = some p → p.1 = s → s ∉ (env.take i).map (·.1) → lookE env s = some p.2
  | [], i, p, h, _, _ => by simp at h
  | (a, t) :: env, 0, p, h, hs, _ => by
    cases h
    subst hs
    show lookE ((a, t) :: env) a = some t
    rw [lookE, decide_eq_true rfl]; rfl
  | (a, t) :: env, i + 1, p, h, hs, hn => by
    rw [List.take_succ_cons, List.map_cons, List.mem_cons, not_or] at hn
    rw [lookE, decide_eq_false hn.1]
    exact look_first env i p (by simpa using h) hs hn.2

theorem RInstance_spec (env : List (ByteArray × Tm)) (hlen : env.length ≤ 20000) : ∀ x : Te, wideE 20000 x → PCalls ax 38 [.agg (encE x), .sl 1 (rowsS (env.map (·.1))), .sl 4 (encs (env.map (·.2)))] fun r => r = [.agg (enc (instE env x))] := by
  refine Te.ind fun b s zs ih => ?_
  intro hs
  obtain ⟨hls, hs⟩ := hs
  rw [wideEs_iff] at hs
  refine RInstance.calls (K := fun r => r = [.agg (enc (instE env (.mk b s zs)))]) ?_
  unfold RInstance.W
  rw [instE]
  refine ifB (fun h => ?_) (fun h => ?_)
  · rw [if_pos h, rowsS_length, encs_length, List.length_map, List.length_map]
    refine ⟨fun us => ∃ i : Nat, i ≤ env.length ∧ us = [.int .i64 i] ∧ s ∉ (env.take i).map (·.1), fun us => match us with | .int _ i :: _ => env.length - i.toNat | _ => 0, ⟨0, Nat.zero_le _, rfl, by simp⟩, ?_⟩
    rintro n ⟨i, hi, e, hn⟩
    cases e
    refine ifD (fun hlt => ?_) (fun hge => ?_)
    · have hi' : i < env.length := by omega
      have he := List.getElem?_eq_getElem hi'
      have h1 : (env.map (·.1))[i]? = some env[i].1 := by rw [List.getElem?_map, he]; rfl
      have h2 : (env.map (·.2))[i]? = some env[i].2 := by rw [List.getElem?_map, he]; rfl
      refine ⟨by omega, hlt, env[i].1, by rw [Int.toNat_natCast]; exact rowS h1, ifB (fun hq => ?_) (fun hq => ?_)⟩
      · have hq' : env[i].1 = s := by simpa [strEq] using hq
        have hlk := look_first env i env[i] he hq' hn
        rw [hlk]
        obtain ⟨k, s', v, l, e2⟩ := tm_cases env[i].2
        refine ⟨by omega, hlt, k, s', v, encs l, by rw [trow h2, e2]; rfl, ?_⟩
        rw [Option.getD_some, e2]; rfl
      · have hq' : env[i].1 ≠ s := by simpa [strEq] using hq
        rw [zstep (by omega)]
        refine ⟨⟨i + 1, by omega, rfl, ?_⟩, by simp only [Int.toNat_natCast]; omega⟩
        rw [List.take_add_one, he, List.map_append, List.mem_append, not_or]
        exact ⟨hn, fun hh => hq' (List.mem_singleton.1 hh).symm⟩
    · rw [List.take_of_length_le (by omega)] at hn
      rw [lookE_none hn]
      rfl
  · rw [if_neg (by simp [h])]
    rw [encEs_length]
    refine ⟨fun _ => ¬ (s = ⟨#[105, 110, 116]⟩ ∧ zs.length = 0), ifB (fun h1 => ifE (fun h2 => ?_) (fun h2 hh => h2 (by omega))) (fun h1 hh => by rw [hh.1] at h1; simp [strEq] at h1), fun hne => ?_⟩
    · have h1' : s = ⟨#[105, 110, 116]⟩ := by simpa [strEq] using h1
      rw [if_pos ⟨h1', by omega⟩]
      rfl
    · rw [if_neg hne, instEs_eq]
      refine ⟨fun us => ∃ i : Nat, i ≤ zs.length ∧ us = [.int .i64 i, .int .i64 2, .str s, .int .i64 0, .sl 4 (encs ((zs.take i).map (instE env)))], fun us => match us with | .int _ i :: _ => zs.length - i.toNat | _ => 0, ⟨0, Nat.zero_le _, rfl⟩, ?_⟩
      rintro n54 n55 s56 n57 l58 ⟨i, hi, e⟩
      cases e
      refine ifD (fun hlt => ?_) (fun hge => ?_)
      · have hi' : i < zs.length := by omega
        obtain ⟨b', s', l', he⟩ := eget hi'
        have hm := List.mem_of_getElem? he
        refine ⟨by omega, hlt, b', s', encEs l', by rw [erow he]; rfl, ?_⟩
        refine (ih _ hm (hs _ hm)).mono fun r hr => ?_
        have hn := instE_take env he
        obtain ⟨k2, s2, v2, l2, e2⟩ := tm_cases (instE env (.mk b' s' l'))
        rw [e2] at hr hn
        refine ⟨k2, s2, v2, encs l2, hr, ?_⟩
        replace hn : encs ((zs.take i).map (instE env)) ++ [[.int .i64 k2, .str s2, .int .i64 v2, .sl 4 (encs l2)]] = encs ((zs.take (i + 1)).map (instE env)) := hn
        rw [hn, zstep (by omega), encs_length, List.length_map, List.length_take]
        simp only [List.length_cons, List.length_nil]
        exact ⟨by omega, by omega, ⟨i + 1, by omega, rfl⟩, by simp only [Int.toNat_natCast]; omega⟩
      · rw [List.take_of_length_le (by omega)]
        rfl

/-! ### constructors -/
theorem encKs_take {cs : List Ct} {i : Nat} {c : Ct} (h : cs[i]? = some c) (s : ByteArray) : ofTy (cs.take (i + 1)) s = if c.ty = s then ofTy (cs.take i) s ++ [c] else ofTy (cs.take i) s := by
  rw [List.take_add_one, h, ofTy, ofTy, List.filter_append]
  split
  · rename_i he; simp [he]
  · rename_i he; simp [he]
theorem ofTy_len (cs : List Ct) (s : ByteArray) : (ofTy cs s).length ≤ cs.length := List.length_filter_le _ _
theorem ofTy_mem {cs : List Ct} {s : ByteArray} {c : Ct} (h : c ∈ ofTy cs s) : c ∈ cs ∧ c.ty = s := by
  obtain ⟨h1, h2⟩ := List.mem_filter.1 h
  exact ⟨h1, by simpa using h2⟩
theorem encKs_append (a b : List Ct) : encKs (a ++ b) = encKs a ++ encKs b := by simp [encKs]
theorem RCtors_spec {cs : List Ct} (hG : GoodX cs) (xa xc : List (List V)) (s : ByteArray) : PCalls ax 17 [.agg [.sl 20 xa, .sl 6 (encKs cs), .sl 5 xc], .str s] fun r => r = [.sl 6 (encKs (ofTy cs s))] := by
  refine RCtors.calls (K := fun r => r = [.sl 6 (encKs (ofTy cs s))]) ?_
  have hl := hG.len
  unfold RCtors.W
  rw [encKs_length]
  refine ⟨fun us => ∃ i : Nat, i ≤ cs.length ∧ us = [.sl 6 (encKs (ofTy (cs.take i) s)), .int .i64 i], fun us => match us with | [_, .int _ i] => cs.length - i.toNat | _ => 0, ⟨0, Nat.zero_le _, rfl⟩, ?_⟩
  rintro l n ⟨i, hi, e⟩
  cases e
  refine ifD (fun hlt => ?_) (fun hge => by rw [List.take_of_length_le (by omega)])
  have he := List.getElem?_eq_getElem (show i < cs.length by omega)
  obtain ⟨d, hd⟩ : ∃ d, d = cs[i] := ⟨_, rfl⟩
  rw [← hd] at he
  have hlen := ofTy_len (cs.take i) s
  rw [List.length_take] at hlen
  refine ⟨by omega, hlt, d.name, (d.args.length : Nat), d.ty, rowsS d.vars, encEs d.args, d.tag, krow he, ?_⟩
  rw [zstep (by omega)]
  refine ifD (fun hs => ?_) (fun hs => ?_)
  · have hn : encKs (ofTy (cs.take i) s) ++ [[.str d.name, .int .i64 (d.args.length : Nat), .str d.ty, .sl 1 (rowsS d.vars), .sl 3 (encEs d.args), .int .i64 d.tag]] = encKs (ofTy (cs.take (i + 1)) s) := by
      rw [encKs_take he, if_pos hs, encKs_append]; rfl
    rw [hn, encKs_length]
    simp only [List.length_cons, List.length_nil]
    exact ⟨by omega, by omega, ⟨i + 1, by omega, rfl⟩, by simp only [Int.toNat_natCast]; omega⟩
  · have hn : ofTy (cs.take i) s = ofTy (cs.take (i + 1)) s := by rw [encKs_take he, if_neg hs]
    rw [hn]
    exact ⟨⟨i + 1, by omega, rfl⟩, by simp only [Int.toNat_natCast]; omega⟩
theorem Ctors_spec {cs : List Ct} (hG : GoodX cs) (xa xc : List (List V)) (s : ByteArray) : PCalls ax 14 [.agg [.sl 20 xa, .sl 6 (encKs cs), .sl 5 xc], .str s] fun r => r = [.sl 6 (encKs (ofTy cs s))] := by
  refine Ctors.calls (K := fun r => r = [.sl 6 (encKs (ofTy cs s))]) ?_
  have hl := hG.len
  unfold Ctors.W
  rw [encKs_length]
  refine ⟨fun us => ∃ i : Nat, i ≤ cs.length ∧ us = [.sl 6 (encKs (ofTy (cs.take i) s)), .int .i64 i], fun us => match us with | [_, .int _ i] => cs.length - i.toNat | _ => 0, ⟨0, Nat.zero_le _, rfl⟩, ?_⟩
  rintro l n ⟨i, hi, e⟩
  cases e
  refine ifD (fun hlt => ?_) (fun hge => by rw [List.take_of_length_le (by omega)])
  have he := List.getElem?_eq_getElem (show i < cs.length by omega)
  obtain ⟨d, hd⟩ : ∃ d, d = cs[i] := ⟨_, rfl⟩
  rw [← hd] at he
  have hlen := ofTy_len (cs.take i) s
  rw [List.length_take] at hlen
  refine ⟨by omega, hlt, d.name, (d.args.length : Nat), d.ty, rowsS d.vars, encEs d.args, d.tag, krow he, ?_⟩
  rw [zstep (by omega)]
  refine ifD (fun hs => ?_) (fun hs => ?_)
  · have hn : encKs (ofTy (cs.take i) s) ++ [[.str d.name, .int .i64 (d.args.length : Nat), .str d.ty, .sl 1 (rowsS d.vars), .sl 3 (encEs d.args), .int .i64 d.tag]] = encKs (ofTy (cs.take (i + 1)) s) := by
      rw [encKs_take he, if_pos hs, encKs_append]; rfl
    rw [hn, encKs_length]
    simp only [List.length_cons, List.length_nil]
    exact ⟨by omega, by omega, ⟨i + 1, by omega, rfl⟩, by simp only [Int.toNat_natCast]; omega⟩
  · have hn : ofTy (cs.take i) s = ofTy (cs.take (i + 1)) s := by rw [encKs_take he, if_neg hs]
    rw [hn]
    exact ⟨⟨i + 1, by omega, rfl⟩, by simp only [Int.toNat_natCast]; omega⟩
theorem key_inj {cs : List Ct} (h : (cs.map key).Nodup) : ∀ {a b : Ct}, a ∈ cs → b ∈ cs → key a = key b → a = b := by
  induction cs with
  | nil => intro a b ha; cases ha
  | cons x r ih =>
    rw [List.map_cons, List.nodup_cons] at h
    intro a b ha hb e
    rcases List.mem_cons.1 ha with ea | ha'
    · rcases List.mem_cons.1 hb with eb | hb'
      · rw [ea, eb]
      · exact absurd (List.mem_map.2 ⟨b, hb', by rw [← e, ea]⟩) h.1
    · rcases List.mem_cons.1 hb with eb | hb'
      · exact absurd (List.mem_map.2 ⟨a, ha', by rw [e, eb]⟩) h.1
      · exact ih h.2 ha' hb' e
theorem eqL_key (a b : ByteArray) (m n : Nat) : eqL [.str a, .int .i64 (m : Int)] [.str b, .int .i64 (n : Int)] = decide (a = b ∧ m = n) := by
  have h1 : eqL [V.str a, .int .i64 (m : Int)] [.str b, .int .i64 (n : Int)] = (decide (a = b) && ((m : Int) == (n : Int))) := rfl
  rw [h1]
  by_cases ha : a = b
  · by_cases hm : m = n
    · simp [ha, hm]
    · have : ¬ ((m : Int) = (n : Int)) := by omega
      simp [ha, hm, this]
  · simp [ha]
abbrev muA (n : Nat) : List V → Nat := fun us => match us with | .int _ i :: _ => n - i.toNat | _ => 0
theorem RCtor_spec {cs : List Ct} (hG : GoodX cs) {xa xc : List (List V)} {c : Ct} (hc : c ∈ cs) : PCalls ax 37 [.agg [.sl 20 xa, .sl 6 (encKs cs), .sl 5 xc], .agg [.str c.name, .int .i64 (c.args.length : Nat)]] fun r => r = [.agg (encK c), .bool true] := by
  refine RCtor.calls (K := fun r => r = [.agg (encK c), .bool true]) ?_
  have hl := hG.len
  unfold RCtor.W
  rw [encKs_length]
  refine ⟨fun us => ∃ i : Nat, i ≤ cs.length ∧ us = [.int .i64 i] ∧ c ∉ cs.take i, muA cs.length, ⟨0, Nat.zero_le _, rfl, by simp⟩, ?_⟩
  rintro n ⟨i, hi, e, hn⟩
  cases e
  refine ifD (fun hlt => ?_) (fun hge => ?_)
  · have he := List.getElem?_eq_getElem (show i < cs.length by omega)
    obtain ⟨d, hd⟩ : ∃ d, d = cs[i] := ⟨_, rfl⟩
    rw [← hd] at he
    refine ⟨by omega, hlt, d.name, (d.args.length : Nat), d.ty, rowsS d.vars, encEs d.args, d.tag, krow he, ?_⟩
    rw [eqL_key]
    refine ifD (fun hk => ?_) (fun hk => ?_)
    · have := key_inj hG.keys (List.mem_of_getElem? he) hc (by simp [key, hk.1, hk.2])
      subst this
      rfl
    · rw [zstep (by omega)]
      refine ⟨⟨i + 1, by omega, rfl, ?_⟩, by simp only [muA, Int.toNat_natCast]; omega⟩
      rw [List.take_add_one, he, List.mem_append, not_or]
      refine ⟨hn, fun hh => hk ?_⟩
      have := List.mem_singleton.1 hh
      subst this
      exact ⟨rfl, rfl⟩
  · exact absurd (by rwa [List.take_of_length_le (by omega)] at hn) (not_not_intro hc)
theorem ctorKey_spec (c : Ct) : PCalls ax 61 [.agg (encK c)] fun r => r = [.agg [.str c.name, .int .i64 (c.args.length : Nat)]] := ctorKey.calls rfl
theorem findF_spec (c d : Ct) : SCalls ax 69 [.agg (encK d), .ptr 0 0, .ptr 1 0] [.box [.fn 61 [] []], .box [.str c.name, .int .i64 (c.args.length : Nat)]] fun r o => r = [.bool (decide (d.name = c.name ∧ d.args.length = c.args.length))] ∧ o = [.box [.fn 61 [] []], .box [.str c.name, .int .i64 (c.args.length : Nat)]] := by
  refine findF.calls (K := fun r o => r = [.bool (decide (d.name = c.name ∧ d.args.length = c.args.length))] ∧ o = [.box [.fn 61 [] []], .box [.str c.name, .int .i64 (c.args.length : Nat)]]) ?_
  unfold findF.W
  refine (ctorKey_spec d).mono fun r hr => ⟨_, _, hr, ?_⟩
  rw [eqL_key]
  exact ⟨rfl, rfl⟩
theorem IndexF_spec {cs : List Ct} (hG : GoodX cs) {c : Ct} (hc : c ∈ cs) : SCalls ax 68 [.sl 6 (encKs cs), .fn 69 [] [.ptr 0 0, .ptr 1 0]] [.box [.fn 61 [] []], .box [.str c.name, .int .i64 (c.args.length : Nat)]] fun r o => (∃ i : Nat, cs[i]? = some c ∧ r = [.int .i64 i]) ∧ o = [.box [.fn 61 [] []], .box [.str c.name, .int .i64 (c.args.length : Nat)]] := by
  refine IndexF.calls (K := fun r o => (∃ i : Nat, cs[i]? = some c ∧ r = [.int .i64 i]) ∧ o = [.box [.fn 61 [] []], .box [.str c.name, .int .i64 (c.args.length : Nat)]]) ?_
  have hl := hG.len
  unfold IndexF.W
  rw [encKs_length]
  refine ⟨fun us => ∃ i : Nat, i ≤ cs.length ∧ us = [.int .i64 i, .str c.name, .int .i64 (c.args.length : Nat)] ∧ c ∉ cs.take i, muA cs.length, ⟨0, Nat.zero_le _, rfl, by simp⟩, ?_⟩
  rintro n a b ⟨i, hi, e, hn⟩
  cases e
  refine ifD (fun hlt => ?_) (fun hge => ?_)
  · have he := List.getElem?_eq_getElem (show i < cs.length by omega)
    obtain ⟨d, hd⟩ : ∃ d, d = cs[i] := ⟨_, rfl⟩
    rw [← hd] at he
    refine ⟨by omega, hlt, d.name, (d.args.length : Nat), d.ty, rowsS d.vars, encEs d.args, d.tag, krow he, ?_⟩
    refine (findF_spec c d).mono fun r o ⟨hr, ho⟩ => ⟨_, _, _, hr, ho, ?_⟩
    refine ifD (fun hk => ?_) (fun hk => ?_)
    · have := key_inj hG.keys (List.mem_of_getElem? he) hc (by simp [key, hk.1, hk.2])
      subst this
      exact ⟨⟨i, he, rfl⟩, rfl⟩
    · rw [zstep (by omega)]
      refine ⟨⟨i + 1, by omega, rfl, ?_⟩, by simp only [muA, Int.toNat_natCast]; omega⟩
      rw [List.take_add_one, he, List.mem_append, not_or]
      refine ⟨hn, fun hh => hk ?_⟩
      have := List.mem_singleton.1 hh
      subst this
      exact ⟨rfl, rfl⟩
  · exact absurd (by rwa [List.take_of_length_le (by omega)] at hn) (not_not_intro hc)
theorem find_spec {cs : List Ct} (hG : GoodX cs) {c : Ct} (hc : c ∈ cs) : PCalls ax 60 [.sl 6 (encKs cs), .agg [.str c.name, .int .i64 (c.args.length : Nat)], .fn 61 [] []] fun r => r = [.agg (encK c), .bool true] := by
  refine find.calls (K := fun r => r = [.agg (encK c), .bool true]) ?_
  unfold find.W
  refine (IndexF_spec hG hc).mono fun r o ⟨⟨i, he, hr⟩, ho⟩ => ⟨_, _, _, hr, ho, ?_⟩
  have hi : i < cs.length := (List.getElem?_eq_some_iff.1 he).1
  refine ifD (fun h => by omega) (fun _ => ?_)
  rw [encKs_length]
  exact ⟨by omega, by omega, c.name, (c.args.length : Nat), c.ty, rowsS c.vars, encEs c.args, c.tag, krow he, rfl⟩
theorem Ctor_spec {cs : List Ct} (hG : GoodX cs) {xa xc : List (List V)} {c : Ct} (hc : c ∈ cs) : PCalls ax 34 [.agg [.sl 20 xa, .sl 6 (encKs cs), .sl 5 xc], .agg [.str c.name, .int .i64 (c.args.length : Nat)]] fun r => r = [.agg (encK c), .bool true] :=
  Ctor.calls (K := fun r => r = [.agg (encK c), .bool true]) ((find_spec hG hc).mono fun _ hr => ⟨_, _, _, _, _, _, _, hr, rfl⟩)

/-! ### fields -/
def fldR (c : Ct) (t : Tm) : List V := match fieldsP c t with
  | some fs => [.sl 4 (encs fs), .bool true]
  | none => [.sl 4 [], .bool false]
theorem fldR_no {c : Ct} {k v : Int} {s : ByteArray} {ar : List Tm} (h : ¬ (k = 2 ∧ s = c.ty ∧ ar.length = c.vars.length)) : [V.sl 4 [], .bool false] = fldR c (.mk k s v ar) := by
  rw [fldR, fieldsP, if_neg h]
theorem fldR_yes {c : Ct} {v : Int} {ar : List Tm} (h : ar.length = c.vars.length) : [V.sl 4 (encs (c.args.map (instE (c.vars.zip ar)))), .bool true] = fldR c (.mk 2 c.ty v ar) := by
  rw [fldR, fieldsP, if_pos ⟨rfl, rfl, h⟩]
theorem zip_fst' {α β : Type} : ∀ (a : List α) (b : List β), b.length = a.length → (a.zip b).map (·.1) = a ∧ (a.zip b).map (·.2) = b
  | [], [], _ => ⟨rfl, rfl⟩
  | x :: a, y :: b, h => by
    obtain ⟨h1, h2⟩ := zip_fst' a b (by simpa using h)
    exact ⟨by simp only [List.zip_cons_cons, List.map_cons, h1], by simp only [List.zip_cons_cons, List.map_cons, h2]⟩
theorem mapE_append (a b : List (ByteArray × Tm)) : mapE (a ++ b) = mapE a ++ mapE b := by simp [mapE]
theorem RFields_spec {cs : List Ct} (hG : GoodX cs) {xa xc : List (List V)} {c : Ct} (hc : c ∈ cs) (t : Tm) : PCalls ax 18 [.agg [.sl 20 xa, .sl 6 (encKs cs), .sl 5 xc], .agg [.str c.name, .int .i64 (c.args.length : Nat)], .agg (enc t)] fun r => r = fldR c t := by
  obtain ⟨k, s, v, ar, rfl⟩ := tm_cases t
  obtain ⟨hv, hvl, hal, hw⟩ := hG.each c hc
  rw [wideEs_iff] at hw
  refine RFields.calls (K := fun r => r = fldR c (.mk k s v ar)) ?_
  unfold RFields.W
  refine (RCtor_spec hG hc).mono fun _ hr => ⟨_, _, _, _, _, _, _, hr, ?_⟩
  refine ifN (fun h => by cases h) (fun _ => ifNE (fun h => fldR_no fun hh => h hh.1) (fun hk => ifN (fun h => fldR_no fun hh => by rw [hh.2.1] at h; simp [strEq] at h) (fun hs => ?_)))
  rw [encs_length, rowsS_length, encEs_length]
  refine ifNE (fun h => fldR_no fun hh => h (by rw [hh.2.2])) (fun hl => ?_)
  have hl' : ar.length = c.vars.length := by omega
  have hs' : s = c.ty := by simpa [strEq] using hs
  subst hk hs'
  obtain ⟨z1, z2⟩ := zip_fst' c.vars ar hl'
  have hzl : (c.vars.zip ar).length ≤ 20000 := by rw [List.length_zip]; omega
  refine ⟨fun us => ∃ i : Nat, i ≤ c.args.length ∧ us = [.sl 4 (encs ((c.args.take i).map (instE (c.vars.zip ar)))), .int .i64 i], fun us => match us with | [_, .int _ i] => c.args.length - i.toNat | _ => 0, ⟨0, Nat.zero_le _, rfl⟩, ?_⟩
  rintro l n ⟨i, hi, e⟩
  cases e
  refine ifD (fun hlt => ?_) (fun hge => ?_)
  · have hi' : i < c.args.length := by omega
    obtain ⟨b', s', l', he⟩ := eget hi'
    have hm := List.mem_of_getElem? he
    refine ⟨by omega, hlt, b', s', encEs l', erow he, ?_⟩
    have := RInstance_spec (c.vars.zip ar) hzl (.mk b' s' l') (hw _ hm)
    rw [z1, z2] at this
    refine this.mono fun r hr => ?_
    have hn := instE_take (c.vars.zip ar) he
    obtain ⟨k2, s2, v2, l2, e2⟩ := tm_cases (instE (c.vars.zip ar) (.mk b' s' l'))
    rw [e2] at hr hn
    refine ⟨k2, s2, v2, encs l2, hr, ?_⟩
    replace hn : encs ((c.args.take i).map (instE (c.vars.zip ar))) ++ [[.int .i64 k2, .str s2, .int .i64 v2, .sl 4 (encs l2)]] = encs ((c.args.take (i + 1)).map (instE (c.vars.zip ar))) := hn
    rw [hn, zstep (by omega), encs_length, List.length_map, List.length_take]
    simp only [List.length_cons, List.length_nil]
    exact ⟨by omega, by omega, ⟨i + 1, by omega, rfl⟩, by simp only [Int.toNat_natCast]; omega⟩
  · rw [List.take_of_length_le (by omega)]
    exact fldR_yes hl'
theorem Fields_spec {cs : List Ct} (hG : GoodX cs) {xa xc : List (List V)} {c : Ct} (hc : c ∈ cs) (t : Tm) (ht : thin 20000 t) : PCalls ax 15 [.agg [.sl 20 xa, .sl 6 (encKs cs), .sl 5 xc], .agg [.str c.name, .int .i64 (c.args.length : Nat)], .agg (enc t)] fun r => r = fldR c t := by
  obtain ⟨k, s, v, ar, rfl⟩ := tm_cases t
  obtain ⟨hv, hvl, hal, hw⟩ := hG.each c hc
  rw [wideEs_iff] at hw
  obtain ⟨_, htr⟩ := ht
  rw [thins_iff] at htr
  refine Fields.calls (K := fun r => r = fldR c (.mk k s v ar)) ?_
  unfold Fields.W
  refine (Ctor_spec hG hc).mono fun _ hr => ⟨_, _, _, _, _, _, _, hr, ?_⟩
  refine ifN (fun h => by cases h) (fun _ => ifNE (fun h => fldR_no fun hh => h hh.1) (fun hk => ifN (fun h => fldR_no fun hh => by rw [hh.2.1] at h; simp [strEq] at h) (fun hs => ?_)))
  rw [encs_length, rowsS_length, encEs_length]
  refine ifNE (fun h => fldR_no fun hh => h (by rw [hh.2.2])) (fun hl => ?_)
  have hl' : ar.length = c.vars.length := by omega
  have hs' : s = c.ty := by simpa [strEq] using hs
  subst hk hs'
  obtain ⟨z1, z2⟩ := zip_fst' c.vars ar hl'
  have hzl : (c.vars.zip ar).length = c.vars.length := by rw [List.length_zip]; omega
  obtain ⟨env, henv⟩ : ∃ env, c.vars.zip ar = env := ⟨_, rfl⟩
  have hfin := fldR_yes (v := v) hl'
  rw [henv] at z1 z2 hzl hfin
  refine ⟨fun us => ∃ i : Nat, i ≤ c.vars.length ∧ us = [.int .i64 i, .sl 0 (mapE (env.take i))], muA c.vars.length, ⟨0, Nat.zero_le _, rfl⟩, ?_⟩
  rintro n l ⟨i, hi, e⟩
  cases e
  refine ifD (fun hlt => ?_) (fun hge => ?_)
  · have hi' : i < env.length := by omega
    have he := List.getElem?_eq_getElem hi'
    have h1 : c.vars[i]? = some env[i].1 := by rw [← z1, List.getElem?_map, he]; rfl
    have h2 : ar[i]? = some env[i].2 := by rw [← z2, List.getElem?_map, he]; rfl
    obtain ⟨k', s', v', l', e2⟩ := tm_cases env[i].2
    refine ⟨by omega, hlt, env[i].1, by rw [Int.toNat_natCast]; exact rowS h1, by omega, by omega, k', s', v', encs l', by rw [trow h2, e2]; rfl, ?_⟩
    have hno : env[i].1 ∉ (env.take i).map (·.1) := by
      rw [List.map_take, z1]
      intro hm
      obtain ⟨j, hj, hje⟩ := List.mem_take_iff_getElem.1 hm
      have hji : j < c.vars.length := by omega
      have h1' := (List.getElem?_eq_some_iff.1 h1)
      obtain ⟨hi2, hie⟩ := h1'
      exact List.pairwise_iff_getElem.1 hv j i hji hi2 (by omega) (by rw [hje, hie])
    refine ⟨by rw [look_mapE, lookE_none hno]; rfl, ?_⟩
    rw [zstep (by omega)]
    refine ⟨⟨i + 1, by omega, ?_⟩, by simp only [muA, Int.toNat_natCast]; omega⟩
    rw [List.take_add_one, he, mapE_append]
    have : mapE (some env[i]).toList = [[.str env[i].1, .agg [.int .i64 k', .str s', .int .i64 v', .sl 4 (encs l')]]] := by
      show [[V.str env[i].1, .agg (enc env[i].2)]] = _
      rw [e2]; rfl
    rw [this]
  · rw [List.take_of_length_le (by omega)]
    have hth : ∀ t ∈ env.map (·.2), thin 20000 t := by rw [z2]; exact htr
    refine ⟨fun us => ∃ i : Nat, i ≤ c.args.length ∧ us = [.sl 4 (encs ((c.args.take i).map (instE env))), .int .i64 i, .sl 0 (mapE env)], fun us => match us with | [_, .int _ i, _] => c.args.length - i.toNat | _ => 0, ⟨0, Nat.zero_le _, rfl⟩, ?_⟩
    rintro l n l2 ⟨i, hi, e⟩
    cases e
    refine ifD (fun hlt => ?_) (fun hge => ?_)
    · have hi' : i < c.args.length := by omega
      obtain ⟨b', s', l', he⟩ := eget hi'
      have hm := List.mem_of_getElem? he
      refine ⟨by omega, hlt, b', s', encEs l', erow he, ?_⟩
      refine (Instance_spec env hth (.mk b' s' l') (hw _ hm)).mono fun r o ⟨hr, ho⟩ => ?_
      have hn := instE_take env he
      obtain ⟨k2, s2, v2, l2, e2⟩ := tm_cases (instE env (.mk b' s' l'))
      rw [e2] at hr hn
      refine ⟨k2, s2, v2, encs l2, mapE env, hr, ho, ?_⟩
      replace hn : encs ((c.args.take i).map (instE env)) ++ [[.int .i64 k2, .str s2, .int .i64 v2, .sl 4 (encs l2)]] = encs ((c.args.take (i + 1)).map (instE env)) := hn
      rw [hn, zstep (by omega), encs_length, List.length_map, List.length_take]
      simp only [List.length_cons, List.length_nil]
      exact ⟨by omega, by omega, ⟨i + 1, by omega, rfl⟩, by simp only [Int.toNat_natCast]; omega⟩
    · rw [List.take_of_length_le (by omega)]
      exact hfin
theorem fields_thin {cs : List Ct} (hG : GoodX cs) {c : Ct} (hc : c ∈ cs) {t : Tm} (ht : thin 20000 t) {fs : List Tm} (h : fieldsP c t = some fs) : fs.length = c.args.length ∧ fs.length ≤ 20000 ∧ thins 20000 fs := by
  obtain ⟨k, s, v, ar, rfl⟩ := tm_cases t
  obtain ⟨hv, hvl, hal, hw⟩ := hG.each c hc
  rw [wideEs_iff] at hw
  rw [fieldsP] at h
  split at h
  · rename_i hh
    cases h
    refine ⟨by simp, by simpa using hal, (thins_iff _).2 fun x hx => ?_⟩
    obtain ⟨y, hy, rfl⟩ := List.mem_map.1 hx
    refine thin_inst (fun t ht' => ?_) y (hw y hy)
    rw [(zip_fst' c.vars ar hh.2.2).2] at ht'
    exact (thins_iff _).1 ht.2 t ht'
  · cases h
end Go.Proofs.YtahagnfdpemmaaaDoor.Va
end

/- part Y4F -/
section
namespace Go.Proofs.YtahagnfdpemmaaaDoor.Va
open Go.Vx Go.Av Go.Lx Go.Dr Go.Dm Go.Uni Go.RowKit

theorem less_self : ∀ l : List UInt8, Op.bytesLess l l = false
  | [] => by simp [Op.bytesLess]
  | a :: r => by simp [Op.bytesLess, less_self r]
/-- of data: not too wide, an integer with no name and no arguments, a constructor with no number -/
theorem RCompare_refl : ∀ x : Dd, cleanD 20000 x → PCalls ax 39 [.agg (encX x), .agg (encX x)] fun r => r = [.int .i64 0] := by
  refine Dd.ind fun c n s xs ih => ?_
  rintro ⟨hl, _, _, hxs⟩
  rw [cleanDs_iff] at hxs
  refine RCompare.calls (K := fun r => r = [.int .i64 0]) ?_
  unfold RCompare.W
  refine ⟨fun us => us = [.bool (!c)], ifN (fun h => by rw [h]; rfl) (fun h => by rw [h]), ?_⟩
  rintro b12 e
  cases e
  refine ifN (fun hcf => ?_) (fun hct => ?_)
  · rw [hcf]
    exact ifD (fun h => by omega) (fun _ => ifD (fun h => by omega) (fun _ => rfl))
  have hless := less_self s.toList
  rw [hless]
  refine ⟨fun _ => True, ?_, fun _ => ?_⟩
  · show cond (strEq s s) _ _
    exact ifB (fun _ => ifD (fun h => by omega) (fun _ => trivial)) (fun _ => trivial)
  refine ifN (fun h => ?_) (fun _ => ifD (fun h => by omega) (fun _ => ?_))
  · simp at h
  rw [encXs_length]
  refine ⟨fun us => ∃ i : Nat, i ≤ xs.length ∧ us = [.int .i64 i], muA xs.length, ⟨0, Nat.zero_le _, rfl⟩, ?_⟩
  rintro n27 ⟨i, hi, e⟩
  cases e
  refine ifD (fun hlt => ?_) (fun hge => rfl)
  obtain ⟨c', n', s', l', he⟩ := xget (zs := xs) (i := i) (by omega)
  have hm := List.mem_of_getElem? he
  refine ⟨by omega, hlt, c', n', s', encXs l', xrow he, by omega, hlt, c', n', s', encXs l', xrow he, ?_⟩
  rw [zstep (by omega)]
  refine (ih _ hm (hxs _ hm)).mono fun r hr => ⟨0, hr, ifNE (fun h => absurd rfl h) (fun _ => ?_)⟩
  exact ⟨⟨i + 1, by omega, rfl⟩, by simp only [muA, Int.toNat_natCast]; omega⟩
theorem Same_refl (x : Dd) (hx : cleanD 20000 x) : PCalls ax 19 [.agg (encX x), .agg (encX x)] fun r => r = [.bool true] := by
  obtain ⟨c, n, s, zs, rfl⟩ := dd_cases x
  refine Same.calls (K := fun r => r = [.bool true]) ?_
  unfold Same.W
  exact (RCompare_refl (.mk c n s zs) hx).mono fun r hr => ⟨0, hr, rfl⟩
theorem SameList_refl (xs : List Dd) (hl : xs.length ≤ 20000) (hx : ∀ x ∈ xs, cleanD 20000 x) : PCalls ax 9 [.sl 4 (encXs xs), .sl 4 (encXs xs)] fun r => r = [.bool true] := by
  refine SameList.calls (K := fun r => r = [.bool true]) ?_
  unfold SameList.W
  rw [encXs_length]
  refine ifNE (fun h => absurd rfl h) (fun _ => ⟨fun us => ∃ i : Nat, i ≤ xs.length ∧ us = [.int .i64 i], muA xs.length, ⟨0, Nat.zero_le _, rfl⟩, ?_⟩)
  rintro n27 ⟨i, hi, e⟩
  cases e
  refine ifD (fun hlt => ?_) (fun hge => rfl)
  obtain ⟨c', n', s', l', he⟩ := xget (zs := xs) (i := i) (by omega)
  have hm := List.mem_of_getElem? he
  refine ⟨by omega, hlt, c', n', s', encXs l', xrow he, by omega, hlt, c', n', s', encXs l', xrow he, ?_⟩
  rw [zstep (by omega)]
  refine (Same_refl _ (hx _ hm)).mono fun r hr => ⟨true, hr, ifN (fun h => by cases h) (fun _ => ?_)⟩
  exact ⟨⟨i + 1, by omega, rfl⟩, by simp only [muA, Int.toNat_natCast]; omega⟩

theorem cmpI_spec (a b : Int) : PCalls ax 20 [.int .i64 a, .int .i64 b] fun r => ∃ n : Int, r = [.int .i64 n] ∧ (n = 0 → a = b) := by
  refine cmpI.calls (K := fun r => ∃ n : Int, r = [.int .i64 n] ∧ (n = 0 → a = b)) ?_
  unfold cmpI.W
  have hn : ∀ x : Int, PCalls ax 40 [.int .i64 x] fun r => r = [.bool false] := fun x => (nanI.calls (K := fun r => r = [.bool (x != x)]) rfl).mono fun r hr => by rw [hr]; simp
  refine (hn a).mono fun r hr => ⟨false, hr, (hn b).mono fun r hr => ⟨false, hr, ?_⟩⟩
  exact ifD (fun _ => ⟨_, rfl, fun h => by omega⟩) (fun h1 => ifD (fun _ => ⟨_, rfl, fun h => by omega⟩) (fun h2 => ⟨_, rfl, fun _ => by omega⟩))
theorem cmpS_spec (a b : ByteArray) : PCalls ax 22 [.str a, .str b] fun r => ∃ n : Int, r = [.int .i64 n] ∧ (n = 0 → a = b) := by
  refine cmpS.calls (K := fun r => ∃ n : Int, r = [.int .i64 n] ∧ (n = 0 → a = b)) ?_
  unfold cmpS.W
  have hn : ∀ x : ByteArray, PCalls ax 41 [.str x] fun r => r = [.bool false] := fun x => (nanS.calls (K := fun r => r = [.bool (!(strEq x x))]) rfl).mono fun r hr => by rw [hr]; simp [strEq]
  refine (hn a).mono fun r hr => ⟨false, hr, (hn b).mono fun r hr => ⟨false, hr, ?_⟩⟩
  show cond (Op.bytesLess a.toList b.toList) _ _
  refine ifB (fun _ => ⟨_, rfl, fun h => by omega⟩) (fun h1 => ifN (fun h2 => ⟨_, rfl, fun h => by omega⟩) (fun h2 => ⟨_, rfl, fun _ => ?_⟩))
  rw [h1, Bool.false_or, strEq_list] at h2
  simpa [strEq] using h2
theorem cmpO_spec (a b : Int) : PCalls ax 21 [.sl 1 [[.int .i64 a], [.int .i64 b]]] fun r => ∃ n : Int, r = [.int .i64 n] ∧ (n = 0 → a = 0 ∧ b = 0) := by
  refine cmpO.calls (K := fun r => ∃ n : Int, r = [.int .i64 n] ∧ (n = 0 → a = 0 ∧ b = 0)) ?_
  unfold cmpO.W
  refine ⟨fun us => ∃ i : Nat, i ≤ 2 ∧ us = [.int .i64 i] ∧ (1 ≤ i → a = 0) ∧ (2 ≤ i → b = 0), muA 2, ⟨0, by omega, rfl, fun h => by omega, fun h => by omega⟩, ?_⟩
  rintro n ⟨i, hi, e, h1, h2⟩
  cases e
  refine ifD (fun hlt => ?_) (fun hge => ⟨0, rfl, fun _ => ?_⟩)
  · simp only [List.length_cons, List.length_nil] at hlt
    refine ⟨by omega, by simpa using hlt, ?_⟩
    rw [zstep (by omega)]
    match i, hi, hlt, h1, h2 with
    | 0, _, _, _, _ =>
      refine ⟨a, rfl, ifNE (fun h => ⟨_, rfl, fun h' => absurd h' h⟩) (fun h => ?_)⟩
      exact ⟨⟨1, by omega, rfl, fun _ => h, fun h => by omega⟩, by simp [muA]⟩
    | 1, _, _, h1, _ =>
      refine ⟨b, rfl, ifNE (fun h => ⟨_, rfl, fun h' => absurd h' h⟩) (fun h => ?_)⟩
      exact ⟨⟨2, by omega, rfl, fun _ => h1 (by omega), fun _ => h⟩, by simp [muA]⟩
    | n + 2, _, hlt, _, _ => omega
  · simp only [List.length_cons, List.length_nil] at hge
    exact ⟨h1 (by omega), h2 (by omega)⟩
/-- no two data compare as the same -/
theorem Compare_spec : ∀ x y : Dd, cleanD 20000 x → cleanD 20000 y → PCalls ax 10 [.agg (encX x), .agg (encX y)] fun r => ∃ n : Int, r = [.int .i64 n] ∧ (n = 0 → x = y) := by
  refine Dd.ind fun c n s xs ih => ?_
  rintro ⟨c2, n2, s2, ys⟩ ⟨hl, h1, h2, hxs⟩ ⟨hl2, h12, h22, hys⟩
  rw [cleanDs_iff] at hxs hys
  refine Compare.calls (K := fun r => ∃ m : Int, r = [.int .i64 m] ∧ (m = 0 → Dd.mk c n s xs = .mk c2 n2 s2 ys)) ?_
  unfold Compare.W
  refine ⟨fun us => us = [.bool (!c && !c2)], ifN (fun h => by rw [h]; rfl) (fun h => by rw [h]; rfl), ?_⟩
  rintro b e
  cases e
  refine ifB (fun hb => ?_) (fun hb => ?_)
  · have hc : c = false := by cases c with | true => cases hb | false => rfl
    have hc2 : c2 = false := by cases c2 with | true => rw [hc] at hb; cases hb | false => rfl
    refine (cmpI_spec n n2).mono fun r ⟨m, hr, hm⟩ => ⟨m, hr, m, rfl, fun h0 => ?_⟩
    obtain ⟨rfl, rfl⟩ := h2 hc
    obtain ⟨rfl, rfl⟩ := h22 hc2
    rw [hc, hc2, hm h0]
  refine ifN (fun _ => ⟨_, rfl, fun h => by omega⟩) (fun hc => ifN (fun _ => ⟨_, rfl, fun h => by omega⟩) (fun hc2 => ?_))
  refine (cmpS_spec s s2).mono fun r ⟨m1, hr, hm1⟩ => ⟨m1, hr, ?_⟩
  rw [encXs_length, encXs_length]
  refine (cmpI_spec _ _).mono fun r ⟨m2, hr, hm2⟩ => ⟨m2, hr, ?_⟩
  refine (cmpO_spec m1 m2).mono fun r ⟨m3, hr, hm3⟩ => ⟨m3, hr, ifNE (fun h => ⟨_, rfl, fun h' => absurd h' h⟩) (fun h0 => ?_)⟩
  obtain ⟨e1, e2⟩ := hm3 h0
  obtain rfl := hm1 e1
  have hlen : xs.length = ys.length := by have := hm2 e2; omega
  refine ⟨fun us => ∃ i : Nat, i ≤ xs.length ∧ us = [.int .i64 i] ∧ xs.take i = ys.take i, muA xs.length, ⟨0, Nat.zero_le _, rfl, by simp⟩, ?_⟩
  rintro k ⟨i, hi, e, hp⟩
  cases e
  refine ifD (fun hlt => ?_) (fun hge => ⟨0, rfl, fun _ => ?_⟩)
  · obtain ⟨c', n', s', l', he⟩ := xget (zs := xs) (i := i) (by omega)
    obtain ⟨c'', n'', s'', l'', he'⟩ := xget (zs := ys) (i := i) (by omega)
    have hm := List.mem_of_getElem? he
    refine ⟨by omega, hlt, c', n', s', encXs l', xrow he, by omega, by omega, c'', n'', s'', encXs l'', xrow he', ?_⟩
    refine (ih _ hm _ (hxs _ hm) (hys _ (List.mem_of_getElem? he'))).mono fun r ⟨m4, hr, hm4⟩ => ⟨m4, hr, ifNE (fun h => ⟨_, rfl, fun h' => absurd h' h⟩) (fun h4 => ?_)⟩
    rw [zstep (by omega)]
    refine ⟨⟨i + 1, by omega, rfl, ?_⟩, by simp only [muA, Int.toNat_natCast]; omega⟩
    rw [List.take_add_one, List.take_add_one, hp, he, he', hm4 h4]
  · have hx : xs = ys := by rwa [List.take_of_length_le (by omega), List.take_of_length_le (by omega)] at hp
    rw [hc, hc2, h1 hc, h12 hc2, hx]

/-! ### what a type weighs -/
theorem sizes_snoc (zs : List Tm) (t : Tm) : sizes (zs ++ [t]) = sizes zs + size t := by
  induction zs with
  | nil => simp [sizes]
  | cons a r ih => simp only [List.cons_append, sizes, ih]; omega
theorem heavy_spec : ∀ t : Tm, size t ≤ 1099511627776 → PCalls ax 6 [.agg (enc t)] fun r => r = [.int .i64 (size t : Nat)] := by
  refine Tm.ind fun k s v zs ih => ?_
  intro hs
  refine heavy.calls (K := fun r => r = [.int .i64 (size (.mk k s v zs) : Nat)]) ?_
  simp only [size] at hs ⊢
  have hls := length_sizes zs
  unfold heavy.W
  rw [encs_length]
  refine ⟨fun us => ∃ i : Nat, i ≤ zs.length ∧ us = [.int .i64 (1 + sizes (zs.take i) : Nat), .int .i64 i], fun us => match us with | [_, .int _ i] => zs.length - i.toNat | _ => 0, ⟨0, Nat.zero_le _, by simp [sizes]⟩, ?_⟩
  rintro n m ⟨i, hi, e⟩
  cases e
  refine ifD (fun hlt => ?_) (fun hge => by rw [List.take_of_length_le (by omega)])
  obtain ⟨k', s', v', l', he⟩ := tget (zs := zs) (i := i) (by omega)
  have hm := List.mem_of_getElem? he
  have hz := size_mem hm
  refine ⟨by omega, hlt, k', s', v', encs l', trow he, ?_⟩
  refine (ih _ hm (by omega)).mono fun r hr => ⟨_, hr, ?_⟩
  have h1 : sizes (zs.take (i + 1)) = sizes (zs.take i) + size (.mk k' s' v' l') := by
    rw [List.take_add_one, he]; exact sizes_snoc _ _
  have h2 := sizes_take (zs := zs) (i := i + 1)
  rw [zstep (by omega), w64 (by omega) (by omega)]
  refine ⟨⟨i + 1, by omega, ?_⟩, by simp only [Int.toNat_natCast]; omega⟩
  rw [h1]
  congr 2
  push_cast; omega
theorem thin_size {n : Nat} : ∀ t : Tm, size t ≤ n → thin n t := by
  refine Tm.ind fun k s v zs ih => ?_
  intro h
  simp only [size] at h
  have := length_sizes zs
  refine ⟨by omega, (thins_iff _).2 fun x hx => ih x hx ?_⟩
  have := size_mem hx
  omega
end Go.Proofs.YtahagnfdpemmaaaDoor.Va
end

/- part Y4G -/
section
namespace Go.Proofs.YtahagnfdpemmaaaDoor.Va
open Go.Vx Go.Av Go.Lx Go.Dr Go.Dm Go.Uni Go.RowKit

abbrev muB (n : Nat) : List V → Nat := fun us => match us with | [_, .int _ i] => n - i.toNat | _ => 0
theorem cget {cs : List Ct} {i : Nat} (h : i < cs.length) : ∃ c, cs[i]? = some c := ⟨_, List.getElem?_eq_getElem h⟩
set_option maxRecDepth 20000 in
theorem RDomain_spec {cs : List Ct} (hG : GoodX cs) (xa xc : List (List V)) : ∀ (n : Nat) (d : Int) (t : Tm), depN d = n → thin 20000 t → PCalls ax 8 [.agg [.sl 20 xa, .sl 6 (encKs cs), .sl 5 xc], .agg (enc t), .int .i64 d] fun r => r = [.sl 4 (encXs (dom cs n t))] := by
  intro n
  induction n using Nat.strongRecOn with
  | _ n ih =>
  rintro d ⟨k, s, v, ar⟩ hd ht
  refine RDomain.calls (K := fun r => r = [.sl 4 (encXs (dom cs n (.mk k s v ar)))]) ?_
  unfold RDomain.W
  refine ifE (fun h => by subst h; rw [dom_int]; rfl) (fun h1 => ifE (fun h => by rw [dom_one cs n s v ar (.inl h)]; rfl) (fun h3 => ifE (fun h => by rw [dom_one cs n s v ar (.inr h)]; rfl) (fun h4 => ?_)))
  have h34 : ¬ (k = 3 ∨ k = 4) := fun h => h.elim h3 h4
  refine ifD (fun h => ?_) (fun hd1 => ifD (fun h => ?_) (fun hd4 => ?_))
  · rw [← hd, depN_out (by omega), dom_zero cs s v ar h1 h34]; rfl
  · rw [← hd, depN_out (by omega), dom_zero cs s v ar h1 h34]; rfl
  have hdn := depN_pred (d := d) (by omega) (by omega)
  rw [hd] at hdn
  obtain ⟨m, hm⟩ : ∃ m, depN (d - 1) = m := ⟨_, rfl⟩
  rw [hm] at hdn
  subst hdn
  have ihm := ih m (by omega) (d - 1)
  clear ih
  rw [dom_succ cs m s v ar h1 h34, w64 (by omega) (by omega)]
  obtain ⟨f, hf⟩ : ∃ f, dom cs m = f := ⟨_, rfl⟩
  have hfl : ∀ t, (f t).length ≤ 300 := fun t => by rw [← hf]; exact dom_len cs m t
  rw [hf]
  refine (RCtors_spec hG xa xc s).mono fun r hr => ⟨_, hr, ?_⟩
  have hcl := hG.len
  have hol := ofTy_len cs s
  have hom : ∀ c ∈ ofTy cs s, c ∈ cs := fun c hc => (ofTy_mem hc).1
  generalize ofTy cs s = os at hol hom ⊢
  obtain ⟨g, hg⟩ : ∃ g, rowsOf' f (.mk k s v ar) = g := ⟨_, rfl⟩
  rw [hg, encKs_length]
  refine ⟨fun us => ∃ i : Nat, i ≤ os.length ∧ us = [.sl 4 (encXs (((os.take i).flatMap g).take 300)), .int .i64 i], muB os.length, ⟨0, Nat.zero_le _, rfl⟩, ?_⟩
  rintro l1 n1 ⟨i, hi, e⟩
  cases e
  refine ifD (fun hlt => ?_) (fun hge => by rw [List.take_of_length_le (l := os) (by omega)])
  obtain ⟨c, hc⟩ := cget (cs := os) (i := i) (by omega)
  have hcm := hom c (List.mem_of_getElem? hc)
  refine ⟨by omega, hlt, c.name, (c.args.length : Nat), c.ty, rowsS c.vars, encEs c.args, c.tag, krow hc, ?_⟩
  have hF := RFields_spec (xa := xa) (xc := xc) hG hcm (.mk k s v ar)
  have hgc : g c = rowsOf' f (.mk k s v ar) c := by rw [← hg]
  have hth : ∀ fs, fieldsP c (.mk k s v ar) = some fs → fs.length = c.args.length ∧ fs.length ≤ 20000 ∧ thins 20000 fs := fun fs h => fields_thin hG hcm ht h
  unfold fldR at hF
  unfold rowsOf' at hgc
  have hnext := flat_snoc g hc
  cases hfs : fieldsP c (.mk k s v ar) with
  | none =>
    rw [hfs] at hF hgc
    refine hF.mono fun r hr => ⟨_, _, hr, ifN (fun _ => ?_) (fun h => by cases h)⟩
    rw [zstep (by omega)]
    refine ⟨⟨i + 1, by omega, ?_⟩, by simp only [muB, Int.toNat_natCast]; omega⟩
    rw [hnext, hgc, List.append_nil]
  | some fs =>
    rw [hfs] at hF hgc
    obtain ⟨_, hfl2, hths⟩ := hth fs hfs
    clear hth hfs
    simp only at hgc
    refine hF.mono fun r hr => ⟨encs fs, true, hr, ifN (fun h => by cases h) (fun _ => ?_)⟩
    clear hr
    rw [encs_length]
    refine ⟨fun us => ∃ j : Nat, j ≤ fs.length ∧ us = [.sl 1 (encW (prodT ((fs.take j).map f))), .int .i64 j], muB fs.length, ⟨0, Nat.zero_le _, rfl⟩, ?_⟩
    rintro l2 n2 ⟨j, hj, e⟩
    cases e
    obtain ⟨R, hR⟩ : ∃ R, prodT ((fs.take j).map f) = R := ⟨_, rfl⟩
    have hRl : R.length ≤ 300 := by rw [← hR]; exact prodT_len _
    have hRr : ∀ r ∈ R, r.length ≤ 20000 := fun r hr => by
      rw [← hR] at hr
      have := prodT_row hr
      rw [List.length_map, List.length_take] at this
      omega
    rw [hR]
    refine ifD (fun hlt2 => ?_) (fun hge2 => ?_)
    · obtain ⟨k', s', v', l', he⟩ := tget (zs := fs) (i := j) (by omega)
      have htj := (thins_iff _).1 hths _ (List.mem_of_getElem? he)
      refine ⟨by omega, hlt2, k', s', v', encs l', trow he, ?_⟩
      obtain ⟨L, hL⟩ : ∃ L, f (.mk k' s' v' l') = L := ⟨_, rfl⟩
      have hcall := ihm (.mk k' s' v' l') hm htj
      rw [hf, hL] at hcall
      refine hcall.mono fun r hr => ⟨_, hr, ?_⟩
      clear hr hcall
      have hLl : L.length ≤ 300 := by rw [← hL]; exact hfl _
      have hsn : prodT ((fs.take (j + 1)).map f) = (R.flatMap fun r => L.map fun d => r ++ [d]).take 300 := by rw [map_snoc f he, prodT_snoc, hR, hL]
      rw [encW_length]
      refine ⟨fun us => ∃ q : Nat, q ≤ R.length ∧ us = [.sl 1 (encW (((R.take q).flatMap fun r => L.map fun d => r ++ [d]).take 300)), .int .i64 q], muB R.length, ⟨0, Nat.zero_le _, rfl⟩, ?_⟩
      rintro l3 n3 ⟨q, hq, e⟩
      cases e
      refine ifD (fun hlt3 => ?_) (fun hge3 => ?_)
      · obtain ⟨row, hrow⟩ : ∃ row, R[q]? = some row := ⟨_, List.getElem?_eq_getElem (by omega)⟩
        have hrl := hRr row (List.mem_of_getElem? hrow)
        refine ⟨by omega, hlt3, encXs row, wrow hrow, ?_⟩
        have hfs2 := flat_snoc (fun r => L.map fun d => r ++ [d]) hrow
        generalize (R.take q).flatMap (fun r => L.map fun d => r ++ [d]) = A at hfs2 ⊢
        rw [encXs_length, encXs_length]
        refine ⟨fun us => ∃ p : Nat, p ≤ L.length ∧ us = [.sl 1 (encW ((A ++ (L.take p).map fun d => row ++ [d]).take 300)), .int .i64 p], muB L.length, ⟨0, Nat.zero_le _, by simp⟩, ?_⟩
        rintro l4 n4 ⟨p, hp, e⟩
        cases e
        refine ifD (fun hlt4 => ?_) (fun hge4 => ?_)
        · obtain ⟨c', n', s'', z', hx⟩ := xget (zs := L) (i := p) (by omega)
          refine ⟨by omega, hlt4, c', n', s'', encXs z', xrow hx, ?_⟩
          have hcap := cap_snoc (A ++ (L.take p).map fun d => row ++ [d]) (row ++ [.mk c' n' s'' z'])
          rw [List.append_assoc, ← map_snoc (fun d => row ++ [d]) hx] at hcap
          rw [zstep (by omega)]
          have hTl : ((A ++ (L.take p).map fun d => row ++ [d]).take 300).length ≤ 300 := List.length_take_le _ _
          generalize (A ++ (L.take p).map fun d => row ++ [d]).take 300 = T at hcap hTl ⊢
          rw [encW_length]
          refine ifD (fun h300 => ?_) (fun h300 => ?_)
          · rw [if_pos (show T.length < 300 by omega)] at hcap
            have hn : encW T ++ [[.sl 4 (encXs row ++ [[.bool c', .int .i64 n', .str s'', .sl 4 (encXs z')]])]] = encW ((A ++ (L.take (p + 1)).map fun d => row ++ [d]).take 300) := by
              rw [hcap, encW_append, encW, encW]
              simp only [List.map_cons, List.map_nil, encXs_append]; rfl
            rw [hn]
            simp only [List.length_cons, List.length_nil]
            refine ⟨⟨?_, ?_⟩, ?_⟩ <;> exact ⟨by omega, by omega, by omega, by omega, by omega, by omega, ⟨p + 1, by omega, rfl⟩, by simp only [muB, Int.toNat_natCast]; omega⟩
          · rw [if_neg (show ¬ T.length < 300 by omega)] at hcap
            exact ⟨⟨p + 1, by omega, by rw [hcap]⟩, by simp only [muB, Int.toNat_natCast]; omega⟩
        · rw [List.take_of_length_le (l := L) (by omega), zstep (by omega), ← hfs2]
          exact ⟨⟨q + 1, by omega, rfl⟩, by simp only [muB, Int.toNat_natCast]; omega⟩
      · rw [List.take_of_length_le (l := R) (by omega), ← hsn, zstep (by omega)]
        exact ⟨⟨j + 1, by omega, rfl⟩, by simp only [muB, Int.toNat_natCast]; omega⟩
    · rw [List.take_of_length_le (l := fs) (by omega), prodT_eq] at hR
      have hg2 : g c = (prodR (fs.map f)).map (mkD c) := hgc
      have hlast : (((os.take i).flatMap g).take 300 ++ R.map (mkD c)).take 300 = ((os.take (i + 1)).flatMap g).take 300 := by
        rw [hnext, hg2, ← hR, List.map_take, cap_append, cap_left]
      generalize ((os.take i).flatMap g) = A at hlast ⊢
      rw [encW_length]
      refine ⟨fun us => ∃ q : Nat, q ≤ R.length ∧ us = [.sl 4 (encXs ((A.take 300 ++ (R.take q).map (mkD c)).take 300)), .int .i64 q], muB R.length, ⟨0, Nat.zero_le _, by simp [List.take_take]⟩, ?_⟩
      rintro l3 n3 ⟨q, hq, e⟩
      cases e
      refine ifD (fun hlt3 => ?_) (fun hge3 => ?_)
      · obtain ⟨row, hrow⟩ : ∃ row, R[q]? = some row := ⟨_, List.getElem?_eq_getElem (by omega)⟩
        refine ⟨by omega, hlt3, encXs row, wrow hrow, ?_⟩
        have hcap := cap_snoc (A.take 300 ++ (R.take q).map (mkD c)) (mkD c row)
        rw [List.append_assoc, ← map_snoc (mkD c) hrow] at hcap
        have hTl : ((A.take 300 ++ (R.take q).map (mkD c)).take 300).length ≤ 300 := List.length_take_le _ _
        generalize (A.take 300 ++ (R.take q).map (mkD c)).take 300 = T at hcap hTl ⊢
        rw [zstep (by omega), encXs_length]
        refine ifD (fun h300 => ?_) (fun h300 => ?_)
        · rw [if_pos (show T.length < 300 by omega)] at hcap
          have hn : encXs T ++ [[.bool true, .int .i64 0, .str c.name, .sl 4 (encXs row)]] = encXs ((A.take 300 ++ (R.take (q + 1)).map (mkD c)).take 300) := by
            rw [hcap, encXs_append]; rfl
          rw [hn]
          simp only [List.length_cons, List.length_nil]
          exact ⟨by omega, by omega, ⟨q + 1, by omega, rfl⟩, by simp only [muB, Int.toNat_natCast]; omega⟩
        · rw [if_neg (show ¬ T.length < 300 by omega)] at hcap
          exact ⟨⟨q + 1, by omega, by rw [hcap]⟩, by simp only [muB, Int.toNat_natCast]; omega⟩
      · rw [List.take_of_length_le (l := R) (by omega), hlast, zstep (by omega)]
        exact ⟨⟨i + 1, by omega, rfl⟩, by simp only [muB, Int.toNat_natCast]; omega⟩
end Go.Proofs.YtahagnfdpemmaaaDoor.Va
end

/- part Y4H -/
section
namespace Go.Proofs.YtahagnfdpemmaaaDoor.Va
open Go.Vx Go.Av Go.Lx Go.Dr Go.Dm Go.Uni Go.RowKit

theorem body7 : Tryd.f7.body.getD .skip = .seq dA.c (.scope (.seq dB.c (.seq dC.c (.seq dD.c (.seq (.label 0) (.seq (.seq dE.c (.block 1 (.loop (.seq dF.c (.seq (.cond (.tmp 38) .skip (.exit 1)) (.seq (.block 2 (.seq dG.c (.seq dH.c (.seq dI.c (.seq dJ.c (.block 3 (.rangeFunc (.tmp 55) #[56] dK.c (.block 4 dL.c)))))))) dM.c)))))) dN.c)))))) := by kernel_rfl
theorem n7 : Tryd.f7.ntmps = 72 := by kernel_rfl
theorem res7 : Tryd.f7.results.toList = [.tmp 6] := by kernel_rfl
abbrev KX (ex0 : Exit) (vs0 : List V) (σ' : Store) : Exit → List V → Store → Prop := fun ex vs σ => ex = ex0 ∧ vs = vs0 ∧ σ = σ'
abbrev DX (xa xb xc : List (List V)) : List V := [.sl 20 xa, .sl 6 xb, .sl 5 xc]
abbrev DT (k : Int) (s : ByteArray) (v : Int) (ar : List (List V)) : List V := [.int .i64 k, .str s, .int .i64 v, .sl 4 ar]
abbrev DC (cn : ByteArray) (ca : Int) (ct : ByteArray) (cv cx : List (List V)) (cg : Int) : List V := [.str cn, .int .i64 ca, .str ct, .sl 1 cv, .sl 3 cx, .int .i64 cg]
abbrev τ4 (x t : List V) (out : List (List V)) : Store := [⟨0, .box x⟩, ⟨0, .box t⟩, ⟨0, .box [.own 3]⟩, ⟨0, .lst 39 4 false out⟩]
abbrev τ5 (x t : List V) (out : List (List V)) (u : Nat) (c : List V) : Store := [⟨0, .box x⟩, ⟨0, .box t⟩, ⟨0, .box [.own 3]⟩, ⟨0, .lst 39 4 false out⟩, ⟨u, .box c⟩]
abbrev τ8 (x t : List V) (out : List (List V)) (c : List V) (fs : List (List V)) (dd : Int) : Store := [⟨0, .box x⟩, ⟨0, .box t⟩, ⟨0, .box [.own 3]⟩, ⟨0, .lst 39 4 false out⟩, ⟨0, .box c⟩, ⟨0, .box [.sl 4 fs]⟩, ⟨0, .box x⟩, ⟨0, .box [.int .i64 dd]⟩]
abbrev τA (x t : List V) (out : List (List V)) (c : List V) (fs : List (List V)) (dd : Int) (l0 : List (List V)) : Store := [⟨0, .box x⟩, ⟨0, .box t⟩, ⟨1, .box [.own 9]⟩, ⟨1, .dead⟩, ⟨0, .box c⟩, ⟨0, .box [.sl 4 fs]⟩, ⟨0, .box x⟩, ⟨0, .box [.int .i64 dd]⟩, ⟨0, .lst 39 4 false l0⟩, ⟨1, .lst 39 4 false out⟩]
theorem cap_full {α : Type} (a b : List α) (h : (a.take 300).length = 300) : (a ++ b).take 300 = a.take 300 := by
  rw [List.length_take] at h
  rw [List.take_append_of_le_length (by omega)]

section
variable {G : Nat → Value} {w0 wL w w' : World} {F0 FL : Nat → Nat → Prop} {β0 βL : Nat → Value} {ds : List Deferred} {a : Act}
abbrev C0 (w0 : World) (F0 : Nat → Nat → Prop) (β0 : Nat → Value) : Beside := CB w0 F0 β0 w0 (fun _ _ => False) β0 []
theorem C0.of {F : Nat → Nat → Prop} {β : Nat → Value} {σ : Store} (h : Step w0 F0 β0 [] w F β σ) : C0 w0 F0 β0 w F β σ := ⟨h, fun _ _ h => h.elim, fun i hi => by cases hi⟩
/-- a call's end -/
theorem dom_fin {e : AEnv} {σ σ' : Store} {u : V} {R : List (List V)} {K : List V → Prop} (h : StC ax G (C0 w0 F0 β0) ds Tryd.f7.ntmps e σ a w) (he : e 6 = u) (hco : co σ (.sl 4) u = some (.sl 4 R, σ')) (hM : Marks w0.heap.size ds w) (hK : K [.sl 4 R]) :
    (Exit.ret = .normal ∨ Exit.ret = .ret) ∧ ∃ ds e' σ', Marks w0.heap.size ds w ∧ St ax G w0 F0 β0 [] ds Tryd.f7.ntmps e' σ' a w ∧ aresL ax e' σ' Tryd.f7.results.toList fun vs => (∀ u ∈ vs, idsV u = []) ∧ K vs := by
  obtain ⟨ρ, F, β, h1, h2, h3, h4⟩ := h
  have h6 := h2 6
  rw [he] at h6
  obtain ⟨F', k1, k2, k3, k4⟩ := co_run h3 hco h6
  refine ⟨.inr rfl, ds, fun t => if t = 6 then .sl 4 R else .junk, σ', hM, ⟨ρ, F', β, h1, fun t => ?_, k1, (CB.shut h4 h3 k2).1⟩, ?_⟩
  · by_cases ht : t = 6
    · subst ht
      show RV ax.gs G w F' β σ' (if (6 : Nat) = 6 then .sl 4 R else .junk) (ρ 6)
      rw [if_pos rfl]; exact .fz _ _ k3
    · show RV ax.gs G w F' β σ' (if t = 6 then .sl 4 R else .junk) (ρ t)
      rw [if_neg ht]; exact .junk _
  · rw [res7]
    exact ⟨fun u hu => by rw [List.mem_singleton.1 hu]; rfl, hK⟩
end
end Go.Proofs.YtahagnfdpemmaaaDoor.Va
end

/- part Y4I -/
section
namespace Go.Proofs.YtahagnfdpemmaaaDoor.Va
open Go.Vx Go.Av Go.Lx Go.Dr Go.Dm Go.Uni Go.RowKit

theorem marks_lt {n0 : Nat} {ds : List Deferred} {w : World} (h : Marks n0 ds w) : ∀ Ds : List Nat, ds = Ds.map (fun D => { target := .collected D, args := #[] }) → ∀ D ∈ Ds, D < w.heap.size := by
  obtain ⟨Ds', e, _, h3⟩ := h
  intro Ds e2 D hD
  have h1 : ({ target := .collected D, args := #[] } : Deferred) ∈ Ds'.map (fun D => ({ target := .collected D, args := #[] } : Deferred)) := by
    rw [← e, e2]; exact List.mem_map.2 ⟨D, hD, rfl⟩
  obtain ⟨D', h4, h5⟩ := List.mem_map.1 h1
  have : D' = D := by injection h5 with h6; injection h6
  subst this
  exact (Array.getElem?_eq_some_iff.1 (h3 D' h4).2).1
theorem set_last {α : Type} (l : List α) (a b : α) : (l ++ [a]).set l.length b = l ++ [b] := by
  induction l with
  | nil => rfl
  | cons x l ih => simp [ih]
theorem noHas {β : Nat → Value} {j b : Nat} : ¬ Has β j (getO ([] : Store) j) b := fun h => no_has_dead h
def ffA : Nat → Option Nat := fun i => match i with
  | 0 => some 0 | 1 => some 1 | 2 => some 2 | 4 => some 4 | 5 => some 5 | 6 => some 6 | 7 => some 7 | 9 => some 3 | _ => none
def ggA (i : Nat) : Nat := if i = 3 then 9 else i

section
variable {G : Nat → Value} {w0 w : World} {F0 : Nat → Nat → Prop} {β0 : Nat → Value} {ds : List Deferred} {a : Act}
set_option maxHeartbeats 1000000 in
theorem dom_range (hE : ErrOk ax.P ax.gs ax.ift ax.tabs G) {xa xb xc : List (List V)} {k v d m i dd : Int} {s : ByteArray} {ar L : List (List V)} {c : Ct} {A : List Dd} {fs : List Tm} {f : Tm → List Dd}
    (hIt : ∀ (Z : Nat → Nat → Prop) (b0 b1 b2 : Nat), Iter2 Fence.wide ax.P 36 #[ptrV b0, ptrV b1, ptrV b2] (prodR (fs.map f)).length (rowE G Z b0 b1 b2 (prodR (fs.map f))) (rowPre G Z b0 b1 b2 xa xb xc fs dd))
    (hs : StC ax G (C0 w0 F0 β0) ds Tryd.f7.ntmps (envL [(2, .int .i64 d), (3, .ptr 0 0), (4, .ptr 1 0), (7, .ptr 2 0), (35, .sl 6 L), (36, .int .i64 m), (37, .int .i64 i), (9, .ptr 4 0), (55, .fn 36 [] [.ptr 5 0, .ptr 6 0, .ptr 7 0])]) (τ8 (DX xa xb xc) (DT k s v ar) (encXs (A.take 300)) (DC c.name (c.args.length : Nat) c.ty (rowsS c.vars) (encEs c.args) c.tag) (encs fs) dd) a w)
    (hM : Marks w0.heap.size ds w) {Q : Exit → Act → World → Prop}
    (hn : ∀ a' w' ds', StC ax G (C0 w0 F0 β0) ds' Tryd.f7.ntmps (envL [(2, .int .i64 d), (3, .ptr 0 0), (4, .ptr 1 0), (7, .ptr 2 0), (35, .sl 6 L), (36, .int .i64 m), (37, .int .i64 i)]) (τ4 (DX xa xb xc) (DT k s v ar) (encXs ((A ++ (prodR (fs.map f)).map (mkD c)).take 300))) a' w' → Marks w0.heap.size ds' w' → Q .normal a' w')
    (hx : ((A ++ (prodR (fs.map f)).map (mkD c)).take 300).length = 300 → ∀ a' w' ds', StC ax G (C0 w0 F0 β0) ds' Tryd.f7.ntmps (envL [(2, .int .i64 d), (3, .ptr 0 0), (4, .ptr 1 0), (7, .ptr 2 0), (35, .sl 6 L), (36, .int .i64 m), (37, .int .i64 i)]) (τ4 (DX xa xb xc) (DT k s v ar) (encXs ((A ++ (prodR (fs.map f)).map (mkD c)).take 300))) a' w' → Marks w0.heap.size ds' w' → Q (.exit 1) a' w') :
    (Code.rangeFunc (.tmp 55) #[56] dK.c (.block 4 dL.c)).wpIn Fence.wide 0 ax.P Q a w := by
  have hO := Opn.wide
  obtain ⟨ρL, FL, βL, hrL, eL, simL, cbL⟩ := hs
  have hw0 : w0.heap.size ≤ w.heap.size := cbL.1.size
  obtain ⟨vf, vc, e55, r1, r2⟩ := RV.fn_inv (g := 36) (f := []) (c := [.ptr 5 0, .ptr 6 0, .ptr 7 0]) (eL 55)
  obtain rfl := r1.nil_inv
  obtain ⟨x5, vc5, rfl, r5, r2⟩ := r2.cons_inv
  obtain ⟨x6, vc6, rfl, r6, r2⟩ := r2.cons_inv
  obtain ⟨x7, vc7, rfl, r7, r2⟩ := r2.cons_inv
  obtain rfl := r2.nil_inv
  obtain ⟨b5, o5, rfl, _, hb5⟩ := r5.ptr_inv
  obtain ⟨hβ5, rfl⟩ := hb5 _ rfl
  obtain ⟨b6, o6, rfl, _, hb6⟩ := r6.ptr_inv
  obtain ⟨hβ6, rfl⟩ := hb6 _ rfl
  obtain ⟨b7, o7, rfl, _, hb7⟩ := r7.ptr_inv
  obtain ⟨hβ7, rfl⟩ := hb7 _ rfl
  clear hb5 hb6 hb7 r1 r2 r5 r6 r7
  obtain ⟨P, hP⟩ : ∃ P, prodR (fs.map f) = P := ⟨_, rfl⟩
  rw [hP] at hIt hn hx
  obtain ⟨g, hg⟩ : ∃ g : List Dd → Dd, mkD c = g := ⟨_, rfl⟩
  rw [hg] at hn hx
  let T : List (List V) → Store := fun out => τ8 (DX xa xb xc) (DT k s v ar) out (DC c.name (c.args.length : Nat) c.ty (rowsS c.vars) (encEs c.args) c.tag) (encs fs) dd
  let LS : List Nat := [0, 1, 2, 4, 5, 6, 7]
  let CL : Beside := CB w0 F0 β0 w FL βL LS
  let outk : Nat → List Dd := fun q => (A ++ (P.take q).map g).take 300
  have hout0 : A.take 300 = outk 0 := by show A.take 300 = (A ++ []).take 300; rw [List.append_nil]
  have houtn : outk P.length = (A ++ P.map g).take 300 := by show (A ++ (P.take P.length).map g).take 300 = _; rw [List.take_length]
  have houtl : ∀ q, (outk q).length ≤ 300 := fun q => List.length_take_le _ _
  have hfull : ∀ q, (outk q).length = 300 → outk P.length = outk q := fun q h => by
    rw [houtn]
    have : A ++ P.map g = (A ++ (P.take q).map g) ++ (P.drop q).map g := by
      rw [List.append_assoc, ← List.map_append, List.take_append_drop]
    rw [this]; exact cap_full _ _ h
  rw [hout0] at eL simL cbL
  have stL := cbL.1
  have hLS : ∀ {j}, j ∈ LS → j < 8 ∧ j ≠ 3 := fun {j} h => by simp [LS] at h; omega
  have hSL : ∀ {j}, j < 8 → j ≠ 3 → j ∈ LS := fun {j} h1 h2 => by simp [LS]; omega
  have hb8 : ∀ out j, j < 8 → j ≠ 3 → ∃ ls, getO (T out) j = .box ls := fun out j hj h3 => by
    match j, hj, h3 with
    | 0, _, _ => exact ⟨_, rfl⟩
    | 1, _, _ => exact ⟨_, rfl⟩
    | 2, _, _ => exact ⟨_, rfl⟩
    | 3, _, h => exact absurd rfl h
    | 4, _, _ => exact ⟨_, rfl⟩
    | 5, _, _ => exact ⟨_, rfl⟩
    | 6, _, _ => exact ⟨_, rfl⟩
    | 7, _, _ => exact ⟨_, rfl⟩
  have hbL : ∀ j ∈ LS, ∃ l, getO (T (encXs (outk 0))) j = .box l := fun j hj => hb8 _ j (hLS hj).1 (hLS hj).2
  have hlt8 : ∀ {out j b} {βx : Nat → Value}, Has βx j (getO (T out) j) b → j < 8 := fun {out j b βx} h => by
    have := getO_lt (σ := T out) (i := j) fun e => by rw [e] at h; exact no_has_dead h
    exact this
  have hmut : ∀ {out j b} {βx : Nat → Value} (o : Nat), Has βx j (getO (T out) j) b → Mut βx j (getO (T out) j) b o := fun {out j b βx} o h => by
    have hj := hlt8 h
    by_cases h3 : j = 3
    · subst h3; exact ⟨h, trivial⟩
    · obtain ⟨ls, e⟩ := hb8 out j hj h3
      exact ⟨h, by rw [e]; trivial⟩
  have cbL' : CL w FL βL (T (encXs (outk 0))) := ⟨stL, fun b o hf => ⟨hf, rfl⟩, fun j hj => ⟨(hLS hj).1, rfl⟩⟩
  let Z : Nat → Nat → Prop := fun b o => F0 b o ∨ w0.heap.size ≤ b
  have hz1 : ∀ {W F β σ}, Step w0 F0 β0 [] W F β σ → ∀ b o, F b o → Z b o := fun h b o hf => by
    rcases h.newF b o hf with h1 | h1 | ⟨j, h1⟩
    · exact .inl h1
    · exact .inr h1
    · exact absurd h1.1 noHas
  have hz2 : ∀ {W F β σ}, Step w0 F0 β0 [] W F β σ → ∀ j b, Has β j (getO σ j) b → ∀ o, Z b o := fun h j b hh o => by
    rcases h.newH j b hh with h1 | ⟨q, h1⟩
    · exact .inr h1
    · exact absurd h1 noHas
  have endS : ∀ {q : Nat} {F β W}, Sim ax.gs G W F β (T (encXs (outk q))) → CL W F β (T (encXs (outk q))) → Marks w0.heap.size ds W → W.heap[w.heap.size]? = some (.deferred (some [])) →
      StC ax G (C0 w0 F0 β0) ({ target := .collected w.heap.size, args := #[] } :: ds) Tryd.f7.ntmps (envL [(2, .int .i64 d), (3, .ptr 0 0), (4, .ptr 1 0), (7, .ptr 2 0), (35, .sl 6 L), (36, .int .i64 m), (37, .int .i64 i)]) (τ4 (DX xa xb xc) (DT k s v ar) (encXs (outk q))) { a with defers := { target := .collected w.heap.size, args := #[] } :: a.defers } W ∧ Marks w0.heap.size ({ target := .collected w.heap.size, args := #[] } :: ds) W := fun {q F β W} h1 h2 h3 h4 => by
    refine ⟨?_, Marks.cons h3 hw0 h4 fun Ds e hD => by have := marks_lt hM Ds e _ hD; omega⟩
    have kp : ∀ t u, envL [(2, .int .i64 d), (3, .ptr 0 0), (4, .ptr 1 0), (7, .ptr 2 0), (35, .sl 6 L), (36, .int .i64 m), (37, .int .i64 i), (9, .ptr 4 0), (55, .fn 36 [] [.ptr 5 0, .ptr 6 0, .ptr 7 0])] t = u → keptV LS u = true → RV ax.gs G W F β (T (encXs (outk q))) u (a.tmps.getD t undef) := fun t u e hk => by
      rw [hrL.at_]
      have := eL t
      rw [e] at this
      exact CB.rv h2 hbL hk this
    have st := StC.of (ax := ax) (C := C0 w0 F0 β0) (n := Tryd.f7.ntmps) (ds := { target := .collected w.heap.size, args := #[] } :: ds) (a := { a with defers := { target := .collected w.heap.size, args := #[] } :: a.defers }) (L := [(2, .int .i64 d), (3, .ptr 0 0), (4, .ptr 1 0), (7, .ptr 2 0), (35, .sl 6 L), (36, .int .i64 m), (37, .int .i64 i)]) hrL.size (by show _ :: a.defers = _; rw [hrL.defers]) (fun y hy => by
      rcases List.mem_cons.1 hy with rfl | hy
      · exact kp 2 _ rfl rfl
      rcases List.mem_cons.1 hy with rfl | hy
      · exact kp 3 _ rfl rfl
      rcases List.mem_cons.1 hy with rfl | hy
      · exact kp 4 _ rfl rfl
      rcases List.mem_cons.1 hy with rfl | hy
      · exact kp 7 _ rfl rfl
      rcases List.mem_cons.1 hy with rfl | hy
      · exact kp 35 _ rfl rfl
      rcases List.mem_cons.1 hy with rfl | hy
      · exact kp 36 _ rfl rfl
      · rw [List.mem_singleton.1 hy]; exact kp 37 _ rfl rfl) h1 (C0.of h2.1)
    exact st.takeB 4 (by kernel_rfl) (by kernel_rfl) (by kernel_rfl)
  refine range_run2 hO rfl (gf := 36) (lb := #[ptrV b5, ptrV b6, ptrV b7]) (n := P.length) (E := rowE G Z b5 b6 b7 P) (Pre := rowPre G Z b5 b6 b7 xa xb xc fs dd) (by rw [hrL.eval]; exact e55) (Go.Proofs.enters_of Tryd.func36 (by kernel_rfl) rfl)
    (fun q x M W' h => by obtain ⟨_, v, _, _, rfl, _⟩ := h; rfl) (hIt Z b5 b6 b7)
    (fun q M W => ∃ F β, Sim ax.gs G W F β (T (encXs (outk q))) ∧ CL W F β (T (encXs (outk q))) ∧ Marks w0.heap.size ds W ∧ ∀ b, M b ↔ ∃ j, j < 5 ∧ Has β j (getO (T (encXs (outk q))) j) b)
    (fun c0 W => c0 = .exit 1 ∧ (outk P.length).length = 300 ∧ ∃ F β, Sim ax.gs G W F β (T (encXs (outk P.length))) ∧ CL W F β (T (encXs (outk P.length))) ∧ Marks w0.heap.size ds W)
    (fun q a' M W => ∃ ρ F β row, P[q]? = some row ∧ RelD [] Tryd.f7.ntmps ρ a' ∧ RE ax.gs G W F β (T (encXs (outk q))) (envL [(2, .int .i64 d), (3, .ptr 0 0), (4, .ptr 1 0), (7, .ptr 2 0), (35, .sl 6 L), (36, .int .i64 m), (37, .int .i64 i), (9, .ptr 4 0), (12, .sl 4 (encXs row))]) ρ ∧ Sim ax.gs G W F β (T (encXs (outk q))) ∧ CL W F β (T (encXs (outk q))) ∧ Marks w0.heap.size ds W ∧ ∀ b, M b ↔ ∃ j, j < 5 ∧ Has β j (getO (T (encXs (outk q))) j) b)
    ?hI ?hIx ?hM (M0 := fun b => ∃ j, j < 5 ∧ Has βL j (getO (T (encXs (outk 0))) j) b) ?hM0 ?hPre ?h0 ?hassign ?hbody ?hdone ?hstop
  case hI =>
    rintro q M B B' ⟨F, β, h1, h2, h3, h4⟩ hc
    obtain ⟨k1, k2⟩ := h2.calm h1 hc hw0
    exact ⟨F, β, k1, k2, h3.low (.inr (marks_lt hM)) hc, h4⟩
  case hIx =>
    rintro c0 B B' ⟨h0, hl, F, β, h1, h2, h3⟩ hc
    obtain ⟨k1, k2⟩ := h2.calm h1 hc hw0
    exact ⟨h0, hl, F, β, k1, k2, h3.low (.inr (marks_lt hM)) hc⟩
  case hM =>
    rintro q a' M B B' ⟨ρ, F, β, row, h0, h1, h2, h3, h4, h5, h6⟩ hc
    obtain ⟨k1, k2⟩ := h4.calm h3 hc hw0
    exact ⟨ρ, F, β, row, h0, h1, h2.mono ⟨fun b o hf => ⟨hf, hc.cell (h3.lt b o hf)⟩, Nat.le_refl _, fun i _ => ⟨rfl, obLe.refl _⟩⟩, k1, k2, h5.low (.inr (marks_lt hM)) hc, h6⟩
  case hM0 =>
    rintro b ⟨j, hj, h⟩
    exact simL.has_lt h
  case h0 => exact ⟨FL, βL, simL, cbL', hM, fun b => Iff.rfl⟩
  case hdone =>
    rintro M W ⟨F, β, h1, h2, h3, _⟩ hk
    obtain ⟨k1, k2⟩ := endS h1 h2 h3 hk
    rw [houtn] at k1
    exact hn _ _ _ k1 k2
  case hstop =>
    rintro c0 W ⟨rfl, hl, F, β, h1, h2, h3⟩ hk
    obtain ⟨k1, k2⟩ := endS h1 h2 h3 hk
    rw [houtn] at k1 hl
    exact wpIn_exit (hx hl _ _ _ k1 k2)
  case hPre =>
    intro W' hc
    obtain ⟨g1, g1'⟩ := cbL'.calm simL hc hw0
    let gg : Nat → Nat := fun i => i + 5
    let ff : Nat → Option Nat := fun i => if i = 5 then some 0 else if i = 6 then some 1 else if i = 7 then some 2 else none
    obtain ⟨k1, _⟩ := g1.restrict (σ1 := σ3 (encs fs) xa xb xc dd) (g := gg) (f := ff) (fun i hi => by
      match i, hi with
      | 0, _ => rfl
      | 1, _ => rfl
      | 2, _ => rfl) (fun i j _ _ e => by simp only [gg] at e; omega) (fun o k _ hk => by
      simp only [ff] at hk
      split at hk
      · cases hk; exact ⟨show 0 < 3 by decide, by simp only [gg]; omega⟩
      split at hk
      · cases hk; exact ⟨show 1 < 3 by decide, by simp only [gg]; omega⟩
      split at hk
      · cases hk; exact ⟨show 2 < 3 by decide, by simp only [gg]; omega⟩
      · cases hk)
    have hup : ∀ {j b}, Has (fun i => βL (gg i)) j (getO (σ3 (encs fs) xa xb xc dd) j) b → Has βL (j + 5) (getO (T (encXs (outk 0))) (j + 5)) b := fun {j b} hh => by
      have hi : j < 3 := getO_lt (σ := σ3 (encs fs) xa xb xc dd) (i := j) fun e => by rw [e] at hh; exact no_has_dead hh
      refine ⟨?_, hh.2⟩
      obtain ⟨ls, e⟩ := hb8 (encXs (outk 0)) (j + 5) (by omega) (by omega)
      rw [e]; trivial
    refine ⟨FL, fun i => βL (gg i), k1, hβ5, hβ6, hβ7, ?_, ?_, ?_, ?_, hz1 stL, fun i b hh => hz2 stL (i + 5) b (hup hh), fun b o hb => .inr (Nat.le_trans hw0 (Nat.le_trans hc.size hb))⟩
    · rintro b o hf (⟨j, hj, h⟩ | h | h)
      · exact simL.dis j b o (hmut o h) hf
      · have := simL.lt b o hf; omega
      · have := simL.lt b o hf; omega
    · intro j b hh
      have hh' := hup hh
      rintro (⟨j2, hj2, h⟩ | h | h)
      · exact simL.sep j2 (j + 5) b (by omega) h hh'
      · have := simL.has_lt hh'; omega
      · have := simL.has_lt hh'; omega
    · rintro g hg tt bb e (⟨j, hj, h⟩ | h | h)
      · obtain ⟨_, _, _, t', b', h4, h5, _, h7⟩ := simL.glob g hg
        rw [h4] at e; cases e
        exact h7 j h
      · obtain ⟨_, _, _, t', b', h4, h5, _⟩ := simL.glob g hg
        rw [h4] at e; cases e; omega
      · obtain ⟨_, _, _, t', b', h4, h5, _⟩ := simL.glob g hg
        rw [h4] at e; cases e; omega
    · rintro g cs e (⟨j, hj, h⟩ | h | h)
      · exact (simL.tab g cs e).2.2 j h
      · have := (simL.tab g cs e).1; omega
      · have := (simL.tab g cs e).1; omega
  case hassign =>
    rintro lr q x M W hk ⟨Fx, v', row, hrow, rfl, hFx, hfv⟩ hMlt hsz ⟨F', β', h3, h4, h5, h6⟩
    have hdis : ∀ j b o, Mut β' j (getO (T (encXs (outk q))) j) b o → ¬ Fx b o := by
      intro j b o hm hf
      obtain ⟨g1, g2, g3, g4, g5, g6⟩ := hFx b o hf
      have hj := hlt8 hm.1
      by_cases h5' : j < 5
      · exact g2 (.inl ((h6 b).2 ⟨j, h5', hm.1⟩))
      · have hv := hm.1.2
        have : j = 5 ∨ j = 6 ∨ j = 7 := by omega
        rcases this with rfl | rfl | rfl
        · rw [(h4.2.2 5 (hSL (by decide) (by decide))).2, hβ5] at hv; exact g3 (by simpa [vblk] using hv.symm)
        · rw [(h4.2.2 6 (hSL (by decide) (by decide))).2, hβ6] at hv; exact g4 (by simpa [vblk] using hv.symm)
        · rw [(h4.2.2 7 (hSL (by decide) (by decide))).2, hβ7] at hv; exact g5 (by simpa [vblk] using hv.symm)
    have simJ := h3.join (fun b o h => (hFx b o h).1) hdis
    have crJ : CL W (fun b o => F' b o ∨ Fx b o) β' (T (encXs (outk q))) := ⟨{ h4.1 with
      fcell := fun b o hf => ⟨.inl (h4.1.fcell b o hf).1, (h4.1.fcell b o hf).2⟩
      newF := fun b o hf => hf.elim (h4.1.newF b o) (fun h => (hFx b o h).2.2.2.2.2.imp id .inl) }, fun b o hf => ⟨.inl (h4.2.1 b o hf).1, (h4.2.1 b o hf).2⟩, h4.2.2⟩
    have hrowv : RV ax.gs G W (fun b o => F' b o ∨ Fx b o) β' (T (encXs (outk q))) (.sl 4 (encXs row)) v' := .fz _ _ (hfv.mono fun b o hf => ⟨.inr hf, rfl⟩)
    have z0 : ({ a with defers := [] } : Act).tmps.size = Tryd.f7.ntmps := hrL.size
    have old : ∀ t u, t ≠ 56 → envL [(2, .int .i64 d), (3, .ptr 0 0), (4, .ptr 1 0), (7, .ptr 2 0), (35, .sl 6 L), (36, .int .i64 m), (37, .int .i64 i), (9, .ptr 4 0), (55, .fn 36 [] [.ptr 5 0, .ptr 6 0, .ptr 7 0])] t = u → keptV LS u = true → RV ax.gs G W (fun b o => F' b o ∨ Fx b o) β' (T (encXs (outk q))) u ((({ a with defers := [] } : Act).put (some 56) v').tmps.getD t undef) := fun t u ht e hk => by
      rw [put_get (by rw [z0, n7]; decide), if_neg ht, hrL.at_]
      have := eL t
      rw [e] at this
      exact CB.rv crJ hbL hk this
    have st := StC.of (ax := ax) (G := G) (C := fun w1 F1 β1 σ1 => F1 = (fun b o => F' b o ∨ Fx b o) ∧ β1 = β') (n := Tryd.f7.ntmps) (ds := []) (a := ({ a with defers := [] } : Act).put (some 56) v') (w := W) (σ := T (encXs (outk q))) (F := fun b o => F' b o ∨ Fx b o) (β := β') (L := [(2, .int .i64 d), (3, .ptr 0 0), (4, .ptr 1 0), (7, .ptr 2 0), (35, .sl 6 L), (36, .int .i64 m), (37, .int .i64 i), (9, .ptr 4 0), (56, .sl 4 (encXs row))]) (by rw [(put_size _ _ _).1]; exact z0) rfl (fun y hy => by
      rcases List.mem_cons.1 hy with rfl | hy
      · exact old 2 _ (by decide) rfl rfl
      rcases List.mem_cons.1 hy with rfl | hy
      · exact old 3 _ (by decide) rfl rfl
      rcases List.mem_cons.1 hy with rfl | hy
      · exact old 4 _ (by decide) rfl rfl
      rcases List.mem_cons.1 hy with rfl | hy
      · exact old 7 _ (by decide) rfl rfl
      rcases List.mem_cons.1 hy with rfl | hy
      · exact old 35 _ (by decide) rfl rfl
      rcases List.mem_cons.1 hy with rfl | hy
      · exact old 36 _ (by decide) rfl rfl
      rcases List.mem_cons.1 hy with rfl | hy
      · exact old 37 _ (by decide) rfl rfl
      rcases List.mem_cons.1 hy with rfl | hy
      · exact old 9 _ (by decide) rfl rfl
      · rw [List.mem_singleton.1 hy, put_get (by rw [z0, n7]; decide), if_pos rfl]; exact hrowv) simJ ⟨rfl, rfl⟩
    obtain ⟨ρ1, F1, β1, k1, k2, k3, rfl, rfl⟩ := st
    rw [show ({ tmps := ((#[56] : Array Tmp).zip #[v']).foldl (fun t (p, v) => t.setIfInBounds p v) a.tmps, defers := [] } : Act) = ({ a with defers := [] } : Act).put (some 56) v' from by simp only [← Array.foldl_toList, Array.toList_zip, Act.put]; rfl]
    refine StC.raw (ex0 := .normal) (vs0 := [.int .i64 d, .ptr 0 0, .ptr 1 0, .ptr 2 0, .sl 6 L, .int .i64 m, .int .i64 i, .ptr 4 0, .sl 4 (encXs row)]) (σ' := T (encXs (outk q))) (sl := fun e => [e 2, e 3, e 4, e 7, e 35, e 36, e 37, e 9, e 12]) (slots := [2, 3, 4, 7, 35, 36, 37, 9, 12]) tysOk fnsOk follows eqOk rfl hE (hO.inRound lr) (fun _ => rfl) dK.ok dK.calm k1 k2 k3 (Eq.mp (dK.eq d L m i (encXs row) xa xb xc k s v ar (encXs (outk q)) c.name (c.args.length : Nat) c.ty (rowsS c.vars) (encEs c.args) c.tag (encs fs) dd (KX .normal [.int .i64 d, .ptr 0 0, .ptr 1 0, .ptr 2 0, .sl 6 L, .int .i64 m, .int .i64 i, .ptr 4 0, .sl 4 (encXs row)] (T (encXs (outk q))))) ⟨rfl, rfl, rfl⟩) ?_
    intro a1 W1 ρ2 F2 β2 p1 p2 p3 p4
    refine ⟨rfl, M, ⟨ρ2, F2, β2, row, hrow, p1, p2, p3, CB.shut crJ simJ p4, h5.step simJ p4, fun b => ?_⟩, Keep.of_below (p4.below_same (ver_same rfl)) hMlt⟩
    rw [h6 b]
    constructor
    · rintro ⟨j, hj, hh⟩
      exact ⟨j, hj, hh.1, by rw [(p4.ext j (hlt8 hh)).1]; exact hh.2⟩
    · rintro ⟨j, hj, hh⟩
      exact ⟨j, hj, hh.1, by rw [← (p4.ext j (hlt8 hh)).1]; exact hh.2⟩
  case hbody =>
    rintro lr q a1 M W1 hk ⟨ρ1, F1, β1, row, hrow, q1, q2, q3, q4, q5, q6⟩ hMlt hsz
    refine wpIn_block ?_
    by_cases hf300 : (outk q).length = 300
    · have hWL : dL.W d L m i (encXs row) xa xb xc k s v ar (encXs (outk q)) c.name (c.args.length : Nat) c.ty (rowsS c.vars) (encEs c.args) c.tag (encs fs) dd (KX (.exit 1) [.int .i64 d, .ptr 0 0, .ptr 1 0, .ptr 2 0, .sl 6 L, .int .i64 m, .int .i64 i, .ptr 4 0] (T (encXs (outk q)))) := by
        unfold dL.W
        exact ifE (fun _ => ⟨rfl, rfl, rfl⟩) (fun h => absurd (by rw [encXs_length, hf300]; rfl) h)
      refine StC.raw (ex0 := .exit 1) (vs0 := [.int .i64 d, .ptr 0 0, .ptr 1 0, .ptr 2 0, .sl 6 L, .int .i64 m, .int .i64 i, .ptr 4 0]) (σ' := T (encXs (outk q))) (sl := fun e => [e 2, e 3, e 4, e 7, e 35, e 36, e 37, e 9]) (slots := [2, 3, 4, 7, 35, 36, 37, 9]) tysOk fnsOk follows eqOk rfl hE (hO.inRound lr) (fun _ => rfl) dL.ok dL.calm q1 q2 q3 (Eq.mp (dL.eq d L m i (encXs row) xa xb xc k s v ar (encXs (outk q)) c.name (c.args.length : Nat) c.ty (rowsS c.vars) (encEs c.args) c.tag (encs fs) dd (KX (.exit 1) [.int .i64 d, .ptr 0 0, .ptr 1 0, .ptr 2 0, .sl 6 L, .int .i64 m, .int .i64 i, .ptr 4 0] (T (encXs (outk q))))) hWL) ?_
      intro a2 W2 ρ2 F2 β2 p1 p2 p3 p4
      have hfl := hfull q hf300
      rw [← hfl] at p3 p4 hf300 q4 q3
      exact ⟨M, Keep.of_below (p4.below_same (ver_same rfl)) hMlt, rfl, hf300, F2, β2, p3, CB.shut q4 q3 p4, q5.step q3 p4⟩
    · have hlt : (outk q).length < 300 := by have := houtl q; omega
      have hq1 : outk (q + 1) = outk q ++ [g row] := by
        have hc := cap_snoc (A ++ (P.take q).map g) (g row)
        rw [if_pos hlt, List.append_assoc, ← map_snoc g hrow] at hc
        exact hc
      have hgr : encXs (outk q ++ [g row]) = encXs (outk q) ++ [[.bool true, .int .i64 0, .str c.name, .sl 4 (encXs row)]] := by rw [encXs_append, ← hg]; rfl
      let z4 : List V := [.bool false, .int .i64 0, .str (⟨#[]⟩ : ByteArray), .sl 4 []]
      let TA : Store := τA (DX xa xb xc) (DT k s v ar) (encXs (outk (q + 1))) (DC c.name (c.args.length : Nat) c.ty (rowsS c.vars) (encEs c.args) c.tag) (encs fs) dd [z4]
      have hWL : dL.W d L m i (encXs row) xa xb xc k s v ar (encXs (outk q)) c.name (c.args.length : Nat) c.ty (rowsS c.vars) (encEs c.args) c.tag (encs fs) dd (KX .normal [.int .i64 d, .ptr 0 0, .ptr 1 0, .ptr 2 0, .sl 6 L, .int .i64 m, .int .i64 i, .ptr 4 0] TA) := by
        have hst : List.set (encXs (outk q) ++ [z4]) (((encXs (outk q)).length : Int).toNat) [.bool true, .int .i64 0, .str c.name, .sl 4 (encXs row)] = encXs (outk (q + 1)) := by
          rw [Int.toNat_natCast, set_last, hq1, hgr]
        have hl2 : (encXs (outk q)).length = (outk q).length := encXs_length _
        unfold dL.W
        refine ifE (fun h => by omega) (fun _ => ?_)
        rw [hst]
        simp only [List.length_append, List.length_cons, List.length_nil]
        exact ⟨by omega, by omega, by omega, by omega, ⟨by omega, rfl, rfl, rfl⟩, by omega, rfl, rfl, rfl⟩
      refine StC.raw (ex0 := .normal) (vs0 := [.int .i64 d, .ptr 0 0, .ptr 1 0, .ptr 2 0, .sl 6 L, .int .i64 m, .int .i64 i, .ptr 4 0]) (σ' := TA) (sl := fun e => [e 2, e 3, e 4, e 7, e 35, e 36, e 37, e 9]) (slots := [2, 3, 4, 7, 35, 36, 37, 9]) tysOk fnsOk follows eqOk rfl hE (hO.inRound lr) (fun _ => rfl) dL.ok dL.calm q1 q2 q3 (Eq.mp (dL.eq d L m i (encXs row) xa xb xc k s v ar (encXs (outk q)) c.name (c.args.length : Nat) c.ty (rowsS c.vars) (encEs c.args) c.tag (encs fs) dd (KX .normal [.int .i64 d, .ptr 0 0, .ptr 1 0, .ptr 2 0, .sl 6 L, .int .i64 m, .int .i64 i, .ptr 4 0] TA)) hWL) ?_
      intro a2 W2 ρ2 F2 β2 p1 p2 p3 p4
      have hget : ∀ j, j < (T (encXs (outk (q + 1)))).length → getO (T (encXs (outk (q + 1)))) j = renOb ffA (getO TA (ggA j)) := fun j hj => by
        match j, hj with
        | 0, _ => rfl
        | 1, _ => rfl
        | 2, _ => rfl
        | 3, _ => rfl
        | 4, _ => rfl
        | 5, _ => rfl
        | 6, _ => rfl
        | 7, _ => rfl
      obtain ⟨s1, _⟩ := p3.restrict (σ1 := T (encXs (outk (q + 1)))) (g := ggA) (f := ffA) hget (fun j1 j2 h1 h2 e => by
        have h1 : j1 < 8 := h1
        have h2 : j2 < 8 := h2
        simp only [ggA] at e
        split at e <;> split at e <;> omega) (fun o kk ho hk => by
        have ho : o < 10 := ho
        match o, ho, hk with
        | 0, _, hk => cases hk; exact ⟨show 0 < 8 by decide, rfl⟩
        | 1, _, hk => cases hk; exact ⟨show 1 < 8 by decide, rfl⟩
        | 2, _, hk => cases hk; exact ⟨show 2 < 8 by decide, rfl⟩
        | 3, _, hk => cases hk
        | 4, _, hk => cases hk; exact ⟨show 4 < 8 by decide, rfl⟩
        | 5, _, hk => cases hk; exact ⟨show 5 < 8 by decide, rfl⟩
        | 6, _, hk => cases hk; exact ⟨show 6 < 8 by decide, rfl⟩
        | 7, _, hk => cases hk; exact ⟨show 7 < 8 by decide, rfl⟩
        | 8, _, hk => cases hk
        | 9, _, hk => cases hk; exact ⟨show 3 < 8 by decide, rfl⟩)
      have cb2 := CB.shut q4 q3 p4
      have st2 := cb2.1.ren0 (σ1 := T (encXs (outk (q + 1)))) (g := ggA) (f := ffA) hget
      have hgg : ∀ j, j ≠ 3 → ggA j = j := fun j h => by simp [ggA, h]
      have cb3 : CL W2 F2 (fun j => β2 (ggA j)) (T (encXs (outk (q + 1)))) := ⟨st2, cb2.2.1, fun j hj => ⟨(hLS hj).1, by show β2 (ggA j) = βL j; rw [hgg j (hLS hj).2]; exact (cb2.2.2 j hj).2⟩⟩
      have hbox : ∀ j b, j < 8 → j ≠ 3 → Has β1 j (getO (T (encXs (outk q))) j) b → Has β2 j (getO TA j) b := fun j b hj h3 hh => by
        refine ⟨?_, by rw [(p4.ext j hj).1]; exact hh.2⟩
        match j, hj, h3 with
        | 0, _, _ => trivial
        | 1, _, _ => trivial
        | 2, _, _ => trivial
        | 3, _, h => exact absurd rfl h
        | 4, _, _ => trivial
        | 5, _, _ => trivial
        | 6, _, _ => trivial
        | 7, _, _ => trivial
      have hback : ∀ j b, j < 8 → j ≠ 3 → Has (fun j => β2 (ggA j)) j (getO (T (encXs (outk (q + 1)))) j) b → Has β1 j (getO (T (encXs (outk q))) j) b := fun j b hj h3 hh => by
        refine ⟨?_, ?_⟩
        · obtain ⟨ls, e⟩ := hb8 (encXs (outk q)) j hj h3
          rw [e]; trivial
        · have := hh.2
          rw [show (fun j => β2 (ggA j)) j = β2 j from by show β2 (ggA j) = _; rw [hgg j h3], (p4.ext j hj).1] at this
          exact this
      refine ⟨fun b => ∃ j, j < 5 ∧ Has (fun j => β2 (ggA j)) j (getO (T (encXs (outk (q + 1)))) j) b, p4.keepM (fun j b hj hh => ?_) (fun b hb => ?_) (fun b hb => ?_), F2, fun j => β2 (ggA j), s1, cb3, q5.step q3 p4, fun b => Iff.rfl⟩
      · by_cases h5 : j < 5
        · exact .inr ((q6 b).2 ⟨j, h5, hh⟩)
        · have hj : j < 8 := hj
          have : j = 5 ∨ j = 6 ∨ j = 7 := by omega
          rcases this with rfl | rfl | rfl
          · exact .inl rfl
          · exact .inl rfl
          · exact .inl rfl
      · obtain ⟨j, hj, hh⟩ := hb
        by_cases h3 : j = 3
        · subst h3
          have h9 : Has β2 9 (getO TA 9) b := ⟨trivial, hh.2⟩
          rcases p4.newH 9 b h9 with h1 | ⟨j2, h1⟩
          · exact .inr h1
          · by_cases h5 : j2 < 5
            · exact .inl ((q6 b).2 ⟨j2, h5, h1⟩)
            · have hj2 := hlt8 h1
              exact absurd h9 (p3.sep j2 9 b (by omega) (hbox j2 b hj2 (by omega) h1))
        · exact .inl ((q6 b).2 ⟨j, hj, hback j b (by omega) h3 hh⟩)
      · obtain ⟨j, hj, hh⟩ := hb
        exact s1.has_lt hh
end
end Go.Proofs.YtahagnfdpemmaaaDoor.Va
end

/- part Y4J -/
section
namespace Go.Proofs.YtahagnfdpemmaaaDoor.Va
open Go.Vx Go.Av Go.Lx Go.Dr Go.Dm Go.Uni Go.RowKit

theorem inB {id : Nat} {Q : Exit → Act → World → Prop} {a : Act} {w : World} (h : Q .normal a w) : Exit.inBlock id Q (.exit id) a w := by
  show (if id = id then Q .normal a w else Q (.exit id) a w)
  rw [if_pos rfl]; exact h
theorem thenX {id : Nat} {X : Act → World → Prop} {Q : Exit → Act → World → Prop} {a : Act} {w : World} (h : Q (.exit id) a w) : Exit.then X Q (.exit id) a w := h
theorem cap_prefix {os : List Ct} {g : Ct → List Dd} {i : Nat} (h : (((os.take i).flatMap g).take 300).length = 300) : (os.flatMap g).take 300 = ((os.take i).flatMap g).take 300 := by
  have : os.flatMap g = (os.take i).flatMap g ++ (os.drop i).flatMap g := by rw [← List.flatMap_append, List.take_append_drop]
  rw [this]; exact cap_full _ _ h
set_option maxHeartbeats 1000000 in
set_option maxRecDepth 20000 in
theorem Domain_spec {cs : List Ct} (hG : GoodX cs) (xa xc : List (List V)) : ∀ (n : Nat) (d : Int) (t : Tm), depN d = n → thin 20000 t → PCalls ax 7 [.agg [.sl 20 xa, .sl 6 (encKs cs), .sl 5 xc], .agg (enc t), .int .i64 d] fun r => r = [.sl 4 (encXs (dom cs n t))] := by
  intro n
  induction n using Nat.strongRecOn with
  | _ n ih =>
  rintro d ⟨k, s, v, tl⟩ hd ht
  refine callsM (c := Tryd.f7.body.getD .skip) Tryd.func7 (by kernel_rfl) tysOk (by kernel_rfl) ?_
  intro G w0 F0 β0 a hE h0 hst
  have hO := Opn.wide
  obtain ⟨ar, har⟩ : ∃ ar, encs tl = ar := ⟨_, rfl⟩
  obtain ⟨xb, hxb⟩ : ∃ xb, encKs cs = xb := ⟨_, rfl⟩
  have henc : enc (.mk k s v tl) = [.int .i64 k, .str s, .int .i64 v, .sl 4 ar] := by rw [← har]; rfl
  rw [henc, hxb] at hst
  have st0 : StC ax G (C0 w0 F0 β0) [] Tryd.f7.ntmps (envL [(0, .agg [.sl 20 xa, .sl 6 xb, .sl 5 xc]), (1, .agg [.int .i64 k, .str s, .int .i64 v, .sl 4 ar]), (2, .int .i64 d)]) [] a w0 := by
    obtain ⟨ρ, F, β, h1, h2, h3, h4⟩ := hst
    refine StC.env ⟨ρ, F, β, h1, h2, h3, C0.of h4⟩ (envL_sub _ fun y hy => ?_)
    rcases List.mem_cons.1 hy with rfl | hy
    · rfl
    rcases List.mem_cons.1 hy with rfl | hy
    · rfl
    · rw [List.mem_singleton.1 hy]; rfl
  clear hst
  rw [body7]
  refine wpIn_seq (StC.pcC (ex0 := .normal) (vs0 := [.int .i64 d, .ptr 0 0, .ptr 1 0]) (σ' := [⟨0, .box (DX xa xb xc)⟩, ⟨0, .box (DT k s v ar)⟩]) (sl := fun e => [e 2, e 3, e 4]) (slots := [2, 3, 4]) CB.shut tysOk fnsOk follows eqOk rfl hE hO (fun _ => rfl) dA.ok dA.calm st0 (Eq.mp (dA.eq xa xb xc k s v ar d (KX .normal [.int .i64 d, .ptr 0 0, .ptr 1 0] [⟨0, .box (DX xa xb xc)⟩, ⟨0, .box (DT k s v ar)⟩])) ⟨rfl, rfl, rfl⟩) rfl ?_)
  intro a1 w1 s1 _
  clear st0
  refine wpIn_scope ?_ (fun l a w h => by rcases h.1 with h | h <;> cases h)
  by_cases hk1 : k = 1
  · subst hk1
    refine wpIn_seq (StC.pcC (ex0 := .ret) (vs0 := [.int .i64 d, .ptr 0 0, .ptr 1 0, .own 2]) (σ' := [⟨0, .box (DX xa xb xc)⟩, ⟨0, .box (DT 1 s v ar)⟩, ⟨0, .lst 39 4 false [[.bool false, .int .i64 0, .str (⟨#[]⟩ : ByteArray), .sl 4 []], [.bool false, .int .i64 1, .str (⟨#[]⟩ : ByteArray), .sl 4 []], [.bool false, .int .i64 2, .str (⟨#[]⟩ : ByteArray), .sl 4 []]]⟩]) (sl := fun e => [e 2, e 3, e 4, e 6]) (slots := [2, 3, 4, 6]) CB.shut tysOk fnsOk follows eqOk rfl hE hO (fun _ => rfl) dB.ok dB.calm s1 (Eq.mp (dB.eq d xa xb xc 1 s v ar (KX .ret [.int .i64 d, .ptr 0 0, .ptr 1 0, .own 2] ([⟨0, .box (DX xa xb xc)⟩, ⟨0, .box (DT 1 s v ar)⟩, ⟨0, .lst 39 4 false [[.bool false, .int .i64 0, .str (⟨#[]⟩ : ByteArray), .sl 4 []], [.bool false, .int .i64 1, .str (⟨#[]⟩ : ByteArray), .sl 4 []], [.bool false, .int .i64 2, .str (⟨#[]⟩ : ByteArray), .sl 4 []]]⟩]))) ⟨rfl, rfl, rfl⟩) rfl ?_)
    intro a2 w2 s2 _
    exact dom_fin (u := .own 2) (R := [[.bool false, .int .i64 0, .str (⟨#[]⟩ : ByteArray), .sl 4 []], [.bool false, .int .i64 1, .str (⟨#[]⟩ : ByteArray), .sl 4 []], [.bool false, .int .i64 2, .str (⟨#[]⟩ : ByteArray), .sl 4 []]]) s2 rfl rfl (Marks.nil _ _) (by rw [dom_int cs n s v tl]; rfl)
  by_cases hk3 : k = 3
  · subst hk3
    refine wpIn_seq (StC.pcC (ex0 := .ret) (vs0 := [.int .i64 d, .ptr 0 0, .ptr 1 0, .own 2]) (σ' := [⟨0, .box (DX xa xb xc)⟩, ⟨0, .box (DT 3 s v ar)⟩, ⟨0, .lst 39 4 false [[.bool false, .int .i64 0, .str (⟨#[]⟩ : ByteArray), .sl 4 []]]⟩]) (sl := fun e => [e 2, e 3, e 4, e 6]) (slots := [2, 3, 4, 6]) CB.shut tysOk fnsOk follows eqOk rfl hE hO (fun _ => rfl) dB.ok dB.calm s1 (Eq.mp (dB.eq d xa xb xc 3 s v ar (KX .ret [.int .i64 d, .ptr 0 0, .ptr 1 0, .own 2] ([⟨0, .box (DX xa xb xc)⟩, ⟨0, .box (DT 3 s v ar)⟩, ⟨0, .lst 39 4 false [[.bool false, .int .i64 0, .str (⟨#[]⟩ : ByteArray), .sl 4 []]]⟩]))) ⟨rfl, rfl, rfl⟩) rfl ?_)
    intro a2 w2 s2 _
    exact dom_fin (u := .own 2) (R := [[.bool false, .int .i64 0, .str (⟨#[]⟩ : ByteArray), .sl 4 []]]) s2 rfl rfl (Marks.nil _ _) (by rw [dom_one cs n s v tl (.inl rfl)]; rfl)
  by_cases hk4 : k = 4
  · subst hk4
    refine wpIn_seq (StC.pcC (ex0 := .ret) (vs0 := [.int .i64 d, .ptr 0 0, .ptr 1 0, .own 2]) (σ' := [⟨0, .box (DX xa xb xc)⟩, ⟨0, .box (DT 4 s v ar)⟩, ⟨0, .lst 39 4 false [[.bool false, .int .i64 0, .str (⟨#[]⟩ : ByteArray), .sl 4 []]]⟩]) (sl := fun e => [e 2, e 3, e 4, e 6]) (slots := [2, 3, 4, 6]) CB.shut tysOk fnsOk follows eqOk rfl hE hO (fun _ => rfl) dB.ok dB.calm s1 (Eq.mp (dB.eq d xa xb xc 4 s v ar (KX .ret [.int .i64 d, .ptr 0 0, .ptr 1 0, .own 2] ([⟨0, .box (DX xa xb xc)⟩, ⟨0, .box (DT 4 s v ar)⟩, ⟨0, .lst 39 4 false [[.bool false, .int .i64 0, .str (⟨#[]⟩ : ByteArray), .sl 4 []]]⟩]))) ⟨rfl, rfl, rfl⟩) rfl ?_)
    intro a2 w2 s2 _
    exact dom_fin (u := .own 2) (R := [[.bool false, .int .i64 0, .str (⟨#[]⟩ : ByteArray), .sl 4 []]]) s2 rfl rfl (Marks.nil _ _) (by rw [dom_one cs n s v tl (.inr rfl)]; rfl)
  have h34 : ¬ (k = 3 ∨ k = 4) := fun h => h.elim hk3 hk4
  have hWB : dB.W d xa xb xc k s v ar (KX .normal [.int .i64 d, .ptr 0 0, .ptr 1 0, .junk] ([⟨0, .box (DX xa xb xc)⟩, ⟨0, .box (DT k s v ar)⟩])) := by
    unfold dB.W
    exact ifE (fun h => absurd h hk1) (fun _ => ifE (fun h => absurd h hk3) (fun _ => ifE (fun h => absurd h hk4) (fun _ => ⟨rfl, rfl, rfl⟩)))
  refine wpIn_seq (StC.pcC (ex0 := .normal) (vs0 := [.int .i64 d, .ptr 0 0, .ptr 1 0, .junk]) (σ' := [⟨0, .box (DX xa xb xc)⟩, ⟨0, .box (DT k s v ar)⟩]) (sl := fun e => [e 2, e 3, e 4, e 6]) (slots := [2, 3, 4, 6]) CB.shut tysOk fnsOk follows eqOk rfl hE hO (fun _ => rfl) dB.ok dB.calm s1 (Eq.mp (dB.eq d xa xb xc k s v ar (KX .normal [.int .i64 d, .ptr 0 0, .ptr 1 0, .junk] ([⟨0, .box (DX xa xb xc)⟩, ⟨0, .box (DT k s v ar)⟩]))) hWB) rfl ?_)
  intro a2 w2 s2 _
  clear hWB s1
  have s3 := s2.sub (L' := [(2, .int .i64 d), (3, .ptr 0 0), (4, .ptr 1 0)]) rfl
  refine wpIn_seq (StC.pcC (ex0 := .normal) (vs0 := [.int .i64 d, .ptr 0 0, .ptr 1 0, .ptr 2 0]) (σ' := [⟨0, .box (DX xa xb xc)⟩, ⟨0, .box (DT k s v ar)⟩, ⟨0, .box [.nls]⟩]) (sl := fun e => [e 2, e 3, e 4, e 7]) (slots := [2, 3, 4, 7]) CB.shut tysOk fnsOk follows eqOk rfl hE hO (fun _ => rfl) dC.ok dC.calm s3 (Eq.mp (dC.eq d xa xb xc k s v ar (KX .normal [.int .i64 d, .ptr 0 0, .ptr 1 0, .ptr 2 0] ([⟨0, .box (DX xa xb xc)⟩, ⟨0, .box (DT k s v ar)⟩, ⟨0, .box [.nls]⟩]))) ⟨rfl, rfl, rfl⟩) rfl ?_)
  intro a3 w3 s4 _
  clear s3 s2
  by_cases hd1 : d < 1
  · have hWD : dD.W d xa xb xc k s v ar (KX .ret [.int .i64 d, .ptr 0 0, .ptr 1 0, .ptr 2 0, .nls] ([⟨0, .box (DX xa xb xc)⟩, ⟨0, .box (DT k s v ar)⟩, ⟨0, .box [.nls]⟩])) := by
      unfold dD.W
      exact ifD (fun _ => ⟨rfl, rfl, rfl⟩) (fun h => absurd hd1 h)
    refine wpIn_seq (StC.pcC (ex0 := .ret) (vs0 := [.int .i64 d, .ptr 0 0, .ptr 1 0, .ptr 2 0, .nls]) (σ' := [⟨0, .box (DX xa xb xc)⟩, ⟨0, .box (DT k s v ar)⟩, ⟨0, .box [.nls]⟩]) (sl := fun e => [e 2, e 3, e 4, e 7, e 6]) (slots := [2, 3, 4, 7, 6]) CB.shut tysOk fnsOk follows eqOk rfl hE hO (fun _ => rfl) dD.ok dD.calm s4 (Eq.mp (dD.eq d xa xb xc k s v ar (KX .ret [.int .i64 d, .ptr 0 0, .ptr 1 0, .ptr 2 0, .nls] ([⟨0, .box (DX xa xb xc)⟩, ⟨0, .box (DT k s v ar)⟩, ⟨0, .box [.nls]⟩]))) hWD) rfl ?_)
    intro a5 w5 s5 _
    exact dom_fin (u := .nls) (R := []) s5 rfl rfl (Marks.nil _ _) (by rw [← hd, depN_out (by omega), dom_zero cs s v tl hk1 h34]; rfl)
  by_cases hd4 : d > 4
  · have hWD : dD.W d xa xb xc k s v ar (KX .ret [.int .i64 d, .ptr 0 0, .ptr 1 0, .ptr 2 0, .nls] ([⟨0, .box (DX xa xb xc)⟩, ⟨0, .box (DT k s v ar)⟩, ⟨0, .box [.nls]⟩])) := by
      unfold dD.W
      exact ifD (fun h => absurd h hd1) (fun _ => ifD (fun _ => ⟨rfl, rfl, rfl⟩) (fun h => absurd hd4 h))
    refine wpIn_seq (StC.pcC (ex0 := .ret) (vs0 := [.int .i64 d, .ptr 0 0, .ptr 1 0, .ptr 2 0, .nls]) (σ' := [⟨0, .box (DX xa xb xc)⟩, ⟨0, .box (DT k s v ar)⟩, ⟨0, .box [.nls]⟩]) (sl := fun e => [e 2, e 3, e 4, e 7, e 6]) (slots := [2, 3, 4, 7, 6]) CB.shut tysOk fnsOk follows eqOk rfl hE hO (fun _ => rfl) dD.ok dD.calm s4 (Eq.mp (dD.eq d xa xb xc k s v ar (KX .ret [.int .i64 d, .ptr 0 0, .ptr 1 0, .ptr 2 0, .nls] ([⟨0, .box (DX xa xb xc)⟩, ⟨0, .box (DT k s v ar)⟩, ⟨0, .box [.nls]⟩]))) hWD) rfl ?_)
    intro a5 w5 s5 _
    exact dom_fin (u := .nls) (R := []) s5 rfl rfl (Marks.nil _ _) (by rw [← hd, depN_out (by omega), dom_zero cs s v tl hk1 h34]; rfl)
  have hWD : dD.W d xa xb xc k s v ar (KX .normal [.int .i64 d, .ptr 0 0, .ptr 1 0, .ptr 2 0, .junk] ([⟨0, .box (DX xa xb xc)⟩, ⟨0, .box (DT k s v ar)⟩, ⟨0, .box [.nls]⟩])) := by
    unfold dD.W
    exact ifD (fun h => absurd h hd1) (fun _ => ifD (fun h => absurd h hd4) (fun _ => ⟨rfl, rfl, rfl⟩))
  refine wpIn_seq (StC.pcC (ex0 := .normal) (vs0 := [.int .i64 d, .ptr 0 0, .ptr 1 0, .ptr 2 0, .junk]) (σ' := [⟨0, .box (DX xa xb xc)⟩, ⟨0, .box (DT k s v ar)⟩, ⟨0, .box [.nls]⟩]) (sl := fun e => [e 2, e 3, e 4, e 7, e 6]) (slots := [2, 3, 4, 7, 6]) CB.shut tysOk fnsOk follows eqOk rfl hE hO (fun _ => rfl) dD.ok dD.calm s4 (Eq.mp (dD.eq d xa xb xc k s v ar (KX .normal [.int .i64 d, .ptr 0 0, .ptr 1 0, .ptr 2 0, .junk] ([⟨0, .box (DX xa xb xc)⟩, ⟨0, .box (DT k s v ar)⟩, ⟨0, .box [.nls]⟩]))) hWD) rfl ?_)
  intro a5 w5 s5 _
  clear s4 hWD
  have s6 := s5.sub (L' := [(2, .int .i64 d), (3, .ptr 0 0), (4, .ptr 1 0), (7, .ptr 2 0)]) rfl
  clear s5
  have hdn := depN_pred (d := d) (by omega) (by omega)
  rw [hd] at hdn
  obtain ⟨mm, hmm⟩ : ∃ m, depN (d - 1) = m := ⟨_, rfl⟩
  rw [hmm] at hdn
  subst hdn
  have ihm := fun t => ih mm (by omega) (d - 1) t hmm
  clear ih
  rw [dom_succ cs mm s v tl hk1 h34]
  obtain ⟨f, hf⟩ : ∃ f, dom cs mm = f := ⟨_, rfl⟩
  have hfl : ∀ t, (f t).length ≤ 300 := fun t => by rw [← hf]; exact dom_len cs mm t
  rw [hf] at ihm ⊢
  have hCt := Ctors_spec hG xa xc s
  have hol := ofTy_len cs s
  have hcl := hG.len
  have hom : ∀ c ∈ ofTy cs s, c ∈ cs := fun c hc => (ofTy_mem hc).1
  have hcap := @cap_prefix (ofTy cs s) (rowsOf' f (.mk k s v tl))
  rw [hxb] at hCt ihm
  generalize ofTy cs s = os at hol hom hCt hcap ⊢
  obtain ⟨g, hg⟩ : ∃ g, rowsOf' f (.mk k s v tl) = g := ⟨_, rfl⟩
  rw [hg] at hcap ⊢
  refine wpIn_seq (wpIn_label ?_)
  refine wpIn_seq (wpIn_seq (StC.pcC (ex0 := .normal) (vs0 := [.int .i64 d, .ptr 0 0, .ptr 1 0, .ptr 2 0, .sl 6 (encKs os), .int .i64 ((encKs os).length : Nat), .int .i64 0]) (σ' := [⟨0, .box (DX xa xb xc)⟩, ⟨0, .box (DT k s v ar)⟩, ⟨0, .box [.nls]⟩]) (sl := fun e => [e 2, e 3, e 4, e 7, e 35, e 36, e 37]) (slots := [2, 3, 4, 7, 35, 36, 37]) CB.shut tysOk fnsOk follows eqOk rfl hE hO (fun _ => rfl) dE.ok dE.calm s6 (Eq.mp (dE.eq d xa xb xc k s v ar (KX .normal [.int .i64 d, .ptr 0 0, .ptr 1 0, .ptr 2 0, .sl 6 (encKs os), .int .i64 ((encKs os).length : Nat), .int .i64 0] ([⟨0, .box (DX xa xb xc)⟩, ⟨0, .box (DT k s v ar)⟩, ⟨0, .box [.nls]⟩]))) (hCt.mono fun r hr => ⟨_, hr, rfl, rfl, rfl⟩)) rfl ?_))
  intro a7 w7 s7 _
  clear s6
  rw [encKs_length] at s7
  have hn := StC.normB CB.shut s7 (bx := [(2, [.nw 39 4 false])]) (ps := [.sl 4 []]) (σ' := [⟨0, .box (DX xa xb xc)⟩, ⟨0, .box (DT k s v ar)⟩, ⟨1, .box [.own 3]⟩, ⟨0, .lst 39 4 false []⟩]) rfl (fun j l hj hl y hy q hq => by
    rw [List.mem_singleton.1 hj] at hl
    cases hl
    rw [List.mem_singleton.1 hy] at hq
    cases hq)
  have s8 : StC ax G (C0 w0 F0 β0) [] Tryd.f7.ntmps (envL [(2, .int .i64 d), (3, .ptr 0 0), (4, .ptr 1 0), (7, .ptr 2 0), (35, .sl 6 (encKs os)), (36, .int .i64 (os.length : Nat)), (37, .int .i64 (0 : Nat))]) (τ4 (DX xa xb xc) (DT k s v ar) []) a7 w7 := StC.takeB hn 4 (by kernel_rfl) (by kernel_rfl) (by kernel_rfl)
  clear hn s7
  have mk : ∀ {ds : List Deferred} {A B : World}, Marks w0.heap.size ds A → Below A.heap.size A B → Marks w0.heap.size ds B := fun h hb => h.keep fun b o hb' _ => (hb.block b (Array.getElem?_eq_some_iff.1 hb').1).trans hb'
  have hloop : (Code.loop (.seq dF.c (.seq (.cond (.tmp 38) .skip (.exit 1)) (.seq (.block 2 (.seq dG.c (.seq dH.c (.seq dI.c (.seq dJ.c (.block 3 (.rangeFunc (.tmp 55) #[56] dK.c (.block 4 dL.c)))))))) dM.c)))).wpIn Fence.wide 0 ax.P (fun ex a' w' => ex = .exit 1 ∧ ∃ ds, Marks w0.heap.size ds w' ∧ StC ax G (C0 w0 F0 β0) ds Tryd.f7.ntmps (envL [(2, .int .i64 d), (3, .ptr 0 0), (4, .ptr 1 0), (7, .ptr 2 0)]) (τ4 (DX xa xb xc) (DT k s v ar) (encXs ((os.flatMap g).take 300))) a' w') a7 w7 := by
    refine wpIn_loop (fun a W => ∃ (i : Nat) (ds : List Deferred), i ≤ os.length ∧ Marks w0.heap.size ds W ∧ StC ax G (C0 w0 F0 β0) ds Tryd.f7.ntmps (envL [(2, .int .i64 d), (3, .ptr 0 0), (4, .ptr 1 0), (7, .ptr 2 0), (35, .sl 6 (encKs os)), (36, .int .i64 (os.length : Nat)), (37, .int .i64 (i : Nat))]) (τ4 (DX xa xb xc) (DT k s v ar) (encXs (((os.take i).flatMap g).take 300))) a W) (fun a _ => match a.tmps.getD 37 undef with | .int _ p => os.length - p.toNat | _ => 0) ⟨0, [], Nat.zero_le _, Marks.nil _ _, s8⟩ ?_
    clear s8
    rintro a W ⟨i, ds, hi, hM, s1⟩
    have c37 : a.tmps.getD 37 undef = .int .i64 (i : Nat) := s1.intAt rfl
    refine wpIn_seq (StC.pcC (ex0 := .normal) (vs0 := [.int .i64 d, .ptr 0 0, .ptr 1 0, .ptr 2 0, .sl 6 (encKs os), .int .i64 (os.length : Nat), .int .i64 (i : Nat), .bool (decide (((i : Nat) : Int) < ((os.length : Nat) : Int)))]) (σ' := τ4 (DX xa xb xc) (DT k s v ar) (encXs (((os.take i).flatMap g).take 300))) (sl := fun e => [e 2, e 3, e 4, e 7, e 35, e 36, e 37, e 38]) (slots := [2, 3, 4, 7, 35, 36, 37, 38]) CB.shut tysOk fnsOk follows eqOk rfl hE hO (fun _ => rfl) dF.ok dF.calm s1 (Eq.mp (dF.eq d (encKs os) (os.length : Nat) (i : Nat) xa xb xc k s v ar (encXs (((os.take i).flatMap g).take 300)) (KX .normal [.int .i64 d, .ptr 0 0, .ptr 1 0, .ptr 2 0, .sl 6 (encKs os), .int .i64 (os.length : Nat), .int .i64 (i : Nat), .bool (decide (((i : Nat) : Int) < ((os.length : Nat) : Int)))] (τ4 (DX xa xb xc) (DT k s v ar) (encXs (((os.take i).flatMap g).take 300))))) ⟨rfl, rfl, rfl⟩) rfl ?_)
    intro a1 W1 s2 q1
    have hM1 := mk hM q1
    clear hM q1 s1
    have c38 : a1.eval (.tmp 38) = .bool (decide (((i : Nat) : Int) < ((os.length : Nat) : Int))) := s2.boolAt rfl
    have s3 := s2.sub (L' := [(2, .int .i64 d), (3, .ptr 0 0), (4, .ptr 1 0), (7, .ptr 2 0), (35, .sl 6 (encKs os)), (36, .int .i64 (os.length : Nat)), (37, .int .i64 (i : Nat))]) (by kernel_rfl)
    clear s2
    by_cases hlt : i < os.length
    · rw [decide_eq_true (by omega)] at c38
      refine wpIn_seq (wpIn_cond_true c38 (wpIn_skip ?_))
      obtain ⟨c, hc⟩ := cget (cs := os) (i := i) hlt
      have hcm := hom c (List.mem_of_getElem? hc)
      have hF := Fields_spec (xa := xa) (xc := xc) hG hcm (.mk k s v tl) ht
      have hgc : g c = rowsOf' f (.mk k s v tl) c := by rw [← hg]
      have hth := fun fs h => fields_thin hG hcm ht (fs := fs) h
      rw [henc, hxb] at hF
      unfold fldR at hF
      unfold rowsOf' at hgc
      have hnext := flat_snoc g hc
      have step : ∀ a' w' ds', StC ax G (C0 w0 F0 β0) ds' Tryd.f7.ntmps (envL [(2, .int .i64 d), (3, .ptr 0 0), (4, .ptr 1 0), (7, .ptr 2 0), (35, .sl 6 (encKs os)), (36, .int .i64 (os.length : Nat)), (37, .int .i64 (i : Nat))]) (τ4 (DX xa xb xc) (DT k s v ar) (encXs (((os.take (i + 1)).flatMap g).take 300))) a' w' → Marks w0.heap.size ds' w' → dM.c.wpIn Fence.wide 0 ax.P (Exit.then (fun a' w' => (∃ (i : Nat) (ds : List Deferred), i ≤ os.length ∧ Marks w0.heap.size ds w' ∧ StC ax G (C0 w0 F0 β0) ds Tryd.f7.ntmps (envL [(2, .int .i64 d), (3, .ptr 0 0), (4, .ptr 1 0), (7, .ptr 2 0), (35, .sl 6 (encKs os)), (36, .int .i64 (os.length : Nat)), (37, .int .i64 (i : Nat))]) (τ4 (DX xa xb xc) (DT k s v ar) (encXs (((os.take i).flatMap g).take 300))) a' w') ∧ (match a'.tmps.getD 37 undef with | .int _ p => os.length - p.toNat | _ => 0) < (match a.tmps.getD 37 undef with | .int _ p => os.length - p.toNat | _ => 0)) (fun ex a' w' => ex = .exit 1 ∧ ∃ ds, Marks w0.heap.size ds w' ∧ StC ax G (C0 w0 F0 β0) ds Tryd.f7.ntmps (envL [(2, .int .i64 d), (3, .ptr 0 0), (4, .ptr 1 0), (7, .ptr 2 0)]) (τ4 (DX xa xb xc) (DT k s v ar) (encXs ((os.flatMap g).take 300))) a' w')) a' w' := fun a' w' ds' h hM' => by
        refine StC.pcC (ex0 := .normal) (vs0 := [.int .i64 d, .ptr 0 0, .ptr 1 0, .ptr 2 0, .sl 6 (encKs os), .int .i64 (os.length : Nat), .int .i64 ((i + 1) : Nat)]) (σ' := τ4 (DX xa xb xc) (DT k s v ar) (encXs (((os.take (i + 1)).flatMap g).take 300))) (sl := fun e => [e 2, e 3, e 4, e 7, e 35, e 36, e 37]) (slots := [2, 3, 4, 7, 35, 36, 37]) CB.shut tysOk fnsOk follows eqOk rfl hE hO (fun _ => rfl) dM.ok dM.calm h (Eq.mp (dM.eq d (encKs os) (os.length : Nat) (i : Nat) xa xb xc k s v ar (encXs (((os.take (i + 1)).flatMap g).take 300)) (KX .normal [.int .i64 d, .ptr 0 0, .ptr 1 0, .ptr 2 0, .sl 6 (encKs os), .int .i64 (os.length : Nat), .int .i64 ((i + 1) : Nat)] (τ4 (DX xa xb xc) (DT k s v ar) (encXs (((os.take (i + 1)).flatMap g).take 300))))) ⟨rfl, by rw [zstep (by omega)], rfl⟩) rfl ?_
        intro a2 W2 s4 q2
        have c37' : a2.tmps.getD 37 undef = .int .i64 ((i + 1 : Nat) : Int) := s4.intAt rfl
        refine ⟨⟨i + 1, ds', hlt, mk hM' q2, s4⟩, ?_⟩
        rw [c37', c37]
        show os.length - ((i + 1 : Nat) : Int).toNat < os.length - ((i : Nat) : Int).toNat
        rw [Int.toNat_natCast, Int.toNat_natCast]; omega
      have hWG : dG.W d (encKs os) (os.length : Nat) (i : Nat) xa xb xc k s v ar (encXs (((os.take i).flatMap g).take 300)) (KX .normal [.int .i64 d, .ptr 0 0, .ptr 1 0, .ptr 2 0, .sl 6 (encKs os), .int .i64 (os.length : Nat), .int .i64 (i : Nat), .ptr 4 0] (τ5 (DX xa xb xc) (DT k s v ar) (encXs (((os.take i).flatMap g).take 300)) 1 (DC c.name (c.args.length : Nat) c.ty (rowsS c.vars) (encEs c.args) c.tag))) := by
        unfold dG.W
        rw [encKs_length]
        exact ⟨by omega, by omega, c.name, (c.args.length : Nat), c.ty, rowsS c.vars, encEs c.args, c.tag, krow hc, rfl, rfl, rfl⟩
      refine wpIn_seq (wpIn_block (wpIn_seq (StC.pcC (ex0 := .normal) (vs0 := [.int .i64 d, .ptr 0 0, .ptr 1 0, .ptr 2 0, .sl 6 (encKs os), .int .i64 (os.length : Nat), .int .i64 (i : Nat), .ptr 4 0]) (σ' := τ5 (DX xa xb xc) (DT k s v ar) (encXs (((os.take i).flatMap g).take 300)) 1 (DC c.name (c.args.length : Nat) c.ty (rowsS c.vars) (encEs c.args) c.tag)) (sl := fun e => [e 2, e 3, e 4, e 7, e 35, e 36, e 37, e 9]) (slots := [2, 3, 4, 7, 35, 36, 37, 9]) CB.shut tysOk fnsOk follows eqOk rfl hE hO (fun _ => rfl) dG.ok dG.calm s3 (Eq.mp (dG.eq d (encKs os) (os.length : Nat) (i : Nat) xa xb xc k s v ar (encXs (((os.take i).flatMap g).take 300)) (KX .normal [.int .i64 d, .ptr 0 0, .ptr 1 0, .ptr 2 0, .sl 6 (encKs os), .int .i64 (os.length : Nat), .int .i64 (i : Nat), .ptr 4 0] (τ5 (DX xa xb xc) (DT k s v ar) (encXs (((os.take i).flatMap g).take 300)) 1 (DC c.name (c.args.length : Nat) c.ty (rowsS c.vars) (encEs c.args) c.tag)))) hWG) rfl ?_)))
      intro a2 W2 s4 q2
      have hM2 := mk hM1 q2
      clear hWG s3 hM1 q2
      have s5 : StC ax G (C0 w0 F0 β0) ds Tryd.f7.ntmps (envL [(2, .int .i64 d), (3, .ptr 0 0), (4, .ptr 1 0), (7, .ptr 2 0), (35, .sl 6 (encKs os)), (36, .int .i64 (os.length : Nat)), (37, .int .i64 (i : Nat)), (9, .ptr 4 0)]) (τ5 (DX xa xb xc) (DT k s v ar) (encXs (((os.take i).flatMap g).take 300)) 0 (DC c.name (c.args.length : Nat) c.ty (rowsS c.vars) (encEs c.args) c.tag)) a2 W2 := StC.takeB s4 5 (by kernel_rfl) (by kernel_rfl) (by kernel_rfl)
      clear s4
      cases hfs : fieldsP c (.mk k s v tl) with
      | none =>
        rw [hfs] at hF hgc
        refine wpIn_seq (StC.pcC (ex0 := .normal) (vs0 := [.int .i64 d, .ptr 0 0, .ptr 1 0, .ptr 2 0, .sl 6 (encKs os), .int .i64 (os.length : Nat), .int .i64 (i : Nat), .ptr 4 0, .sl 4 [], .bool false]) (σ' := τ5 (DX xa xb xc) (DT k s v ar) (encXs (((os.take i).flatMap g).take 300)) 0 (DC c.name (c.args.length : Nat) c.ty (rowsS c.vars) (encEs c.args) c.tag)) (sl := fun e => [e 2, e 3, e 4, e 7, e 35, e 36, e 37, e 9, e 10, e 11]) (slots := [2, 3, 4, 7, 35, 36, 37, 9, 10, 11]) CB.shut tysOk fnsOk follows eqOk rfl hE hO (fun _ => rfl) dH.ok dH.calm s5 (Eq.mp (dH.eq d (encKs os) (os.length : Nat) (i : Nat) xa xb xc k s v ar (encXs (((os.take i).flatMap g).take 300)) c.name (c.args.length : Nat) c.ty (rowsS c.vars) (encEs c.args) c.tag (KX .normal [.int .i64 d, .ptr 0 0, .ptr 1 0, .ptr 2 0, .sl 6 (encKs os), .int .i64 (os.length : Nat), .int .i64 (i : Nat), .ptr 4 0, .sl 4 [], .bool false] (τ5 (DX xa xb xc) (DT k s v ar) (encXs (((os.take i).flatMap g).take 300)) 0 (DC c.name (c.args.length : Nat) c.ty (rowsS c.vars) (encEs c.args) c.tag)))) (hF.mono fun r hr => ⟨[], false, hr, rfl, rfl, rfl⟩)) rfl ?_)
        intro a3 W3 s6 q3
        have hM3 := mk hM2 q3
        refine wpIn_seq (StC.pcC (ex0 := (.exit 2)) (vs0 := [.int .i64 d, .ptr 0 0, .ptr 1 0, .ptr 2 0, .sl 6 (encKs os), .int .i64 (os.length : Nat), .int .i64 (i : Nat), .ptr 4 0, .sl 4 []]) (σ' := τ5 (DX xa xb xc) (DT k s v ar) (encXs (((os.take i).flatMap g).take 300)) 0 (DC c.name (c.args.length : Nat) c.ty (rowsS c.vars) (encEs c.args) c.tag)) (sl := fun e => [e 2, e 3, e 4, e 7, e 35, e 36, e 37, e 9, e 10]) (slots := [2, 3, 4, 7, 35, 36, 37, 9, 10]) CB.shut tysOk fnsOk follows eqOk rfl hE hO (fun _ => rfl) dI.ok dI.calm s6 (Eq.mp (dI.eq d (encKs os) (os.length : Nat) (i : Nat) [] false xa xb xc k s v ar (encXs (((os.take i).flatMap g).take 300)) c.name (c.args.length : Nat) c.ty (rowsS c.vars) (encEs c.args) c.tag (KX (.exit 2) [.int .i64 d, .ptr 0 0, .ptr 1 0, .ptr 2 0, .sl 6 (encKs os), .int .i64 (os.length : Nat), .int .i64 (i : Nat), .ptr 4 0, .sl 4 []] (τ5 (DX xa xb xc) (DT k s v ar) (encXs (((os.take i).flatMap g).take 300)) 0 (DC c.name (c.args.length : Nat) c.ty (rowsS c.vars) (encEs c.args) c.tag)))) ⟨rfl, rfl, rfl⟩) rfl ?_)
        intro a4 W4 s7 q4
        have hM4 := mk hM3 q4
        have s8 : StC ax G (C0 w0 F0 β0) ds Tryd.f7.ntmps (envL [(2, .int .i64 d), (3, .ptr 0 0), (4, .ptr 1 0), (7, .ptr 2 0), (35, .sl 6 (encKs os)), (36, .int .i64 (os.length : Nat)), (37, .int .i64 (i : Nat))]) (τ4 (DX xa xb xc) (DT k s v ar) (encXs (((os.take i).flatMap g).take 300))) a4 W4 := StC.takeB (s7.sub (L' := [(2, .int .i64 d), (3, .ptr 0 0), (4, .ptr 1 0), (7, .ptr 2 0), (35, .sl 6 (encKs os)), (36, .int .i64 (os.length : Nat)), (37, .int .i64 (i : Nat))]) (by kernel_rfl)) 4 (by kernel_rfl) (by kernel_rfl) (by kernel_rfl)
        have he : g c = [] := hgc
        rw [he, List.append_nil] at hnext
        rw [← hnext] at s8
        exact thenX (inB (step _ _ _ s8 hM4))
      | some fs =>
        rw [hfs] at hF hgc
        obtain ⟨_, hfl2, hths⟩ := hth fs hfs
        refine wpIn_seq (StC.pcC (ex0 := .normal) (vs0 := [.int .i64 d, .ptr 0 0, .ptr 1 0, .ptr 2 0, .sl 6 (encKs os), .int .i64 (os.length : Nat), .int .i64 (i : Nat), .ptr 4 0, .sl 4 (encs fs), .bool true]) (σ' := τ5 (DX xa xb xc) (DT k s v ar) (encXs (((os.take i).flatMap g).take 300)) 0 (DC c.name (c.args.length : Nat) c.ty (rowsS c.vars) (encEs c.args) c.tag)) (sl := fun e => [e 2, e 3, e 4, e 7, e 35, e 36, e 37, e 9, e 10, e 11]) (slots := [2, 3, 4, 7, 35, 36, 37, 9, 10, 11]) CB.shut tysOk fnsOk follows eqOk rfl hE hO (fun _ => rfl) dH.ok dH.calm s5 (Eq.mp (dH.eq d (encKs os) (os.length : Nat) (i : Nat) xa xb xc k s v ar (encXs (((os.take i).flatMap g).take 300)) c.name (c.args.length : Nat) c.ty (rowsS c.vars) (encEs c.args) c.tag (KX .normal [.int .i64 d, .ptr 0 0, .ptr 1 0, .ptr 2 0, .sl 6 (encKs os), .int .i64 (os.length : Nat), .int .i64 (i : Nat), .ptr 4 0, .sl 4 (encs fs), .bool true] (τ5 (DX xa xb xc) (DT k s v ar) (encXs (((os.take i).flatMap g).take 300)) 0 (DC c.name (c.args.length : Nat) c.ty (rowsS c.vars) (encEs c.args) c.tag)))) (hF.mono fun r hr => ⟨encs fs, true, hr, rfl, rfl, rfl⟩)) rfl ?_)
        intro a3 W3 s6 q3
        have hM3 := mk hM2 q3
        refine wpIn_seq (StC.pcC (ex0 := .normal) (vs0 := [.int .i64 d, .ptr 0 0, .ptr 1 0, .ptr 2 0, .sl 6 (encKs os), .int .i64 (os.length : Nat), .int .i64 (i : Nat), .ptr 4 0, .sl 4 (encs fs)]) (σ' := τ5 (DX xa xb xc) (DT k s v ar) (encXs (((os.take i).flatMap g).take 300)) 0 (DC c.name (c.args.length : Nat) c.ty (rowsS c.vars) (encEs c.args) c.tag)) (sl := fun e => [e 2, e 3, e 4, e 7, e 35, e 36, e 37, e 9, e 10]) (slots := [2, 3, 4, 7, 35, 36, 37, 9, 10]) CB.shut tysOk fnsOk follows eqOk rfl hE hO (fun _ => rfl) dI.ok dI.calm s6 (Eq.mp (dI.eq d (encKs os) (os.length : Nat) (i : Nat) (encs fs) true xa xb xc k s v ar (encXs (((os.take i).flatMap g).take 300)) c.name (c.args.length : Nat) c.ty (rowsS c.vars) (encEs c.args) c.tag (KX .normal [.int .i64 d, .ptr 0 0, .ptr 1 0, .ptr 2 0, .sl 6 (encKs os), .int .i64 (os.length : Nat), .int .i64 (i : Nat), .ptr 4 0, .sl 4 (encs fs)] (τ5 (DX xa xb xc) (DT k s v ar) (encXs (((os.take i).flatMap g).take 300)) 0 (DC c.name (c.args.length : Nat) c.ty (rowsS c.vars) (encEs c.args) c.tag)))) ⟨rfl, rfl, rfl⟩) rfl ?_)
        intro a4 W4 s7 q4
        have hM4 := mk hM3 q4
        have hR := rows_spec xa xb xc (encs fs) (d - 1)
        have hWJ : dJ.W d (encKs os) (os.length : Nat) (i : Nat) (encs fs) xa xb xc k s v ar (encXs (((os.take i).flatMap g).take 300)) c.name (c.args.length : Nat) c.ty (rowsS c.vars) (encEs c.args) c.tag (KX .normal [.int .i64 d, .ptr 0 0, .ptr 1 0, .ptr 2 0, .sl 6 (encKs os), .int .i64 (os.length : Nat), .int .i64 (i : Nat), .ptr 4 0, .fn 36 [] [.ptr 5 0, .ptr 6 0, .ptr 7 0]] (τ8 (DX xa xb xc) (DT k s v ar) (encXs (((os.take i).flatMap g).take 300)) (DC c.name (c.args.length : Nat) c.ty (rowsS c.vars) (encEs c.args) c.tag) (encs fs) (d - 1))) := by
          unfold dJ.W
          rw [w64 (by omega) (by omega)]
          exact hR.mono fun r o ⟨hr, ho⟩ => ⟨_, _, _, _, _, hr, ho, rfl, rfl, rfl⟩
        refine wpIn_seq (StC.pcC (ex0 := .normal) (vs0 := [.int .i64 d, .ptr 0 0, .ptr 1 0, .ptr 2 0, .sl 6 (encKs os), .int .i64 (os.length : Nat), .int .i64 (i : Nat), .ptr 4 0, .fn 36 [] [.ptr 5 0, .ptr 6 0, .ptr 7 0]]) (σ' := τ8 (DX xa xb xc) (DT k s v ar) (encXs (((os.take i).flatMap g).take 300)) (DC c.name (c.args.length : Nat) c.ty (rowsS c.vars) (encEs c.args) c.tag) (encs fs) (d - 1)) (sl := fun e => [e 2, e 3, e 4, e 7, e 35, e 36, e 37, e 9, e 55]) (slots := [2, 3, 4, 7, 35, 36, 37, 9, 55]) CB.shut tysOk fnsOk follows eqOk rfl hE hO (fun _ => rfl) dJ.ok dJ.calm s7 (Eq.mp (dJ.eq d (encKs os) (os.length : Nat) (i : Nat) (encs fs) xa xb xc k s v ar (encXs (((os.take i).flatMap g).take 300)) c.name (c.args.length : Nat) c.ty (rowsS c.vars) (encEs c.args) c.tag (KX .normal [.int .i64 d, .ptr 0 0, .ptr 1 0, .ptr 2 0, .sl 6 (encKs os), .int .i64 (os.length : Nat), .int .i64 (i : Nat), .ptr 4 0, .fn 36 [] [.ptr 5 0, .ptr 6 0, .ptr 7 0]] (τ8 (DX xa xb xc) (DT k s v ar) (encXs (((os.take i).flatMap g).take 300)) (DC c.name (c.args.length : Nat) c.ty (rowsS c.vars) (encEs c.args) c.tag) (encs fs) (d - 1)))) hWJ) rfl ?_)
        intro a5 W5 s8 q5
        have hM5 := mk hM4 q5
        have hrows : g c = (prodR (fs.map f)).map (mkD c) := hgc
        rw [hrows] at hnext
        clear hWJ hR s7 s6 s5
        refine wpIn_block (dom_range hE (f := f) (fs := fs) (dd := d - 1) (A := (os.take i).flatMap g) (fun Z => rows_iter hE xa xb xc (d - 1) f hfl ihm fs.length fs rfl hfl2 hths) s8 hM5 ?_ ?_)
        · intro a6 W6 ds6 h1 h2
          rw [← hnext] at h1
          exact step _ _ _ h1 h2
        · intro h300 a6 W6 ds6 h1 h2
          rw [← hnext] at h1 h300
          rw [← hcap h300] at h1
          exact ⟨rfl, ds6, h2, h1.sub (L' := [(2, .int .i64 d), (3, .ptr 0 0), (4, .ptr 1 0), (7, .ptr 2 0)]) (by kernel_rfl)⟩
    · rw [decide_eq_false (by omega)] at c38
      refine wpIn_seq (wpIn_cond_false c38 (wpIn_exit ?_))
      have hie : i = os.length := by omega
      subst hie
      rw [List.take_length] at s3
      exact ⟨rfl, ds, hM1, s3.sub (L' := [(2, .int .i64 d), (3, .ptr 0 0), (4, .ptr 1 0), (7, .ptr 2 0)]) (by kernel_rfl)⟩
  refine wpIn_block (wpIn_mono hloop ?_)
  rintro ex a8 w8 ⟨rfl, ds, hM, s9⟩
  refine inB (id := 1) ?_
  refine StC.pcC (ex0 := .ret) (vs0 := [.own 3]) (σ' := τ4 (DX xa xb xc) (DT k s v ar) (encXs ((os.flatMap g).take 300))) (sl := fun e => [e 6]) (slots := [6]) CB.shut tysOk fnsOk follows eqOk rfl hE hO (fun _ => rfl) dN.ok dN.calm s9 (Eq.mp (dN.eq d xa xb xc k s v ar (encXs ((os.flatMap g).take 300)) (KX .ret [.own 3] (τ4 (DX xa xb xc) (DT k s v ar) (encXs ((os.flatMap g).take 300))))) ⟨rfl, rfl, rfl⟩) rfl ?_
  intro a9 w9 s10 q9
  exact dom_fin (u := .own 3) (R := (encXs ((os.flatMap g).take 300))) s10 rfl rfl (mk hM q9) rfl
end Go.Proofs.YtahagnfdpemmaaaDoor.Va
end

/- part Y4K -/
section
namespace Go.Proofs.YtahagnfdpemmaaaDoor.Va
open Go.Vx Go.Av Go.Lx Go.Dr Go.Dm Go.Uni Go.RowKit

def rbL (l : List UInt8) : List (List V) := l.map fun b => [V.int .u8 (b.toNat : Int)]
theorem rowsOf_bs (l : List UInt8) : rowsOf ⟨l.toArray⟩ = rbL l := by simp [rowsOf, rbL]
theorem rbL_append (a b : List UInt8) : rbL (a ++ b) = rbL a ++ rbL b := by simp [rbL]
@[simp] theorem rbL_length (l : List UInt8) : (rbL l).length = l.length := by simp [rbL]
def nilD : Dd := .mk true 0 ⟨#[110, 105, 108]⟩ []
def consD : Dd := .mk true 0 ⟨#[99, 111, 110, 115]⟩ [num 1, nilD]
theorem measure_leaf (x : Dd) (hx : x = num 1 ∨ x = nilD) (n : Nat) (hn : n < 4000) : PCalls ax 42 [.agg (encX x), .int .i64 2, .int .i64 (n : Nat)] fun r => r = [.int .i64 ((n + 1 : Nat) : Int), .bool true] := by
  rcases hx with rfl | rfl
  · refine measure.calls (K := fun r => r = [.int .i64 ((n + 1 : Nat) : Int), .bool true]) ?_
    unfold measure.W
    rw [zstep (by omega)]
    exact ifD (fun h => absurd h (by decide)) (fun _ => ifD (fun h => by omega) (fun _ => ifN (fun _ => rfl) (fun h => by cases h)))
  · refine measure.calls (K := fun r => r = [.int .i64 ((n + 1 : Nat) : Int), .bool true]) ?_
    unfold measure.W
    rw [zstep (by omega)]
    refine ifD (fun h => absurd h (by decide)) (fun _ => ifD (fun h => by omega) (fun _ => ifN (fun h => by cases h) (fun _ => ?_)))
    refine ⟨fun us => us = [.int .i64 ((n + 1 : Nat) : Int), .int .i64 0], fun _ => 0, rfl, ?_⟩
    rintro a b e
    cases e
    exact ifD (fun h => absurd h (by decide)) (fun _ => rfl)
theorem measure_cons : PCalls ax 42 [.agg (encX consD), .int .i64 1, .int .i64 0] fun r => r = [.int .i64 3, .bool true] := by
  refine measure.calls (K := fun r => r = [.int .i64 3, .bool true]) ?_
  unfold measure.W
  rw [show IntKind.i64.wrap (0 + 1) = 1 from by rw [w64 (by omega) (by omega)]; rfl]
  refine ifD (fun h => absurd h (by decide)) (fun _ => ifD (fun h => absurd h (by decide)) (fun _ => ifN (fun h => by cases h) (fun _ => ?_)))
  refine ⟨fun us => ∃ j : Nat, j ≤ 2 ∧ us = [.int .i64 ((j + 1 : Nat) : Int), .int .i64 (j : Nat)], fun us => match us with | [_, .int _ i] => 2 - i.toNat | _ => 0, ⟨0, by omega, rfl⟩, ?_⟩
  rintro a b ⟨j, hj, e⟩
  cases e
  refine ifD (fun h => ?_) (fun h => ?_)
  · have hj2 : j < 2 := by have h : (j : Int) < 2 := h; omega
    refine ⟨by omega, h, ?_⟩
    rw [zstep (by omega), show IntKind.i64.wrap (1 + 1) = 2 from by rw [w64 (by omega) (by omega)]; rfl]
    match j, hj2 with
    | 0, _ =>
      exact ⟨_, _, _, _, rfl, (measure_leaf (num 1) (.inl rfl) 1 (by omega)).mono fun r hr => ⟨_, _, hr, ifN (fun h => by cases h) (fun _ => ⟨⟨1, by omega, rfl⟩, by decide⟩)⟩⟩
    | 1, _ =>
      exact ⟨_, _, _, _, rfl, (measure_leaf nilD (.inr rfl) 2 (by omega)).mono fun r hr => ⟨_, _, hr, ifN (fun h => by cases h) (fun _ => ⟨⟨2, by omega, rfl⟩, by decide⟩)⟩⟩
  · have hj2 : j = 2 := by have h : ¬ (j : Int) < 2 := h; omega
    subst hj2; rfl
theorem Good_cons : PCalls ax 23 [.agg (encX consD)] fun r => r = [.bool true] :=
  Good.calls (K := fun r => r = [.bool true]) (measure_cons.mono fun _ hr => ⟨_, _, hr, rfl⟩)

def by8 : List UInt8 := [1, 0, 0, 0, 0, 0, 0, 0]
theorem by8_step : ∀ j, j < 8 → rbL (0 :: by8.take j) ++ [[V.int .u8 (IntKind.u8.wrap (Int.fdiv (IntKind.u64.wrap 1) (2 ^ min (((8 * j : Nat) : Int)).toNat IntKind.u64.bits)))]] = rbL (0 :: by8.take (j + 1)) := by
  intro j hj
  match j, hj with
  | 0, _ => rfl
  | 1, _ => rfl
  | 2, _ => rfl
  | 3, _ => rfl
  | 4, _ => rfl
  | 5, _ => rfl
  | 6, _ => rfl
  | 7, _ => rfl
theorem put_one (l : List UInt8) (hl : l.length ≤ 1000) : SCalls ax 24 [.own 0, .agg (encX (num 1))] [.lst 5 1 false (rbL l)] fun r o => r = [.own 1, .err none] ∧ o = [.dead, .lst 5 1 false (rbL (l ++ 0 :: by8))] := by
  refine put.calls (K := fun r o => r = [.own 1, .err none] ∧ o = [.dead, .lst 5 1 false (rbL (l ++ 0 :: by8))]) ?_
  unfold put.W
  refine ifN (fun _ => ?_) (fun h => by cases h)
  rw [rbL_length]
  simp only [List.length_cons, List.length_nil]
  refine ⟨by omega, by omega, fun us => ∃ j : Nat, j ≤ 8 ∧ us = [.sl 1 (rbL l ++ rbL (0 :: by8.take j)), .int .i64 ((8 * j : Nat) : Int)], fun us => match us with | [_, .int _ i] => 64 - i.toNat | _ => 0, ⟨0, by omega, rfl⟩, ?_⟩
  rintro l17 n18 ⟨j, hj, e⟩
  cases e
  refine ifD (fun h => ?_) (fun h => ?_)
  · have hj2 : j < 8 := by omega
    rw [List.append_assoc, by8_step j hj2, w64 (by omega) (by omega)]
    have hlen : (rbL l ++ rbL (0 :: by8.take j)).length ≤ 1010 := by
      simp only [List.length_append, rbL_length, List.length_cons, List.length_take]; omega
    refine ⟨by omega, by omega, by omega, ⟨j + 1, by omega, by congr 3⟩, ?_⟩
    show 64 - (((8 * j : Nat) : Int) + 8).toNat < 64 - (((8 * j : Nat) : Int)).toNat
    omega
  · have hj2 : j = 8 := by omega
    subst hj2
    exact ⟨trivial, by rw [rbL_append]; rfl⟩
def nilB : List UInt8 := [1, 3, 110, 105, 108, 0]
theorem put_nil (l : List UInt8) (hl : l.length ≤ 1000) : SCalls ax 24 [.own 0, .agg (encX nilD)] [.lst 5 1 false (rbL l)] fun r o => r = [.own 1, .err none] ∧ o = [.dead, .lst 5 1 false (rbL (l ++ nilB))] := by
  refine put.calls (K := fun r o => r = [.own 1, .err none] ∧ o = [.dead, .lst 5 1 false (rbL (l ++ nilB))]) ?_
  unfold put.W
  have hr : rowsOf (⟨#[110, 105, 108]⟩ : ByteArray) = rbL [110, 105, 108] := rowsOf_bs _
  rw [hr]
  refine ifN (fun h => by cases h) (fun _ => ifD (fun h => absurd h (by decide)) (fun _ => ifD (fun h => absurd h (by decide)) (fun _ => ifD (fun h => absurd h (by decide)) (fun _ => ?_))))
  have e1 : ((rbL l ++ [[V.int .u8 1], [V.int .u8 (IntKind.u8.wrap ((ByteArray.size ⟨#[110, 105, 108]⟩ : Nat) : Int))]]) ++ rbL [110, 105, 108]) ++ [[V.int .u8 (IntKind.u8.wrap (((encXs []).length : Nat) : Int))]] = rbL (l ++ nilB) := by
    rw [rbL_append, List.append_assoc, List.append_assoc]
    congr 1
  simp only [List.length_append, rbL_length, List.length_cons, List.length_nil]
  refine ⟨by omega, by omega, by omega, by omega, by omega, by omega, fun us => us = [.sl 1 (rbL (l ++ nilB)), .int .i64 0], fun _ => 0, by rw [← e1], ?_⟩
  rintro l48 n49 e
  cases e
  exact ifD (fun h => absurd h (by decide)) (fun _ => ⟨trivial, rfl⟩)
def headB : List UInt8 := [1, 4, 99, 111, 110, 115, 2]
theorem put0_cons : SCalls ax 24 [.nls, .agg (encX consD)] [] fun r o => r = [.own 0, .err none] ∧ o = [.lst 5 1 false (rbL ((headB ++ 0 :: by8) ++ nilB))] := by
  refine put0.calls (K := fun r o => r = [.own 0, .err none] ∧ o = [.lst 5 1 false (rbL ((headB ++ 0 :: by8) ++ nilB))]) ?_
  unfold put0.W
  have hr : rowsOf (⟨#[99, 111, 110, 115]⟩ : ByteArray) = rbL [99, 111, 110, 115] := rowsOf_bs _
  rw [hr]
  refine ifN (fun h => by cases h) (fun _ => ifD (fun h => absurd h (by decide)) (fun _ => ifD (fun h => absurd h (by decide)) (fun _ => ifD (fun h => absurd h (by decide)) (fun _ => ?_))))
  refine ⟨by decide, by decide, by decide, by decide, by decide, by decide, fun us => us = [.sl 1 (rbL headB), .int .i64 0] ∨ us = [.sl 1 (rbL (headB ++ 0 :: by8)), .int .i64 1] ∨ us = [.sl 1 (rbL ((headB ++ 0 :: by8) ++ nilB)), .int .i64 2], fun us => match us with | [_, .int _ i] => 2 - i.toNat | _ => 0, .inl (by kernel_rfl), ?_⟩
  rintro l48 n49 (e | e | e)
  · cases e
    refine ifD (fun h => ?_) (fun h => absurd (show (0 : Int) < 2 by decide) h)
    refine ⟨by decide, h, _, _, _, _, rfl, (put_one headB (by decide)).mono fun r o ⟨hr, ho⟩ => ⟨_, _, hr, ho, ifN (fun h => by cases h) (fun _ => ⟨.inr (.inl ?_), by decide⟩)⟩⟩
    rw [show IntKind.i64.wrap (0 + 1) = 1 from by rw [w64 (by omega) (by omega)]; rfl]
  · cases e
    refine ifD (fun h => ?_) (fun h => absurd (show (1 : Int) < 2 by decide) h)
    refine ⟨by decide, h, _, _, _, _, rfl, (put_nil (headB ++ 0 :: by8) (by decide)).mono fun r o ⟨hr, ho⟩ => ⟨_, _, hr, ho, ifN (fun h => by cases h) (fun _ => ⟨.inr (.inr ?_), by decide⟩)⟩⟩
    rw [show IntKind.i64.wrap (1 + 1) = 2 from by rw [w64 (by omega) (by omega)]; rfl]
  · cases e
    exact ifD (fun h => absurd h (by decide)) (fun _ => ⟨rfl, rfl⟩)
theorem alive_spec : PCalls ax 4 [] fun r => r = [.bool true] := by
  refine alive.calls (K := fun r => r = [.bool true]) ?_
  unfold alive.W
  have hE : PCalls ax 11 [.agg (encX consD)] fun r => r = [.sl 1 (rbL ((headB ++ 0 :: by8) ++ nilB)), .err none] := by
    refine Encode.calls (K := fun r => r = [.sl 1 (rbL ((headB ++ 0 :: by8) ++ nilB)), .err none]) ?_
    unfold Encode.W
    exact Good_cons.mono fun r hr => ⟨_, hr, ifN (fun h => by cases h) (fun _ => put0_cons.mono fun r o ⟨hr, ho⟩ => ⟨_, _, hr, ho, rfl⟩)⟩
  refine hE.mono fun r hr => ⟨_, _, hr, ?_⟩
  refine ⟨⟨((headB ++ 0 :: by8) ++ nilB).toArray⟩, (rowsOf_bs _).symm, ?_⟩
  have : strEq (⟨((headB ++ 0 :: by8) ++ nilB).toArray⟩ : ByteArray) ⟨#[1, 4, 99, 111, 110, 115, 2, 0, 1, 0, 0, 0, 0, 0, 0, 0, 1, 3, 110, 105, 108, 0]⟩ = true := decide_eq_true rfl
  rw [this]

/-- **DataDomains**, at the model's run -/
theorem Domains_spec (src : List UInt8) (t : Tm) (ht : size t ≤ 1099511627776) (d : Int) : PCalls ax 3 [.str (bs src), .agg (enc t), .int .i64 d] fun r => r = [.bool true] := by
  obtain ⟨k, s, v, l, rfl⟩ := tm_cases t
  refine Domains.calls (K := fun r => r = [.bool true]) ?_
  unfold Domains.W
  refine alive_spec.mono fun r hr => ⟨true, hr, ifN (fun h => by cases h) (fun _ => ?_)⟩
  refine (Named_spec src).mono fun r ⟨Zs, Ts, Ps, cs, b, hr, hb⟩ => ⟨_, _, _, _, _, hr, ifN (fun _ => rfl) (fun hbt => ?_)⟩
  have hG := hb hbt
  refine (heavy_spec _ ht).mono fun r hr => ⟨_, hr, ifD (fun _ => rfl) (fun h12 => ?_)⟩
  have hth : thin 20000 (.mk k s v l) := thin_size _ (by omega)
  refine (Domain_spec hG Ts Ps (depN d) d _ rfl hth).mono fun r hr => ⟨_, hr, ?_⟩
  refine (RDomain_spec hG Ts Ps (depN d) d _ rfl hth).mono fun r hr => ⟨_, hr, ?_⟩
  obtain ⟨D, hD⟩ : ∃ D, dom cs (depN d) (.mk k s v l) = D := ⟨_, rfl⟩
  have hcl := dom_clean hG (depN d) (.mk k s v l)
  have hnd := dom_nodup hG (depN d) (.mk k s v l)
  have hln := dom_len cs (depN d) (.mk k s v l)
  rw [hD] at hcl hnd hln ⊢
  refine (SameList_refl D (by omega) hcl).mono fun r hr => ⟨true, hr, ifN (fun h => by cases h) (fun _ => ?_)⟩
  rw [encXs_length]
  refine ⟨fun us => ∃ i : Nat, i ≤ D.length ∧ us = [.int .i64 i], muA D.length, ⟨0, Nat.zero_le _, rfl⟩, ?_⟩
  rintro n66 ⟨i, hi, e⟩
  cases e
  refine ifD (fun hlt => ?_) (fun _ => rfl)
  refine ⟨fun us => ∃ j : Nat, j ≤ i ∧ us = [.int .i64 j], muA i, ⟨0, Nat.zero_le _, rfl⟩, ?_⟩
  rintro n80 ⟨j, hj, e⟩
  cases e
  refine ifD (fun hlt2 => ?_) (fun _ => ?_)
  · obtain ⟨c1, m1, s1, l1, he1⟩ := xget (zs := D) (i := i) (by omega)
    obtain ⟨c2, m2, s2, l2, he2⟩ := xget (zs := D) (i := j) (by omega)
    refine ⟨by omega, hlt, c1, m1, s1, encXs l1, xrow he1, by omega, by omega, c2, m2, s2, encXs l2, xrow he2, ?_⟩
    refine (Compare_spec (.mk c1 m1 s1 l1) (.mk c2 m2 s2 l2) (hcl _ (List.mem_of_getElem? he1)) (hcl _ (List.mem_of_getElem? he2))).mono fun r ⟨q, hr, hq⟩ => ⟨q, hr, ifE (fun h0 => ?_) (fun _ => ?_)⟩
    · obtain ⟨hi1, e1⟩ := List.getElem?_eq_some_iff.1 he1
      obtain ⟨hi2, e2⟩ := List.getElem?_eq_some_iff.1 he2
      exact absurd (by rw [e1, e2, hq h0]) (List.pairwise_iff_getElem.1 hnd j i hi2 hi1 (by omega))
    · rw [zstep (by omega)]
      exact ⟨⟨j + 1, by omega, rfl⟩, by simp only [muA, Int.toNat_natCast]; omega⟩
  · rw [zstep (by omega)]
    exact ⟨⟨i + 1, by omega, rfl⟩, by simp only [muA, Int.toNat_natCast]; omega⟩
end Go.Proofs.YtahagnfdpemmaaaDoor.Va
end
