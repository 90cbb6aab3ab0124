/- Data that came in, as types and expressions; the errors and the table that the program's text lays. -/
import Derived.Test.YtdgekhanonfikaaDoorF5
import Derived.Lib.Itoa
import Derived.Lib.ItoaNum
import Derived.Lib.Join
import Derived.Test.YtdgekhanonfikaaDoorF6
import Derived.Lib.AppendIntMem
import Derived.Test.YtdgekhanonfikaaDoorF3
import Derived.Test.YtdgekhanonfikaaDoorCards
import Derived.Test.YtdgekhanonfikaaDoorTie
import Derived.WalkKit
import Derived.ProofKit
import Derived.OpenShut
import Derived.ChangeOld
import Derived.Lib.SmallJoins
import Derived.Deep.Slices
import Derived.Deep.DeepHandedRow
import Derived.Deep.DeepWitnessRowRef
import Derived.Lib.LaidTab
import Derived.LaidMore
import Derived.Stop.LaidErr
import Derived.Stop.LaidTwo
import Derived.Stop.Joined
/- part U5M -/
section
namespace Go.Uni
open Go.Av

instance textEq : LawfulBEq ByteArray where
  eq_of_beq h := by rw [Go.Vx.same_text] at h; exact of_decide_eq_true h
  rfl := by intro a; rw [Go.Vx.same_text]; exact decide_eq_true rfl
/-! ### lists without what was met -/
def ddF {α : Type} [DecidableEq α] (m : List α) : List α → List α
  | [] => m
  | n :: r => ddF (if n ∈ m then m else m ++ [n]) r
theorem ddF_append {α : Type} [DecidableEq α] : ∀ (l r m : List α), ddF m (l ++ r) = ddF (ddF m l) r
  | [], _, _ => rfl
  | _ :: l, r, _ => ddF_append l r _
theorem ddF_mem {α : Type} [DecidableEq α] : ∀ (l m : List α) (x : α), x ∈ ddF m l ↔ x ∈ m ∨ x ∈ l
  | [], m, x => by simp [ddF]
  | n :: r, m, x => by
    rw [ddF, ddF_mem]
    split
    · rename_i h
      constructor
      · rintro (h1 | h1)
        · exact .inl h1
        · exact .inr (List.mem_cons_of_mem _ h1)
      · rintro (h1 | h1)
        · exact .inl h1
        · rcases List.mem_cons.1 h1 with e | h1
          · exact .inl (e ▸ h)
          · exact .inr h1
    · rw [List.mem_append, List.mem_singleton, List.mem_cons, or_assoc]
theorem ddF_nodup {α : Type} [DecidableEq α] : ∀ (l m : List α), m.Nodup → (ddF m l).Nodup
  | [], _, h => h
  | n :: r, m, h => by
    rw [ddF]
    apply ddF_nodup
    split
    · exact h
    · rename_i hn
      rw [List.nodup_append]
      exact ⟨h, by simp, fun a ha b hb => by rw [List.mem_singleton] at hb; subst hb; exact fun e => hn (e ▸ ha)⟩
theorem ddF_len {α : Type} [DecidableEq α] : ∀ (l m : List α), (ddF m l).length ≤ m.length + l.length
  | [], _ => Nat.le_refl _
  | n :: r, m => by
    rw [ddF]
    have := ddF_len r (if n ∈ m then m else m ++ [n])
    have h2 : (if n ∈ m then m else m ++ [n]).length ≤ m.length + 1 := by split <;> simp
    simp only [List.length_cons]; omega
/-- it goes on from what was met -/
theorem ddF_pre {α : Type} [DecidableEq α] : ∀ (l m : List α), ∃ e, ddF m l = m ++ e
  | [], m => ⟨[], by simp [ddF]⟩
  | n :: r, m => by
    rw [ddF]
    split
    · exact ddF_pre r m
    · obtain ⟨e, h⟩ := ddF_pre r (m ++ [n])
      exact ⟨n :: e, by rw [h]; simp⟩
theorem ddF_in {α : Type} [DecidableEq α] : ∀ (l m : List α), (∀ x ∈ l, x ∈ m) → ddF m l = m
  | [], _, _ => rfl
  | n :: r, m, h => by
    rw [ddF, if_pos (h n List.mem_cons_self)]
    exact ddF_in r m fun x hx => h x (List.mem_cons_of_mem _ hx)
theorem ddF_snoc {α : Type} [DecidableEq α] (l : List α) (m : List α) (x : α) : ddF m (l ++ [x]) = if x ∈ ddF m l then ddF m l else ddF m l ++ [x] := by
  rw [ddF_append]; rfl
theorem ddF_take_in {α : Type} [DecidableEq α] {l m : List α} {j : Nat} {x : α} (h : l[j]? = some x) (hx : x ∈ ddF m (l.take j)) : ddF m (l.take (j + 1)) = ddF m (l.take j) := by
  rw [List.take_add_one, h]
  show ddF m (l.take j ++ [x]) = _
  rw [ddF_snoc, if_pos hx]
theorem ddF_take_out {α : Type} [DecidableEq α] {l m : List α} {j : Nat} {x : α} (h : l[j]? = some x) (hx : x ∉ ddF m (l.take j)) : ddF m (l.take (j + 1)) = ddF m (l.take j) ++ [x] := by
  rw [List.take_add_one, h]
  show ddF m (l.take j ++ [x]) = _
  rw [ddF_snoc, if_neg hx]
/-- what is met twice counts once -/
theorem ddF_dd {α : Type} [DecidableEq α] (m : List α) : ∀ l : List α, ddF m (ddF [] l) = ddF m l := by
  have snoc : ∀ n : Nat, ∀ l : List α, l.length = n → ddF m (ddF [] l) = ddF m l := by
    intro n
    induction n with
    | zero => intro l h; rw [List.eq_nil_of_length_eq_zero h]; rfl
    | succ n ih =>
      intro l h
      obtain ⟨r, x, rfl⟩ : ∃ r x, l = r ++ [x] := ⟨l.dropLast, l.getLast (by intro e; rw [e] at h; simp at h), by rw [List.dropLast_concat_getLast]⟩
      have hr := ih r (by simpa using h)
      rw [ddF_snoc r [] x, ddF_snoc r m x]
      by_cases hx : x ∈ ddF [] r
      · rw [if_pos hx, hr, if_pos ((ddF_mem _ _ _).2 (.inr (((ddF_mem _ _ _).1 hx).resolve_left (by simp))))]
      · rw [if_neg hx, ddF_snoc, hr]
  exact fun l => snoc _ l rfl

/-! ### types in expressions -/
inductive Te where
  | mk (b : Bool) (s : ByteArray) (zs : List Te)
theorem Te.ind {p : Te → Prop} (h : ∀ b s zs, (∀ a ∈ zs, p a) → p (.mk b s zs)) : ∀ t, p t
  | .mk b s zs => h b s zs (go zs)
where go : ∀ zs : List Te, ∀ a ∈ zs, p a
  | b :: r, a, hm => by
    rcases List.mem_cons.1 hm with e | e
    · rw [e]; exact Te.ind h b
    · exact go r a e
mutual
def encE : Te → List V
  | .mk b s zs => [.bool b, .str s, .sl 3 (encEs zs)]
def encEs : List Te → List (List V)
  | [] => []
  | t :: r => encE t :: encEs r
end
theorem encEs_eq : ∀ zs, encEs zs = zs.map encE
  | [] => rfl
  | t :: r => by rw [encEs, encEs_eq r]; rfl
@[simp] theorem encEs_length (zs : List Te) : (encEs zs).length = zs.length := by rw [encEs_eq]; simp
theorem encE_take (t : Te) : (encE t).take 3 = encE t := by cases t; rfl
theorem row_encEs {zs : List Te} {i : Nat} {t : Te} (h : zs[i]? = some t) : List.take 3 (Av.rowAt (encEs zs) i) = encE t := by
  rw [encEs_eq, Av.rowAt, List.getD_eq_getElem?_getD, List.getElem?_map, h]
  exact encE_take t
mutual
def sizeE : Te → Nat
  | .mk _ _ zs => 1 + sizeEs zs
def sizeEs : List Te → Nat
  | [] => 0
  | t :: r => sizeE t + sizeEs r
end
theorem sizeE_mem {a : Te} : ∀ {zs : List Te}, a ∈ zs → sizeE a ≤ sizeEs zs
  | b :: r, h => by
    simp only [sizeEs]
    rcases List.mem_cons.1 h with rfl | h
    · omega
    · have := sizeE_mem h; omega
theorem sizeE_pos (t : Te) : 1 ≤ sizeE t := by cases t; simp only [sizeE]; omega
theorem length_sizeEs : ∀ zs : List Te, zs.length ≤ sizeEs zs
  | [] => Nat.le_refl _
  | b :: r => by have := length_sizeEs r; have := sizeE_pos b; simp only [sizeEs, List.length_cons]; omega
theorem sizeEs_take {zs : List Te} {i : Nat} : sizeEs (zs.take i) ≤ sizeEs zs := by
  induction zs generalizing i with
  | nil => simp
  | cons a r ih => cases i with
    | zero => simp [sizeEs]
    | succ i => simp only [List.take_succ_cons, sizeEs]; have := @ih i; omega

/-! ### names -/
mutual
def namesE : Te → List ByteArray
  | .mk b s zs => if b then [s] else ddF [] (namesL zs)
def namesL : List Te → List ByteArray
  | [] => []
  | t :: r => namesE t ++ namesL r
end
theorem namesL_append (a b : List Te) : namesL (a ++ b) = namesL a ++ namesL b := by
  induction a with
  | nil => rfl
  | cons t r ih => simp only [List.cons_append, namesL, ih, List.append_assoc]
theorem namesL_take {zs : List Te} {i : Nat} {t : Te} (h : zs[i]? = some t) : namesL (zs.take (i + 1)) = namesL (zs.take i) ++ namesE t := by
  rw [List.take_add_one, h, namesL_append]; simp [namesL]
theorem namesE_len : ∀ t : Te, (namesE t).length ≤ sizeE t := by
  refine Te.ind fun b s zs ih => ?_
  have : ∀ zs : List Te, (∀ a ∈ zs, (namesE a).length ≤ sizeE a) → (namesL zs).length ≤ sizeEs zs := by
    intro zs
    induction zs with
    | nil => intro _; simp [namesL, sizeEs]
    | cons a r ihr =>
      intro h
      have h1 := h a List.mem_cons_self
      have h2 := ihr fun b hb => h b (List.mem_cons_of_mem _ hb)
      simp only [namesL, sizeEs, List.length_append]; omega
  have h1 := this zs ih
  have h2 := ddF_len (namesL zs) []
  simp only [namesE, sizeE]
  split
  · simp
  · simp only [List.length_nil] at h2; omega
theorem namesL_len : ∀ zs, (namesL zs).length ≤ sizeEs zs
  | [] => by simp [namesL]
  | a :: r => by have := namesL_len r; have := namesE_len a; simp only [namesL, sizeEs, List.length_append]; omega

/-! ### instances -/
def lookE : List (ByteArray × Tm) → ByteArray → Option Tm
  | [], _ => none
  | (a, t) :: l, q => cond (decide (q = a)) (some t) (lookE l q)
def mapE (env : List (ByteArray × Tm)) : List (List V) := env.map fun p => [.str p.1, .agg (enc p.2)]
theorem look_mapE (q : ByteArray) : ∀ env : List (ByteArray × Tm), lookS (mapE env) q = (lookE env q).map fun t => .agg (enc t)
  | [] => rfl
  | (a, t) :: l => by
    show cond (decide (q = a)) (some (V.agg (enc t))) (lookS (mapE l) q) = _
    rw [look_mapE q l, lookE]
    cases decide (q = a) <;> rfl
theorem lookE_none {q : ByteArray} : ∀ {env : List (ByteArray × Tm)}, q ∉ env.map (·.1) → lookE env q = none
  | [], _ => rfl
  | (a, t) :: l, h => by
    rw [List.map_cons, List.mem_cons, not_or] at h
    rw [lookE, decide_eq_false h.1, cond_false]
    exact lookE_none h.2
mutual
def instE (env : List (ByteArray × Tm)) : Te → Tm
  | .mk b s zs => if b then (lookE env s).getD (.mk 3 s 0 []) else if s = ⟨#[105, 110, 116]⟩ ∧ zs.length = 0 then .mk 1 ⟨#[]⟩ 0 [] else .mk 2 s 0 (instEs env zs)
def instEs (env : List (ByteArray × Tm)) : List Te → List Tm
  | [] => []
  | t :: r => instE env t :: instEs env r
end
theorem instEs_eq (env : List (ByteArray × Tm)) : ∀ zs, instEs env zs = zs.map (instE env)
  | [] => rfl
  | t :: r => by rw [instEs, instEs_eq env r]; rfl

/-! ### lists that are not too long -/
mutual
def thin (c : Nat) : Tm → Prop
  | .mk _ _ _ zs => zs.length ≤ c ∧ thins c zs
def thins (c : Nat) : List Tm → Prop
  | [] => True
  | t :: r => thin c t ∧ thins c r
end
theorem thins_iff {c : Nat} : ∀ xs, thins c xs ↔ ∀ x ∈ xs, thin c x
  | [] => by simp [thins]
  | t :: r => by simp [thins, thins_iff r]
theorem thin_size {c : Nat} : ∀ t : Tm, size t ≤ c → thin c t := by
  refine Tm.ind fun k s v zs ih hs => ?_
  simp only [size] at hs
  have hl := length_sizes zs
  exact ⟨by omega, (thins_iff zs).2 fun x hx => ih x hx (by have := size_mem hx; omega)⟩
theorem lookE_mem {q : ByteArray} {t : Tm} : ∀ {env : List (ByteArray × Tm)}, lookE env q = some t → t ∈ env.map (·.2)
  | (a, u) :: l, h => by
    rw [lookE] at h
    cases hd : decide (q = a) with
    | true => rw [hd] at h; cases h; exact List.mem_cons_self
    | false => rw [hd] at h; exact List.mem_cons_of_mem _ (lookE_mem h)
theorem thin_inst {c : Nat} {env : List (ByteArray × Tm)} (he : ∀ t ∈ env.map (·.2), thin c t) : ∀ t : Te, sizeE t ≤ c → thin c (instE env t) := by
  refine Te.ind fun b s zs ih hs => ?_
  simp only [sizeE] at hs
  have hl := length_sizeEs zs
  rw [instE]
  split
  · cases h : lookE env s with
    | none => exact ⟨Nat.zero_le _, trivial⟩
    | some t => exact he t (lookE_mem h)
  · split
    · exact ⟨Nat.zero_le _, trivial⟩
    · rw [instEs_eq]
      refine ⟨by rw [List.length_map]; omega, (thins_iff _).2 fun x hx => ?_⟩
      obtain ⟨y, hy, rfl⟩ := List.mem_map.1 hx
      exact ih y hy (by have := sizeE_mem hy; omega)

/-! ### unknowns, in order, and their numbers -/
mutual
def preT : Tm → List Int
  | .mk k _ v zs => (if k = 4 then [v] else []) ++ preL zs
def preL : List Tm → List Int
  | [] => []
  | t :: r => preT t ++ preL r
end
theorem preL_append (a b : List Tm) : preL (a ++ b) = preL a ++ preL b := by
  induction a with
  | nil => rfl
  | cons t r ih => simp only [List.cons_append, preL, ih, List.append_assoc]
theorem preL_take {zs : List Tm} {i : Nat} {t : Tm} (h : zs[i]? = some t) : preL (zs.take (i + 1)) = preL (zs.take i) ++ preT t := by
  rw [List.take_add_one, h, preL_append]; simp [preL]
theorem preT_len : ∀ t : Tm, (preT t).length ≤ size t := by
  refine Tm.ind fun k s v zs ih => ?_
  have : ∀ zs : List Tm, (∀ a ∈ zs, (preT a).length ≤ size a) → (preL zs).length ≤ sizes zs := by
    intro zs
    induction zs with
    | nil => intro _; simp [preL]
    | cons a r ihr =>
      intro h
      have h1 := h a List.mem_cons_self
      have h2 := ihr fun b hb => h b (List.mem_cons_of_mem _ hb)
      simp only [preL, sizes, List.length_append]; omega
  have h1 := this zs ih
  simp only [preT, size, List.length_append]
  split <;> simp <;> omega
theorem preL_len : ∀ zs, (preL zs).length ≤ sizes zs
  | [] => by simp [preL]
  | a :: r => by have := preL_len r; have := preT_len a; simp only [preL, sizes, List.length_append]; omega
mutual
def numT (M : List Int) : Tm → Tm
  | .mk k s v zs => .mk k s (if k = 4 ∧ v ∈ M then (M.idxOf v : Nat) else v) (numL M zs)
def numL (M : List Int) : List Tm → List Tm
  | [] => []
  | t :: r => numT M t :: numL M r
end
theorem numL_eq (M : List Int) : ∀ zs, numL M zs = zs.map (numT M)
  | [] => rfl
  | t :: r => by rw [numL, numL_eq M r]; rfl
theorem plainT_met : ∀ (t : Tm) (m : List Int), (plainT m t).2 = ddF m (preT t) := by
  refine Tm.ind fun k s v zs ih => ?_
  have sq : ∀ zs : List Tm, (∀ a ∈ zs, ∀ m, (plainT m a).2 = ddF m (preT a)) → ∀ m, (plainL m zs).2 = ddF m (preL zs) := by
    intro zs
    induction zs with
    | nil => intro _ m; rfl
    | cons a r ihr => intro h m; rw [plainL, preL, ddF_append, ihr fun b hb => h b (List.mem_cons_of_mem _ hb)]; rw [h a List.mem_cons_self]
  intro m
  rw [plainT, preT, ddF_append, sq zs ih]
  congr 1
  by_cases h4 : k = 4
  · by_cases hv : v ∈ m
    · rw [if_neg (fun h => h.2 hv), if_pos h4, ddF, if_pos hv]; rfl
    · rw [if_pos ⟨h4, hv⟩, if_pos h4, ddF, if_neg hv]; rfl
  · rw [if_neg (fun h => h4 h.1), if_neg h4]; rfl
theorem plainL_met : ∀ (zs : List Tm) (m : List Int), (plainL m zs).2 = ddF m (preL zs)
  | [], _ => rfl
  | a :: r, m => by rw [plainL, preL, ddF_append, plainL_met r, plainT_met]
/-- the numbers are those of the whole list of unknowns -/
theorem plainT_num : ∀ (t : Tm) (m e : List Int), (plainT m t).1 = numT ((plainT m t).2 ++ e) t := by
  refine Tm.ind fun k s v zs ih => ?_
  have sq : ∀ zs : List Tm, (∀ a ∈ zs, ∀ m e, (plainT m a).1 = numT ((plainT m a).2 ++ e) a) → ∀ m e, (plainL m zs).1 = numL ((plainL m zs).2 ++ e) zs := by
    intro zs
    induction zs with
    | nil => intro _ m e; rfl
    | cons a r ihr =>
      intro h m e
      have h2 := ihr (fun b hb => h b (List.mem_cons_of_mem _ hb)) (plainT m a).2 e
      obtain ⟨e1, he1⟩ := ddF_pre (preL r) (plainT m a).2
      have h1 := h a List.mem_cons_self m (e1 ++ e)
      rw [← List.append_assoc, ← he1, ← plainL_met] at h1
      simp only [plainL, numL, ← h1, ← h2]
  intro m e
  rw [plainT, numT]
  simp only [sq zs ih _ e]
  congr 1
  by_cases h4 : k = 4
  · rw [if_pos h4]
    generalize hm1 : (if k = 4 ∧ v ∉ m then m ++ [v] else m) = m1
    obtain ⟨e1, he1⟩ := ddF_pre (preL zs) m1
    rw [plainL_met, he1]
    have hv1 : v ∈ m1 := by
      rw [← hm1]
      split
      · simp
      · rename_i hh
        exact Decidable.byContradiction fun hn => hh ⟨h4, hn⟩
    rw [if_pos ⟨h4, by simp [hv1]⟩, List.append_assoc, List.idxOf_append, if_pos hv1, ← hm1]
    split
    · rename_i hh
      rw [List.idxOf_eq_length hh.2, List.idxOf_append, if_neg hh.2]
      simp
    · rfl
  · rw [if_neg h4, if_neg (fun h => h4 h.1)]
theorem plain_num (zs : List Tm) : (plainL [] zs).1 = numL (ddF [] (preL zs)) zs := by
  have sq : ∀ (zs : List Tm) (m e : List Int), (plainL m zs).1 = numL ((plainL m zs).2 ++ e) zs := by
    intro zs
    induction zs with
    | nil => intro m e; rfl
    | cons a r ihr =>
      intro m e
      have h2 := ihr (plainT m a).2 e
      obtain ⟨e1, he1⟩ := ddF_pre (preL r) (plainT m a).2
      have h1 := plainT_num a m (e1 ++ e)
      rw [← List.append_assoc, ← he1, ← plainL_met] at h1
      simp only [plainL, numL, ← h1, ← h2]
  have := sq zs [] []
  rw [List.append_nil, plainL_met] at this
  exact this

/-! ### texts -/
def bs (l : List UInt8) : ByteArray := ⟨l.toArray⟩
theorem bs_size (l : List UInt8) : (bs l).size = l.length := by simp [bs, ByteArray.size]
theorem bs_data (l : List UInt8) : (bs l).data.toList = l := by simp [bs]
theorem bs_of (s : ByteArray) : bs s.data.toList = s := by cases s; simp [bs]
theorem app_bs (a b : List UInt8) : bs a ++ bs b = bs (a ++ b) := by
  apply ByteArray.ext
  simp [bs]
mutual
def textR : Tm → List UInt8
  | .mk k s v zs => if k = 1 then [105, 110, 116] else if k = 3 then s.data.toList else if k = 4 then 63 :: Lib.itoa v else if k = 2 then (if zs.length = 0 then s.data.toList else s.data.toList ++ [40] ++ Lib.join (textRs zs) [44, 32] ++ [41]) else []
def textRs : List Tm → List (List UInt8)
  | [] => []
  | t :: r => textR t :: textRs r
end
theorem textRs_eq : ∀ zs, textRs zs = zs.map textR
  | [] => rfl
  | t :: r => by rw [textRs, textRs_eq r]; rfl
/-! ### a type's weight: its nodes and its names -/
mutual
def wt : Tm → Nat
  | .mk _ s _ zs => 1 + s.size + wts zs
def wts : List Tm → Nat
  | [] => 0
  | t :: r => wt t + wts r
end
theorem wt_mem {a : Tm} : ∀ {zs : List Tm}, a ∈ zs → wt a ≤ wts zs
  | b :: r, h => by
    simp only [wts]
    rcases List.mem_cons.1 h with rfl | h
    · omega
    · have := wt_mem h; omega
theorem size_wt : ∀ t : Tm, size t ≤ wt t := by
  refine Tm.ind fun k s v zs ih => ?_
  have : ∀ zs : List Tm, (∀ a ∈ zs, size a ≤ wt a) → sizes zs ≤ wts zs := by
    intro zs
    induction zs with
    | nil => intro _; simp [sizes]
    | cons a r ihr => intro h; have := h a List.mem_cons_self; have := ihr fun b hb => h b (List.mem_cons_of_mem _ hb); simp only [sizes, wts]; omega
  have := this zs ih
  simp only [size, wt]; omega
theorem sizes_wts : ∀ zs : List Tm, sizes zs ≤ wts zs
  | [] => Nat.le_refl _
  | b :: r => by have := sizes_wts r; have := size_wt b; simp only [sizes, wts]; omega
theorem nDigits_le : ∀ (k u : Nat), u < 10 ^ (k + 1) → Lib.nDigits u ≤ k + 1
  | 0, u, h => by rw [Lib.nDigits_small (by simpa using h)]; omega
  | k + 1, u, h => by
    by_cases hs : u < 10
    · rw [Lib.nDigits_small hs]; omega
    · rw [Lib.nDigits_big hs]
      have := nDigits_le k (u / 10) (by rw [Nat.pow_succ] at h; omega)
      omega
theorem decDigits_len {u : Nat} (h : u < 10000000000000000000) : (Lib.decDigits u).length ≤ 19 := by
  rw [Lib.decDigits_length]
  exact nDigits_le 18 u (by simpa using h)
theorem decDigits_small {u : Nat} (h : u < 10) : Lib.decDigits u = [UInt8.ofNat (48 + u)] := by rw [Lib.decDigits, dif_pos h]
theorem decDigits_big {u : Nat} (h : ¬ u < 10) : Lib.decDigits u = Lib.decDigits (u / 10) ++ [UInt8.ofNat (48 + u % 10)] := by rw [Lib.decDigits, dif_neg h]
theorem ofNat_digit {x : Nat} (h : x < 10) : (UInt8.ofNat (48 + x)).toNat = 48 + x := UInt8.toNat_ofNat_of_lt' (by show 48 + x < 256; omega)
theorem itoa_neg {v : Int} (h : v < 0) : Lib.itoa v = 45 :: Lib.decDigits v.natAbs := by unfold Lib.itoa; rw [if_pos h]
theorem itoa_pos {v : Int} (h : ¬ v < 0) : Lib.itoa v = Lib.decDigits v.toNat := by unfold Lib.itoa; rw [if_neg h]
theorem itoa_len (n : Int) (h0 : -9223372036854775808 ≤ n) (h1 : n ≤ 9223372036854775807) : (Lib.itoa n).length ≤ 20 := by
  unfold Lib.itoa
  split
  · have := decDigits_len (u := n.natAbs) (by omega); simp only [List.length_cons]; omega
  · have := decDigits_len (u := n.toNat) (by omega); omega
theorem join_snoc (xs : List (List UInt8)) (y sep : List UInt8) (h : xs ≠ []) : Lib.join (xs ++ [y]) sep = Lib.join xs sep ++ sep ++ y := by
  cases xs with
  | nil => exact absurd rfl h
  | cons x r => rw [List.cons_append, Lib.join_cons, Lib.join_cons]; simp [Lib.joinTail]
abbrev rngV (v : Int) : Prop := -9223372036854775808 ≤ v ∧ v ≤ 9223372036854775807
theorem text_len : ∀ t : Tm, allV rngV t → (textR t).length + 2 ≤ 24 * wt t := by
  refine Tm.ind fun k s v zs ih => ?_
  have sq : ∀ zs : List Tm, (∀ a ∈ zs, allV rngV a → (textR a).length + 2 ≤ 24 * wt a) → allVs rngV zs → Lib.lens (textRs zs) + 2 * zs.length ≤ 24 * wts zs := by
    intro zs
    induction zs with
    | nil => intro _ _; simp [textRs, Lib.lens]
    | cons a r ihr =>
      intro h hv
      have h1 := h a List.mem_cons_self hv.1
      have h2 := ihr (fun b hb => h b (List.mem_cons_of_mem _ hb)) hv.2
      simp only [textRs, wts, Lib.lens, List.map_cons, List.sum_cons, List.length_cons] at h2 ⊢
      omega
  rintro ⟨hv, hvs⟩
  have h1 := sq zs ih hvs
  have hsz : s.data.toList.length = s.size := by rw [Array.length_toList]; rfl
  rw [textR, wt]
  by_cases k1 : k = 1
  · rw [if_pos k1]; simp only [List.length_cons, List.length_nil]; omega
  rw [if_neg k1]
  by_cases k3 : k = 3
  · rw [if_pos k3]; omega
  rw [if_neg k3]
  by_cases k4 : k = 4
  · rw [if_pos k4]
    have := itoa_len v (hv k4).1 (hv k4).2
    simp only [List.length_cons]; omega
  rw [if_neg k4]
  by_cases k2 : k = 2
  · rw [if_pos k2]
    split
    · omega
    · rename_i hz
      cases zs with
      | nil => exact absurd rfl hz
      | cons x r =>
        rw [textRs] at h1 ⊢
        simp only [List.length_append, Lib.join_length, List.length_cons, List.length_nil] at h1 ⊢
        have e : (textRs r).length = r.length := by rw [textRs_eq]; simp
        omega
  · rw [if_neg k2]; simp only [List.length_nil]; omega
theorem texts_len : ∀ zs : List Tm, allVs rngV zs → Lib.lens (textRs zs) + 2 * zs.length ≤ 24 * wts zs
  | [], _ => by simp [textRs, Lib.lens]
  | a :: r, hv => by
    have h1 := text_len a hv.1
    have h2 := texts_len r hv.2
    simp only [textRs, wts, Lib.lens, List.map_cons, List.sum_cons, List.length_cons] at h2 ⊢
    omega
theorem textRs_take (zs : List Tm) (i : Nat) : textRs (zs.take i) = (textRs zs).take i := by rw [textRs_eq, textRs_eq, List.map_take]
end Go.Uni
end

/- part U5N -/
section
namespace Go.Proofs.YtdgekhanonfikaaDoor.Va
open Go.Vx Go.Av Go.Uni

def rowsS (l : List ByteArray) : List (List V) := l.map fun s => [.str s]
@[simp] theorem rowsS_length (l : List ByteArray) : (rowsS l).length = l.length := by simp [rowsS]
theorem rowsS_append (a b : List ByteArray) : rowsS a ++ rowsS b = rowsS (a ++ b) := by simp [rowsS]
theorem rowsS_snoc (a : List ByteArray) (s : ByteArray) : rowsS a ++ [[.str s]] = rowsS (a ++ [s]) := by simp [rowsS]
theorem rowsS_take (a : List ByteArray) (i : Nat) : List.take i (rowsS a) = rowsS (a.take i) := by simp [rowsS, List.map_take]
theorem rowS {l : List ByteArray} {i : Nat} {s : ByteArray} (h : l[i]? = some s) : List.take 1 (Av.rowAt (rowsS l) i) = [.str s] := by
  rw [rowsS, Av.rowAt, List.getD_eq_getElem?_getD, List.getElem?_map, h]; rfl
theorem getE {zs : List Te} {i : Nat} (h : i < zs.length) : ∃ b s l, zs[i]? = some (.mk b s l) := by
  cases e : zs[i] with
  | mk b s l => exact ⟨b, s, l, by rw [List.getElem?_eq_getElem h, e]⟩
theorem bigV : big = 1099511627776 := rfl
theorem step1 {i : Nat} (h : i < 9007199254740993) : IntKind.i64.wrap ((i : Int) + 1) = ((i + 1 : Nat) : Int) := by rw [w64 (by omega) (by omega)]; push_cast; rfl

theorem IndexS_spec (l : List ByteArray) (q : ByteArray) (hl : l.length ≤ 2 * big) : PCalls ax 57 [.sl 1 (rowsS l), .str q] fun r => ∃ n : Int, r = [.int .i64 n] ∧ (n ≥ 0 ↔ q ∈ l) := by
  have hb := bigV
  refine IndexS.calls (K := fun r => ∃ n : Int, r = [.int .i64 n] ∧ (n ≥ 0 ↔ q ∈ l)) ?_
  unfold IndexS.W
  rw [rowsS_length]
  refine ⟨fun us => ∃ i : Nat, i ≤ l.length ∧ us = [.int .i64 i] ∧ q ∉ l.take i, fun us => match us with | .int _ i :: _ => l.length - i.toNat | _ => 0, ⟨0, Nat.zero_le _, rfl, by simp⟩, ?_⟩
  rintro n ⟨i, hi, e, hn⟩
  cases e
  refine ifD (fun hlt => ?_) (fun hge => ?_)
  · have hi' : i < l.length := by omega
    have he := List.getElem?_eq_getElem hi'
    refine ⟨by omega, hlt, l[i], by rw [Int.toNat_natCast]; exact rowS he, ifB (fun h => ?_) (fun h => ?_)⟩
    · have : q = l[i] := by simpa [strEq] using h
      exact ⟨_, rfl, ⟨fun _ => by rw [this]; exact List.getElem_mem hi', fun _ => by omega⟩⟩
    · have : q ≠ l[i] := by simpa [strEq] using h
      rw [step1 (by omega)]
      exact ⟨⟨i + 1, by omega, rfl, by rw [List.take_add_one, he]; simp only [Option.toList_some, List.mem_append, List.mem_singleton, not_or]; exact ⟨hn, this⟩⟩, by simp only [Int.toNat_natCast]; omega⟩
  · rw [List.take_of_length_le (by omega)] at hn
    exact ⟨_, rfl, ⟨fun h => by omega, fun h => absurd h hn⟩⟩
theorem ContainsS_spec (l : List ByteArray) (q : ByteArray) (hl : l.length ≤ 2 * big) : PCalls ax 43 [.sl 1 (rowsS l), .str q] fun r => r = [.bool (decide (q ∈ l))] := by
  refine ContainsS.calls (K := fun r => r = [.bool (decide (q ∈ l))]) ?_
  unfold ContainsS.W
  refine (IndexS_spec l q hl).mono fun r ⟨n, hr, hn⟩ => ⟨n, hr, ?_⟩
  have : decide (n ≥ 0) = decide (q ∈ l) := decide_eq_decide.2 hn
  rw [this]

def argsE : Te → List Te | .mk _ _ zs => zs
theorem Names_of {zs : List Te} (ih : ∀ x ∈ zs, sizeEs (argsE x) ≤ big → PCalls ax 24 [.sl 3 (encEs (argsE x))] fun r => r = [.sl 1 (rowsS (ddF [] (namesL (argsE x))))]) (hs : sizeEs zs ≤ big) :
    PCalls ax 24 [.sl 3 (encEs zs)] fun r => r = [.sl 1 (rowsS (ddF [] (namesL zs)))] := by
  have hb := bigV
  have hls := length_sizeEs zs
  refine Names.calls (K := fun r => r = [.sl 1 (rowsS (ddF [] (namesL zs)))]) ?_
  unfold Names.W
  rw [encEs_length]
  refine ⟨fun us => ∃ i : Nat, i ≤ zs.length ∧ us = [.sl 1 (rowsS (ddF [] (namesL (zs.take i)))), .int .i64 i], fun us => match us with | [_, .int _ i] => zs.length - i.toNat | _ => 0, ⟨0, Nat.zero_le _, rfl⟩, ?_⟩
  rintro l64 n65 ⟨i, hi, e⟩
  cases e
  refine ifD (fun hlt => ?_) (fun hge => ?_)
  · have hi' : i < zs.length := by omega
    obtain ⟨b, s, l, he⟩ := getE hi'
    have hm := List.mem_of_getElem? he
    have hsz := sizeE_mem hm
    have hnl := namesE_len (.mk b s l)
    have hpl := namesL_len (zs.take i)
    have hpt := sizeEs_take (zs := zs) (i := i)
    have hsl : sizeEs l ≤ big := by simp only [sizeE] at hsz; omega
    refine ⟨by omega, hlt, b, s, encEs l, by rw [Int.toNat_natCast, row_encEs he]; rfl, ?_⟩
    refine (ih _ hm hsl).mono fun r hr => ⟨_, hr, fun us => us = [.sl 1 (rowsS (namesE (.mk b s l)))], ifB (fun h => ?_) (fun h => ?_), fun l77 e => ?_⟩
    · rw [namesE, if_pos h]; rfl
    · rw [namesE, if_neg (by simp [h])]; rfl
    cases e
    generalize hN : namesE (.mk b s l) = N at hnl
    rw [rowsS_length]
    refine ⟨fun us => ∃ j : Nat, j ≤ N.length ∧ us = [.sl 1 (rowsS (ddF (ddF [] (namesL (zs.take i))) (N.take j))), .int .i64 j], fun us => match us with | [_, .int _ j] => N.length - j.toNat | _ => 0, ⟨0, Nat.zero_le _, rfl⟩, ?_⟩
    rintro l89 n90 ⟨j, hj, e⟩
    cases e
    have hdl := ddF_len (N.take j) (ddF [] (namesL (zs.take i)))
    have hdl2 := ddF_len (namesL (zs.take i)) []
    rw [List.length_take] at hdl
    rw [List.length_nil] at hdl2
    refine ifD (fun hjl => ?_) (fun hjg => ?_)
    · have hj' : j < N.length := by omega
      have hej := List.getElem?_eq_getElem hj'
      refine ⟨by omega, hjl, N[j], by rw [Int.toNat_natCast]; exact rowS hej, ?_⟩
      refine (ContainsS_spec _ _ (by omega)).mono fun r hr => ⟨_, hr, ?_⟩
      rw [step1 (by omega)]
      refine ifN (fun h => ?_) (fun h => ?_)
      · have htk := ddF_take_out hej (of_decide_eq_false h)
        rw [rowsS_snoc, rowsS_length]
        simp only [List.length_cons, List.length_nil]
        exact ⟨by omega, by omega, ⟨j + 1, by omega, by rw [htk]⟩, by simp only [Int.toNat_natCast]; omega⟩
      · have htk := ddF_take_in hej (of_decide_eq_true h)
        exact ⟨⟨j + 1, by omega, by rw [htk]⟩, by simp only [Int.toNat_natCast]; omega⟩
    · rw [step1 (by omega), List.take_of_length_le (l := N) (by omega)]
      refine ⟨⟨i + 1, by omega, ?_⟩, by simp only [Int.toNat_natCast]; omega⟩
      rw [namesL_take he, ddF_append, hN]
  · rw [List.take_of_length_le (by omega)]
theorem Names_spec (zs : List Te) (hs : sizeEs zs ≤ big) : PCalls ax 24 [.sl 3 (encEs zs)] fun r => r = [.sl 1 (rowsS (ddF [] (namesL zs)))] := by
  have all : ∀ t : Te, sizeEs (argsE t) ≤ big → PCalls ax 24 [.sl 3 (encEs (argsE t))] fun r => r = [.sl 1 (rowsS (ddF [] (namesL (argsE t))))] :=
    Te.ind fun b s zs ih hs => Names_of ih hs
  exact Names_of (fun x _ => all x) hs

theorem RNames_of {zs : List Te} (ih : ∀ x ∈ zs, sizeEs (argsE x) ≤ big → PCalls ax 25 [.sl 3 (encEs (argsE x))] fun r => r = [.sl 1 (rowsS (ddF [] (namesL (argsE x))))]) (hs : sizeEs zs ≤ big) :
    PCalls ax 25 [.sl 3 (encEs zs)] fun r => r = [.sl 1 (rowsS (ddF [] (namesL zs)))] := by
  have hb := bigV
  have hls := length_sizeEs zs
  refine RNames.calls (K := fun r => r = [.sl 1 (rowsS (ddF [] (namesL zs)))]) ?_
  unfold RNames.W
  rw [encEs_length]
  refine ⟨fun us => ∃ i : Nat, i ≤ zs.length ∧ us = [.sl 1 (rowsS (namesL (zs.take i))), .int .i64 i], fun us => match us with | [_, .int _ i] => zs.length - i.toNat | _ => 0, ⟨0, Nat.zero_le _, rfl⟩, ?_⟩
  rintro l64 n65 ⟨i, hi, e⟩
  cases e
  refine ifD (fun hlt => ?_) (fun hge => ?_)
  · have hi' : i < zs.length := by omega
    obtain ⟨b, s, l, he⟩ := getE hi'
    have hm := List.mem_of_getElem? he
    have hsz := sizeE_mem hm
    have hnl := namesE_len (.mk b s l)
    have hpl := namesL_len (zs.take i)
    have hpt := sizeEs_take (zs := zs) (i := i)
    have hsl : sizeEs l ≤ big := by simp only [sizeE] at hsz; omega
    have htk := namesL_take he
    refine ⟨by omega, hlt, b, s, encEs l, by rw [Int.toNat_natCast, row_encEs he]; rfl, ifB (fun h => ?_) (fun h => ?_)⟩
    · rw [namesE, if_pos h] at htk hnl
      rw [rowsS_length, step1 (by omega), rowsS_snoc, ← htk]
      simp only [List.length_cons, List.length_nil]
      exact ⟨by omega, by omega, ⟨i + 1, by omega, rfl⟩, by simp only [Int.toNat_natCast]; omega⟩
    · rw [namesE, if_neg (by simp [h])] at htk hnl
      refine (ih _ hm hsl).mono fun r hr => ⟨_, hr, ?_⟩
      simp only [argsE]
      rw [step1 (by omega), rowsS_append, ← htk]
      simp only [rowsS_length]
      exact ⟨by omega, by omega, ⟨i + 1, by omega, rfl⟩, by simp only [Int.toNat_natCast]; omega⟩
  · rw [List.take_of_length_le (by omega)]
    have hal := namesL_len zs
    generalize namesL zs = A at hal ⊢
    rw [rowsS_length]
    refine ⟨fun us => ∃ j : Nat, j ≤ A.length ∧ us = [.sl 1 (rowsS (ddF [] (A.take j))), .int .i64 j, .sl 1 (rowsS A)], fun us => match us with | [_, .int _ j, _] => A.length - j.toNat | _ => 0, ⟨0, Nat.zero_le _, rfl⟩, ?_⟩
    rintro l90 n91 l92 ⟨j, hj, e⟩
    cases e
    have hdl := ddF_len (A.take j) []
    rw [List.length_take, List.length_nil] at hdl
    refine ifD (fun hjl => ?_) (fun hjg => ?_)
    · have hj' : j < A.length := by omega
      have hej := List.getElem?_eq_getElem hj'
      rw [Int.toNat_natCast, rowsS_take, rowsS_length, rowsS_length, List.length_take]
      refine ⟨by omega, by omega, A[j], rowS hej, by omega, by omega, ?_⟩
      refine ⟨fun us => ∃ k : Nat, k ≤ j ∧ us = [.bool (decide (A[j] ∉ (A.take j).take k)), .int .i64 k], fun us => match us with | [_, .int _ k] => j - k.toNat | _ => 0, ⟨0, Nat.zero_le _, by simp⟩, ?_⟩
      rintro b100 n101 ⟨k, hk, e⟩
      cases e
      refine ifD (fun hkl => ?_) (fun hkg => ?_)
      · have hk' : k < (A.take j).length := by rw [List.length_take]; omega
        have hek := List.getElem?_eq_getElem hk'
        refine ⟨by omega, by omega, (A.take j)[k], by rw [Int.toNat_natCast]; exact rowS hek, ?_⟩
        rw [step1 (by omega)]
        refine ifD (fun h => ?_) (fun h => ?_)
        · refine ⟨⟨k + 1, by omega, ?_⟩, by simp only [Int.toNat_natCast]; omega⟩
          have : (!strEq (A.take j)[k] A[j]) = decide (A[j] ∉ (A.take j).take (k + 1)) := by
            have hm : A[j] ∈ (A.take j).take (k + 1) ↔ (A.take j)[k] = A[j] := by
              rw [List.take_add_one, hek]
              simp only [Option.toList_some, List.mem_append, List.mem_singleton]
              exact ⟨fun hh => hh.elim (fun g => absurd g h) Eq.symm, fun hh => .inr hh.symm⟩
            unfold strEq
            by_cases hx : (A.take j)[k] = A[j]
            · rw [decide_eq_true hx, decide_eq_false (fun hh => hh (hm.2 hx))]; rfl
            · rw [decide_eq_false hx, decide_eq_true (show ¬ A[j] ∈ List.take (k + 1) (List.take j A) from fun hh => hx (hm.1 hh))]; rfl
          rw [this]
        · refine ⟨⟨k + 1, by omega, ?_⟩, by simp only [Int.toNat_natCast]; omega⟩
          have h' : A[j] ∈ (A.take j).take k := Decidable.byContradiction h
          have : decide (A[j] ∉ (A.take j).take (k + 1)) = false := by
            rw [List.take_add_one]; simp [h']
          rw [this]
      · have hk' : k = j := by omega
        subst hk'
        rw [List.take_of_length_le (l := A.take k) (by rw [List.length_take]; omega), step1 (by omega)]
        have hmem : A[k] ∈ ddF [] (A.take k) ↔ A[k] ∈ A.take k := by rw [ddF_mem]; simp
        refine ifD (fun h => ?_) (fun h => ?_)
        · have htk := ddF_take_out hej (fun hh => h (hmem.1 hh))
          rw [rowsS_snoc, rowsS_length]
          simp only [List.length_cons, List.length_nil]
          exact ⟨by omega, by omega, ⟨k + 1, by omega, by rw [htk]⟩, by simp only [Int.toNat_natCast]; omega⟩
        · have h' : A[k] ∈ A.take k := Decidable.byContradiction h
          have htk := ddF_take_in hej (hmem.2 h')
          exact ⟨⟨k + 1, by omega, by rw [htk]⟩, by simp only [Int.toNat_natCast]; omega⟩
    · rw [List.take_of_length_le (by omega)]
theorem RNames_spec (zs : List Te) (hs : sizeEs zs ≤ big) : PCalls ax 25 [.sl 3 (encEs zs)] fun r => r = [.sl 1 (rowsS (ddF [] (namesL zs)))] := by
  have all : ∀ t : Te, sizeEs (argsE t) ≤ big → PCalls ax 25 [.sl 3 (encEs (argsE t))] fun r => r = [.sl 1 (rowsS (ddF [] (namesL (argsE t))))] :=
    Te.ind fun b s zs ih hs => RNames_of ih hs
  exact RNames_of (fun x _ => all x) hs
end Go.Proofs.YtdgekhanonfikaaDoor.Va
end

/- part U5O -/
section
namespace Go.Proofs.YtdgekhanonfikaaDoor.Va
open Go.Vx Go.Av Go.Uni

theorem copied_spec : ∀ t : Tm, thin big t → PCalls ax 44 [.agg (enc t)] fun r => r = [.agg (enc t)] := by
  refine Tm.ind fun k s v xs ih => ?_
  rintro ⟨hl, hth⟩
  have hb := bigV
  rw [thins_iff] at hth
  refine copied.calls (K := fun r => r = [.agg (enc (.mk k s v xs))]) ?_
  unfold copied.W
  rw [encs_length]
  refine ⟨fun us => ∃ i : Nat, i ≤ xs.length ∧ us = [.sl 4 (encs (xs.take i)), .int .i64 i], fun us => match us with | [_, .int _ i] => xs.length - i.toNat | _ => 0, ⟨0, Nat.zero_le _, rfl⟩, ?_⟩
  rintro l n ⟨i, hi, e⟩
  cases e
  refine ifD (fun hlt => ?_) (fun hge => ?_)
  · have hi' : i < xs.length := by omega
    obtain ⟨k', s', v', l', he⟩ := getEq hi'
    have hm := List.mem_of_getElem? he
    refine ⟨by omega, hlt, k', s', v', encs l', lrow he, ?_⟩
    refine (ih _ hm (hth _ hm)).mono fun r hr => ⟨k', s', v', encs l', hr, ?_⟩
    have hn : encs (xs.take i) ++ [[.int .i64 k', .str s', .int .i64 v', .sl 4 (encs l')]] = encs (xs.take (i + 1)) := by
      rw [List.take_add_one, he, encs_append]; rfl
    rw [hn, step1 (by omega), encs_length, List.length_take]
    simp only [List.length_cons, List.length_nil]
    exact ⟨by omega, by omega, ⟨i + 1, by omega, rfl⟩, by simp only [Int.toNat_natCast]; omega⟩
  · rw [List.take_of_length_le (by omega)]
    rfl

theorem tm_cases' (t : Tm) : ∃ k s v l, t = .mk k s v l := by cases t; exact ⟨_, _, _, _, rfl⟩
theorem instE_take (env : List (ByteArray × Tm)) {zs : List Te} {i : Nat} {t : Te} (h : zs[i]? = some t) : encs ((zs.take i).map (instE env)) ++ [enc (instE env t)] = encs ((zs.take (i + 1)).map (instE env)) := by
  rw [List.take_add_one, h, List.map_append, encs_append]; rfl

theorem Instance_spec (env : List (ByteArray × Tm)) (hE : ∀ t ∈ env.map (·.2), thin big t) : ∀ x : Te, sizeE x ≤ big → SCalls ax 26 [.agg (encE x), .map 0] [.lst 57 0 true (mapE env)] fun r o => r = [.agg (enc (instE env x))] ∧ o = [.lst 57 0 true (mapE env)] := by
  refine Te.ind fun b s zs ih => ?_
  intro hs
  have hb := bigV
  have hls := length_sizeEs zs
  simp only [sizeE] at hs
  refine Instance.calls (K := fun r o => r = [.agg (enc (instE env (.mk b s zs)))] ∧ o = [.lst 57 0 true (mapE env)]) ?_
  unfold Instance.W
  rw [instE]
  refine ifB (fun h => ?_) (fun h => ?_)
  · rw [if_pos h, look_mapE]
    cases hl : lookE env s with
    | none => exact ⟨fun u hu => (by cases hu), fun _ => ⟨rfl, rfl⟩⟩
    | some t =>
      refine ⟨fun u hu => ?_, fun hn => (by cases hn)⟩
      obtain ⟨k, s', v, l, rfl⟩ := tm_cases' t
      cases hu
      exact ⟨k, s', v, encs l, rfl, (copied_spec _ (hE _ (lookE_mem hl))).mono fun r hr => ⟨_, _, _, _, hr, rfl, rfl⟩⟩
  · rw [if_neg (by simp [h])]
    rw [encEs_length]
    refine ⟨fun _ => ¬ (s = ⟨#[105, 110, 116]⟩ ∧ zs.length = 0), ifB (fun h1 => ifE (fun h2 => ?_) (fun h2 hh => h2 (by omega))) (fun h1 hh => by rw [hh.1] at h1; simp [strEq] at h1), fun hne => ?_⟩
    · have h1' : s = ⟨#[105, 110, 116]⟩ := by simpa [strEq] using h1
      rw [if_pos ⟨h1', by omega⟩]
      exact ⟨rfl, rfl⟩
    · rw [if_neg hne, instEs_eq]
      refine ⟨fun us => ∃ i : Nat, i ≤ zs.length ∧ us = [.int .i64 i, .int .i64 2, .str s, .int .i64 0, .sl 4 (encs ((zs.take i).map (instE env))), .sl 0 (mapE env)], fun us => match us with | .int _ i :: _ => zs.length - i.toNat | _ => 0, ⟨0, Nat.zero_le _, rfl⟩, ?_⟩
      rintro n54 n55 s56 n57 l58 l59 ⟨i, hi, e⟩
      cases e
      refine ifD (fun hlt => ?_) (fun hge => ?_)
      · have hi' : i < zs.length := by omega
        obtain ⟨b', s', l', he⟩ := getE hi'
        have hm := List.mem_of_getElem? he
        have hsz := sizeE_mem hm
        refine ⟨by omega, hlt, b', s', encEs l', by rw [Int.toNat_natCast, row_encEs he]; rfl, ?_⟩
        refine (ih _ hm (by omega)).mono fun r o ⟨hr, ho⟩ => ?_
        have hn := instE_take env he
        obtain ⟨k2, s2, v2, l2, e2⟩ := tm_cases' (instE env (.mk b' s' l'))
        rw [e2] at hr hn
        refine ⟨k2, s2, v2, encs l2, mapE env, hr, ho, ?_⟩
        replace hn : encs ((zs.take i).map (instE env)) ++ [[.int .i64 k2, .str s2, .int .i64 v2, .sl 4 (encs l2)]] = encs ((zs.take (i + 1)).map (instE env)) := hn
        rw [hn, step1 (by omega), encs_length, List.length_map, List.length_take]
        simp only [List.length_cons, List.length_nil]
        exact ⟨by omega, by omega, ⟨i + 1, by omega, rfl⟩, by simp only [Int.toNat_natCast]; omega⟩
      · rw [List.take_of_length_le (by omega)]
        exact ⟨rfl, rfl⟩

theorem look_first {s : ByteArray} : ∀ (env : List (ByteArray × Tm)) (i : Nat) (p : ByteArray × Tm), env[i]? = some p → p.1 = s → s ∉ (env.take i).map (·.1) → lookE env s = some p.2
  | [], i, p, h, _, _ => by simp at h
  | (a, t) :: env, 0, p, h, hs, _ => by
    cases h
    subst hs
    show lookE ((a, t) :: env) a = some t
    rw [lookE, decide_eq_true rfl]; rfl
  | (a, t) :: env, i + 1, p, h, hs, hn => by
    rw [List.take_succ_cons, List.map_cons, List.mem_cons, not_or] at hn
    rw [lookE, decide_eq_false hn.1]
    exact look_first env i p (by simpa using h) hs hn.2

theorem RInstance_spec (env : List (ByteArray × Tm)) (hlen : env.length ≤ 2 * big) : ∀ x : Te, sizeE x ≤ big → PCalls ax 27 [.agg (encE x), .sl 1 (rowsS (env.map (·.1))), .sl 4 (encs (env.map (·.2)))] fun r => r = [.agg (enc (instE env x))] := by
  refine Te.ind fun b s zs ih => ?_
  intro hs
  have hb := bigV
  have hls := length_sizeEs zs
  simp only [sizeE] at hs
  refine RInstance.calls (K := fun r => r = [.agg (enc (instE env (.mk b s zs)))]) ?_
  unfold RInstance.W
  rw [instE]
  refine ifB (fun h => ?_) (fun h => ?_)
  · rw [if_pos h, rowsS_length, encs_length, List.length_map, List.length_map]
    refine ⟨fun us => ∃ i : Nat, i ≤ env.length ∧ us = [.int .i64 i] ∧ s ∉ (env.take i).map (·.1), fun us => match us with | .int _ i :: _ => env.length - i.toNat | _ => 0, ⟨0, Nat.zero_le _, rfl, by simp⟩, ?_⟩
    rintro n ⟨i, hi, e, hn⟩
    cases e
    refine ifD (fun hlt => ?_) (fun hge => ?_)
    · have hi' : i < env.length := by omega
      have he := List.getElem?_eq_getElem hi'
      have h1 : (env.map (·.1))[i]? = some env[i].1 := by rw [List.getElem?_map, he]; rfl
      have h2 : (env.map (·.2))[i]? = some env[i].2 := by rw [List.getElem?_map, he]; rfl
      refine ⟨by omega, hlt, env[i].1, by rw [Int.toNat_natCast]; exact rowS h1, ifB (fun hq => ?_) (fun hq => ?_)⟩
      · have hq' : env[i].1 = s := by simpa [strEq] using hq
        have hlk := look_first env i env[i] he hq' hn
        rw [hlk]
        obtain ⟨k, s', v, l, e2⟩ := tm_cases' env[i].2
        refine ⟨by omega, hlt, k, s', v, encs l, by rw [Int.toNat_natCast, row_encs h2, e2]; rfl, ?_⟩
        rw [Option.getD_some, e2]; rfl
      · have hq' : env[i].1 ≠ s := by simpa [strEq] using hq
        rw [step1 (by omega)]
        refine ⟨⟨i + 1, by omega, rfl, ?_⟩, by simp only [Int.toNat_natCast]; omega⟩
        rw [List.take_add_one, he, List.map_append, List.mem_append, not_or]
        exact ⟨hn, fun hh => hq' (List.mem_singleton.1 hh).symm⟩
    · rw [List.take_of_length_le (by omega)] at hn
      rw [lookE_none hn]
      rfl
  · rw [if_neg (by simp [h])]
    rw [encEs_length]
    refine ⟨fun _ => ¬ (s = ⟨#[105, 110, 116]⟩ ∧ zs.length = 0), ifB (fun h1 => ifE (fun h2 => ?_) (fun h2 hh => h2 (by omega))) (fun h1 hh => by rw [hh.1] at h1; simp [strEq] at h1), fun hne => ?_⟩
    · have h1' : s = ⟨#[105, 110, 116]⟩ := by simpa [strEq] using h1
      rw [if_pos ⟨h1', by omega⟩]
      rfl
    · rw [if_neg hne, instEs_eq]
      refine ⟨fun us => ∃ i : Nat, i ≤ zs.length ∧ us = [.int .i64 i, .int .i64 2, .str s, .int .i64 0, .sl 4 (encs ((zs.take i).map (instE env)))], fun us => match us with | .int _ i :: _ => zs.length - i.toNat | _ => 0, ⟨0, Nat.zero_le _, rfl⟩, ?_⟩
      rintro n54 n55 s56 n57 l58 ⟨i, hi, e⟩
      cases e
      refine ifD (fun hlt => ?_) (fun hge => ?_)
      · have hi' : i < zs.length := by omega
        obtain ⟨b', s', l', he⟩ := getE hi'
        have hm := List.mem_of_getElem? he
        have hsz := sizeE_mem hm
        refine ⟨by omega, hlt, b', s', encEs l', by rw [Int.toNat_natCast, row_encEs he]; rfl, ?_⟩
        refine (ih _ hm (by omega)).mono fun r hr => ?_
        have hn := instE_take env he
        obtain ⟨k2, s2, v2, l2, e2⟩ := tm_cases' (instE env (.mk b' s' l'))
        rw [e2] at hr hn
        refine ⟨k2, s2, v2, encs l2, hr, ?_⟩
        replace hn : encs ((zs.take i).map (instE env)) ++ [[.int .i64 k2, .str s2, .int .i64 v2, .sl 4 (encs l2)]] = encs ((zs.take (i + 1)).map (instE env)) := hn
        rw [hn, step1 (by omega), encs_length, List.length_map, List.length_take]
        simp only [List.length_cons, List.length_nil]
        exact ⟨by omega, by omega, ⟨i + 1, by omega, rfl⟩, by simp only [Int.toNat_natCast]; omega⟩
      · rw [List.take_of_length_le (by omega)]
        rfl
end Go.Proofs.YtdgekhanonfikaaDoor.Va
end

/- part U5P -/
section
namespace Go.Av
open Go.Vx Go.RowKit
/-- a function whose run is known, and that leaves all that was there -/
theorem pcalls_below {ax : Ax} {N : Nat} {args : List V} {K : List V → Prop}
    (h : ∀ (G : Nat → Value) (w : World) (F : Nat → Nat → Prop) (β : Nat → Value) (vals : List Value), ErrOk ax.P ax.gs ax.ift ax.tabs G → Sim ax.gs G w F β (mkS []) → Rl (RV ax.gs G w F β (mkS [])) args vals →
      Calls ax.P N vals.toArray w fun e w' => ∃ rs rvals, K rs ∧ e = .returned (oneOr rvals) ∧ Rl (RV ax.gs G w F β (mkS [])) rs rvals ∧ Below w.heap.size w w') : PCalls ax N args K := by
  intro G w F β vals hE hS hr
  refine (h G w F β vals hE hS hr).mono ?_
  rintro e w' ⟨rs, rvals, k, e1, r, hb⟩
  obtain ⟨s1, s2⟩ := hS.below hb
  exact ⟨rs, [], F, β, rvals, k, e1, r.mono fun u v hv => RV.mono s2.carry hv, s1, s2⟩
end Go.Av
namespace Go.Proofs.YtdgekhanonfikaaDoor.Va
open Go.Vx Go.Av Go.Uni Go.RowKit

theorem decimal_spec (n : Int) (h0 : -9223372036854775808 ≤ n) (h1 : n ≤ 9223372036854775807) : PCalls ax 47 [.int .i64 n] fun r => r = [.str (bs (Lib.itoa n))] := by
  refine decimal.calls (K := fun r => r = [.str (bs (Lib.itoa n))]) ?_
  unfold decimal.W
  have hlen := decDigits_len (u := n.natAbs) (by omega)
  have hmx : IntKind.i64.max = 9223372036854775807 := rfl
  refine ⟨fun us => ∃ (s : List UInt8) (m : Int), us = [.str (bs s), .int .i64 m] ∧ -9223372036854775808 ≤ m ∧ m ≤ 9223372036854775807 ∧ Lib.decDigits n.natAbs = Lib.decDigits m.natAbs ++ s, fun us => match us with | [_, .int _ m] => m.natAbs | _ => 0, ⟨[], n, rfl, h0, h1, by simp⟩, ?_⟩
  rintro s8 m ⟨s, m', e, g0, g1, hdec⟩
  cases e
  -- one digit more
  have hsl : s.length ≤ 19 := by rw [hdec, List.length_append] at hlen; omega
  have hdiv : (Int.tdiv m 10).natAbs = m.natAbs / 10 := by rw [Int.natAbs_tdiv]; rfl
  have hmod : (Int.tmod m 10).natAbs = m.natAbs % 10 := by rw [Int.natAbs_tmod]; rfl
  have hdb : -9223372036854775808 ≤ Int.tdiv m 10 ∧ Int.tdiv m 10 ≤ 9223372036854775807 := by omega
  have hfin : ∀ x : Int, x = ((m.natAbs % 10 : Nat) : Int) → ∃ s10 : ByteArray, [[V.int .u8 (IntKind.u8.wrap (IntKind.i64.wrap (48 + x)))]] = rowsOf s10 ∧ (((s10.size + (bs s).size : Nat) : Int) ≤ IntKind.i64.max ∧ (IntKind.i64 = IntKind.i64 ∧ (10 : Int) ≠ 0 ∧ (bif ((IntKind.i64.wrap (Int.tdiv m (10 : Int))) == (0 : Int)) then
 (bif (decide (n < (0 : Int))) then
 ((((⟨#[45]⟩ : ByteArray).size + (s10 ++ bs s).size : Nat) : Int) ≤ IntKind.i64.max ∧ ((fun r => r = [V.str (bs (Lib.itoa n))]) [(.str ((⟨#[45]⟩ : ByteArray) ++ (s10 ++ bs s)))]))
 else
 ((fun r => r = [V.str (bs (Lib.itoa n))]) [(.str (s10 ++ bs s))]))
 else
 ((fun us => ∃ (s : List UInt8) (m : Int), us = [V.str (bs s), .int .i64 m] ∧ -9223372036854775808 ≤ m ∧ m ≤ 9223372036854775807 ∧ Lib.decDigits n.natAbs = Lib.decDigits m.natAbs ++ s) [(.str (s10 ++ bs s)), (.int .i64 (IntKind.i64.wrap (Int.tdiv m (10 : Int))))] ∧ (fun us => match us with | [_, V.int _ m] => m.natAbs | _ => 0) [(.str (s10 ++ bs s)), (.int .i64 (IntKind.i64.wrap (Int.tdiv m (10 : Int))))] < (fun us => match us with | [_, V.int _ m] => m.natAbs | _ => 0) [(.str (bs s)), (.int .i64 m)])))) := fun x hx => by
    subst hx
    have hlt : m.natAbs % 10 < 10 := Nat.mod_lt _ (by omega)
    have hw : IntKind.u8.wrap (IntKind.i64.wrap (48 + ((m.natAbs % 10 : Nat) : Int))) = (((UInt8.ofNat (48 + m.natAbs % 10)).toNat : Nat) : Int) := by
      rw [w64 (by omega) (by omega), Go.Vx.w8 (by omega) (by omega), Uni.ofNat_digit hlt]; push_cast; rfl
    refine ⟨bs [UInt8.ofNat (48 + m.natAbs % 10)], by rw [hw]; rfl, ?_⟩
    rw [app_bs, bs_size, bs_size, bs_size, hmx, w64 hdb.1 hdb.2]
    have h45 : (⟨#[45]⟩ : ByteArray) = bs [45] := rfl
    refine ⟨by simp only [List.length_cons, List.length_nil]; omega, rfl, by decide, ifE (fun hz => ?_) (fun hnz => ?_)⟩
    · have hsm : m.natAbs < 10 := by omega
      have hm10 : m.natAbs % 10 = m.natAbs := Nat.mod_eq_of_lt hsm
      rw [decDigits_small hsm] at hdec
      rw [hm10]
      refine ifD (fun hneg => ?_) (fun hpos => ?_)
      · rw [h45, app_bs, bs_size]
        refine ⟨by simp only [List.length_append, List.length_cons, List.length_nil]; omega, ?_⟩
        rw [itoa_neg hneg, hdec]; rfl
      · rw [itoa_pos hpos, show n.toNat = n.natAbs by omega, hdec]
    · have hbig : ¬ m.natAbs < 10 := by omega
      rw [decDigits_big hbig, List.append_assoc] at hdec
      exact ⟨⟨_, _, rfl, hdb.1, hdb.2, by rw [hdiv]; exact hdec⟩, by simp only [hdiv]; omega⟩
  refine ⟨rfl, by decide, ifD (fun hneg => ?_) (fun hpos => ?_)⟩
  · exact hfin _ (by rw [w64 (by omega) (by omega)]; omega)
  · exact hfin _ (by omega)


theorem Itoa_spec (n : Int) (h0 : -9223372036854775808 ≤ n) (h1 : n ≤ 9223372036854775807) : PCalls ax 45 [.int .i64 n] fun r => r = [.str (bs (Lib.itoa n))] := by
  refine pcalls_below fun G w F β vals hE hS hr => ?_
  obtain ⟨v0, r0, rfl, e0, hr⟩ := hr.cons_inv
  obtain rfl := hr.nil_inv
  rw [e0.int_inv]
  obtain ⟨g1, ⟨tt, pp, g2⟩, g3⟩ := hS.tab 16 _ (hE.tab (16, (Lib.pow10Tab.map fun z => Value.int .u64 z).toArray) (by simp))
  have htab : Lib.TabIs Tryd.prog w "internal/strconv.uint64pow10" .u64 Lib.pow10Tab := by
    unfold Lib.TabIs World.var?
    rw [show Tryd.prog.globalNamed "internal/strconv.uint64pow10" = some 16 by kernel_rfl]
    simp only [Option.bind_some, g2]
  refine (Tryd.strconv_Itoa n h0 h1 w htab).mono ?_
  rintro e w' ⟨rfl, k, os, rfl⟩
  exact ⟨_, [.string (bs (Lib.itoa n))], rfl, rfl, .cons (.mk_str _) .nil, Lib.below_grow _ _ (Nat.le_refl _) _ _⟩

theorem StrJoin_spec (xs : List (List UInt8)) (sep : List UInt8) (hn : xs.length ≤ big) (hl : (Lib.join xs sep).length ≤ 140737488355328) : PCalls ax 46 [.sl 1 (xs.map fun x => [.str (bs x)]), .str (bs sep)] fun r => r = [.str (bs (Lib.join xs sep))] := by
  have hb : big = 1099511627776 := rfl
  refine pcalls_below fun G w F β vals hE hS hr => ?_
  obtain ⟨v0, r0, rfl, h0, hr⟩ := hr.cons_inv
  obtain ⟨v1, r1, rfl, h1, hr⟩ := hr.cons_inv
  obtain rfl := hr.nil_inv
  rw [h1.str_inv]
  have hf := h0.sl_inv
  cases hf with
  | sl z l a c val k1 k2 hz hc hv =>
    rw [List.length_map]
    by_cases hne : xs = []
    · subst hne
      refine (Tryd.strings_Join_none a c (bs sep) w).mono ?_
      rintro e w' ⟨rfl, rfl⟩
      exact ⟨_, [.string (bs (Lib.join [] sep))], rfl, rfl, .cons (.mk_str _) .nil, Below.refl _ _⟩
    · obtain ⟨b, o, rfl, hcell⟩ := hc (fun h => hne (List.map_eq_nil_iff.1 h))
      have hcells : ∀ (j : Nat) x, (xs.map bs)[j]? = some x → w.cell? ⟨b, o + j, none⟩ = some (.string x) := fun j x hx => by
        rw [List.getElem?_map] at hx
        cases hxj : xs[j]? with
        | none => rw [hxj] at hx; cases hx
        | some y =>
          rw [hxj] at hx
          cases hx
          have hrow : (xs.map fun x => [V.str (bs x)])[j]? = some [.str (bs y)] := by rw [List.getElem?_map, hxj]; rfl
          obtain ⟨c1, _⟩ := hcell j _ 0 _ hrow rfl
          have c2 := hv j _ 0 _ hrow rfl
          have e0 : j * 1 + 0 = j := by omega
          rw [e0] at c1
          rw [c1]
          exact congrArg some (RV.str_inv (RV.fz (β := β) (σ := mkS []) _ _ c2))
      have hbk : b < w.heap.size := by
        cases xs with
        | nil => exact absurd rfl hne
        | cons y ys =>
          have := hcells 0 (bs y) rfl
          exact Lib.lt_of_cell this
      have hmm : (xs.map bs).map (fun x => x.data.toList) = xs := by
        rw [List.map_map]
        conv => rhs; rw [← List.map_id xs]
        exact List.map_congr_left fun x _ => bs_data x
      have key := Tryd.strings_Join b o c (xs.map bs) (bs sep) w hcells hbk (by rw [List.length_map]; omega) (by rw [List.length_map]; rw [List.length_map] at k1; exact k1) (by rw [hmm, bs_data]; exact hl)
      rw [hmm, bs_data, List.length_map] at key
      refine key.mono ?_
      rintro e w' ⟨rfl, hbel⟩
      exact ⟨_, [.string (bs (Lib.join xs sep))], rfl, rfl, .cons (.mk_str _) .nil, hbel⟩


theorem text_pre (s : ByteArray) (l : List UInt8) : s ++ bs l = bs (s.data.toList ++ l) := by
  conv => lhs; rw [← bs_of s]
  exact app_bs _ _
theorem allVs_mem {D : Int → Prop} {xs : List Tm} (h : allVs D xs) {t : Tm} (ht : t ∈ xs) : allV D t := (allVs_iff xs).1 h t ht
theorem wts_take {zs : List Tm} {i : Nat} : wts (zs.take i) ≤ wts zs := by
  induction zs generalizing i with
  | nil => simp
  | cons a r ih => cases i with
    | zero => simp [wts]
    | succ i => simp only [List.take_succ_cons, wts]; have := @ih i; omega
theorem allVs_take {D : Int → Prop} {zs : List Tm} {i : Nat} (h : allVs D zs) : allVs D (zs.take i) := (allVs_iff _).2 fun _x hx => allVs_mem h (List.mem_of_mem_take hx)
theorem length_wts : ∀ zs : List Tm, zs.length ≤ wts zs := fun zs => Nat.le_trans (length_sizes zs) (sizes_wts zs)

theorem Text_spec : ∀ t : Tm, wt t ≤ big → allV rngV t → PCalls ax 28 [.agg (enc t)] fun r => r = [.str (bs (textR t))] := by
  refine Tm.ind fun k s v xs ih => ?_
  rintro hs ⟨hv, hvs⟩
  have hb := bigV
  have hmx : IntKind.i64.max = 9223372036854775807 := rfl
  have hlw := length_wts xs
  have htl := texts_len xs hvs
  simp only [wt] at hs
  refine Text.calls (K := fun r => r = [.str (bs (textR (.mk k s v xs)))]) ?_
  unfold Text.W
  rw [textR]
  have h63 : (⟨#[63]⟩ : ByteArray) = bs [63] := rfl
  have h40 : (⟨#[40]⟩ : ByteArray) = bs [40] := rfl
  have h41 : (⟨#[41]⟩ : ByteArray) = bs [41] := rfl
  have hss : s.data.toList.length = s.size := by rw [Array.length_toList]; rfl
  refine ifE (fun k1 => by rw [if_pos k1]; rfl) (fun k1 => ifE (fun k3 => ?_) (fun k3 => ifE (fun k4 => ?_) (fun k4 => ifE (fun k2 => ?_) (fun k2 => ?_))))
  · rw [if_neg k1, if_pos k3, bs_of]
  · rw [if_neg k1, if_neg k3, if_pos k4]
    have hl := itoa_len v (hv k4).1 (hv k4).2
    refine (Itoa_spec v (hv k4).1 (hv k4).2).mono fun r hr => ⟨_, hr, ?_⟩
    rw [h63, app_bs, bs_size, bs_size, hmx]
    exact ⟨by simp only [List.length_cons, List.length_nil]; omega, rfl⟩
  · rw [if_neg k1, if_neg k3, if_neg k4, if_pos k2, encs_length]
    refine ifE (fun h0 => ?_) (fun h0 => ?_)
    · rw [if_pos (by omega), bs_of]
    rw [if_neg (by omega)]
    refine ⟨by omega, by omega, by omega, by omega, ?_⟩
    refine ⟨fun us => ∃ i : Nat, i ≤ xs.length ∧ us = [.int .i64 i, .sl 1 ((textRs (xs.take i)).map (fun y => [V.str (bs y)]) ++ List.replicate (xs.length - i) [.str ⟨#[]⟩])], fun us => match us with | .int _ i :: _ => xs.length - i.toNat | _ => 0, ⟨0, Nat.zero_le _, by simp [textRs]⟩, ?_⟩
    rintro n l25 ⟨i, hi, e⟩
    cases e
    refine ifD (fun hlt => ?_) (fun hge => ?_)
    · have hi' : i < xs.length := by omega
      obtain ⟨k', s', v', l', he⟩ := getEq hi'
      have hm := List.mem_of_getElem? he
      have hwm := wt_mem hm
      refine ⟨by omega, hlt, k', s', v', encs l', lrow he, ?_⟩
      refine (ih _ hm (by omega) (allVs_mem hvs hm)).mono fun r hr => ⟨_, hr, ?_⟩
      have htx : (textRs (xs.take i)).length = i := by rw [textRs_eq]; simp; omega
      have hlen : ((textRs (xs.take i)).map (fun y => [V.str (bs y)]) ++ List.replicate (xs.length - i) [V.str ⟨#[]⟩]).length = xs.length := by rw [List.length_append, List.length_map, htx, List.length_replicate]; omega
      rw [hlen, step1 (by omega)]
      have hset : List.set ((textRs (xs.take i)).map (fun y => [V.str (bs y)]) ++ List.replicate (xs.length - i) [V.str ⟨#[]⟩]) ((i : Int)).toNat [.str (bs (textR (.mk k' s' v' l')))] = (textRs (xs.take (i + 1))).map (fun y => [V.str (bs y)]) ++ List.replicate (xs.length - (i + 1)) [V.str ⟨#[]⟩] := by
        rw [Int.toNat_natCast, List.set_append_right _ _ (by rw [List.length_map, htx]; omega), List.length_map, htx, Nat.sub_self]
        have h1 : xs.length - i = (xs.length - (i + 1)) + 1 := by omega
        rw [h1, List.replicate_succ, List.set_cons_zero, List.take_add_one, he, textRs_eq, textRs_eq]
        simp
      rw [hset]
      exact ⟨by omega, hlt, by omega, ⟨i + 1, by omega, rfl⟩, by simp only [Int.toNat_natCast]; omega⟩
    · have hfull : xs.take i = xs := List.take_of_length_le (by omega)
      have h00 : xs.length - i = 0 := by omega
      rw [hfull, h00, List.replicate_zero, List.append_nil]
      have hnx : (textRs xs).length = xs.length := by rw [textRs_eq]; simp
      have hjl : (Lib.join (textRs xs) [44, 32]).length ≤ 24 * wts xs := by
        cases xs with
        | nil => simp [textRs, Lib.join_nil]
        | cons x r =>
          rw [textRs] at htl ⊢
          have e : (textRs r).length = r.length := by rw [textRs_eq]; simp
          simp only [Lib.join_length, List.length_cons, List.length_nil] at htl ⊢
          omega
      have hj := StrJoin_spec (textRs xs) [44, 32] (by omega) (by omega)
      rw [h40, text_pre, bs_size, hmx]
      refine ⟨by simp only [List.length_cons, List.length_nil]; omega, ?_⟩
      refine hj.mono fun r hr => ⟨_, hr, ?_⟩
      rw [app_bs, h41, app_bs]
      simp only [bs_size, List.length_append, List.length_cons, List.length_nil, hss]
      exact ⟨by omega, by omega, trivial⟩
  · rw [if_neg k1, if_neg k3, if_neg k4, if_neg k2]; rfl

/-- what stands in the text behind so many arguments -/
def partR (xs : List Tm) : List UInt8 := if xs = [] then [] else 40 :: Lib.join (textRs xs) [44, 32]
theorem partR_len (xs : List Tm) (h : allVs rngV xs) : (partR xs).length ≤ 1 + 24 * wts xs := by
  have htl := texts_len xs h
  unfold partR
  cases xs with
  | nil => simp
  | cons x r =>
    rw [if_neg (by simp)]
    rw [textRs] at htl ⊢
    have e : (textRs r).length = r.length := by rw [textRs_eq]; simp
    simp only [Lib.join_length, List.length_cons, List.length_nil] at htl ⊢
    omega
theorem partR_snoc (xs : List Tm) (t : Tm) : partR (xs ++ [t]) = if xs = [] then 40 :: textR t else partR xs ++ [44, 32] ++ textR t := by
  unfold partR
  rw [if_neg (by simp)]
  have e : textRs (xs ++ [t]) = textRs xs ++ [textR t] := by rw [textRs_eq, textRs_eq]; simp
  rw [e]
  by_cases h : xs = []
  · subst h
    rw [if_pos rfl, textRs, List.nil_append, Lib.join_one]
  · rw [if_neg h, if_neg h, join_snoc _ _ _ (by rw [textRs_eq]; simpa using h)]
    simp
theorem RText_spec : ∀ t : Tm, wt t ≤ big → allV rngV t → PCalls ax 29 [.agg (enc t)] fun r => r = [.str (bs (textR t))] := by
  refine Tm.ind fun k s v xs ih => ?_
  rintro hs ⟨hv, hvs⟩
  have hb := bigV
  have hmx : IntKind.i64.max = 9223372036854775807 := rfl
  have hlw := length_wts xs
  simp only [wt] at hs
  refine RText.calls (K := fun r => r = [.str (bs (textR (.mk k s v xs)))]) ?_
  unfold RText.W
  rw [textR]
  have h63 : (⟨#[63]⟩ : ByteArray) = bs [63] := rfl
  have h40 : (⟨#[40]⟩ : ByteArray) = bs [40] := rfl
  have h41 : (⟨#[41]⟩ : ByteArray) = bs [41] := rfl
  have h44 : (⟨#[44, 32]⟩ : ByteArray) = bs [44, 32] := rfl
  have hss : s.data.toList.length = s.size := by rw [Array.length_toList]; rfl
  refine ifE (fun k1 => by rw [if_pos k1]; rfl) (fun k1 => ifE (fun k3 => ?_) (fun k3 => ifE (fun k4 => ?_) (fun k4 => ifE (fun k2 => ?_) (fun k2 => ?_))))
  · rw [if_neg k1, if_pos k3, bs_of]
  · rw [if_neg k1, if_neg k3, if_pos k4]
    have hl := itoa_len v (hv k4).1 (hv k4).2
    refine (decimal_spec v (hv k4).1 (hv k4).2).mono fun r hr => ⟨_, hr, ?_⟩
    rw [h63, app_bs, bs_size, bs_size, hmx]
    exact ⟨by simp only [List.length_cons, List.length_nil]; omega, rfl⟩
  · rw [if_neg k1, if_neg k3, if_neg k4, if_pos k2, encs_length]
    refine ⟨fun us => ∃ i : Nat, i ≤ xs.length ∧ us = [.str (bs (s.data.toList ++ partR (xs.take i))), .int .i64 i], fun us => match us with | [_, .int _ i] => xs.length - i.toNat | _ => 0, ⟨0, Nat.zero_le _, by simp [partR, bs_of]⟩, ?_⟩
    rintro s19 n ⟨i, hi, e⟩
    cases e
    have hpl := partR_len (xs.take i) (allVs_take hvs)
    have hwt := wts_take (zs := xs) (i := i)
    refine ifD (fun hlt => ?_) (fun hge => ?_)
    · have hi' : i < xs.length := by omega
      obtain ⟨k', s', v', l', he⟩ := getEq hi'
      have hm := List.mem_of_getElem? he
      have hwm := wt_mem hm
      have htx := text_len _ (allVs_mem hvs hm)
      have hsn := partR_snoc (xs.take i) (.mk k' s' v' l')
      have htk : xs.take (i + 1) = xs.take i ++ [.mk k' s' v' l'] := by rw [List.take_add_one, he]; rfl
      rw [← htk] at hsn
      have hnil : xs.take i = [] ↔ i = 0 := by
        constructor
        · intro h
          have := congrArg List.length h
          rw [List.length_take, List.length_nil] at this; omega
        · rintro rfl; rfl
      refine ⟨by omega, hlt, k', s', v', encs l', lrow he, ?_⟩
      rw [step1 (by omega), h40, h44, app_bs, app_bs, hmx]
      simp only [bs_size]
      refine ifE (fun h0 => ?_) (fun h0 => ?_)
      · have hi0 : i = 0 := by omega
        rw [if_pos (hnil.2 hi0)] at hsn
        refine ⟨by simp only [List.length_append, List.length_cons, List.length_nil, hss]; omega, ?_⟩
        refine (ih _ hm (by omega) (allVs_mem hvs hm)).mono fun r hr => ⟨_, hr, ?_⟩
        rw [app_bs]
        simp only [bs_size]
        refine ⟨by simp only [List.length_append, List.length_cons, List.length_nil, hss]; omega, ⟨i + 1, by omega, ?_⟩, by simp only [Int.toNat_natCast]; omega⟩
        rw [hsn]
        subst hi0
        simp [partR]
      · rw [if_neg (fun h => h0 (by have := hnil.1 h; omega))] at hsn
        refine ⟨by simp only [List.length_append, List.length_cons, List.length_nil, hss]; omega, ?_⟩
        refine (ih _ hm (by omega) (allVs_mem hvs hm)).mono fun r hr => ⟨_, hr, ?_⟩
        rw [app_bs]
        simp only [bs_size]
        refine ⟨by simp only [List.length_append, List.length_cons, List.length_nil, hss]; omega, ⟨i + 1, by omega, ?_⟩, by simp only [Int.toNat_natCast]; omega⟩
        rw [hsn]
        simp only [List.append_assoc]
    · rw [List.take_of_length_le (by omega)] at hpl ⊢
      refine ifD (fun h0 => ?_) (fun h0 => ?_)
      · rw [h41, app_bs, bs_size, bs_size, hmx, if_neg (by omega)]
        refine ⟨by simp only [List.length_append, List.length_cons, List.length_nil, hss]; omega, ?_⟩
        have hne : xs ≠ [] := fun h => by rw [h] at h0; simp at h0
        rw [partR, if_neg hne]
        simp
      · have hz : xs = [] := List.eq_nil_of_length_eq_zero (by omega)
        subst hz
        simp [partR]
  · rw [if_neg k1, if_neg k3, if_neg k4, if_neg k2]; rfl
end Go.Proofs.YtdgekhanonfikaaDoor.Va
end

/- part U5Q -/
section
namespace Go.Proofs.YtdgekhanonfikaaDoor.Va
open Go.Vx Go.Av Go.Uni

theorem SameTypes_thin {xs : List Tm} (ih : ∀ x ∈ xs, ∀ y : Tm, thin big x → PCalls ax 10 [.agg (enc x), .agg (enc y)] fun r => ∃ c : Bool, r = [.bool c] ∧ (c = true ↔ x = y)) (ys : List Tm) (hls : xs.length ≤ big) (ht : thins big xs) :
    PCalls ax 22 [.sl 4 (encs xs), .sl 4 (encs ys)] fun r => ∃ c : Bool, r = [.bool c] ∧ (c = true ↔ xs = ys) := by
  refine SameTypes.calls (K := fun r => ∃ c : Bool, r = [.bool c] ∧ (c = true ↔ xs = ys)) ?_
  unfold SameTypes.W
  have hb := bigV
  rw [thins_iff] at ht
  simp only [encs_length]
  refine ifNE (fun hne => ⟨false, rfl, by simp; rintro rfl; exact hne rfl⟩) (fun heq => ?_)
  have hl : xs.length = ys.length := by omega
  refine ⟨fun us => ∃ i : Nat, i ≤ xs.length ∧ us = [.int .i64 i] ∧ xs.take i = ys.take i, fun us => match us with | .int _ i :: _ => xs.length - i.toNat | _ => 0, ⟨0, Nat.zero_le _, rfl, rfl⟩, ?_⟩
  rintro n ⟨i, hi, e, htk⟩
  cases e
  refine ifD (fun hlt => ?_) (fun hge => ?_)
  · have hi' : i < xs.length := by omega
    obtain ⟨k', s', v', l', he⟩ := getEq hi'
    obtain ⟨k2, s2, v2, l2, he2⟩ := getEq (xs := ys) (i := i) (by omega)
    have hm := List.mem_of_getElem? he
    refine ⟨by omega, hlt, k', s', v', encs l', lrow he, by omega, by omega, k2, s2, v2, encs l2, lrow he2, ?_⟩
    refine (ih _ hm (.mk k2 s2 v2 l2) (ht _ hm)).mono fun r ⟨c, hr, hc⟩ => ⟨c, hr, ifN (fun h => ?_) (fun h => ?_)⟩
    · refine ⟨false, rfl, by simp only [Bool.false_eq_true, false_iff]; intro hxy; subst hxy; rw [he] at he2; rw [hc.2 (Option.some.inj he2)] at h; cases h⟩
    · rw [w64 (by omega) (by omega)]
      refine ⟨⟨i + 1, hi', by push_cast; rfl, ?_⟩, by simp only; omega⟩
      rw [List.take_add_one, List.take_add_one, he, he2, htk, hc.1 h]
  · have hx : xs.take i = xs := List.take_of_length_le (by omega)
    have hy : ys.take i = ys := List.take_of_length_le (by omega)
    exact ⟨true, rfl, by rw [hx, hy] at htk; simp [htk]⟩
theorem RSame_thin : ∀ a b : Tm, thin big a → PCalls ax 10 [.agg (enc a), .agg (enc b)] fun r => ∃ c : Bool, r = [.bool c] ∧ (c = true ↔ a = b) := by
  refine Tm.ind fun k s v xs ih => ?_
  rintro ⟨k', s', v', ys⟩ ⟨hl, ht⟩
  refine RSame.calls (K := fun r => ∃ c : Bool, r = [.bool c] ∧ (c = true ↔ Tm.mk k s v xs = .mk k' s' v' ys)) ?_
  unfold RSame.W
  refine ifE (fun h1 => ifB (fun h2 => ifE (fun h3 => ?_) (fun h3 => ⟨false, rfl, by simp [h3]⟩)) (fun h2 => ⟨false, rfl, by simp [strEq] at h2; simp [h2]⟩)) (fun h1 => ⟨false, rfl, by simp [h1]⟩)
  have h2' : s = s' := by simpa [strEq] using h2
  refine (SameTypes_thin ih ys hl ht).mono fun r ⟨c, hr, hc⟩ => ⟨c, hr, c, rfl, by rw [hc]; simp [h1, h2', h3]⟩

theorem Equal_of {xs : List Tm} (ih : ∀ x ∈ xs, ∀ y : Tm, thin big x → PCalls ax 30 [.agg (enc x), .agg (enc y)] fun r => ∃ c : Bool, r = [.bool c] ∧ (c = true ↔ x = y)) (ys : List Tm) (hls : xs.length ≤ big) (ht : thins big xs) :
    PCalls ax 48 [.sl 4 (encs xs), .sl 4 (encs ys), .fn 30 [] []] fun r => ∃ c : Bool, r = [.bool c] ∧ (c = true ↔ xs = ys) := by
  refine Equal.calls (K := fun r => ∃ c : Bool, r = [.bool c] ∧ (c = true ↔ xs = ys)) ?_
  unfold Equal.W
  have hb := bigV
  rw [thins_iff] at ht
  simp only [encs_length]
  refine ifNE (fun hne => ⟨false, rfl, by simp; rintro rfl; exact hne rfl⟩) (fun heq => ?_)
  have hl : xs.length = ys.length := by omega
  refine ⟨fun us => ∃ i : Nat, i ≤ xs.length ∧ us = [.int .i64 i] ∧ xs.take i = ys.take i, fun us => match us with | .int _ i :: _ => xs.length - i.toNat | _ => 0, ⟨0, Nat.zero_le _, rfl, rfl⟩, ?_⟩
  rintro n ⟨i, hi, e, htk⟩
  cases e
  refine ifD (fun hlt => ?_) (fun hge => ?_)
  · have hi' : i < xs.length := by omega
    obtain ⟨k', s', v', l', he⟩ := getEq hi'
    obtain ⟨k2, s2, v2, l2, he2⟩ := getEq (xs := ys) (i := i) (by omega)
    have hm := List.mem_of_getElem? he
    refine ⟨by omega, hlt, k', s', v', encs l', lrow he, by omega, by omega, k2, s2, v2, encs l2, lrow he2, ?_⟩
    refine (ih _ hm (.mk k2 s2 v2 l2) (ht _ hm)).mono fun r ⟨c, hr, hc⟩ => ⟨c, hr, ifN (fun h => ?_) (fun h => ?_)⟩
    · refine ⟨false, rfl, by simp only [Bool.false_eq_true, false_iff]; intro hxy; subst hxy; rw [he] at he2; rw [hc.2 (Option.some.inj he2)] at h; cases h⟩
    · rw [w64 (by omega) (by omega)]
      refine ⟨⟨i + 1, hi', by push_cast; rfl, ?_⟩, by simp only; omega⟩
      rw [List.take_add_one, List.take_add_one, he, he2, htk, hc.1 h]
  · have hx : xs.take i = xs := List.take_of_length_le (by omega)
    have hy : ys.take i = ys := List.take_of_length_le (by omega)
    exact ⟨true, rfl, by rw [hx, hy] at htk; simp [htk]⟩
theorem Same_spec : ∀ a b : Tm, thin big a → PCalls ax 30 [.agg (enc a), .agg (enc b)] fun r => ∃ c : Bool, r = [.bool c] ∧ (c = true ↔ a = b) := by
  refine Tm.ind fun k s v xs ih => ?_
  rintro ⟨k', s', v', ys⟩ ⟨hl, ht⟩
  refine Same.calls (K := fun r => ∃ c : Bool, r = [.bool c] ∧ (c = true ↔ Tm.mk k s v xs = .mk k' s' v' ys)) ?_
  unfold Same.W
  refine ifE (fun h1 => ifB (fun h2 => ifE (fun h3 => ?_) (fun h3 => ⟨false, rfl, by simp [h3]⟩)) (fun h2 => ⟨false, rfl, by simp [strEq] at h2; simp [h2]⟩)) (fun h1 => ⟨false, rfl, by simp [h1]⟩)
  have h2' : s = s' := by simpa [strEq] using h2
  refine (Equal_of ih ys hl ht).mono fun r ⟨c, hr, hc⟩ => ⟨c, hr, c, rfl, by rw [hc]; simp [h1, h2', h3]⟩

/-! ### Plain, as the reference does it -/
def rowsI (l : List Int) : List (List V) := l.map fun n => [.int .i64 n]
@[simp] theorem rowsI_length (l : List Int) : (rowsI l).length = l.length := by simp [rowsI]
theorem rowsI_snoc (a : List Int) (n : Int) : rowsI a ++ [[.int .i64 n]] = rowsI (a ++ [n]) := by simp [rowsI]
theorem rowI {l : List Int} {i : Nat} {n : Int} (h : l[i]? = some n) : List.take 1 (Av.rowAt (rowsI l) i) = [.int .i64 n] := by
  rw [rowsI, Av.rowAt, List.getD_eq_getElem?_getD, List.getElem?_map, h]; rfl
theorem In_spec (l : List Int) (q : Int) (hl : l.length ≤ 3 * big) : PCalls ax 62 [.sl 1 (rowsI l), .int .i64 q] fun r => r = [.bool (decide (q ∈ l))] := by
  have hb := bigV
  refine In.calls (K := fun r => r = [.bool (decide (q ∈ l))]) ?_
  unfold In.W
  rw [rowsI_length]
  refine ⟨fun us => ∃ i : Nat, i ≤ l.length ∧ us = [.int .i64 i] ∧ q ∉ l.take i, fun us => match us with | .int _ i :: _ => l.length - i.toNat | _ => 0, ⟨0, Nat.zero_le _, rfl, by simp⟩, ?_⟩
  rintro n ⟨i, hi, e, hn⟩
  cases e
  refine ifD (fun hlt => ?_) (fun hge => ?_)
  · have hi' : i < l.length := by omega
    have he := List.getElem?_eq_getElem hi'
    refine ⟨by omega, hlt, l[i], by rw [Int.toNat_natCast]; exact rowI he, ifE (fun h => ?_) (fun h => ?_)⟩
    · rw [decide_eq_true (show q ∈ l by rw [← h]; exact List.getElem_mem hi')]
    · rw [step1 (by omega)]
      exact ⟨⟨i + 1, by omega, rfl, by rw [List.take_add_one, he]; simp only [Option.toList_some, List.mem_append, List.mem_singleton, not_or]; exact ⟨hn, fun hh => h hh.symm⟩⟩, by simp only [Int.toNat_natCast]; omega⟩
  · rw [List.take_of_length_le (by omega)] at hn
    rw [decide_eq_false hn]

theorem frees_of {zs : List Tm} (ih : ∀ x ∈ zs, sizes x.args ≤ big → PCalls ax 50 [.sl 4 (encs x.args)] fun r => r = [.sl 1 (rowsI (ddF [] (preL x.args)))]) (hs : sizes zs ≤ big) :
    PCalls ax 50 [.sl 4 (encs zs)] fun r => r = [.sl 1 (rowsI (ddF [] (preL zs)))] := by
  have hb := bigV
  have hls := length_sizes zs
  refine frees.calls (K := fun r => r = [.sl 1 (rowsI (ddF [] (preL zs)))]) ?_
  unfold frees.W
  rw [encs_length]
  refine ⟨fun us => ∃ i : Nat, i ≤ zs.length ∧ us = [.sl 1 (rowsI (ddF [] (preL (zs.take i)))), .int .i64 i], fun us => match us with | [_, .int _ i] => zs.length - i.toNat | _ => 0, ⟨0, Nat.zero_le _, rfl⟩, ?_⟩
  rintro l75 n76 ⟨i, hi, e⟩
  cases e
  refine ifD (fun hlt => ?_) (fun hge => ?_)
  · have hi' : i < zs.length := by omega
    obtain ⟨k, s, v, l, he⟩ := getEq hi'
    have hm := List.mem_of_getElem? he
    have hsz := size_mem hm
    have hsl : sizes l ≤ big := by simp only [size] at hsz; omega
    have hpl := preL_len (zs.take i)
    have hpt := sizes_take (zs := zs) (i := i)
    have hd0 := ddF_len (preL (zs.take i)) []
    rw [List.length_nil] at hd0
    have hnext : ddF [] (preL (zs.take (i + 1))) = ddF (ddF (ddF [] (preL (zs.take i))) (if k = 4 then [v] else [])) (preL l) := by
      rw [preL_take he, ddF_append, preT, ddF_append]
    generalize ddF [] (preL (zs.take i)) = D at hd0 hnext ⊢
    refine ⟨by omega, hlt, k, s, v, encs l, lrow he, fun us => us = [.sl 1 (rowsI (ddF D (if k = 4 then [v] else [])))], ifE (fun h4 => ?_) (fun h4 => by rw [if_neg h4]; rfl), fun l90 e => ?_⟩
    · rw [if_pos h4]
      refine (In_spec D v (by omega)).mono fun r hr => ⟨_, hr, ?_⟩
      show cond _ _ _
      rw [rowsI_snoc]
      refine ifN (fun h => ?_) (fun h => ?_)
      · rw [ddF, if_neg (of_decide_eq_false h), rowsI_length]
        simp only [List.length_cons, List.length_nil]
        exact ⟨by omega, by omega, rfl⟩
      · rw [ddF, if_pos (of_decide_eq_true h)]; rfl
    cases e
    refine (ih _ hm hsl).mono fun r hr => ⟨rowsI (ddF [] (preL l)), hr, ?_⟩
    have hd1 : (ddF D (if k = 4 then [v] else [])).length ≤ D.length + 1 := by
      have := ddF_len (if k = 4 then [v] else []) D
      have h2 : (if k = 4 then [v] else ([] : List Int)).length ≤ 1 := by split <;> simp
      omega
    have hnl := preL_len l
    have hd2 := ddF_len (preL l) []
    rw [List.length_nil] at hd2
    have hdd := ddF_dd (ddF D (if k = 4 then [v] else [])) (preL l)
    generalize ddF D (if k = 4 then [v] else []) = E at hd1 hnext hdd ⊢
    generalize ddF [] (preL l) = N at hd2 hdd ⊢
    rw [rowsI_length]
    refine ⟨fun us => ∃ j : Nat, j ≤ N.length ∧ us = [.sl 1 (rowsI (ddF E (N.take j))), .int .i64 j], fun us => match us with | [_, .int _ j] => N.length - j.toNat | _ => 0, ⟨0, Nat.zero_le _, rfl⟩, ?_⟩
    rintro l106 n107 ⟨j, hj, e⟩
    cases e
    have hdl := ddF_len (N.take j) E
    rw [List.length_take] at hdl
    refine ifD (fun hjl => ?_) (fun hjg => ?_)
    · have hj' : j < N.length := by omega
      have hej := List.getElem?_eq_getElem hj'
      refine ⟨by omega, hjl, N[j], by rw [Int.toNat_natCast]; exact rowI hej, ?_⟩
      refine (In_spec _ _ (by omega)).mono fun r hr => ⟨_, hr, ?_⟩
      rw [step1 (by omega)]
      refine ifN (fun h => ?_) (fun h => ?_)
      · have htk := ddF_take_out hej (of_decide_eq_false h)
        rw [rowsI_snoc, rowsI_length]
        simp only [List.length_cons, List.length_nil]
        exact ⟨by omega, by omega, ⟨j + 1, by omega, by rw [htk]⟩, by simp only [Int.toNat_natCast]; omega⟩
      · have htk := ddF_take_in hej (of_decide_eq_true h)
        exact ⟨⟨j + 1, by omega, by rw [htk]⟩, by simp only [Int.toNat_natCast]; omega⟩
    · rw [step1 (by omega), List.take_of_length_le (l := N) (by omega)]
      exact ⟨⟨i + 1, by omega, by rw [hnext, hdd]⟩, by simp only [Int.toNat_natCast]; omega⟩
  · rw [List.take_of_length_le (by omega)]
theorem frees_spec (zs : List Tm) (hs : sizes zs ≤ big) : PCalls ax 50 [.sl 4 (encs zs)] fun r => r = [.sl 1 (rowsI (ddF [] (preL zs)))] := by
  have all : ∀ t : Tm, sizes t.args ≤ big → PCalls ax 50 [.sl 4 (encs t.args)] fun r => r = [.sl 1 (rowsI (ddF [] (preL t.args)))] :=
    Tm.ind fun k s v zs ih hs => frees_of ih hs
  exact frees_of (fun x _ => all x) hs

theorem numL_take {M : List Int} {zs : List Tm} {i : Nat} {t : Tm} (h : zs[i]? = some t) : encs (numL M (zs.take i)) ++ [enc (numT M t)] = encs (numL M (zs.take (i + 1))) := by
  rw [List.take_add_one, h, numL_eq, numL_eq, List.map_append, encs_append]; rfl
theorem idx_first {M : List Int} {v : Int} {j : Nat} (h : M[j]? = some v) (hn : v ∉ M.take j) : M.idxOf v = j := by
  have hj := (List.getElem?_eq_some_iff.1 h).1
  have e : M = M.take j ++ v :: M.drop (j + 1) := by
    conv => lhs; rw [← List.take_append_drop j M]
    congr 1
    rw [List.drop_eq_getElem_cons hj]
    rw [List.getElem?_eq_getElem hj] at h
    cases h; rfl
  have hl : (M.take j).length = j := by rw [List.length_take]; omega
  rw [e, List.idxOf_append, if_neg hn, List.idxOf_cons_self, hl]; omega
theorem renumber_of (M : List Int) (hM : M.length ≤ 3 * big) {zs : List Tm} (ih : ∀ x ∈ zs, sizes x.args ≤ big → PCalls ax 49 [.sl 4 (encs x.args), .sl 1 (rowsI M)] fun r => r = [.sl 4 (encs (numL M x.args))]) (hs : sizes zs ≤ big) :
    PCalls ax 49 [.sl 4 (encs zs), .sl 1 (rowsI M)] fun r => r = [.sl 4 (encs (numL M zs))] := by
  have hb := bigV
  have hls := length_sizes zs
  refine renumber.calls (K := fun r => r = [.sl 4 (encs (numL M zs))]) ?_
  unfold renumber.W
  rw [encs_length]
  refine ⟨fun us => ∃ i : Nat, i ≤ zs.length ∧ us = [.sl 4 (encs (numL M (zs.take i))), .int .i64 i], fun us => match us with | [_, .int _ i] => zs.length - i.toNat | _ => 0, ⟨0, Nat.zero_le _, rfl⟩, ?_⟩
  rintro l48 n49 ⟨i, hi, e⟩
  cases e
  refine ifD (fun hlt => ?_) (fun hge => ?_)
  · have hi' : i < zs.length := by omega
    obtain ⟨k, s, v, l, he⟩ := getEq hi'
    have hm := List.mem_of_getElem? he
    have hsz := size_mem hm
    have hsl : sizes l ≤ big := by simp only [size] at hsz; omega
    have hlen : (encs (numL M (zs.take i))).length = i := by rw [encs_length, numL_eq, List.length_map, List.length_take]; omega
    have hnx := numL_take (M := M) he
    have hih := ih _ hm hsl
    rw [step1 (by omega), hlen]
    refine ⟨by omega, hlt, k, s, v, encs l, lrow he, ifE (fun h4 => ?_) (fun h4 => ?_)⟩
    · rw [rowsI_length]
      refine ⟨fun us => ∃ j : Nat, j ≤ M.length ∧ us = [.int .i64 j] ∧ v ∉ M.take j, fun us => match us with | .int _ j :: _ => M.length - j.toNat | _ => 0, ⟨0, Nat.zero_le _, rfl, by simp⟩, ?_⟩
      rintro n62 ⟨j, hj, e, hn⟩
      cases e
      refine ifD (fun hjl => ?_) (fun hjg => ?_)
      · have hj' : j < M.length := by omega
        have hej := List.getElem?_eq_getElem hj'
        refine ⟨by omega, hjl, M[j], by rw [Int.toNat_natCast]; exact rowI hej, ifE (fun h => ?_) (fun h => ?_)⟩
        · refine hih.mono fun r hr => ⟨_, hr, ?_⟩
          simp only [List.length_cons, List.length_nil, Tm.args_mk]
          have hid := idx_first (v := v) (by rw [hej, h]) hn
          rw [numT, if_pos ⟨h4, by rw [← h]; exact List.getElem_mem hj'⟩, hid] at hnx
          refine ⟨by omega, by omega, ⟨i + 1, by omega, ?_⟩, by simp only [Int.toNat_natCast]; omega⟩
          rw [← hnx]; rfl
        · rw [step1 (by omega)]
          exact ⟨⟨j + 1, by omega, rfl, by rw [List.take_add_one, hej]; simp only [Option.toList_some, List.mem_append, List.mem_singleton, not_or]; exact ⟨hn, fun hh => h hh.symm⟩⟩, by simp only [Int.toNat_natCast]; omega⟩
      · rw [List.take_of_length_le (by omega)] at hn
        refine hih.mono fun r hr => ⟨_, hr, ?_⟩
        simp only [List.length_cons, List.length_nil, Tm.args_mk]
        rw [numT, if_neg (fun h => hn h.2)] at hnx
        refine ⟨by omega, by omega, ⟨i + 1, by omega, ?_⟩, by simp only [Int.toNat_natCast]; omega⟩
        rw [← hnx]; rfl
    · refine hih.mono fun r hr => ⟨_, hr, ?_⟩
      simp only [List.length_cons, List.length_nil, Tm.args_mk]
      rw [numT, if_neg (fun h => h4 h.1)] at hnx
      refine ⟨by omega, by omega, ⟨i + 1, by omega, ?_⟩, by simp only [Int.toNat_natCast]; omega⟩
      rw [← hnx]; rfl
  · rw [List.take_of_length_le (by omega)]
theorem RPlain_spec (zs : List Tm) (hs : sizes zs ≤ big) : PCalls ax 31 [.sl 4 (encs zs)] fun r => r = [.sl 4 (encs (plainL [] zs).1)] := by
  have hb := bigV
  refine RPlain.calls (K := fun r => r = [.sl 4 (encs (plainL [] zs).1)]) ?_
  unfold RPlain.W
  have h1 := preL_len zs
  have h2 := ddF_len (preL zs) []
  rw [List.length_nil] at h2
  have all : ∀ t : Tm, sizes t.args ≤ big → PCalls ax 49 [.sl 4 (encs t.args), .sl 1 (rowsI (ddF [] (preL zs)))] fun r => r = [.sl 4 (encs (numL (ddF [] (preL zs)) t.args))] :=
    Tm.ind fun k s v xs ih hs => renumber_of _ (by omega) ih hs
  refine (frees_spec zs hs).mono fun r hr => ⟨_, hr, ?_⟩
  refine (renumber_of _ (by omega) (fun x _ => all x) hs).mono fun r hr => ⟨_, hr, ?_⟩
  rw [plain_num]
end Go.Proofs.YtdgekhanonfikaaDoor.Va
end

/- part U5R -/
section
namespace Go.Proofs.YtdgekhanonfikaaDoor.Va
open Go.Vx Go.Av Go.Uni

theorem nodup_at {W : List ByteArray} (h : W.Nodup) {i : Nat} {s : ByteArray} (hs : W[i]? = some s) : s ∉ W.take i := by
  intro hm
  obtain ⟨j, hj, e⟩ := List.getElem_of_mem hm
  rw [List.length_take] at hj
  rw [List.getElem_take] at e
  have hi := (List.getElem?_eq_some_iff.1 hs)
  obtain ⟨hi1, hi2⟩ := hi
  have := (List.nodup_iff_pairwise_ne.1 h)
  rw [List.pairwise_iff_getElem] at this
  exact this j i (by omega) hi1 (by omega) (e.trans hi2.symm)
theorem zip_take_mem {W : List ByteArray} {xs : List Tm} {i : Nat} {s : ByteArray} (h : s ∈ ((W.zip xs).take i).map (·.1)) : s ∈ W.take i := by
  obtain ⟨p, hp, rfl⟩ := List.mem_map.1 h
  obtain ⟨j, hj, rfl⟩ := List.getElem_of_mem hp
  rw [List.length_take, List.length_zip] at hj
  simp only [List.getElem_take, List.getElem_zip]
  exact List.mem_of_getElem? (i := j) (by rw [List.getElem?_take, if_pos (by omega), List.getElem?_eq_getElem])
theorem zip_snd_mem {W : List ByteArray} {xs : List Tm} {t : Tm} (h : t ∈ (W.zip xs).map (·.2)) : t ∈ xs := by
  obtain ⟨p, hp, rfl⟩ := List.mem_map.1 h
  exact (List.of_mem_zip (a := p.1) (b := p.2) hp).2

set_option maxHeartbeats 1000000 in
theorem Forms_spec (xs : List Tm) (zs : List Te) (h1 : wts xs ≤ big) (hv : allVs rngV xs) (h2 : sizeEs zs ≤ big) : PCalls ax 7 [.sl 4 (encs xs), .sl 3 (encEs zs)] fun r => r = [.bool true] := by
  have hb := bigV
  have hlx := length_wts xs
  have hlz := length_sizeEs zs
  have hsx := sizes_wts xs
  have hth : ∀ t ∈ xs, thin big t := fun t ht => thin_size t (by have := size_mem ht; omega)
  refine Forms.calls (K := fun r => r = [.bool true]) ?_
  unfold Forms.W
  refine alive_spec.mono fun r hr => ⟨true, hr, ifN (fun h => by cases h) (fun _ => ?_)⟩
  have hnd : (ddF [] (namesL zs)).Nodup := ddF_nodup _ _ (by simp)
  have hwl := ddF_len (namesL zs) []
  have hnl := namesL_len zs
  rw [List.length_nil] at hwl
  have hN := Names_spec zs h2
  have hR := RNames_spec zs h2
  generalize ddF [] (namesL zs) = W at hnd hwl hN hR
  refine hN.mono fun r hr => ⟨_, hr, hR.mono fun r hr => ⟨_, hr, ifNE (fun h => absurd rfl h) (fun _ => ?_)⟩⟩
  rw [rowsS_length, encs_length, encEs_length]
  refine ⟨fun us => ∃ i : Nat, i ≤ W.length ∧ us = [.sl 1 (rowsS (((W.zip xs).take i).map (·.1))), .sl 4 (encs (((W.zip xs).take i).map (·.2))), .int .i64 i, .sl 0 (mapE ((W.zip xs).take i))], fun us => match us with | [_, _, .int _ i, _] => W.length - i.toNat | _ => 0, ⟨0, Nat.zero_le _, rfl⟩, ?_⟩
  rintro l128 l129 n130 l131 ⟨i, hi, e⟩
  cases e
  refine ifD (fun hlt => ?_) (fun hge => ?_)
  · have hi' : i < W.length := by omega
    have hW := List.getElem?_eq_getElem hi'
    have hrow : List.take 1 (Av.rowAt (rowsS W) ((i : Int)).toNat) = [.str W[i]] := by rw [Int.toNat_natCast]; exact rowS hW
    rw [step1 (by omega)]
    refine ⟨by omega, hlt, W[i], hrow, by omega, hlt, W[i], hrow, ifN (fun h => by simp [strEq] at h) (fun _ => ?_)⟩
    refine ifD (fun hlt2 => ?_) (fun hge2 => ?_)
    · have hx' : i < xs.length := by omega
      obtain ⟨k, s, v, l, he⟩ := getEq hx'
      have hz : (W.zip xs).take (i + 1) = (W.zip xs).take i ++ [(W[i], .mk k s v l)] := by
        rw [List.take_add_one, show (W.zip xs)[i]? = some (W[i], Tm.mk k s v l) from List.getElem?_zip_eq_some.2 ⟨hW, he⟩]; rfl
      have hlen : ((W.zip xs).take i).length = i := by rw [List.length_take, List.length_zip]; omega
      have hm : mapE ((W.zip xs).take i) ++ [[.str W[i], .agg [.int .i64 k, .str s, .int .i64 v, .sl 4 (encs l)]]] = mapE ((W.zip xs).take (i + 1)) := by
        rw [hz, mapE, mapE, List.map_append]; rfl
      have hm1 : rowsS (((W.zip xs).take i).map (·.1)) ++ [[.str W[i]]] = rowsS (((W.zip xs).take (i + 1)).map (·.1)) := by rw [hz, rowsS_snoc, List.map_append]; rfl
      have hm2 : encs (((W.zip xs).take i).map (·.2)) ++ [[.int .i64 k, .str s, .int .i64 v, .sl 4 (encs l)]] = encs (((W.zip xs).take (i + 1)).map (·.2)) := by rw [hz, List.map_append, encs_append]; rfl
      refine ⟨by omega, hlt, W[i], hrow, by omega, hlt2, k, s, v, encs l, lrow he, ?_, by omega, hlt, W[i], hrow, by omega, hlt2, k, s, v, encs l, lrow he, ?_⟩
      · rw [look_mapE, lookE_none (fun hh => nodup_at hnd hW (zip_take_mem hh))]; rfl
      · rw [hm, hm1, hm2, rowsS_length, encs_length, List.length_map, List.length_map, hlen]
        simp only [List.length_cons, List.length_nil]
        refine ⟨⟨?_, ?_⟩, ?_⟩ <;> exact ⟨by omega, by omega, by omega, by omega, ⟨i + 1, by omega, rfl⟩, by simp only [Int.toNat_natCast]; omega⟩
    · have hz : (W.zip xs).take (i + 1) = (W.zip xs).take i := by
        rw [List.take_of_length_le (by rw [List.length_zip]; omega), List.take_of_length_le (by rw [List.length_zip]; omega)]
      exact ⟨⟨i + 1, by omega, by rw [hz]⟩, by simp only [Int.toNat_natCast]; omega⟩
  have hfull : (W.zip xs).take i = W.zip xs := List.take_of_length_le (by rw [List.length_zip]; omega)
  rw [hfull]
  have hE : ∀ t ∈ (W.zip xs).map (·.2), thin big t := fun t ht => hth t (zip_snd_mem ht)
  have hEl : (W.zip xs).length ≤ 2 * big := by rw [List.length_zip]; omega
  generalize W.zip xs = env at hE hEl ⊢
  refine ⟨fun us => ∃ j : Nat, j ≤ zs.length ∧ us = [.int .i64 j, .sl 0 (mapE env), .sl 1 (rowsS (env.map (·.1))), .sl 4 (encs (env.map (·.2)))], fun us => match us with | .int _ j :: _ => zs.length - j.toNat | _ => 0, ⟨0, Nat.zero_le _, rfl⟩, ?_⟩
  rintro n254 l255 l256 l257 ⟨j, hj, e⟩
  cases e
  refine ifD (fun hlt => ?_) (fun hge => ?_)
  · obtain ⟨b, s, l, he⟩ := getE (zs := zs) (i := j) (by omega)
    have hm := List.mem_of_getElem? he
    have hsz := sizeE_mem hm
    refine ⟨by omega, hlt, b, s, encEs l, by rw [Int.toNat_natCast, row_encEs he]; rfl, ?_⟩
    obtain ⟨k2, s2, v2, l2, e2⟩ := tm_cases' (instE env (.mk b s l))
    have hthi := thin_inst hE (.mk b s l) (by omega)
    refine (Instance_spec env hE (.mk b s l) (by omega)).mono fun r o ⟨hr, ho⟩ => ⟨k2, s2, v2, encs l2, _, by rw [hr, e2]; rfl, ho, ?_⟩
    refine (RInstance_spec env hEl (.mk b s l) (by omega)).mono fun r hr => ⟨k2, s2, v2, encs l2, by rw [hr, e2]; rfl, ?_⟩
    rw [e2] at hthi
    refine (RSame_thin (.mk k2 s2 v2 l2) (.mk k2 s2 v2 l2) hthi).mono fun r ⟨c, hr, hc⟩ => ⟨c, hr, ?_⟩
    rw [hc.2 rfl, step1 (by omega)]
    exact ⟨⟨j + 1, by omega, rfl⟩, by simp only [Int.toNat_natCast]; omega⟩
  have fin : PCalls ax 23 [.sl 4 (encs xs)] fun r => ∃ l311 : List (List V), r = [.sl 4 l311] ∧ PCalls ax 31 [.sl 4 (encs xs)] fun r => ∃ l313 : List (List V), r = [.sl 4 l313] ∧ PCalls ax 22 [.sl 4 l311, .sl 4 l313] fun r => ∃ b : Bool, r = [.bool b] ∧ (fun r => r = [V.bool true]) [V.bool b] := by
    refine (Plain_spec xs (by omega)).mono fun r hr => ⟨_, hr, (RPlain_spec xs (by omega)).mono fun r hr => ⟨_, hr, ?_⟩⟩
    refine (SameTypes_spec (plainL [] xs).1 (plainL [] xs).1 ?_).mono fun r ⟨c, hr, hcc⟩ => ⟨c, hr, ?_⟩
    · rw [plain_num]
      have sz : ∀ (M : List Int) (ys : List Tm), sizes (numL M ys) = sizes ys := by
        intro M
        have one : ∀ t : Tm, size (numT M t) = size t := by
          refine Tm.ind fun k s v ys ih => ?_
          have : ∀ ys : List Tm, (∀ a ∈ ys, size (numT M a) = size a) → sizes (numL M ys) = sizes ys := by
            intro ys
            induction ys with
            | nil => intro _; rfl
            | cons a r ihr => intro h; simp only [numL, sizes]; rw [h a List.mem_cons_self, ihr fun b hb => h b (List.mem_cons_of_mem _ hb)]
          simp only [numT, size, this ys ih]
        intro ys
        induction ys with
        | nil => rfl
        | cons a r ihr => simp only [numL, sizes, one, ihr]
      rw [sz]; omega
    · rw [hcc.2 rfl]
  refine ⟨fun us => ∃ m : Nat, m ≤ xs.length ∧ us = [.int .i64 m], fun us => match us with | .int _ m :: _ => xs.length - m.toNat | _ => 0, ⟨0, Nat.zero_le _, rfl⟩, ?_⟩
  rintro n302 ⟨m, hm, e⟩
  cases e
  refine ifD (fun hlt => ?_) (fun hge => fin)
  obtain ⟨k, s, v, l, he⟩ := getEq (xs := xs) (i := m) (by omega)
  obtain ⟨k0, s0, v0, l0, he0⟩ := getEq (xs := xs) (i := 0) (by omega)
  have hmem := List.mem_of_getElem? he
  have hwm := wt_mem hmem
  refine ⟨by omega, hlt, k, s, v, encs l, lrow he, ifD (fun _ => fin) (fun _ => ?_)⟩
  refine (Text_spec (.mk k s v l) (by omega) (allVs_mem hv hmem)).mono fun r hr => ⟨_, hr, ?_⟩
  refine (RText_spec (.mk k s v l) (by omega) (allVs_mem hv hmem)).mono fun r hr => ⟨_, hr, ifN (fun h => by simp [strEq] at h) (fun _ => ?_)⟩
  refine ⟨by omega, by omega, k0, s0, v0, encs l0, row_encs he0, by omega, by omega, k0, s0, v0, encs l0, row_encs he0, ?_⟩
  refine (Same_spec (.mk k s v l) (.mk k0 s0 v0 l0) (hth _ hmem)).mono fun r ⟨c, hr, hc⟩ => ⟨c, hr, ?_⟩
  refine (RSame_thin (.mk k s v l) (.mk k0 s0 v0 l0) (hth _ hmem)).mono fun r ⟨c2, hr, hc2⟩ => ⟨c2, hr, ?_⟩
  have hcc : c = c2 := by
    rw [Bool.eq_iff_iff, hc, hc2]
  rw [hcc, step1 (by omega)]
  refine ifN (fun h => by simp at h) (fun _ => ?_)
  exact ⟨⟨m + 1, by omega, rfl⟩, by simp only [Int.toNat_natCast]; omega⟩
end Go.Proofs.YtdgekhanonfikaaDoor.Va
end

/- part U5T -/
section
namespace Go.Proofs.YtdgekhanonfikaaDoor.Va
open Go.Vx Go.Av Go.Uni Go.RowKit Go.ChangeShapes Go.WideShapes Go.ChangeAt

theorem own : ownKnob Tryd.prog.godebug = none := by kernel_rfl
theorem laidOut : laidOutB Tryd.prog = true := by kernel_rfl
theorem star : "*" ++ "errors.errorString" = "*errors.errorString" := by decide
theorem row124 (u : TypeId) (h : Tryd.prog.typeName? 3 u = some "*errors.errorString") : u = 124 :=
  typeName_ptr_named (nm := "errors.errorString") (by rw [star]; kernel_rfl) (by kernel_rfl) (by decide) u (by rw [star]; exact h)
theorem hi38 : ∃ ms, Tryd.prog.underlying 38 = some (.interface ms) := ⟨_, Tryd.underlying38⟩
theorem cmp124 : (Tryd.prog.info? 124).map (·.comparable) = some true := by kernel_rfl
theorem sz138 : (Tryd.prog.info? 138).map (fun j => decide (j.size ≠ 0)) = some true := by kernel_rfl
theorem st138 : ∃ f, Tryd.prog.underlying 138 = some (.struct #[f]) ∧ f.type = 9 ∧ f.offset = 0 := ⟨_, Tryd.underlying138, rfl, rfl⟩
theorem cells138 : Tryd.prog.cellsOf 138 = 1 := by kernel_rfl
theorem cells9 : Tryd.prog.cellsOf 9 = 1 := by kernel_rfl
theorem errTab : ∃ ms f i j, ErrTab ax.P "*errors.errorString" 38 124 138 9 ms f i j := by
  obtain ⟨ms, h1⟩ := hi38
  obtain ⟨i, h3, h4⟩ := Option.map_eq_some_iff.1 cmp124
  obtain ⟨j, h5, h6⟩ := Option.map_eq_some_iff.1 sz138
  obtain ⟨f, h7, h8, h9⟩ := st138
  exact ⟨ms, f, i, j, h1, row124, Tryd.underlying124, h7, h8, h9, Tryd.underlying9, cells138, cells9, h3, h4, h5, of_decide_eq_true h6⟩

theorem bulkL {H : Type} : ∀ l : List (DataW H), (l.map Rows.uptoBulk).sum = Rows.uptoBulkAll l
  | [] => rfl
  | d :: r => by simp only [List.map_cons, List.sum_cons, Rows.uptoBulkAll, bulkL r]
theorem bulkOk {H : Type} : Bulk (Rows.uptoBulk (H := H)) := by
  refine ⟨fun d => ?_, fun s => ?_, fun d => ?_, fun l r => ?_, fun l => ?_⟩
  · cases d with
    | lit l => cases l <;> simp [Rows.uptoBulk]
    | nil => simp [Rows.uptoBulk]
    | ptr d => simp [Rows.uptoBulk]
    | slice elems spare => simp [Rows.uptoBulk]
    | agg parts => simp [Rows.uptoBulk]
    | iface t d => simp [Rows.uptoBulk]
    | map entries => simp [Rows.uptoBulk]
    | held h => simp [Rows.uptoBulk]
  · simp [Rows.uptoBulk]
  · simp [Rows.uptoBulk]
  · simp only [Rows.uptoBulk, bulkL]; omega
  · simp only [Rows.uptoBulk, bulkL]; omega

abbrev Ds : List TypeId := [3, 9, 27, 32, 4, 54, 59]
theorem cells32 : Tryd.prog.cellsOf 32 = 4 := by kernel_rfl
theorem cells59 : Tryd.prog.cellsOf 59 = 3 := by kernel_rfl
set_option maxRecDepth 100000 in
theorem datOk : ∀ t ∈ Ds, Dat Tryd.prog Ds t := by
  intro t ht
  simp only [Ds, List.mem_cons, List.not_mem_nil, or_false] at ht
  unfold Dat
  rcases ht with rfl | rfl | rfl | rfl | rfl | rfl | rfl
  · rw [Tryd.underlying3]; trivial
  · rw [Tryd.underlying9]; trivial
  · rw [Tryd.underlying27]; exact ⟨by decide, by rw [cells32]; decide⟩
  · rw [Tryd.underlying32]; exact ⟨by decide, by kernel_rfl, by kernel_rfl, by kernel_rfl, by kernel_rfl, (show _ = _ by kernel_rfl)⟩
  · rw [Tryd.underlying4]; trivial
  · rw [Tryd.underlying54]; exact ⟨by decide, by rw [cells59]; decide⟩
  · rw [Tryd.underlying59]; exact ⟨by decide, by kernel_rfl, by kernel_rfl, by kernel_rfl, (show _ = _ by kernel_rfl)⟩

theorem ok_int {n : Nat} {t : TypeId} {us : List V} {s : Nat} {k : IntKind} (hu : Tryd.prog.underlying t = some (.int k)) (h : okV Tryd.prog n t us s) : ∃ i, us = [.int k i] ∧ (Lit.int k i).wf = true ∧ 1 ≤ s := by
  cases n with
  | zero => exact h.elim
  | succ n => unfold okV at h; rw [hu] at h; exact h
theorem ok_str {n : Nat} {t : TypeId} {us : List V} {s : Nat} (hu : Tryd.prog.underlying t = some .string) (h : okV Tryd.prog n t us s) : ∃ x : ByteArray, us = [.str x] ∧ x.size ≤ maxLen ∧ x.size + 1 ≤ s := by
  cases n with
  | zero => exact h.elim
  | succ n => unfold okV at h; rw [hu] at h; exact h
theorem list_pick {α β : Type} {p : Nat → α → β → Prop} : ∀ l : List α, (∀ (i : Nat) a, l[i]? = some a → ∃ b, p i a b) → ∃ r : List β, r.length = l.length ∧ ∀ (i : Nat) a b, l[i]? = some a → r[i]? = some b → p i a b
  | [], _ => ⟨[], rfl, fun i a b h => by simp at h⟩
  | a :: l, h => by
    obtain ⟨b, hb⟩ := h 0 a rfl
    obtain ⟨r, h1, h2⟩ := list_pick (p := fun i => p (i + 1)) l (fun i a ha => h (i + 1) a (by simpa using ha))
    refine ⟨b :: r, by simp [h1], fun i x y hx hy => ?_⟩
    cases i with
    | zero => simp at hx hy; subst hx; subst hy; exact hb
    | succ i => exact h2 i x y (by simpa using hx) (by simpa using hy)
theorem ok_bool {n : Nat} {t : TypeId} {us : List V} {s : Nat} (hu : Tryd.prog.underlying t = some .bool) (h : okV Tryd.prog n t us s) : ∃ x : Bool, us = [.bool x] ∧ 1 ≤ s := by
  cases n with
  | zero => exact h.elim
  | succ n => unfold okV at h; rw [hu] at h; exact h
theorem wf_i64 {n : Int} (h : (Lit.int .i64 n).wf = true) : rngV n := by
  simp only [Lit.wf, IntKind.min, IntKind.max, IntKind.signed, IntKind.bits] at h
  revert h
  simp
theorem sum_wts {xs : List Tm} {ss : List Nat} (hl : xs.length = ss.length) (h : ∀ (i : Nat) x m, xs[i]? = some x → ss[i]? = some m → wt x ≤ m) : wts xs ≤ ss.sum := by
  induction xs generalizing ss with
  | nil => simp [wts]
  | cons x r ih => cases ss with
    | nil => simp at hl
    | cons m ss =>
      have := h 0 x m rfl rfl
      have := ih (ss := ss) (by simpa using hl) (fun i x m hx hm => h (i + 1) x m hx hm)
      simp only [wts, List.sum_cons]; omega
theorem sum_sizeEs {xs : List Te} {ss : List Nat} (hl : xs.length = ss.length) (h : ∀ (i : Nat) x m, xs[i]? = some x → ss[i]? = some m → sizeE x ≤ m) : sizeEs xs ≤ ss.sum := by
  induction xs generalizing ss with
  | nil => simp [sizeEs]
  | cons x r ih => cases ss with
    | nil => simp at hl
    | cons m ss =>
      have := h 0 x m rfl rfl
      have := ih (ss := ss) (by simpa using hl) (fun i x m hx hm => h (i + 1) x m hx hm)
      simp only [sizeEs, List.sum_cons]; omega
theorem tms_of {l : List (List V)} {ss : List Nat} (hl2 : ss.length = l.length) (hr : ∀ (i : Nat) r m, l[i]? = some r → ss[i]? = some m → ∃ t : Tm, r = enc t ∧ wt t ≤ m ∧ allV rngV t) : ∃ xs : List Tm, l = encs xs ∧ wts xs ≤ ss.sum ∧ allVs rngV xs := by
  obtain ⟨xs, hx1, hx2⟩ := list_pick (p := fun i r (t : Tm) => ∀ m, ss[i]? = some m → r = enc t ∧ wt t ≤ m ∧ allV rngV t) l (fun i r hi => by
    have hlt : i < ss.length := by rw [hl2]; exact (List.getElem?_eq_some_iff.1 hi).1
    obtain ⟨t, ht⟩ := hr i r _ hi (List.getElem?_eq_getElem hlt)
    exact ⟨t, fun m hm => by rw [List.getElem?_eq_getElem hlt] at hm; cases hm; exact ht⟩)
  refine ⟨xs, ?_, ?_, ?_⟩
  · rw [encs_eq]
    refine List.ext_getElem? fun i => ?_
    rw [List.getElem?_map]
    rcases Nat.lt_or_ge i l.length with hi | hi
    · have hx := hx2 i l[i] xs[i] (List.getElem?_eq_getElem hi) (List.getElem?_eq_getElem (by omega)) ss[i] (List.getElem?_eq_getElem (by omega))
      rw [List.getElem?_eq_getElem hi, List.getElem?_eq_getElem (by omega), hx.1]; rfl
    · rw [List.getElem?_eq_none hi, List.getElem?_eq_none (by omega)]; rfl
  · refine sum_wts (by omega) fun i x m hx hm => ?_
    have hi : i < l.length := by rw [← hx1]; exact (List.getElem?_eq_some_iff.1 hx).1
    exact (hx2 i l[i] x (List.getElem?_eq_getElem hi) hx m hm).2.1
  · refine (allVs_iff xs).2 fun x hx => ?_
    obtain ⟨i, hi, rfl⟩ := List.getElem_of_mem hx
    exact (hx2 i l[i] xs[i] (List.getElem?_eq_getElem (by omega)) (List.getElem?_eq_getElem hi) ss[i] (List.getElem?_eq_getElem (by omega))).2.2
theorem tes_of {l : List (List V)} {ss : List Nat} (hl2 : ss.length = l.length) (hr : ∀ (i : Nat) r m, l[i]? = some r → ss[i]? = some m → ∃ t : Te, r = encE t ∧ sizeE t ≤ m) : ∃ xs : List Te, l = encEs xs ∧ sizeEs xs ≤ ss.sum := by
  obtain ⟨xs, hx1, hx2⟩ := list_pick (p := fun i r (t : Te) => ∀ m, ss[i]? = some m → r = encE t ∧ sizeE t ≤ m) l (fun i r hi => by
    have hlt : i < ss.length := by rw [hl2]; exact (List.getElem?_eq_some_iff.1 hi).1
    obtain ⟨t, ht⟩ := hr i r _ hi (List.getElem?_eq_getElem hlt)
    exact ⟨t, fun m hm => by rw [List.getElem?_eq_getElem hlt] at hm; cases hm; exact ht⟩)
  refine ⟨xs, ?_, ?_⟩
  · rw [encEs_eq]
    refine List.ext_getElem? fun i => ?_
    rw [List.getElem?_map]
    rcases Nat.lt_or_ge i l.length with hi | hi
    · have hx := hx2 i l[i] xs[i] (List.getElem?_eq_getElem hi) (List.getElem?_eq_getElem (by omega)) ss[i] (List.getElem?_eq_getElem (by omega))
      rw [List.getElem?_eq_getElem hi, List.getElem?_eq_getElem (by omega), hx.1]; rfl
    · rw [List.getElem?_eq_none hi, List.getElem?_eq_none (by omega)]; rfl
  · refine sum_sizeEs (by omega) fun i x m hx hm => ?_
    have hi : i < l.length := by rw [← hx1]; exact (List.getElem?_eq_some_iff.1 hx).1
    exact (hx2 i l[i] x (List.getElem?_eq_getElem hi) hx m hm).2
set_option maxRecDepth 100000 in
/-- a type that came in, as a tree -/
theorem ok_tm : ∀ (n : Nat) (us : List V) (s : Nat), okV Tryd.prog n 32 us s → ∃ t : Tm, us = enc t ∧ wt t ≤ s ∧ allV rngV t := by
  intro n
  induction n using Nat.strongRecOn with
  | _ n ih =>
  intro us s h
  cases n with
  | zero => exact h.elim
  | succ n =>
    unfold okV at h
    rw [Tryd.underlying32] at h
    obtain ⟨m, hf, hm⟩ := h
    obtain ⟨a0, b0, m0, k0, rfl, h0, hf, e0⟩ := hf
    obtain ⟨a1, b1, m1, k1, rfl, h1, hf, e1⟩ := hf
    obtain ⟨a2, b2, m2, k2, rfl, h2, hf, e2⟩ := hf
    obtain ⟨a3, b3, m3, k3, rfl, h3, hf, e3⟩ := hf
    obtain rfl : b3 = [] := hf
    obtain ⟨i0, rfl, _, _⟩ := ok_int Tryd.underlying3 h0
    obtain ⟨s1, rfl, _, hs1⟩ := ok_str Tryd.underlying9 h1
    obtain ⟨i2, rfl, hw2, _⟩ := ok_int Tryd.underlying3 h2
    cases n with
    | zero => exact h3.elim
    | succ n =>
      simp only at h3
      unfold okV at h3
      rw [Tryd.underlying27] at h3
      obtain ⟨l, ss, rfl, _, hl2, hss, hr⟩ := h3
      obtain ⟨xs, hx, hw, hv⟩ := tms_of hl2 fun i r m hi hm => ih n (by omega) r _ (hr i r _ hi hm)
      refine ⟨.mk i0 s1 i2 xs, ?_, ?_, fun _ => wf_i64 hw2, hv⟩
      · rw [hx, cells32]; rfl
      · simp only [wt]; omega
set_option maxRecDepth 100000 in
theorem ok_tms {n : Nat} {us : List V} {s : Nat} (h : okV Tryd.prog n 27 us s) : ∃ xs : List Tm, us = [.sl 4 (encs xs)] ∧ wts xs ≤ s ∧ allVs rngV xs := by
  cases n with
  | zero => exact h.elim
  | succ n =>
    unfold okV at h
    rw [Tryd.underlying27] at h
    obtain ⟨l, ss, rfl, _, hl2, hss, hr⟩ := h
    obtain ⟨xs, hx, hw, hv⟩ := tms_of hl2 fun i r m hi hm => ok_tm n r _ (hr i r _ hi hm)
    exact ⟨xs, by rw [hx, cells32], by omega, hv⟩
set_option maxRecDepth 100000 in
/-- an expression that came in, as a tree -/
theorem ok_te : ∀ (n : Nat) (us : List V) (s : Nat), okV Tryd.prog n 59 us s → ∃ t : Te, us = encE t ∧ sizeE t ≤ s := by
  intro n
  induction n using Nat.strongRecOn with
  | _ n ih =>
  intro us s h
  cases n with
  | zero => exact h.elim
  | succ n =>
    unfold okV at h
    rw [Tryd.underlying59] at h
    obtain ⟨m, hf, hm⟩ := h
    obtain ⟨a0, b0, m0, k0, rfl, h0, hf, e0⟩ := hf
    obtain ⟨a1, b1, m1, k1, rfl, h1, hf, e1⟩ := hf
    obtain ⟨a3, b3, m3, k3, rfl, h3, hf, e3⟩ := hf
    obtain rfl : b3 = [] := hf
    obtain ⟨i0, rfl, _⟩ := ok_bool Tryd.underlying4 h0
    obtain ⟨s1, rfl, _, _⟩ := ok_str Tryd.underlying9 h1
    cases n with
    | zero => exact h3.elim
    | succ n =>
      simp only at h3
      unfold okV at h3
      rw [Tryd.underlying54] at h3
      obtain ⟨l, ss, rfl, _, hl2, hss, hr⟩ := h3
      obtain ⟨xs, hx, hw⟩ := tes_of hl2 fun i r m hi hm => ih n (by omega) r _ (hr i r _ hi hm)
      refine ⟨.mk i0 s1 xs, ?_, ?_⟩
      · rw [hx, cells59]; rfl
      · simp only [sizeE]; omega
set_option maxRecDepth 100000 in
theorem ok_tes {n : Nat} {us : List V} {s : Nat} (h : okV Tryd.prog n 54 us s) : ∃ xs : List Te, us = [.sl 3 (encEs xs)] ∧ sizeEs xs ≤ s := by
  cases n with
  | zero => exact h.elim
  | succ n =>
    unfold okV at h
    rw [Tryd.underlying54] at h
    obtain ⟨l, ss, rfl, _, hl2, hss, hr⟩ := h
    obtain ⟨xs, hx, hw⟩ := tes_of hl2 fun i r m hi hm => ok_te n r _ (hr i r _ hi hm)
    exact ⟨xs, by rw [hx, cells59], by omega⟩

/-- the table of powers of ten, as the row lays it -/
theorem tab_eq : (Rows.laid_internal_strconv_uint64pow10 : DataW Unit) = Lib.tabData .u64 Lib.pow10Tab := by rfl
theorem tab_of {W : World} {r : List (String × DataW Unit)} (h : laidMet Tryd.prog (("internal/strconv.uint64pow10", Rows.laid_internal_strconv_uint64pow10) :: r) W) :
    ∀ p ∈ ax.tabs, p.1 = 16 ∧ p.1 < W.heap.size ∧ ∃ t q, W.heap[p.1]? = some (.cells p.2 t q) := by
  rw [tab_eq] at h
  have ht := Lib.tabIs_of_head (P := Tryd.prog) (g := 16) (t := 115) (e := 105) (n := 20) (by kernel_rfl) (by kernel_rfl) Tryd.underlying115 Tryd.underlying105 (by kernel_rfl) (by kernel_rfl) h
  intro p hp
  have hp' : p = (16, (Lib.pow10Tab.map fun z => Value.int .u64 z).toArray) := by simpa using hp
  subst hp'
  unfold Lib.TabIs World.var? at ht
  rw [show Tryd.prog.globalNamed "internal/strconv.uint64pow10" = some 16 by kernel_rfl] at ht
  simp only [Option.bind_some] at ht
  refine ⟨rfl, ?_⟩
  cases hh : W.heap[16]? with
  | none => rw [hh] at ht; cases ht
  | some o =>
    rw [hh] at ht
    refine ⟨(Array.getElem?_eq_some_iff.1 hh).1, ?_⟩
    cases o with
    | cells cs t q => simp only [Option.some.injEq] at ht; subst ht; exact ⟨t, q, rfl⟩
    | _ => cases ht

end Go.Proofs.YtdgekhanonfikaaDoor.Va
end
