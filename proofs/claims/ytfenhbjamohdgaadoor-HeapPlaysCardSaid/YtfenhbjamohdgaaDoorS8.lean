/- play's Same, and its int. -/
import Derived.Test.YtfenhbjamohdgaaDoorS7
import Derived.Test.YtfenhbjamohdgaaDoorS6
import Derived.Test.YtfenhbjamohdgaaDoorS1
import Derived.Test.YtfenhbjamohdgaaDoorS3
/- part H5A -/
section
namespace Go.Vx.Hp

/-- a value of the reference: an int (structure -1), or a structure's number -/
structure RV where
  st : Int
  n : Int
deriving DecidableEq
structure RS where
  ctor : Int
  args : List RV
  nodes : Int
  depth : Int
  gone : Bool
abbrev RA := List RS
def live (A : RA) (k : Nat) : Prop := ∃ s, A[k]? = some s ∧ s.gone = false
/-- a value of the program and one of the reference that say the same -/
def VR (φ : Nat → Nat) (A : RA) (a : Val) (b : RV) : Prop := (b.st = -1 ∧ a = ⟨false, b.n⟩) ∨ ∃ k : Nat, b = ⟨k, 0⟩ ∧ live A k ∧ a = ⟨true, (φ k : Nat)⟩
/-- rows of them -/
inductive VRs (φ : Nat → Nat) (A : RA) : List Val → List RV → Prop
  | nil : VRs φ A [] []
  | cons {a b xs ys} (h : VR φ A a b) (hs : VRs φ A xs ys) : VRs φ A (a :: xs) (b :: ys)
theorem VRs.len {φ : Nat → Nat} {A : RA} {V : List Val} {B : List RV} (h : VRs φ A V B) : V.length = B.length := by
  induction h with
  | nil => rfl
  | cons _ _ ih => simp [ih]
theorem VRs.get {φ : Nat → Nat} {A : RA} {V : List Val} {B : List RV} (h : VRs φ A V B) : ∀ {i : Nat} {a : Val} {b : RV}, V[i]? = some a → B[i]? = some b → VR φ A a b := by
  induction h with
  | nil => intro i a b h; simp at h
  | cons h _ ih =>
    intro i a b ha hb
    cases i with
    | zero => simp at ha hb; subst ha hb; exact h
    | succ i => exact ih (by simpa using ha) (by simpa using hb)
theorem VRs.of {φ : Nat → Nat} {A : RA} : ∀ {V : List Val} {B : List RV}, V.length = B.length → (∀ (i : Nat) a b, V[i]? = some a → B[i]? = some b → VR φ A a b) → VRs φ A V B
  | [], [], _, _ => .nil
  | [], _ :: _, h, _ => by simp at h
  | _ :: _, [], h, _ => by simp at h
  | a :: V, b :: B, h, k => .cons (k 0 a b rfl rfl) (VRs.of (by simpa using h) fun i a b ha hb => k (i + 1) a b (by simpa using ha) (by simpa using hb))
theorem VRs.mono {φ φ' : Nat → Nat} {A A' : RA} (hm : ∀ a b, VR φ A a b → VR φ' A' a b) {V : List Val} {B : List RV} (h : VRs φ A V B) : VRs φ' A' V B := by
  induction h with
  | nil => exact .nil
  | cons h _ ih => exact .cons (hm _ _ h) ih
theorem VRs.snoc {φ : Nat → Nat} {A : RA} {V : List Val} {B : List RV} (h : VRs φ A V B) {a : Val} {b : RV} (h' : VR φ A a b) : VRs φ A (V ++ [a]) (B ++ [b]) := by
  induction h with
  | nil => exact .cons h' .nil
  | cons h _ ih => exact .cons h ih
/-- nodes and depth by the reference -/
def rnodes (A : RA) (b : RV) : Int := if b.st < 0 then 1 else ((A[b.st.toNat]?).map RS.nodes).getD 0
def rdepth (A : RA) (b : RV) : Int := if b.st < 0 then 1 else ((A[b.st.toNat]?).map RS.depth).getD 0
def rsumN (A : RA) : List RV → Int
  | [] => 0
  | b :: r => rnodes A b + rsumN A r
def rmaxD (A : RA) : List RV → Int
  | [] => 1
  | b :: r => max (rdepth A b + 1) (rmaxD A r)
/-- cells of the structures that are told of -/
def sumR : RA → Nat → (Nat → Bool) → Nat
  | [], _, _ => 0
  | s :: r, i, P => (if P i then 1 + s.args.length else 0) + sumR r (i + 1) P
theorem sumR_congr : ∀ (A : RA) (i : Nat) (P Q : Nat → Bool), (∀ j, i ≤ j → j < i + A.length → P j = Q j) → sumR A i P = sumR A i Q
  | [], _, _, _, _ => rfl
  | s :: r, i, P, Q, h => by
    rw [sumR, sumR, h i (Nat.le_refl _) (by simp), sumR_congr r (i + 1) P Q fun j h1 h2 => h j (by omega) (by simp only [List.length_cons]; omega)]
theorem sumR_zero : ∀ (A : RA) (i : Nat) (P : Nat → Bool), (∀ j, i ≤ j → j < i + A.length → P j = false) → sumR A i P = 0
  | [], _, _, _ => rfl
  | s :: r, i, P, h => by
    rw [sumR, h i (Nat.le_refl _) (by simp), sumR_zero r (i + 1) P fun j h1 h2 => h j (by omega) (by simp only [List.length_cons]; omega)]; rfl
theorem sumR_take : ∀ (A : RA) (i : Nat) (P : Nat → Bool) (k : Nat) (s : RS), A[k]? = some s → P (i + k) = true → sumR A i P = 1 + s.args.length + sumR A i (fun j => P j && decide (j ≠ i + k))
  | [], _, _, _, _, h, _ => by simp at h
  | t :: r, i, P, 0, s, h, hp => by
    simp at h; subst h
    rw [sumR, sumR]
    simp only [Nat.add_zero] at hp ⊢
    rw [if_pos hp, if_neg (by simp)]
    rw [sumR_congr r (i + 1) P (fun j => P j && decide (j ≠ i)) fun j h1 _ => by simp; omega]
    omega
  | t :: r, i, P, k + 1, s, h, hp => by
    have ih := sumR_take r (i + 1) P k s (by simpa using h) (by rw [show i + 1 + k = i + (k + 1) by omega]; exact hp)
    rw [sumR, sumR, ih, show i + 1 + k = i + (k + 1) by omega]
    have e : (P i && decide (i ≠ i + (k + 1))) = P i := by simp
    rw [e]; omega
def usedR (A : RA) : Nat := sumR A 0 fun k => match A[k]? with | some s => !s.gone | none => false

structure Iso (φ : Nat → Nat) (S : List St) (A : RA) : Prop where
  inj : ∀ j k, live A j → live A k → φ j = φ k → j = k
  st : ∀ k s, A[k]? = some s → s.gone = false → ∃ t, find S (φ k) = some t ∧ t.ctor = s.ctor ∧ t.nodes = s.nodes ∧ t.depth = s.depth ∧ VRs φ A t.args s.args
  sur : ∀ p t, find S p = some t → ∃ k, live A k ∧ φ k = p
  old : ∀ k s b, A[k]? = some s → b ∈ s.args → b.st = -1 ∨ ∃ j : Nat, b = ⟨j, 0⟩ ∧ j < k
  dep : ∀ (k : Nat) (s : RS), A[k]? = some s → s.depth = rmaxD A s.args

section
variable {φ : Nat → Nat} {S : List St} {A : RA}
theorem Iso.nil : Iso φ [] [] := ⟨fun j k h => by obtain ⟨s, h, _⟩ := h; simp at h, fun k s h => by simp at h, fun p t h => by simp [find] at h, fun k s b h => by simp at h, fun k s h => by simp at h⟩
theorem Iso.good (h : Iso φ S A) {a : Val} {b : RV} (hv : VR φ A a b) : good S a = true := by
  rcases hv with ⟨_, rfl⟩ | ⟨k, rfl, ⟨s, h1, h2⟩, rfl⟩
  · rfl
  · obtain ⟨t, ht, _⟩ := h.st k s h1 h2
    simp [Hp.good, ht]
theorem Iso.goods (h : Iso φ S A) {V : List Val} {B : List RV} (hv : VRs φ A V B) : V.all (Hp.good S) = true := by
  induction hv with
  | nil => rfl
  | cons h' _ ih => simp only [List.all_cons, Bool.and_eq_true]; exact ⟨h.good h', ih⟩
theorem Iso.nodes (h : Iso φ S A) {a : Val} {b : RV} (hv : VR φ A a b) : nodesOf S a = rnodes A b ∧ depthOf S a = rdepth A b := by
  rcases hv with ⟨e, rfl⟩ | ⟨k, rfl, ⟨s, h1, h2⟩, rfl⟩
  · simp [nodesOf, depthOf, rnodes, rdepth, e]
  · obtain ⟨t, ht, _, hn, hd, _⟩ := h.st k s h1 h2
    simp only [nodesOf, depthOf, rnodes, rdepth, Int.toNat_natCast, ht, h1]
    simp [hn, hd]
    constructor <;> (intro h; omega)
theorem Iso.sums (h : Iso φ S A) {V : List Val} {B : List RV} (hv : VRs φ A V B) : sumN S V = rsumN A B ∧ maxD S V = rmaxD A B := by
  induction hv with
  | nil => exact ⟨rfl, rfl⟩
  | cons h' _ ih =>
    obtain ⟨h1, h2⟩ := h.nodes h'
    exact ⟨by rw [sumN, rsumN, h1, ih.1], by rw [maxD, rmaxD, h2, ih.2]⟩
end

theorem live_lt {A : RA} {k : Nat} (h : live A k) : k < A.length := by obtain ⟨s, h, _⟩ := h; exact (List.getElem?_eq_some_iff.1 h).1
theorem live_snoc {A : RA} {k : Nat} (t : RS) (h : live A k) : live (A ++ [t]) k := by
  obtain ⟨s, h1, h2⟩ := h
  exact ⟨s, by rw [List.getElem?_append_left (List.getElem?_eq_some_iff.1 h1).1]; exact h1, h2⟩
theorem live_snoc_inv {A : RA} {k : Nat} {t : RS} (h : live (A ++ [t]) k) : live A k ∨ k = A.length ∧ t.gone = false := by
  obtain ⟨s, h1, h2⟩ := h
  rcases Nat.lt_or_ge k A.length with hk | hk
  · rw [List.getElem?_append_left hk] at h1; exact .inl ⟨s, h1, h2⟩
  · rw [List.getElem?_append_right hk] at h1
    have : k - A.length = 0 := by
      rcases Nat.eq_zero_or_pos (k - A.length) with h | h
      · exact h
      · rw [List.getElem?_eq_none (by simp; omega)] at h1; cases h1
    rw [this] at h1
    simp at h1
    subst h1
    exact .inr ⟨by omega, h2⟩
theorem rdepth_snoc {A : RA} {t : RS} {b : RV} (h : b.st = -1 ∨ ∃ j : Nat, b = ⟨j, 0⟩ ∧ j < A.length) : rdepth (A ++ [t]) b = rdepth A b ∧ rnodes (A ++ [t]) b = rnodes A b := by
  rcases h with h | ⟨j, rfl, h⟩
  · simp [rdepth, rnodes, h]
  · simp only [rdepth, rnodes, Int.toNat_natCast, List.getElem?_append_left h]; exact ⟨trivial, trivial⟩
theorem rmaxD_snoc {A : RA} {t : RS} : ∀ {l : List RV}, (∀ b ∈ l, b.st = -1 ∨ ∃ j : Nat, b = ⟨j, 0⟩ ∧ j < A.length) → rmaxD (A ++ [t]) l = rmaxD A l
  | [], _ => rfl
  | b :: r, h => by rw [rmaxD, rmaxD, (rdepth_snoc (h b List.mem_cons_self)).1, rmaxD_snoc fun b hb => h b (List.mem_cons_of_mem _ hb)]
theorem find_used {S : List St} {p : Nat} {s : St} (h : find S p = some s) : p < used S := by
  have := find_lt h
  have := s.size_pos
  omega
theorem find_end (S : List St) (t : St) : find (S ++ [t]) (used S) = some t := by
  rw [find_append_right (Nat.le_refl _), Nat.sub_self]
  simp [find]
theorem VR.snoc {φ : Nat → Nat} {A : RA} {t : RS} {q : Nat} {a : Val} {b : RV} (h : VR φ A a b) : VR (fun k => if k = A.length then q else φ k) (A ++ [t]) a b := by
  rcases h with h | ⟨k, rfl, h2, rfl⟩
  · exact .inl h
  · refine .inr ⟨k, rfl, live_snoc t h2, ?_⟩
    have := live_lt h2
    simp only [show ¬ k = A.length by omega, if_false]
/-- one structure more, in both -/
theorem Iso.alloc {φ : Nat → Nat} {S : List St} {A : RA} (h : Iso φ S A) {V : List Val} {B : List RV} (hv : VRs φ A V B) {b : Nat} {n : Int} {x : Int} (hB : ∀ y ∈ B, y.st = -1 ∨ ∃ j : Nat, y = ⟨j, 0⟩ ∧ j < A.length) :
    Iso (fun k => if k = A.length then used S else φ k) (S ++ [⟨b, n, V, x, maxD S V⟩]) (A ++ [⟨n, B, x, rmaxD A B, false⟩]) ∧
    VR (fun k => if k = A.length then used S else φ k) (A ++ [⟨n, B, x, rmaxD A B, false⟩]) ⟨true, (used S : Nat)⟩ ⟨A.length, 0⟩ := by
  have hnew : live (A ++ [⟨n, B, x, rmaxD A B, false⟩]) A.length := ⟨⟨n, B, x, rmaxD A B, false⟩, by simp, rfl⟩
  have hlt : ∀ k, live A k → φ k < used S := fun k ⟨s, h1, h2⟩ => by
    obtain ⟨t, ht, _⟩ := h.st k s h1 h2
    exact find_used ht
  refine ⟨⟨fun j k hj hk e => ?_, fun k s hs hg => ?_, fun p t hp => ?_, fun k s b hs hb => ?_, fun k s hs => ?_⟩, .inr ⟨A.length, rfl, hnew, by simp⟩⟩
  · rcases live_snoc_inv hj with hj | ⟨rfl, _⟩ <;> rcases live_snoc_inv hk with hk | ⟨rfl, _⟩
    · have h1 := live_lt hj
      have h2 := live_lt hk
      simp only [show ¬ j = A.length by omega, show ¬ k = A.length by omega, if_false] at e
      exact h.inj j k hj hk e
    · have h1 := live_lt hj
      have h2 := hlt j hj
      simp only [show ¬ j = A.length by omega, if_false, if_true] at e
      omega
    · have h1 := live_lt hk
      have h2 := hlt k hk
      simp only [show ¬ k = A.length by omega, if_false, if_true] at e
      omega
    · rfl
  · rcases live_snoc_inv ⟨s, hs, hg⟩ with hk | ⟨rfl, _⟩
    · have h1 := live_lt hk
      rw [List.getElem?_append_left h1] at hs
      obtain ⟨t, t1, t2, t3, t4, t5⟩ := h.st k s hs hg
      refine ⟨t, ?_, t2, t3, t4, t5.mono fun a b => VR.snoc⟩
      simp only [show ¬ k = A.length by omega, if_false]
      rw [find_append_left (find_used t1)]; exact t1
    · simp at hs
      subst hs
      refine ⟨⟨b, n, V, x, maxD S V⟩, ?_, rfl, rfl, (h.sums hv).2, hv.mono fun a b => VR.snoc⟩
      simp only [if_true]
      exact find_end _ _
  · rcases Nat.lt_or_ge p (used S) with hlt' | hge
    · rw [find_append_left hlt'] at hp
      obtain ⟨k, hk, rfl⟩ := h.sur p t hp
      have := live_lt hk
      exact ⟨k, live_snoc _ hk, by simp only [show ¬ k = A.length by omega, if_false]⟩
    · rw [find_append_right hge] at hp
      have : p - used S = 0 := by
        simp only [find] at hp
        split at hp
        · assumption
        · split at hp <;> cases hp
      exact ⟨A.length, hnew, by simp only [if_true]; omega⟩
  · rcases Nat.lt_or_ge k A.length with hk | hk
    · rw [List.getElem?_append_left hk] at hs; exact h.old k s b hs hb
    · rw [List.getElem?_append_right hk] at hs
      have : k - A.length = 0 := by
        rcases Nat.eq_zero_or_pos (k - A.length) with h | h
        · exact h
        · rw [List.getElem?_eq_none (by simp; omega)] at hs; cases hs
      rw [this] at hs
      simp at hs
      subst hs
      rcases hB b hb with h | ⟨j, e, hj⟩
      · exact .inl h
      · exact .inr ⟨j, e, by omega⟩
  · rcases Nat.lt_or_ge k A.length with hk | hk
    · rw [List.getElem?_append_left hk] at hs
      rw [h.dep k s hs, rmaxD_snoc fun b hb => ?_]
      rcases h.old k s b hs hb with h | ⟨j, e, hj⟩
      · exact .inl h
      · exact .inr ⟨j, e, by omega⟩
    · rw [List.getElem?_append_right hk] at hs
      have : k - A.length = 0 := by
        rcases Nat.eq_zero_or_pos (k - A.length) with h | h
        · exact h
        · rw [List.getElem?_eq_none (by simp; omega)] at hs; cases hs
      rw [this] at hs
      simp at hs
      subst hs
      exact (rmaxD_snoc hB).symm

/-! ### reached -/
/-- what the reference reaches -/
inductive RR (A : RA) (L : List RV) : Nat → Prop
  | root (k : Nat) (h : (⟨k, 0⟩ : RV) ∈ L) : RR A L k
  | step (k : Nat) (s : RS) (j : Nat) (h : RR A L k) (hs : A[k]? = some s) (hj : (⟨j, 0⟩ : RV) ∈ s.args) : RR A L j
theorem VRs.mem_right {φ : Nat → Nat} {A : RA} {V : List Val} {B : List RV} (h : VRs φ A V B) {b : RV} (hb : b ∈ B) : ∃ a ∈ V, VR φ A a b := by
  induction h with
  | nil => cases hb
  | cons h' _ ih =>
    rcases List.mem_cons.1 hb with rfl | hb
    · exact ⟨_, List.mem_cons_self, h'⟩
    · obtain ⟨a, h1, h2⟩ := ih hb
      exact ⟨a, List.mem_cons_of_mem _ h1, h2⟩
theorem VRs.mem_left {φ : Nat → Nat} {A : RA} {V : List Val} {B : List RV} (h : VRs φ A V B) {a : Val} (ha : a ∈ V) : ∃ b ∈ B, VR φ A a b := by
  induction h with
  | nil => cases ha
  | cons h' _ ih =>
    rcases List.mem_cons.1 ha with rfl | ha
    · exact ⟨_, List.mem_cons_self, h'⟩
    · obtain ⟨b, h1, h2⟩ := ih ha
      exact ⟨b, List.mem_cons_of_mem _ h1, h2⟩
theorem VR.num {φ : Nat → Nat} {A : RA} {a : Val} {k : Nat} (h : VR φ A a ⟨k, 0⟩) : live A k ∧ a = ⟨true, (φ k : Nat)⟩ := by
  rcases h with ⟨e, _⟩ | ⟨j, e, h1, h2⟩
  · simp only at e; omega
  · simp only [RV.mk.injEq, and_true] at e
    have : k = j := by omega
    subst this; exact ⟨h1, h2⟩
theorem VR.ref {φ : Nat → Nat} {A : RA} {a : Val} {b : RV} (h : VR φ A a b) (hr : a.ref = true) : ∃ k : Nat, b = ⟨k, 0⟩ ∧ live A k ∧ a = ⟨true, (φ k : Nat)⟩ := by
  rcases h with ⟨_, rfl⟩ | h
  · cases hr
  · exact h
theorem Iso.rr_live {φ : Nat → Nat} {S : List St} {A : RA} (h : Iso φ S A) {V : List Val} {L : List RV} (hv : ∀ b ∈ L, ∃ a ∈ V, VR φ A a b) : ∀ k, RR A L k → live A k ∧ Rch S V (φ k) := by
  intro k hk
  induction hk with
  | root k hm =>
    obtain ⟨a, ha, hva⟩ := hv _ hm
    obtain ⟨h1, rfl⟩ := hva.num
    have := Rch.root (S := S) (rs := V) _ ha rfl
    simp only [Int.toNat_natCast] at this
    exact ⟨h1, this⟩
  | step k s j _ hs hj ih =>
    obtain ⟨⟨s', h1, h2⟩, hr⟩ := ih
    rw [hs] at h1; cases h1
    obtain ⟨t, t1, _, _, _, t5⟩ := h.st k s hs h2
    obtain ⟨a, ha, hva⟩ := t5.mem_right hj
    obtain ⟨g1, rfl⟩ := hva.num
    have := Rch.step (S := S) (rs := V) _ t _ hr t1 ha rfl
    simp only [Int.toNat_natCast] at this
    exact ⟨g1, this⟩
theorem Iso.rch_rr {φ : Nat → Nat} {S : List St} {A : RA} (h : Iso φ S A) {V : List Val} {L : List RV} (hv : ∀ a ∈ V, ∃ b ∈ L, VR φ A a b) : ∀ p, Rch S V p → ∃ k, φ k = p ∧ live A k ∧ RR A L k := by
  intro p hp
  induction hp with
  | root v hm hr =>
    obtain ⟨b, hb, hvb⟩ := hv v hm
    obtain ⟨k, rfl, h1, rfl⟩ := hvb.ref hr
    exact ⟨k, by simp, h1, .root k hb⟩
  | step p t a _ ht ha hr ih =>
    obtain ⟨k, rfl, ⟨s, h1, h2⟩, hrr⟩ := ih
    obtain ⟨t', t1, _, _, _, t5⟩ := h.st k s h1 h2
    rw [ht] at t1; cases t1
    obtain ⟨b, hb, hvb⟩ := t5.mem_left ha
    obtain ⟨j, rfl, g1, rfl⟩ := hvb.ref hr
    exact ⟨j, by simp, g1, .step k s j hrr h1 hb⟩
/-- the cells of what was reached, counted by both -/
theorem Iso.sum {φ : Nat → Nat} {S : List St} {A : RA} (h : Iso φ S A) : ∀ (Z : Mov) (P : Nat → Bool), Moves S Z → (∀ k, k < A.length → (P k = true ↔ live A k ∧ (pos Z (φ k)).isSome = true)) → sumR A 0 P = tot Z
  | [], P, _, hP => sumR_zero A 0 P fun j _ hj => by
    cases hp : P j with
    | false => rfl
    | true => have := ((hP j (by omega)).1 hp).2; simp [pos] at this
  | (p, t) :: Z, P, hm, hP => by
    obtain ⟨k, hk, rfl⟩ := h.sur p t (hm.of _ List.mem_cons_self)
    obtain ⟨s, h1, h2⟩ := hk
    have hlt := (List.getElem?_eq_some_iff.1 h1).1
    have hpk : P k = true := (hP k hlt).2 ⟨⟨s, h1, h2⟩, by simp [pos]⟩
    have hnd := hm.nd
    rw [List.map_cons, List.nodup_cons] at hnd
    have hZ : Moves S Z := ⟨fun x hx => hm.of x (List.mem_cons_of_mem _ hx), hnd.2⟩
    have hno : (pos Z (φ k)).isSome = false := by
      cases hq : (pos Z (φ k)).isSome with
      | false => rfl
      | true =>
        obtain ⟨t', ht'⟩ := pos_mem.1 hq
        exact absurd (List.mem_map.2 ⟨_, ht', rfl⟩) hnd.1
    have ih := Iso.sum h Z (fun j => P j && decide (j ≠ k)) hZ fun j hj => by
      simp only [Bool.and_eq_true, decide_eq_true_eq]
      constructor
      · rintro ⟨g1, g2⟩
        obtain ⟨g3, g4⟩ := (hP j hj).1 g1
        refine ⟨g3, ?_⟩
        simp only [pos] at g4
        split at g4
        · rename_i e
          exact absurd (h.inj k j ⟨s, h1, h2⟩ g3 e).symm g2
        · simpa using g4
      · rintro ⟨g1, g2⟩
        refine ⟨(hP j hj).2 ⟨g1, ?_⟩, fun e => ?_⟩
        · simp only [pos]
          split
          · rfl
          · simpa using g2
        · subst e; rw [hno] at g2; cases g2
    rw [sumR_take A 0 P k s h1 (by simpa using hpk), tot]
    obtain ⟨t', t1, _, _, _, t5⟩ := h.st k s h1 h2
    have := hm.of _ List.mem_cons_self
    rw [t1] at this; cases this
    simp only [Nat.zero_add, St.size, t5.len]
    rw [ih]
end Go.Vx.Hp
end

/- part H5B -/
section
namespace Go.Vx.Hp

def usedL : RA → Nat
  | [] => 0
  | s :: r => (if s.gone then 0 else 1 + s.args.length) + usedL r
theorem usedL_append (A B : RA) : usedL (A ++ B) = usedL A + usedL B := by
  induction A with
  | nil => simp [usedL]
  | cons s r ih => rw [List.cons_append, usedL, usedL, ih]; omega
theorem take_succ {α : Type} {A : List α} {i : Nat} {s : α} (h : A[i]? = some s) : A.take (i + 1) = A.take i ++ [s] := by
  rw [List.take_add_one, h]; rfl
theorem usedL_take {A : RA} {i : Nat} {s : RS} (h : A[i]? = some s) : usedL (A.take (i + 1)) = usedL (A.take i) + (if s.gone then 0 else 1 + s.args.length) := by
  rw [take_succ h, usedL_append, usedL, usedL]; omega
theorem usedL_take_le (A : RA) (i : Nat) : usedL (A.take i) ≤ usedL A := by
  have : usedL A = usedL (A.take i) + usedL (A.drop i) := by rw [← usedL_append, List.take_append_drop]
  omega
theorem usedL_sum : ∀ (A : RA) (i : Nat) (P : Nat → Bool), (∀ k s, A[k]? = some s → P (i + k) = !s.gone) → sumR A i P = usedL A
  | [], _, _, _ => rfl
  | s :: r, i, P, h => by
    rw [sumR, usedL, usedL_sum r (i + 1) P fun k t hk => by have := h (k + 1) t (by simpa using hk); rw [← this]; congr 1; omega]
    have := h 0 s rfl
    rw [Nat.add_zero] at this
    rw [this]
    cases s.gone <;> simp
theorem sumR_append : ∀ (A B : RA) (i : Nat) (P : Nat → Bool), sumR (A ++ B) i P = sumR A i P + sumR B (i + A.length) P
  | [], B, i, P => by simp [sumR]
  | s :: r, B, i, P => by rw [List.cons_append, sumR, sumR, sumR_append r B (i + 1) P, List.length_cons, show i + 1 + r.length = i + (r.length + 1) by omega]; omega
theorem sumR_take1 {A : RA} {i : Nat} {s : RS} {P : Nat → Bool} (h : A[i]? = some s) : sumR (A.take (i + 1)) 0 P = sumR (A.take i) 0 P + (if P i then 1 + s.args.length else 0) := by
  have hi := (List.getElem?_eq_some_iff.1 h).1
  rw [take_succ h, sumR_append, sumR, sumR, List.length_take, Nat.min_eq_left (by omega), Nat.zero_add]; omega
/-- all cells of all structures -/
def cellsR : RA → Nat
  | [] => 0
  | s :: r => 1 + s.args.length + cellsR r
theorem sumR_le : ∀ (A : RA) (i : Nat) (P : Nat → Bool), sumR A i P ≤ cellsR A
  | [], _, _ => Nat.le_refl _
  | s :: r, i, P => by
    have := sumR_le r (i + 1) P
    rw [sumR, cellsR]; split <;> omega
theorem usedL_le : ∀ A : RA, usedL A ≤ cellsR A
  | [] => Nat.le_refl _
  | s :: r => by have := usedL_le r; rw [usedL, cellsR]; split <;> omega
theorem cellsR_append (A B : RA) : cellsR (A ++ B) = cellsR A + cellsR B := by
  induction A with
  | nil => simp [cellsR]
  | cons s r ih => rw [List.cons_append, cellsR, cellsR, ih]; omega
theorem cellsR_take (A : RA) (i : Nat) : cellsR (A.take i) ≤ cellsR A := by
  have : cellsR A = cellsR (A.take i) + cellsR (A.drop i) := by rw [← cellsR_append, List.take_append_drop]
  omega
theorem len_cells : ∀ {A : RA} {s : RS}, s ∈ A → s.args.length ≤ cellsR A
  | t :: r, s, h => by
    rw [cellsR]
    rcases List.mem_cons.1 h with rfl | h
    · omega
    · have := len_cells h; omega

/-- nodes and depths within what 'Alloc' lets in -/
def RA.ok (A : RA) : Prop := ∀ s ∈ A, 1 ≤ s.nodes ∧ s.nodes ≤ 4096 ∧ 1 ≤ s.depth ∧ s.depth ≤ 200
/-- an int or a structure's number -/
def RV.ok (A : RA) (b : RV) : Prop := b.st = -1 ∨ ∃ j : Nat, b = ⟨j, 0⟩ ∧ j < A.length
theorem RA.ok.b {A : RA} (h : A.ok) {b : RV} (hb : b.ok A) : 1 ≤ rnodes A b ∧ rnodes A b ≤ 4096 ∧ 1 ≤ rdepth A b ∧ rdepth A b ≤ 200 := by
  rcases hb with hb | ⟨j, rfl, hj⟩
  · simp [rnodes, rdepth, hb]
  · have := h _ (List.getElem_mem hj)
    simp only [rnodes, rdepth, Int.toNat_natCast, List.getElem?_eq_getElem hj, Option.map_some, Option.getD_some]
    rw [if_neg (by omega), if_neg (by omega)]
    exact this
theorem rsumN_append (A : RA) (l m : List RV) : rsumN A (l ++ m) = rsumN A l + rsumN A m := by
  induction l with
  | nil => simp [rsumN]
  | cons b r ih => rw [List.cons_append, rsumN, rsumN, ih]; omega
theorem rmaxD_snoc1 (A : RA) (l : List RV) (b : RV) : rmaxD A (l ++ [b]) = max (rmaxD A l) (rdepth A b + 1) := by
  induction l with
  | nil => simp [rmaxD]; omega
  | cons c r ih => rw [List.cons_append, rmaxD, rmaxD, ih]; omega
theorem RA.ok.sum {A : RA} (h : A.ok) : ∀ {l : List RV}, (∀ b ∈ l, b.ok A) → 0 ≤ rsumN A l ∧ rsumN A l ≤ 4096 * l.length ∧ 1 ≤ rmaxD A l ∧ rmaxD A l ≤ 201
  | [], _ => by simp [rsumN, rmaxD]
  | b :: r, hl => by
    have h1 := h.b (hl b List.mem_cons_self)
    have h2 := h.sum fun b hb => hl b (List.mem_cons_of_mem _ hb)
    rw [rsumN, rmaxD, List.length_cons]; omega
end Go.Vx.Hp

namespace Go.Proofs.YtfenhbjamohdgaaDoor.Vr
open Go.Vx Go.Av Go.Vx.Hp

def rvr (b : RV) : List V := [.int .i64 b.st, .int .i64 b.n]
def rvrs (B : List RV) : List (List V) := B.map rvr
def rowR (s : RS) : List V := [.int .i64 s.ctor, .sl 2 (rvrs s.args), .int .i64 s.nodes, .int .i64 s.depth, .bool s.gone]
def tabR (A : RA) : List (List V) := A.map rowR
abbrev RO (m : Int) (A : RA) : List Ob := [.box [.int .i64 m, .own 1], .lst 103 5 false (tabR A)]
@[simp] theorem tabR_len (A : RA) : (tabR A).length = A.length := by simp [tabR]
@[simp] theorem rvrs_len (B : List RV) : (rvrs B).length = B.length := by simp [rvrs]
theorem rowT {A : RA} {i : Nat} {s : RS} (h : A[i]? = some s) : Av.rowAt (tabR A) i = rowR s := by
  rw [tabR, Av.rowAt, List.getD_eq_getElem?_getD, List.getElem?_map, h]; rfl
theorem rowB {B : List RV} {i : Nat} {b : RV} (h : B[i]? = some b) : List.take 2 (Av.rowAt (rvrs B) ((i : Int).toNat)) = [.int .i64 b.st, .int .i64 b.n] := by
  rw [Int.toNat_natCast, rvrs, Av.rowAt, List.getD_eq_getElem?_getD, List.getElem?_map, h]; rfl

theorem RUsed_spec (m : Int) (A : RA) (h : cellsR A ≤ 1000000) (hl : A.length ≤ 1000000) : SCalls ax 20 [.ptr 0 0] (RO m A) fun r o => r = [.int .i64 (usedL A : Nat)] ∧ o = RO m A := by
  refine RUsed.calls (K := fun r o => r = [.int .i64 (usedL A : Nat)] ∧ o = RO m A) ?_
  unfold RUsed.W
  refine ⟨fun vs => ∃ i : Nat, i ≤ A.length ∧ vs = [.int .i64 (usedL (A.take i) : Nat), .int .i64 i], fun vs => match vs with | [_, .int _ i] => A.length - i.toNat | _ => 0, ⟨0, Nat.zero_le _, by simp [usedL]⟩, ?_⟩
  rintro n k ⟨i, hi, e⟩
  cases e
  rw [tabR_len]
  refine ifD (fun hlt => ?_) (fun hge => ?_)
  · have hi' : i < A.length := by omega
    have hs := List.getElem?_eq_getElem hi'
    refine ⟨by omega, hlt, A[i].ctor, rvrs A[i].args, A[i].nodes, A[i].depth, A[i].gone, by rw [Int.toNat_natCast, rowT hs]; rfl, ?_⟩
    have ht := usedL_take hs
    have hle := usedL_take_le A i
    have hu := usedL_le A
    have hlen := len_cells (List.mem_of_getElem? hs)
    rw [w64 (x := (i : Int) + 1) (by omega) (by omega)]
    refine ifN (fun hg => ?_) (fun hg => ?_)
    · rw [hg] at ht
      simp only [Bool.false_eq_true, if_false] at ht
      rw [rvrs_len, w64 (x := 1 + _) (by omega) (by omega), w64 (by omega) (by omega)]
      exact ⟨⟨i + 1, hi', by rw [ht]; rfl⟩, by simp only; omega⟩
    · rw [hg] at ht
      simp only [if_true, Nat.add_zero] at ht
      exact ⟨⟨i + 1, hi', by rw [ht]; rfl⟩, by simp only; omega⟩
  · have : i = A.length := by omega
    subst this
    rw [List.take_length]
    exact ⟨rfl, rfl⟩

/-- what 'Alloc' says, and the structures then -/
def rAlloc (m : Int) (A : RA) (n : Int) (B : List RV) : Int × Int × RA :=
  if n < 0 ∨ (8 : Int) < B.length then (0, 16, A) else
  if 1 + rsumN A B > 4096 ∨ rmaxD A B > 200 then (0, 4, A) else
  if (usedL A : Nat) + 1 + (B.length : Int) > m then (0, 14, A) else
  (A.length, 0, A ++ [⟨n, B, 1 + rsumN A B, rmaxD A B, false⟩])
abbrev RN (m : Int) (A : RA) : List Ob := [.box [.int .i64 m, .own 2], .dead, .lst 103 5 false (tabR A)]
theorem RAlloc_spec (m : Int) (A : RA) (hA : A.ok) (h : cellsR A ≤ 1000000) (hl : A.length ≤ 1000000) (n : Int) (B : List RV) (hB : ∀ b ∈ B, b.ok A) (hBl : B.length ≤ 1000000) :
    SCalls ax 31 [.ptr 0 0, .int .i64 n, .sl 2 (rvrs B)] (RO m A) fun r o => r = [.int .i64 (rAlloc m A n B).1, .int .i64 (rAlloc m A n B).2.1] ∧ o = RN m (rAlloc m A n B).2.2 := by
  refine RAlloc.calls (K := fun r o => r = [.int .i64 (rAlloc m A n B).1, .int .i64 (rAlloc m A n B).2.1] ∧ o = RN m (rAlloc m A n B).2.2) ?_
  unfold RAlloc.W
  rw [rvrs_len]
  refine ifD (fun h1 => ?_) (fun h1 => ifD (fun h2 => ?_) (fun h2 => ?_))
  · rw [rAlloc, if_pos (.inl h1)]; exact ⟨rfl, rfl⟩
  · rw [rAlloc, if_pos (.inr h2)]; exact ⟨rfl, rfl⟩
  have e1 : ¬ (n < 0 ∨ (8 : Int) < B.length) := by omega
  refine ⟨by omega, by omega, fun vs => ∃ i : Nat, i ≤ B.length ∧ vs = [.int .i64 i, .int .i64 n, .int .i64 (1 + rsumN A (B.take i)), .int .i64 (rmaxD A (B.take i)), .bool false], fun vs => match vs with | .int _ i :: _ => B.length - i.toNat | _ => 0, ⟨0, Nat.zero_le _, by simp [rsumN, rmaxD]⟩, ?_⟩
  rintro n79 n80 n81 n82 b83 ⟨i, hi, e⟩
  cases e
  have hsub := hA.sum fun b hb => hB b (List.mem_of_mem_take (i := i) hb)
  rw [List.length_take, Nat.min_eq_left hi] at hsub
  refine ifD (fun hlt => ?_) (fun hge => ?_)
  · have hi' : i < B.length := by omega
    have hb := List.getElem?_eq_getElem hi'
    have hbo := hB _ (List.getElem_mem hi')
    have hbb := hA.b hbo
    refine ⟨by omega, hlt, B[i].st, B[i].n, rowB hb, fun vs => vs = [.int .i64 (rnodes A B[i]), .int .i64 (rdepth A B[i])], ?_, ?_⟩
    · refine ifD (fun hp => ?_) (fun hp => ?_)
      · rcases hbo with hbo | ⟨j, hj, hjl⟩
        · omega
        · rw [hj]
          have hs := List.getElem?_eq_getElem hjl
          refine ⟨by simp only; omega, by simp only [tabR_len]; omega, A[j].nodes, by rw [Int.toNat_natCast, rowT hs]; rfl, by simp only; omega, by simp only [tabR_len]; omega, A[j].depth, by rw [Int.toNat_natCast, rowT hs]; rfl, ?_⟩
          simp only [rnodes, rdepth, Int.toNat_natCast, hs, Option.map_some, Option.getD_some]
          rw [if_neg (by omega), if_neg (by omega)]
      · simp only [rnodes, rdepth]
        rw [if_pos (by omega), if_pos (by omega)]
    · rintro n93 n94 e
      cases e
      have hN : rsumN A (B.take (i + 1)) = rsumN A (B.take i) + rnodes A B[i] := by rw [take_succ hb, rsumN_append]; simp [rsumN]
      have hD : rmaxD A (B.take (i + 1)) = max (rmaxD A (B.take i)) (rdepth A B[i] + 1) := by rw [take_succ hb, rmaxD_snoc1]
      have hfin := (hA.sum (l := B.take (i + 1)) fun b hb => hB b (List.mem_of_mem_take hb)).2.1
      rw [List.length_take] at hfin
      rw [w64 (x := (i : Int) + 1) (by omega) (by omega), w64 (x := rdepth A B[i] + 1) (by omega) (by omega), w64 (x := 1 + rsumN A (B.take i) + _) (by omega) (by omega)]
      refine ifD (fun hg => ?_) (fun hg => ?_)
      · exact ⟨⟨i + 1, hi', by rw [hN, hD, show max (rmaxD A (B.take i)) (rdepth A B[i] + 1) = rdepth A B[i] + 1 by omega, Int.add_assoc]; rfl⟩, by simp only; omega⟩
      · exact ⟨⟨i + 1, hi', by rw [hN, hD, show max (rmaxD A (B.take i)) (rdepth A B[i] + 1) = rmaxD A (B.take i) by omega, Int.add_assoc]; rfl⟩, by simp only; omega⟩
  · have : i = B.length := by omega
    subst this
    rw [List.take_length] at hsub ⊢
    refine ifD (fun h3 => ?_) (fun h3 => ifD (fun h4 => ?_) (fun h4 => ?_))
    · rw [rAlloc, if_neg e1, if_pos (.inl h3)]; exact ⟨rfl, rfl⟩
    · rw [rAlloc, if_neg e1, if_pos (.inr h4)]; exact ⟨rfl, rfl⟩
    have e2 : ¬ (1 + rsumN A B > 4096 ∨ rmaxD A B > 200) := by omega
    have hu := usedL_le A
    refine (RUsed_spec m A h hl).mono ?_
    rintro r o ⟨rfl, rfl⟩
    refine ⟨_, _, _, rfl, rfl, rfl, ?_⟩
    rw [w64 (x := ((usedL A : Nat) : Int) + 1) (by omega) (by omega), w64 (x := ((usedL A : Nat) : Int) + 1 + _) (by omega) (by omega)]
    refine ifD (fun h5 => ?_) (fun h5 => ?_)
    · rw [rAlloc, if_neg e1, if_neg e2, if_pos h5]; exact ⟨rfl, rfl⟩
    · rw [rAlloc, if_neg e1, if_neg e2, if_neg h5]
      simp only [tabR_len, List.length_cons, List.length_nil, List.length_append]
      refine ⟨by omega, by omega, ?_, ?_⟩
      · rw [w64 (by omega) (by omega)]
        congr 2
        push_cast; omega
      · simp [RN, tabR, rowR]
end Go.Proofs.YtfenhbjamohdgaaDoor.Vr
end

/- part H5C -/
section
namespace Go.Vx.Hp
/-- structures lean on older ones -/
def RA.old (A : RA) : Prop := ∀ (k : Nat) (s : RS) (b : RV), A[k]? = some s → b ∈ s.args → b.st = -1 ∨ ∃ j : Nat, b = ⟨j, 0⟩ ∧ j < k
def allS (g : RV → RV → Bool) : List RV → List RV → Bool
  | a :: l, b :: m => g a b && allS g l m
  | _, _ => true
def rsameF (A : RA) : Nat → RV → RV → Bool
  | 0, _, _ => false
  | f + 1, a, b => decide (a = b) || (!decide (a.st < 0) && !decide (b.st < 0) && match A[a.st.toNat]?, A[b.st.toNat]? with
    | some s, some t => decide (s.ctor = t.ctor) && decide (s.args.length = t.args.length) && decide (s.nodes = t.nodes) && allS (rsameF A f) s.args t.args
    | _, _ => false)
theorem RA.old.ok {A : RA} (h : A.old) {k : Nat} {s : RS} (hk : A[k]? = some s) {b : RV} (hb : b ∈ s.args) : b.ok A ∧ b.st < k := by
  have hlt := (List.getElem?_eq_some_iff.1 hk).1
  rcases h k s b hk hb with h | ⟨j, rfl, h⟩
  · exact ⟨.inl h, by omega⟩
  · exact ⟨.inr ⟨j, rfl, by omega⟩, by simp only; omega⟩
theorem allS_drop {g : RV → RV → Bool} : ∀ {l m : List RV} {i : Nat} {a b : RV}, l[i]? = some a → m[i]? = some b → allS g (l.drop i) (m.drop i) = (g a b && allS g (l.drop (i + 1)) (m.drop (i + 1)))
  | [], _, _, _, _, h, _ => by simp at h
  | _ :: _, [], _, _, _, _, h => by simp at h
  | x :: l, y :: m, 0, a, b, h, h' => by simp at h h'; subst h h'; rfl
  | x :: l, y :: m, i + 1, a, b, h, h' => by
    have := allS_drop (g := g) (l := l) (m := m) (i := i) (by simpa using h) (by simpa using h')
    simpa using this
end Go.Vx.Hp

namespace Go.Proofs.YtfenhbjamohdgaaDoor.Vr
open Go.Vx Go.Av Go.Vx.Hp

theorem eqL_rv (a b : RV) : eqL [.int .i64 a.st, .int .i64 a.n] [.int .i64 b.st, .int .i64 b.n] = decide (a = b) := by
  obtain ⟨x, y⟩ := a
  obtain ⟨z, u⟩ := b
  simp only [eqL, eqC, RV.mk.injEq]
  by_cases h1 : x = z <;> by_cases h2 : y = u <;> simp [h1, h2]

theorem RSame_spec (m : Int) (A : RA) (ho : A.old) (_hl : A.length ≤ 1000000) (hc : cellsR A ≤ 1000000) : ∀ (f : Nat) (a b : RV), a.st + 1 < f → a.ok A → b.ok A →
    SCalls ax 34 [.ptr 0 0, .agg [.int .i64 a.st, .int .i64 a.n], .agg [.int .i64 b.st, .int .i64 b.n]] (RO m A) fun r o => r = [.bool (rsameF A f a b)] ∧ o = RO m A := by
  intro f
  induction f with
  | zero =>
    intro a b hf ha _
    rcases ha with h | ⟨j, rfl, _⟩
    · omega
    · simp only at hf; omega
  | succ f ih =>
    intro a b hf ha hb
    refine RSame.calls (K := fun r o => r = [.bool (rsameF A (f + 1) a b)] ∧ o = RO m A) ?_
    unfold RSame.W
    rw [eqL_rv]
    refine ifD (fun he => ?_) (fun he => ifD (fun h1 => ?_) (fun h1 => ifD (fun h2 => ?_) (fun h2 => ?_)))
    · simp [rsameF, he]
    · simp [rsameF, he, h1]
    · simp [rsameF, he, h2]
    rcases ha with ha | ⟨i, rfl, hi⟩
    · omega
    rcases hb with hb | ⟨j, rfl, hj⟩
    · omega
    have hs := List.getElem?_eq_getElem hi
    have ht := List.getElem?_eq_getElem hj
    generalize A[i] = s at hs
    generalize A[j] = t at ht
    have hls := len_cells (List.mem_of_getElem? hs)
    have hlt := len_cells (List.mem_of_getElem? ht)
    have hR : rsameF A (f + 1) ⟨i, 0⟩ ⟨j, 0⟩ = (decide (s.ctor = t.ctor) && decide (s.args.length = t.args.length) && decide (s.nodes = t.nodes) && allS (rsameF A f) s.args t.args) := by
      rw [rsameF, decide_eq_false he]
      simp [hs, ht, h1, h2]
    rw [hR]
    have key : ∀ K' : List V → List Ob → Prop, (K' = fun r o => r = [.bool (decide (s.ctor = t.ctor) && decide (s.args.length = t.args.length) && decide (s.nodes = t.nodes) && allS (rsameF A f) s.args t.args)] ∧ o = RO m A) →
      (bif (s.ctor != t.ctor) then (K' [(.bool false)] (RO m A)) else (bif (((rvrs s.args).length : Int) != ((rvrs t.args).length : Int)) then (K' [(.bool false)] (RO m A)) else (bif (s.nodes != t.nodes) then
        (K' [(.bool false)] (RO m A))
        else
        (∃ (I47 : List V → Prop) (μ48 : List V → Nat), I47 [(.int .i64 0), (.int .i64 m), (.sl 5 (tabR A))] ∧ (∀ (n49 : Int) (n50 : Int) (l51 : List (List V)), I47 [(.int .i64 n49), (.int .i64 n50), (.sl 5 l51)] →
        (bif (decide (n49 < ((rvrs s.args).length : Int))) then
        (0 ≤ n49 ∧ n49 < ((rvrs s.args).length : Int) ∧ (∃ (n52 : Int) (n53 : Int), List.take 2 (Av.rowAt (rvrs s.args) (n49 : Int).toNat) = [(.int .i64 n52), (.int .i64 n53)] ∧ (0 ≤ n49 ∧ n49 < ((rvrs t.args).length : Int) ∧ (∃ (n54 : Int) (n55 : Int), List.take 2 (Av.rowAt (rvrs t.args) (n49 : Int).toNat) = [(.int .i64 n54), (.int .i64 n55)] ∧ (SCalls ax 34 [(.ptr 0 0), (.agg [(.int .i64 n52), (.int .i64 n53)]), (.agg [(.int .i64 n54), (.int .i64 n55)])] [(.box [(.int .i64 n50), (.own 1)]), (.lst 103 5 false l51)] fun r57 o60 => ∃ (b56 : Bool) (n58 : Int) (l59 : List (List V)), r57 = [(.bool b56)] ∧ o60 = [(.box [(.int .i64 n58), (.own 1)]), (.lst 103 5 false l59)] ∧ (bif (!b56) then
        (K' [(.bool false)] [(.box [(.int .i64 n58), (.own 1)]), (.lst 103 5 false l59)])
        else
        (I47 [(.int .i64 (IntKind.i64.wrap (n49 + 1))), (.int .i64 n58), (.sl 5 l59)] ∧ μ48 [(.int .i64 (IntKind.i64.wrap (n49 + 1))), (.int .i64 n58), (.sl 5 l59)] < μ48 [(.int .i64 n49), (.int .i64 n50), (.sl 5 l51)])))))))
        else
        (K' [(.bool true)] [(.box [(.int .i64 n50), (.own 1)]), (.lst 103 5 false l51)]))))))) := by
      rintro _ rfl
      refine ifNE (fun h => ?_) (fun h3 => ifNE (fun h => ?_) (fun h4 => ifNE (fun h => ?_) (fun h5 => ?_)))
      · simp [h]
      · rw [rvrs_len, rvrs_len] at h
        have : ¬ s.args.length = t.args.length := by omega
        simp [this]
      · simp [h]
      rw [rvrs_len, rvrs_len] at h4
      have h4' : s.args.length = t.args.length := by omega
      simp only [h3, h4', h5, decide_true, Bool.true_and]
      refine ⟨fun vs => ∃ q : Nat, q ≤ s.args.length ∧ vs = [.int .i64 q, .int .i64 m, .sl 5 (tabR A)] ∧ allS (rsameF A f) s.args t.args = allS (rsameF A f) (s.args.drop q) (t.args.drop q), fun vs => match vs with | .int _ i :: _ => s.args.length - i.toNat | _ => 0, ⟨0, Nat.zero_le _, rfl, rfl⟩, ?_⟩
      rintro n49 n50 l51 ⟨q, hq, e, hq2⟩
      cases e
      rw [rvrs_len, rvrs_len]
      refine ifD (fun hlt => ?_) (fun hge => ?_)
      · have hq' : q < s.args.length := by omega
        have hqt : q < t.args.length := by omega
        have hx := List.getElem?_eq_getElem hq'
        have hy := List.getElem?_eq_getElem hqt
        obtain ⟨ox, ltx⟩ := ho.ok hs (List.getElem_mem hq')
        obtain ⟨oy, _⟩ := ho.ok ht (List.getElem_mem hqt)
        refine ⟨by omega, hlt, _, _, rowB hx, by omega, by omega, _, _, rowB hy, ?_⟩
        refine (ih _ _ (by simp only at hf; omega) ox oy).mono ?_
        rintro r o ⟨rfl, rfl⟩
        refine ⟨_, _, _, rfl, rfl, ifN (fun hb => ?_) (fun hb => ?_)⟩
        · rw [hq2, allS_drop hx hy, hb]; exact ⟨rfl, rfl⟩
        · rw [w64 (by omega) (by omega)]
          exact ⟨⟨q + 1, hq', rfl, by rw [hq2, allS_drop hx hy, hb, Bool.true_and]⟩, by simp only; omega⟩
      · have : q = s.args.length := by omega
        subst this
        rw [hq2, List.drop_length]
        exact ⟨rfl, rfl⟩
    refine ⟨by simp only; omega, by simp only [tabR_len]; omega, _, _, _, _, _, by rw [Int.toNat_natCast, rowT hs]; rfl, by simp only; omega, by simp only [tabR_len]; omega, _, _, _, _, _, by rw [Int.toNat_natCast, rowT ht]; rfl, key _ rfl, key _ rfl⟩

/-! ### reached -/
def encM (bs : List Bool) : List (List V) := bs.map fun b => [.bool b]
@[simp] theorem encM_len (bs : List Bool) : (encM bs).length = bs.length := by simp [encM]
theorem encM_row {bs : List Bool} {i : Nat} {b : Bool} (h : bs[i]? = some b) : List.take 1 (Av.rowAt (encM bs) i) = [.bool b] := by
  rw [encM, Av.rowAt, List.getD_eq_getElem?_getD, List.getElem?_map, h]; rfl
theorem encM_set (bs : List Bool) (j : Nat) : List.set (encM bs) j [.bool true] = encM (bs.set j true) := by simp [encM, List.map_set]
abbrev Mk (bs : List Bool) (k : Nat) : Prop := bs[k]? = some true
theorem Mk_set {bs : List Bool} {j k : Nat} (hj : j < bs.length) : Mk (bs.set j true) k ↔ k = j ∨ Mk bs k := by
  unfold Mk
  rw [List.getElem?_set]
  by_cases h : j = k
  · subst h; simp [hj]
  · simp [h, Ne.symm h]

theorem RReached_spec (m : Int) (A : RA) (ho : A.old) (hl : A.length ≤ 1000000) (hc : cellsR A ≤ 1000000) (B : List RV) (hB : ∀ b ∈ B, b.ok A) (hBl : B.length ≤ 1000000) :
    SCalls ax 36 [.ptr 0 0, .sl 2 (rvrs B)] (RO m A) fun r o => ∃ bs : List Bool, r = [.sl 1 (encM bs)] ∧ o = RO m A ∧ bs.length = A.length ∧ ∀ k, Mk bs k ↔ RR A B k := by
  refine RReached.calls (K := fun r o => ∃ bs : List Bool, r = [.sl 1 (encM bs)] ∧ o = RO m A ∧ bs.length = A.length ∧ ∀ k, Mk bs k ↔ RR A B k) ?_
  unfold RReached.W
  simp only [tabR_len]
  refine ⟨by omega, by omega, by omega, by omega, fun vs => ∃ (i : Nat) (bs : List Bool), i ≤ B.length ∧ vs = [.int .i64 i, .sl 1 (encM bs)] ∧ bs.length = A.length ∧ ∀ k : Nat, Mk bs k ↔ (⟨k, 0⟩ : RV) ∈ B.take i, fun vs => match vs with | .int _ i :: _ => B.length - i.toNat | _ => 0,
    ⟨0, List.replicate A.length false, Nat.zero_le _, by simp [encM], by simp, fun k => by simp [Mk, List.getElem?_replicate]⟩, ?_⟩
  rintro n24 l25 ⟨i, bs, hi, e, hbl, hm⟩
  cases e
  rw [rvrs_len]
  refine ifD (fun hlt => ?_) (fun hge => ?_)
  · have hi' : i < B.length := by omega
    have hb := List.getElem?_eq_getElem hi'
    have hbo := hB _ (List.getElem_mem hi')
    refine ⟨by omega, hlt, _, _, rowB hb, ?_⟩
    rw [w64 (by omega) (by omega), encM_len]
    refine ifD (fun hp => ?_) (fun hp => ?_)
    · rcases hbo with hbo | ⟨j, hj, hjl⟩
      · omega
      · rw [hj]
        refine ⟨by simp only; omega, by simp only; omega, by rw [Int.toNat_natCast]; omega, ⟨i + 1, bs.set j true, hi', by rw [Int.toNat_natCast, encM_set]; rfl, by simpa using hbl, fun k => ?_⟩, by simp only; omega⟩
        rw [Mk_set (by omega), hm k, take_succ hb, List.mem_append, List.mem_singleton, hj]
        simp only [RV.mk.injEq, and_true]
        constructor
        · rintro (h | h)
          · exact .inr (by rw [h])
          · exact .inl h
        · rintro (h | h)
          · exact .inr h
          · exact .inl (by omega)
    · refine ⟨⟨i + 1, bs, hi', rfl, hbl, fun k => ?_⟩, by simp only; omega⟩
      rw [hm k, take_succ hb, List.mem_append, List.mem_singleton]
      constructor
      · exact .inl
      · rintro (h | h)
        · exact h
        · rw [← h] at hp; simp only at hp; omega
  · have : i = B.length := by omega
    subst this
    rw [List.take_length] at hm
    rw [encM_len, w64 (by omega) (by omega)]
    refine ⟨fun vs => ∃ (n : Int) (bs : List Bool), -1 ≤ n ∧ n < A.length ∧ vs = [.int .i64 n, .sl 1 (encM bs)] ∧ bs.length = A.length ∧ (∀ k, Mk bs k → RR A B k) ∧ (∀ k : Nat, (⟨k, 0⟩ : RV) ∈ B → Mk bs k) ∧ ∀ (k : Nat) (s : RS), n < k → Mk bs k → A[k]? = some s → ∀ j : Nat, (⟨j, 0⟩ : RV) ∈ s.args → Mk bs j,
      fun vs => match vs with | .int _ i :: _ => (i + 1).toNat | _ => 0, ⟨_, bs, by omega, by omega, rfl, hbl, fun k hk => .root k ((hm k).1 hk), fun k hk => (hm k).2 hk, fun k s hk _ hs => ?_⟩, ?_⟩
    · have := (List.getElem?_eq_some_iff.1 hs).1; omega
    clear hm hbl
    rintro n67 l68 ⟨n, bs, hn1, hn2, e, hbl, m1, m2, m3⟩
    cases e
    refine ifD (fun hge => ?_) (fun hlt => ?_)
    · obtain ⟨i, rfl⟩ : ∃ i : Nat, n67 = i := ⟨n67.toNat, by omega⟩
      have hi : i < A.length := by omega
      rw [encM_len, Int.toNat_natCast]
      have hs := List.getElem?_eq_getElem hi
      generalize A[i] = s at hs
      have hb := List.getElem?_eq_getElem (l := bs) (i := i) (by omega)
      refine ⟨by omega, by omega, _, encM_row hb, ?_⟩
      rw [w64 (by omega) (by omega)]
      refine ifN (fun hf => ?_) (fun ht => ?_)
      · refine ⟨⟨_, bs, by omega, by omega, rfl, hbl, m1, m2, fun k s' hk hmk hs' => ?_⟩, by simp only; omega⟩
        rcases Int.lt_or_le i k with h | h
        · exact m3 k s' h hmk hs'
        · have : k = i := by omega
          subst this
          rw [Mk, hb, hf] at hmk; cases hmk
      · rw [ht] at hb
        have hls := len_cells (List.mem_of_getElem? hs)
        have hrr : RR A B i := m1 i hb
        refine ⟨by omega, by omega, rvrs s.args, by rw [rowT hs]; rfl, fun vs => ∃ (q : Nat) (cs : List Bool), q ≤ s.args.length ∧ vs = [.int .i64 q, .sl 1 (encM cs)] ∧ cs.length = A.length ∧ (∀ k, Mk cs k → RR A B k) ∧ (∀ k, Mk bs k → Mk cs k) ∧ (∀ k, i < k → Mk cs k → Mk bs k) ∧ ∀ j : Nat, (⟨j, 0⟩ : RV) ∈ s.args.take q → Mk cs j,
          fun vs => match vs with | .int _ i :: _ => s.args.length - i.toNat | _ => 0, ⟨0, bs, Nat.zero_le _, rfl, hbl, m1, fun _ h => h, fun _ _ h => h, fun j h => by simp at h⟩, ?_⟩
        rintro n82 l83 ⟨q, cs, hq, e, hcl, c1, c2, c3, c4⟩
        cases e
        rw [rvrs_len]
        refine ifD (fun hlt => ?_) (fun hge' => ?_)
        · have hq' : q < s.args.length := by omega
          have hx := List.getElem?_eq_getElem hq'
          obtain ⟨ox, ltx⟩ := ho.ok hs (List.getElem_mem hq')
          refine ⟨by omega, hlt, _, _, rowB hx, ?_⟩
          rw [w64 (by omega) (by omega), encM_len]
          refine ifD (fun hp => ?_) (fun hp => ?_)
          · rcases ox with hbo | ⟨j, hj, hjl⟩
            · omega
            · have hmem : (⟨j, 0⟩ : RV) ∈ s.args := hj ▸ List.getElem_mem hq'
              rw [hj] at ltx ⊢
              simp only at ltx
              refine ⟨by simp only; omega, by simp only; omega, by rw [Int.toNat_natCast]; omega, ⟨q + 1, cs.set j true, hq', by rw [Int.toNat_natCast, encM_set]; rfl, by simpa using hcl, fun k => ?_, fun k hk => ?_, fun k hk => ?_, fun k hk => ?_⟩, by simp only; omega⟩
              · rw [Mk_set (by omega)]
                rintro (rfl | h)
                · exact .step i s _ hrr hs hmem
                · exact c1 k h
              · rw [Mk_set (by omega)]; exact .inr (c2 k hk)
              · rw [Mk_set (by omega)]
                rintro (rfl | h)
                · omega
                · exact c3 k hk h
              · rw [Mk_set (by omega)]
                rw [take_succ hx, List.mem_append, List.mem_singleton, hj] at hk
                rcases hk with h | h
                · exact .inr (c4 k h)
                · simp only [RV.mk.injEq, and_true] at h
                  exact .inl (by omega)
          · refine ⟨⟨q + 1, cs, hq', rfl, hcl, c1, c2, c3, fun k hk => ?_⟩, by simp only; omega⟩
            rw [take_succ hx, List.mem_append, List.mem_singleton] at hk
            rcases hk with h | h
            · exact c4 k h
            · rw [← h] at hp; simp only at hp; omega
        · have : q = s.args.length := by omega
          subst this
          rw [List.take_length] at c4
          refine ⟨⟨_, cs, by omega, by omega, rfl, hcl, c1, fun k hk => c2 k (m2 k hk), fun k s' hk hmk hs' j hj => ?_⟩, by simp only; omega⟩
          rcases Int.lt_or_le i k with h | h
          · exact c2 j (m3 k s' h (c3 k (by omega) hmk) hs' j hj)
          · have : k = i := by omega
            subst this
            rw [hs] at hs'; cases hs'
            exact c4 j hj
    · refine ⟨bs, rfl, trivial, hbl, fun k => ⟨m1 k, fun h => ?_⟩⟩
      induction h with
      | root k h => exact m2 k h
      | step k s j h hs hj ih => exact m3 k s (by omega) ih hs j hj
end Go.Proofs.YtfenhbjamohdgaaDoor.Vr
end

/- part H5D -/
section
namespace Go.Vx.Hp
/-- what isn't told of is gone -/
def goneR : RA → Nat → (Nat → Bool) → RA
  | [], _, _ => []
  | s :: r, i, P => { s with gone := s.gone || !P i } :: goneR r (i + 1) P
theorem goneR_get : ∀ (A : RA) (i : Nat) (P : Nat → Bool) (k : Nat), (goneR A i P)[k]? = (A[k]?).map fun s => { s with gone := s.gone || !P (i + k) }
  | [], _, _, _ => by simp [goneR]
  | s :: r, i, P, 0 => by simp [goneR]
  | s :: r, i, P, k + 1 => by
    rw [goneR, List.getElem?_cons_succ, goneR_get r (i + 1) P k, List.getElem?_cons_succ, show i + 1 + k = i + (k + 1) by omega]
theorem goneR_len : ∀ (A : RA) (i : Nat) (P : Nat → Bool), (goneR A i P).length = A.length
  | [], _, _ => rfl
  | s :: r, i, P => by rw [goneR, List.length_cons, goneR_len r, List.length_cons]
end Go.Vx.Hp

namespace Go.Proofs.YtfenhbjamohdgaaDoor.Vr
open Go.Vx Go.Av Go.Vx.Hp

theorem RReach_spec (m : Int) (A : RA) (ho : A.old) (hl : A.length ≤ 1000000) (hc : cellsR A ≤ 1000000) (B : List RV) (hB : ∀ b ∈ B, b.ok A) (hBl : B.length ≤ 1000000) :
    SCalls ax 22 [.ptr 0 0, .sl 2 (rvrs B)] (RO m A) fun r o => ∃ P : Nat → Bool, r = [.int .i64 (sumR A 0 P : Nat)] ∧ o = RO m A ∧ ∀ k, P k = true ↔ RR A B k := by
  refine RReach.calls (K := fun r o => ∃ P : Nat → Bool, r = [.int .i64 (sumR A 0 P : Nat)] ∧ o = RO m A ∧ ∀ k, P k = true ↔ RR A B k) ?_
  unfold RReach.W
  refine (RReached_spec m A ho hl hc B hB hBl).mono ?_
  rintro r o ⟨bs, rfl, rfl, hbl, hm⟩
  refine ⟨_, _, _, rfl, rfl, fun vs => ∃ i : Nat, i ≤ A.length ∧ vs = [.int .i64 (sumR (A.take i) 0 (fun k => decide (Mk bs k)) : Nat), .int .i64 i], fun vs => match vs with | [_, .int _ i] => A.length - i.toNat | _ => 0, ⟨0, Nat.zero_le _, by simp [sumR]⟩, ?_⟩
  rintro n k ⟨i, hi, e⟩
  cases e
  rw [encM_len, hbl]
  refine ifD (fun hlt => ?_) (fun hge => ?_)
  · have hi' : i < A.length := by omega
    have hs := List.getElem?_eq_getElem hi'
    generalize A[i] = s at hs
    have hb := List.getElem?_eq_getElem (l := bs) (i := i) (by omega)
    refine ⟨by omega, hlt, _, encM_row hb, ?_⟩
    have ht := sumR_take1 (P := fun k => decide (Mk bs k)) hs
    have hle := sumR_le (A.take i) 0 fun k => decide (Mk bs k)
    have hle2 := cellsR_take A i
    have hlen := len_cells (List.mem_of_getElem? hs)
    rw [w64 (x := (i : Int) + 1) (by omega) (by omega), tabR_len]
    refine ifB (fun hg => ?_) (fun hg => ?_)
    · rw [hg] at hb
      rw [if_pos (by simpa using hb)] at ht
      refine ⟨by omega, by omega, rvrs s.args, by rw [Int.toNat_natCast, rowT hs]; rfl, ?_⟩
      rw [rvrs_len, w64 (x := 1 + _) (by omega) (by omega), w64 (by omega) (by omega)]
      exact ⟨⟨i + 1, hi', by rw [ht]; rfl⟩, by simp only; omega⟩
    · rw [hg] at hb
      rw [if_neg (by simp [Mk, hb])] at ht
      exact ⟨⟨i + 1, hi', by rw [ht]; rfl⟩, by simp only; omega⟩
  · have : i = A.length := by omega
    subst this
    rw [List.take_length]
    exact ⟨_, rfl, rfl, fun k => by rw [decide_eq_true_iff]; exact hm k⟩

theorem tabR_set {X : RA} {i : Nat} {s : RS} (h : X[i]? = some s) : List.set (tabR X) i (setV (Av.rowAt (tabR X) i) 4 [.bool true]) = tabR (X.set i { s with gone := true }) := by
  rw [rowT h]
  simp [tabR, List.map_set, rowR, setV]

theorem RCollect_spec (m : Int) (A : RA) (ho : A.old) (hl : A.length ≤ 1000000) (hc : cellsR A ≤ 1000000) (B : List RV) (hB : ∀ b ∈ B, b.ok A) (hBl : B.length ≤ 1000000) :
    SCalls ax 35 [.ptr 0 0, .sl 2 (rvrs B)] (RO m A) fun r o => ∃ P : Nat → Bool, r = [] ∧ o = RO m (goneR A 0 P) ∧ ∀ k, P k = true ↔ RR A B k := by
  refine RCollect.calls (K := fun r o => ∃ P : Nat → Bool, r = [] ∧ o = RO m (goneR A 0 P) ∧ ∀ k, P k = true ↔ RR A B k) ?_
  unfold RCollect.W
  refine (RReached_spec m A ho hl hc B hB hBl).mono ?_
  rintro r o ⟨bs, rfl, rfl, hbl, hm⟩
  refine ⟨_, _, _, rfl, rfl, fun vs => ∃ (i : Nat) (X : RA), i ≤ A.length ∧ vs = [.int .i64 i, .sl 5 (tabR X)] ∧ X.length = A.length ∧ ∀ k : Nat, X[k]? = if k < i then (goneR A 0 fun k => decide (Mk bs k))[k]? else A[k]?, fun vs => match vs with | .int _ i :: _ => A.length - i.toNat | _ => 0, ⟨0, A, Nat.zero_le _, rfl, rfl, fun k => rfl⟩, ?_⟩
  rintro n l20 ⟨i, X, hi, e, hX, hk⟩
  cases e
  rw [encM_len, hbl]
  refine ifD (fun hlt => ?_) (fun hge => ?_)
  · have hi' : i < A.length := by omega
    have hs := List.getElem?_eq_getElem hi'
    generalize A[i] = s at hs
    have hxs : X[i]? = some s := by rw [hk i, if_neg (by omega), hs]
    have hb := List.getElem?_eq_getElem (l := bs) (i := i) (by omega)
    refine ⟨by omega, hlt, _, encM_row hb, ?_⟩
    rw [w64 (x := (i : Int) + 1) (by omega) (by omega), tabR_len, hX, Int.toNat_natCast]
    refine ifN (fun hg => ?_) (fun hg => ?_)
    · rw [hg] at hb
      refine ⟨by omega, hlt, hi', ⟨i + 1, _, hi', by rw [tabR_set hxs]; rfl, by simpa using hX, fun k => ?_⟩, by simp only; omega⟩
      rw [List.getElem?_set]
      by_cases h : i = k
      · subst h
        rw [if_pos rfl, if_pos (by omega), if_pos (by omega), goneR_get, hs]
        simp [Mk, hb]
      · rw [if_neg h, hk k]
        by_cases h2 : k < i
        · rw [if_pos h2, if_pos (by omega)]
        · rw [if_neg h2, if_neg (by omega)]
    · rw [hg] at hb
      refine ⟨⟨i + 1, X, hi', rfl, hX, fun k => ?_⟩, by simp only; omega⟩
      rw [hk k]
      by_cases h : i = k
      · subst h
        rw [if_neg (by omega), if_pos (by omega), goneR_get, hs]
        simp [Mk, hb]
      · by_cases h2 : k < i
        · rw [if_pos h2, if_pos (by omega)]
        · rw [if_neg h2, if_neg (by omega)]
  · have : i = A.length := by omega
    subst this
    have hXe : X = goneR A 0 fun k => decide (Mk bs k) := by
      refine List.ext_getElem? fun k => ?_
      rw [hk k]
      split
      · rfl
      · rw [List.getElem?_eq_none (by omega), List.getElem?_eq_none (by rw [goneR_len]; omega)]
    subst hXe
    exact ⟨_, rfl, rfl, fun k => by rw [decide_eq_true_iff]; exact hm k⟩
end Go.Proofs.YtfenhbjamohdgaaDoor.Vr
end

/- part H5E -/
section
namespace Go.Vx.Hp

theorem pos_inj : ∀ {M : Mov} {p q r : Nat}, pos M p = some r → pos M q = some r → p = q
  | [], _, _, _, h, _ => by cases h
  | x :: M, p, q, r, h, k => by
    have := x.2.size_pos
    simp only [pos] at h k
    split at h <;> split at k
    · rename_i h1 h2; omega
    · cases h
      obtain ⟨y, _, hy⟩ := Option.map_eq_some_iff.1 k
      omega
    · cases k
      obtain ⟨y, _, hy⟩ := Option.map_eq_some_iff.1 h
      omega
    · obtain ⟨y, h1, h2⟩ := Option.map_eq_some_iff.1 h
      obtain ⟨z, k1, k2⟩ := Option.map_eq_some_iff.1 k
      have : y = z := by omega
      subst this
      exact pos_inj h1 k1
theorem goneR_live {A : RA} {P : Nat → Bool} {k : Nat} : live (goneR A 0 P) k ↔ live A k ∧ P k = true := by
  unfold live
  rw [goneR_get, Nat.zero_add]
  constructor
  · rintro ⟨s, h, hg⟩
    obtain ⟨t, h1, rfl⟩ := Option.map_eq_some_iff.1 h
    simp only [Bool.or_eq_false_iff, Bool.not_eq_false'] at hg
    exact ⟨⟨t, h1, hg.1⟩, hg.2⟩
  · rintro ⟨⟨t, h1, hg⟩, hp⟩
    exact ⟨_, by rw [h1]; rfl, by simp [hg, hp]⟩
theorem goneR_rdepth (A : RA) (P : Nat → Bool) (b : RV) : rdepth (goneR A 0 P) b = rdepth A b := by
  unfold rdepth
  rw [goneR_get, Option.map_map]; rfl
theorem goneR_rnodes (A : RA) (P : Nat → Bool) (b : RV) : rnodes (goneR A 0 P) b = rnodes A b := by
  unfold rnodes
  rw [goneR_get, Option.map_map]; rfl
theorem goneR_rmaxD (A : RA) (P : Nat → Bool) : ∀ l : List RV, rmaxD (goneR A 0 P) l = rmaxD A l
  | [] => rfl
  | b :: r => by rw [rmaxD, rmaxD, goneR_rdepth, goneR_rmaxD A P r]
theorem goneR_cells : ∀ (A : RA) (i : Nat) (P : Nat → Bool), cellsR (goneR A i P) = cellsR A
  | [], _, _ => rfl
  | s :: r, i, P => by rw [goneR, cellsR, cellsR, goneR_cells r]
theorem goneR_mem : ∀ {A : RA} {i : Nat} {P : Nat → Bool} {t : RS}, t ∈ goneR A i P → ∃ s ∈ A, s.args = t.args ∧ s.nodes = t.nodes ∧ s.depth = t.depth
  | [], _, _, _, h => by cases h
  | s :: r, i, P, t, h => by
    rcases List.mem_cons.1 h with rfl | h
    · exact ⟨s, List.mem_cons_self, rfl, rfl, rfl⟩
    · obtain ⟨u, h1, h2⟩ := goneR_mem h
      exact ⟨u, List.mem_cons_of_mem _ h1, h2⟩
theorem goneR_ok {A : RA} (h : A.ok) (P : Nat → Bool) : (goneR A 0 P).ok := fun t ht => by
  obtain ⟨s, h1, _, h2, h3⟩ := goneR_mem ht
  have := h s h1
  rw [h2, h3] at this; exact this
theorem goneR_usedL : ∀ (A : RA) (i : Nat) (P : Nat → Bool), (∀ k, P (i + k) = true → ∃ s, A[k]? = some s ∧ s.gone = false) → usedL (goneR A i P) = sumR A i P
  | [], _, _, _ => rfl
  | s :: r, i, P, h => by
    rw [goneR, usedL, sumR, goneR_usedL r (i + 1) P fun k hk => by
      obtain ⟨t, h1, h2⟩ := h (k + 1) (by rw [show i + (k + 1) = i + 1 + k by omega]; exact hk)
      exact ⟨t, by simpa using h1, h2⟩]
    congr 1
    cases hp : P i with
    | false => simp
    | true =>
      obtain ⟨t, h1, h2⟩ := h 0 hp
      simp at h1; subst h1
      simp [h2]

theorem VRs.map {φ φ' : Nat → Nat} {A A' : RA} {g : Val → Val} {V : List Val} {B : List RV} (h : VRs φ A V B) (hm : ∀ a b, a ∈ V → b ∈ B → VR φ A a b → VR φ' A' (g a) b) : VRs φ' A' (V.map g) B := by
  induction h with
  | nil => exact .nil
  | cons h' _ ih => exact .cons (hm _ _ List.mem_cons_self List.mem_cons_self h') (ih fun a b ha hb => hm a b (List.mem_cons_of_mem _ ha) (List.mem_cons_of_mem _ hb))

/-- both collect, and stay alike -/
theorem Iso.collect {φ : Nat → Nat} {S : List St} {A : RA} (h : Iso φ S A) {M : Mov} (hm : Moves S M) (hargs : ∀ x ∈ M, ∀ a ∈ x.2.args, In M a) {V : List Val} {B : List RV}
    (hv1 : ∀ b ∈ B, ∃ a ∈ V, VR φ A a b) (hv2 : ∀ a ∈ V, ∃ b ∈ B, VR φ A a b) (hin : ∀ v ∈ V, In M v) (hrch : ∀ y ∈ M, Rch S V y.1) {P : Nat → Bool} (hP : ∀ k, P k = true ↔ RR A B k) :
    Iso (fun k => (pos M (φ k)).getD 0) (moved M) (goneR A 0 P) ∧ (∀ a b, b ∈ B → VR φ A a b → VR (fun k => (pos M (φ k)).getD 0) (goneR A 0 P) (fwd M a) b) ∧ sumR A 0 P = tot M ∧ usedL (goneR A 0 P) = tot M := by
  have all : ∀ p, Rch S V p → (pos M p).isSome = true := by
    intro p hp
    induction hp with
    | root v hv hr => exact hin v hv hr
    | step p s a _ hs ha hr ih =>
      obtain ⟨t, ht⟩ := pos_mem.1 ih
      have h2 := hm.of _ ht
      simp only at h2
      rw [hs] at h2; cases h2
      exact hargs _ ht a ha hr
  have key : ∀ k, RR A B k → live A k ∧ (pos M (φ k)).isSome = true := fun k hk => by
    obtain ⟨h1, h2⟩ := h.rr_live hv1 k hk
    exact ⟨h1, all _ h2⟩
  have key2 : ∀ k, live A k → (pos M (φ k)).isSome = true → RR A B k := fun k hl hp => by
    obtain ⟨t, ht⟩ := pos_mem.1 hp
    obtain ⟨j, h1, h2, h3⟩ := h.rch_rr hv2 _ (hrch _ ht)
    have : j = k := h.inj j k h2 hl h1
    subst this; exact h3
  have fw : ∀ a b, (∀ k : Nat, b = ⟨k, 0⟩ → RR A B k) → VR φ A a b → VR (fun k => (pos M (φ k)).getD 0) (goneR A 0 P) (fwd M a) b := fun a b hb hv => by
    rcases hv with ⟨h1, rfl⟩ | ⟨k, rfl, h1, rfl⟩
    · exact .inl ⟨h1, rfl⟩
    · exact .inr ⟨k, rfl, goneR_live.2 ⟨h1, (hP k).2 (hb k rfl)⟩, by simp [fwd]⟩
  refine ⟨⟨fun j k hj hk e => ?_, fun k s hs hg => ?_, fun p t hp => ?_, fun k s b hs hb => ?_, fun k s hs => ?_⟩, fun a b hb hv => fw a b (fun k e => .root k (e ▸ hb)) hv, ?_, ?_⟩
  · obtain ⟨hj, hpj⟩ := goneR_live.1 hj
    obtain ⟨hk, hpk⟩ := goneR_live.1 hk
    obtain ⟨q, hq⟩ := Option.isSome_iff_exists.1 (key j ((hP j).1 hpj)).2
    obtain ⟨r, hr⟩ := Option.isSome_iff_exists.1 (key k ((hP k).1 hpk)).2
    simp only [hq, hr, Option.getD_some] at e
    subst e
    exact h.inj j k hj hk (pos_inj hq hr)
  · obtain ⟨hl, hpk⟩ := goneR_live.1 ⟨s, hs, hg⟩
    rw [goneR_get, Nat.zero_add] at hs
    obtain ⟨s0, h1, rfl⟩ := Option.map_eq_some_iff.1 hs
    simp only [Bool.or_eq_false_iff] at hg
    obtain ⟨t, t1, t2, t3, t4, t5⟩ := h.st k s0 h1 hg.1
    have hrr := (hP k).1 hpk
    obtain ⟨q, hq⟩ := Option.isSome_iff_exists.1 (key k hrr).2
    obtain ⟨t', ht', hf⟩ := find_moved hq
    have := hm.of _ ht'
    simp only at this
    rw [t1] at this; cases this
    refine ⟨{ t with args := t.args.map (fwd M) }, by simp only [hq, Option.getD_some]; exact hf, t2, t3, t4, t5.map fun a b _ hb hv => fw a b (fun j e => ?_) hv⟩
    exact .step k s0 j hrr h1 (e ▸ hb)
  · obtain ⟨p0, s0, h1, h2, rfl⟩ := find_moved_inv hm hp
    obtain ⟨k, hk, rfl⟩ := h.sur _ _ (hm.of _ h1)
    have hrr := key2 k hk (by rw [h2]; rfl)
    exact ⟨k, goneR_live.2 ⟨hk, (hP k).2 hrr⟩, by simp only [h2, Option.getD_some]⟩
  · rw [goneR_get, Nat.zero_add] at hs
    obtain ⟨s0, h1, rfl⟩ := Option.map_eq_some_iff.1 hs
    exact h.old k s0 b h1 hb
  · rw [goneR_get, Nat.zero_add] at hs
    obtain ⟨s0, h1, rfl⟩ := Option.map_eq_some_iff.1 hs
    rw [goneR_rmaxD]
    exact h.dep k s0 h1
  · exact h.sum M P hm fun k _ => ⟨fun hp => key k ((hP k).1 hp), fun hk => (hP k).2 (key2 k hk.1 hk.2)⟩
  · rw [goneR_usedL A 0 P fun k hk => by
      rw [Nat.zero_add] at hk
      exact (key k ((hP k).1 hk)).1]
    exact h.sum M P hm fun k _ => ⟨fun hp => key k ((hP k).1 hp), fun hk => (hP k).2 (key2 k hk.1 hk.2)⟩
end Go.Vx.Hp
end

/- part H5G -/
section
namespace Go.Proofs.YtfenhbjamohdgaaDoor.Vr
open Go.Vx Go.Av Go.Vx.Hp Go.RowKit

def G0 : Nat → Value := fun _ => .bool false
theorem errOk0 : ErrOk ax.P ax.gs ax.ift ax.tabs G0 := ⟨fun p hp => (by cases hp), fun t ht => (by cases ht)⟩

structure Rf (mp : Nat) (w : World) (m : Int) (A : RA) (Y : Nat → Prop) : Prop where
  ex : ∃ F β, Sim [] G0 w F β (mkS (RO m A)) ∧ β 0 = .pointer (some ⟨mp, 0, none⟩) ∧ (∀ i b, Has β i (getO (mkS (RO m A)) i) b → Y b) ∧ ∀ b o, F b o → Y b
  lt : ∀ b, Y b → b < w.heap.size

theorem Sim.frame {w w' : World} {F F' : Nat → Nat → Prop} {β : Nat → Value} {σ : Store} (h : Sim [] G0 w F β σ) (hF : ∀ b o, F b o → F' b o ∧ w'.cell? ⟨b, o, none⟩ = w.cell? ⟨b, o, none⟩) (hb : ∀ i b, Has β i (getO σ i) b → w'.heap[b]? = w.heap[b]?) (hlt : ∀ b o, F' b o → b < w'.heap.size) (hd : ∀ i b o, Mut β i (getO σ i) b o → ¬ F' b o) : Sim [] G0 w' F' β σ := by
  refine ⟨hlt, fun g hg => (by cases hg), fun i => ?_, fun g cs hg => (by cases hg), h.sep, hd⟩
  cases hg : getO σ i with
  | dead => trivial
  | _ =>
    have := h.obj i
    rw [hg] at this
    refine this.keep ⟨hF, Nat.le_refl _, fun _ _ => ⟨rfl, obLe.refl _⟩⟩ rfl fun b hv => hb i b ⟨by rw [hg]; trivial, hv⟩

theorem Rf.frame {mp : Nat} {w w' : World} {m : Int} {A : RA} {Y : Nat → Prop} (h : Rf mp w m A Y) (hb : ∀ b, Y b → w'.heap[b]? = w.heap[b]?) (hsz : w.heap.size ≤ w'.heap.size) : Rf mp w' m A Y := by
  obtain ⟨F, β, h1, h2, h3, h4⟩ := h.ex
  exact ⟨⟨F, β, Sim.frame h1 (fun b o hf => ⟨hf, by simp only [World.cell?, hb b (h4 b o hf)]⟩) (fun i b hh => hb b (h3 i b hh)) (fun b o hf => Nat.lt_of_lt_of_le (h1.lt b o hf) hsz) h1.dis, h2, h3, h4⟩, fun b hy => Nat.lt_of_lt_of_le (h.lt b hy) hsz⟩
theorem Rf.below {mp : Nat} {w w' : World} {m : Int} {A : RA} {Y : Nat → Prop} (h : Rf mp w m A Y) (hb : Below w.heap.size w w') : Rf mp w' m A Y := h.frame (fun b hy => hb.block b (h.lt b hy)) hb.size

/-- a row of the reference's values in memory -/
def rcs (b : RV) : List Value := [.int .i64 b.st, .int .i64 b.n]
def rflat (B : List RV) : List Value := B.flatMap rcs
theorem rflat_length (B : List RV) : (rflat B).length = B.length * 2 := by
  induction B with
  | nil => rfl
  | cons b r ih => simp only [rflat, List.flatMap_cons, List.length_append, List.length_cons] at ih ⊢; rw [ih]; simp [rcs]; omega
theorem rflat_get : ∀ {B : List RV} {i : Nat} {b : RV}, B[i]? = some b → (rflat B)[i * 2]? = some (.int .i64 b.st) ∧ (rflat B)[i * 2 + 1]? = some (.int .i64 b.n)
  | [], _, _, h => by simp at h
  | c :: r, 0, b, h => by simp at h; subst h; exact ⟨rfl, rfl⟩
  | c :: r, i + 1, b, h => by
    have := rflat_get (B := r) (i := i) (b := b) (by simpa using h)
    have e : rflat (c :: r) = .int .i64 c.st :: .int .i64 c.n :: rflat r := rfl
    rw [e, show (i + 1) * 2 = i * 2 + 1 + 1 by omega]
    exact this
theorem cellsAt_at {w : World} {b : Nat} : ∀ {xs : List Value} {o j : Nat} {x : Value}, cellsAt w b o xs → xs[j]? = some x → w.cell? ⟨b, o + j, none⟩ = some x
  | [], _, _, _, _, h => by simp at h
  | y :: ys, o, 0, x, h, hx => by simp at hx; subst hx; exact h.1
  | y :: ys, o, j + 1, x, h, hx => by
    have := cellsAt_at (o := o + 1) (j := j) h.2 (by simpa using hx)
    rw [show o + (j + 1) = o + 1 + j by omega]; exact this
def Rsl (w : World) (a : Option Addr) (B : List RV) : Prop := 0 < B.length → ∃ b o, a = some ⟨b, o, none⟩ ∧ cellsAt w b o (rflat B)
def XB (a : Option Addr) (B : List RV) (b o : Nat) : Prop := 0 < B.length ∧ ∃ o', a = some ⟨b, o', none⟩ ∧ o' ≤ o ∧ o < o' + B.length * 2
theorem Rsl.fv {w : World} {a : Option Addr} {B : List RV} {c : Nat} (h : Rsl w a B) (h1 : B.length ≤ c) (h2 : c ≤ maxLen) {F : Nat → Nat → Prop} (hF : ∀ b o, XB a B b o → F b o) : FV [] G0 w F (.sl 2 (rvrs B)) (.slice a B.length c) := by
  have hval : ∀ (i : Nat) e (j : Nat) u, (rvrs B)[i]? = some e → e[j]? = some u → i < B.length ∧ j < 2 ∧ ∃ k : Int, u = .int .i64 k ∧ (rflat B)[i * 2 + j]? = some (.int .i64 k) := by
    intro i e j u hi hj
    rw [rvrs, List.getElem?_map] at hi
    obtain ⟨b, hb, rfl⟩ := Option.map_eq_some_iff.1 hi
    obtain ⟨g1, g2⟩ := rflat_get hb
    refine ⟨(List.getElem?_eq_some_iff.1 hb).1, ?_⟩
    match j with
    | 0 => exact ⟨by omega, b.st, (by simpa [rvr] using hj.symm), g1⟩
    | 1 => exact ⟨by omega, b.n, (by simpa [rvr] using hj.symm), g2⟩
    | j + 2 => simp [rvr] at hj
  have := FV.sl (gs := []) (G := G0) (w := w) (F := F) 2 (rvrs B) a c (fun i j => ((rflat B)[i * 2 + j]?).getD (.bool false)) (by simpa using h1) h2 (fun e he => by
      obtain ⟨b, _, rfl⟩ := List.mem_map.1 he; rfl) (fun hne => ?_) (fun i e j u hi hj => ?_)
  · rw [rvrs_len] at this; exact this
  · have hl : 0 < B.length := by
      cases B with
      | nil => exact absurd rfl hne
      | cons => simp
    obtain ⟨b, o, e, hc⟩ := h hl
    refine ⟨b, o, e, fun i e' j u hi hj => ?_⟩
    obtain ⟨k1, k2, k, rfl, k3⟩ := hval i e' j u hi hj
    simp only [k3, Option.getD_some]
    exact ⟨cellsAt_at hc k3, hF _ _ ⟨hl, o, e, by omega, by omega⟩⟩
  · obtain ⟨_, _, k, rfl, k3⟩ := hval i e j u hi hj
    simp only [k3, Option.getD_some]
    exact .int _ _

/-- what a call of the reference leaves -/
def RPost (mp : Nat) (m : Int) (A : RA) (Y Xb : Nat → Prop) (w w' : World) : Prop := ∃ Y' : Nat → Prop, Rf mp w' m A Y' ∧ (∀ b, Y' b → Y b ∨ w.heap.size ≤ b ∨ Xb b) ∧ Chg Y w w'

theorem Rf.call {mp : Nat} {w : World} {m : Int} {A : RA} {Y : Nat → Prop} {N : Nat} {args : List V} {vals : List Value} {K : List V → List Ob → Prop} (h : Rf mp w m A Y) (hS : SCalls ax N (.ptr 0 0 :: args) (RO m A) K) (X : Nat → Nat → Prop) (hX : ∀ b o, X b o → b < w.heap.size ∧ ¬ Y b)
    (hv : ∀ F β, (∀ b o, X b o → F b o) → Rl (RV [] G0 w F β (mkS (RO m A))) args vals) :
    Calls Tryd.prog N (.pointer (some ⟨mp, 0, none⟩) :: vals).toArray w fun e w' => ∃ rs obs' rvals, K rs obs' ∧ e = .returned (oneOr rvals) ∧ (∃ F' β', Rl (RV [] G0 w' F' β' (mkS1 obs')) rs rvals) ∧
      ∀ A', (obs' = RO m A' ∨ obs' = RN m A') → RPost mp m A' Y (fun b => ∃ o, X b o) w w' := by
  obtain ⟨F, β, h1, h2, h3, h4⟩ := h.ex
  have hs : Sim [] G0 w (fun b o => F b o ∨ X b o) β (mkS (RO m A)) := Sim.frame h1 (fun b o hf => ⟨.inl hf, rfl⟩) (fun i b _ => rfl) (fun b o hf => hf.elim (h1.lt b o) fun hx => (hX b o hx).1) fun i b o hm hf => hf.elim (h1.dis i b o hm) fun hx => (hX b o hx).2 (h3 i b hm.1)
  have hp : RV [] G0 w (fun b o => F b o ∨ X b o) β (mkS (RO m A)) (.ptr 0 0) (.pointer (some ⟨mp, 0, none⟩)) := .ptr 0 0 mp 0 (by simp [mkS]) fun l _ => ⟨h2, rfl⟩
  refine (hS G0 w _ β (.pointer (some ⟨mp, 0, none⟩) :: vals) errOk0 hs (.cons hp (hv _ β fun b o hx => .inr hx))).mono ?_
  rintro e w' ⟨rs, obs', F', β', rvals, k1, k2, k3, k4, k5⟩
  refine ⟨rs, obs', rvals, k1, k2, ⟨F', β', k3⟩, fun A' ho => ?_⟩
  have hY : ∀ b, (∃ i, Has β i (getO (mkS (RO m A)) i) b) → Y b := fun b ⟨i, hh⟩ => h3 i b hh
  have hFr : Chg Y w w' := ⟨k5.os, k5.tape, k5.output, k5.size, fun b hb hy => k5.block b hb fun i hh => hy (hY b ⟨i, hh⟩)⟩
  have hb0 : β' 0 = .pointer (some ⟨mp, 0, none⟩) := (k5.ext 0 (by simp [mkS])).1.trans h2
  have hnH : ∀ i b, Has β' i (getO (mkS1 obs') i) b → Y b ∨ w.heap.size ≤ b := fun i b hh => (k5.newH i b hh).elim .inr fun hh => .inl (hY b hh)
  have hnF : ∀ b o, F' b o → Y b ∨ w.heap.size ≤ b ∨ ∃ o, X b o := fun b o hf => by
    rcases k5.newF b o hf with (hf | hf) | hf | ⟨i, hf⟩
    · exact .inl (h4 b o hf)
    · exact .inr (.inr ⟨o, hf⟩)
    · exact .inr (.inl hf)
    · exact .inl (hY b ⟨i, hf.1⟩)
  have fin : ∀ β2, Sim [] G0 w' F' β2 (mkS (RO m A')) → β2 0 = .pointer (some ⟨mp, 0, none⟩) → (∀ i b, Has β2 i (getO (mkS (RO m A')) i) b → Y b ∨ w.heap.size ≤ b) → RPost mp m A' Y (fun b => ∃ o, X b o) w w' := fun β2 g1 g2 g3 =>
    ⟨fun b => (Y b ∨ w.heap.size ≤ b ∨ ∃ o, X b o) ∧ b < w'.heap.size, ⟨⟨F', β2, g1, g2, fun i b hh => ⟨(g3 i b hh).elim .inl fun h => .inr (.inl h), g1.has_lt hh⟩, fun b o hf => ⟨hnF b o hf, g1.lt b o hf⟩⟩, fun b hy => hy.2⟩, fun b hy => hy.1, hFr⟩
  rcases ho with rfl | rfl
  · have hget : ∀ i, i < (mkS (RO m A')).length → getO (mkS (RO m A')) i = renOb some (getO (mkS1 (RO m A')) i) := fun i hi => by
      have hi : i < 2 := hi
      match i, hi with
      | 0, _ => rfl
      | 1, _ => rfl
    obtain ⟨r1, _⟩ := Sim.restrict (g := fun i => i) k4 hget (fun i j _ _ e => e) (fun o k ho hk => by cases hk; exact ⟨ho, rfl⟩)
    refine fin β' r1 hb0 fun i b hh => hnH i b ?_
    match i, hh with
    | 0, hh => exact hh
    | 1, hh => exact hh
    | i + 2, hh => exact hh.1.elim
  · let g : Nat → Nat := fun i => if i = 0 then 0 else i + 1
    let f : Nat → Option Nat := fun o => if o = 0 then some 0 else if o = 2 then some 1 else none
    have hget : ∀ i, i < (mkS (RO m A')).length → getO (mkS (RO m A')) i = renOb f (getO (mkS1 (RN m A')) (g i)) := fun i hi => by
      have hi : i < 2 := hi
      match i, hi with
      | 0, _ => rfl
      | 1, _ => rfl
    obtain ⟨r1, _⟩ := Sim.restrict (g := g) (f := f) k4 hget (fun i j _ _ e => by
        show i = j
        have e : (if i = 0 then 0 else i + 1) = (if j = 0 then 0 else j + 1) := e
        split at e <;> split at e <;> omega) (fun o k ho hk => by
        have hk : (if o = 0 then some 0 else if o = 2 then some 1 else none) = some k := hk
        split at hk
        · rename_i e; cases hk; exact ⟨(by decide : 0 < 2), e.symm⟩
        · split at hk
          · rename_i e; cases hk; exact ⟨(by decide : 1 < 2), e.symm⟩
          · cases hk)
    refine fin _ r1 hb0 fun i b hh => ?_
    match i, hh with
    | 0, hh => exact hnH 0 b hh
    | 1, hh => exact hnH 2 b hh
    | i + 2, hh => exact hh.1.elim
end Go.Proofs.YtfenhbjamohdgaaDoor.Vr
end

/- part H5H -/
section
namespace Go.Proofs.YtfenhbjamohdgaaDoor.Vr
open Go.Vx Go.Av Go.Vx.Hp Go.RowKit

variable {mp : Nat} {w : World} {m : Int} {A : RA} {Y : Nat → Prop}

/-- bounds of the reference's heap -/
structure Bd (A : RA) : Prop where
  ok : A.ok
  old : A.old
  len : A.length ≤ 1000000
  cells : cellsR A ≤ 1000000

theorem one_int {gs : List Nat} {G : Nat → Value} {w : World} {F : Nat → Nat → Prop} {β : Nat → Value} {σ : Store} {k : IntKind} {n : Int} {v : Value} (h : Av.RV gs G w F β σ (.int k n) v) : v = .int k n := by
  cases h with
  | fz _ _ h => cases h; rfl
theorem one_bool {gs : List Nat} {G : Nat → Value} {w : World} {F : Nat → Nat → Prop} {β : Nat → Value} {σ : Store} {b : Bool} {v : Value} (h : Av.RV gs G w F β σ (.bool b) v) : v = .bool b := by
  cases h with
  | fz _ _ h => cases h; rfl

theorem RPost.none {A' : RA} {w' : World} {X : Nat → Prop} (h : RPost mp m A' Y X w w') (hX : ∀ b, X b → Y b ∨ w.heap.size ≤ b) : ∃ Y', Rf mp w' m A' Y' ∧ (∀ b, Y' b → Y b ∨ w.heap.size ≤ b) ∧ Chg Y w w' := by
  obtain ⟨Y', h1, h2, h3⟩ := h
  exact ⟨Y', h1, fun b hb => (h2 b hb).elim .inl fun h => h.elim .inr (hX b), h3⟩

theorem RfUsed (h : Rf mp w m A Y) (hb : Bd A) : Calls Tryd.prog 20 #[.pointer (some ⟨mp, 0, none⟩)] w fun e w' => e = .returned (.int .i64 (usedL A : Nat)) ∧ RPost mp m A Y (fun _ => False) w w' := by
  refine (h.call (vals := []) (RUsed_spec m A hb.cells hb.len) (fun _ _ => False) (fun _ _ h => h.elim) (fun F β _ => .nil)).mono ?_
  rintro e w' ⟨rs, obs', rvals, ⟨rfl, rfl⟩, rfl, ⟨F', β', hr⟩, hp⟩
  obtain ⟨v, vs, rfl, h1, h2⟩ := hr.cons_inv
  obtain rfl := h2.nil_inv
  obtain ⟨Y', p1, p2, p3⟩ := hp A (.inl rfl)
  exact ⟨by rw [one_int h1]; rfl, Y', p1, fun b hb => (p2 b hb).imp id (Or.imp id fun ⟨_, h⟩ => h), p3⟩

theorem XB.ok {a : Option Addr} {B : List RV} (hs : Rsl w a B) (hY : ∀ b o, a = some ⟨b, o, none⟩ → ¬ Y b) : ∀ b o, XB a B b o → b < w.heap.size ∧ ¬ Y b := fun b o ⟨hl, o', e, _, _⟩ => by
  obtain ⟨b', o'', e', hc⟩ := hs hl
  rw [e] at e'; cases e'
  refine ⟨?_, hY b _ e⟩
  cases B with
  | nil => simp at hl
  | cons c r =>
    have := hc.1
    simp only [World.cell?] at this
    rcases Nat.lt_or_ge b w.heap.size with h | h
    · exact h
    · rw [Array.getElem?_eq_none h] at this; cases this

theorem RfAlloc (h : Rf mp w m A Y) (hb : Bd A) (n : Int) (a : Option Addr) (c : Nat) (B : List RV) (hs : Rsl w a B) (hB : ∀ b ∈ B, b.ok A) (hl : B.length ≤ 1000000) (hc : B.length ≤ c) (hc2 : c ≤ maxLen) (hY : ∀ b o, a = some ⟨b, o, none⟩ → ¬ Y b) :
    Calls Tryd.prog 31 #[.pointer (some ⟨mp, 0, none⟩), .int .i64 n, .slice a B.length c] w fun e w' => e = .returned (.tuple #[.int .i64 (rAlloc m A n B).1, .int .i64 (rAlloc m A n B).2.1]) ∧ RPost mp m (rAlloc m A n B).2.2 Y (fun b => ∃ o, XB a B b o) w w' := by
  refine (h.call (vals := [.int .i64 n, .slice a B.length c]) (RAlloc_spec m A hb.ok hb.cells hb.len n B hB hl) (XB a B) (XB.ok hs hY) (fun F β hF => .cons (.fz _ _ (.int _ _)) (.cons (.fz _ _ (hs.fv hc hc2 hF)) .nil))).mono ?_
  rintro e w' ⟨rs, obs', rvals, ⟨rfl, rfl⟩, rfl, ⟨F', β', hr⟩, hp⟩
  obtain ⟨v, vs, rfl, h1, h2⟩ := hr.cons_inv
  obtain ⟨u, us, rfl, h3, h4⟩ := h2.cons_inv
  obtain rfl := h4.nil_inv
  exact ⟨by rw [one_int h1, one_int h3]; rfl, hp _ (.inr rfl)⟩

theorem RfSame (h : Rf mp w m A Y) (hb : Bd A) (f : Nat) (a b : RV) (hf : a.st + 1 < f) (ha : a.ok A) (hb' : b.ok A) :
    Calls Tryd.prog 34 #[.pointer (some ⟨mp, 0, none⟩), .agg #[.int .i64 a.st, .int .i64 a.n], .agg #[.int .i64 b.st, .int .i64 b.n]] w fun e w' => e = .returned (.bool (rsameF A f a b)) ∧ RPost mp m A Y (fun _ => False) w w' := by
  refine (h.call (vals := [.agg #[.int .i64 a.st, .int .i64 a.n], .agg #[.int .i64 b.st, .int .i64 b.n]]) (RSame_spec m A hb.old hb.len hb.cells f a b hf ha hb') (fun _ _ => False) (fun _ _ h => h.elim) (fun F β _ => .cons (.mk_agg (.cons (.fz _ _ (.int _ _)) (.cons (.fz _ _ (.int _ _)) .nil))) (.cons (.mk_agg (.cons (.fz _ _ (.int _ _)) (.cons (.fz _ _ (.int _ _)) .nil))) .nil))).mono ?_
  rintro e w' ⟨rs, obs', rvals, ⟨rfl, rfl⟩, rfl, ⟨F', β', hr⟩, hp⟩
  obtain ⟨v, vs, rfl, h1, h2⟩ := hr.cons_inv
  obtain rfl := h2.nil_inv
  obtain ⟨Y', p1, p2, p3⟩ := hp A (.inl rfl)
  exact ⟨by rw [one_bool h1]; rfl, Y', p1, fun b hb => (p2 b hb).imp id (Or.imp id fun ⟨_, h⟩ => h), p3⟩

theorem RfReach (h : Rf mp w m A Y) (hb : Bd A) (a : Option Addr) (c : Nat) (B : List RV) (hs : Rsl w a B) (hB : ∀ b ∈ B, b.ok A) (hl : B.length ≤ 1000000) (hc : B.length ≤ c) (hc2 : c ≤ maxLen) (hY : ∀ b o, a = some ⟨b, o, none⟩ → ¬ Y b) :
    Calls Tryd.prog 22 #[.pointer (some ⟨mp, 0, none⟩), .slice a B.length c] w fun e w' => ∃ P : Nat → Bool, e = .returned (.int .i64 (sumR A 0 P : Nat)) ∧ (∀ k, P k = true ↔ RR A B k) ∧ RPost mp m A Y (fun b => ∃ o, XB a B b o) w w' := by
  refine (h.call (vals := [.slice a B.length c]) (RReach_spec m A hb.old hb.len hb.cells B hB hl) (XB a B) (XB.ok hs hY) (fun F β hF => .cons (.fz _ _ (hs.fv hc hc2 hF)) .nil)).mono ?_
  rintro e w' ⟨rs, obs', rvals, ⟨P, rfl, rfl, hP⟩, rfl, ⟨F', β', hr⟩, hp⟩
  obtain ⟨v, vs, rfl, h1, h2⟩ := hr.cons_inv
  obtain rfl := h2.nil_inv
  exact ⟨P, by rw [one_int h1]; rfl, hP, hp _ (.inl rfl)⟩

theorem RfCollect (h : Rf mp w m A Y) (hb : Bd A) (a : Option Addr) (c : Nat) (B : List RV) (hs : Rsl w a B) (hB : ∀ b ∈ B, b.ok A) (hl : B.length ≤ 1000000) (hc : B.length ≤ c) (hc2 : c ≤ maxLen) (hY : ∀ b o, a = some ⟨b, o, none⟩ → ¬ Y b) :
    Calls Tryd.prog 35 #[.pointer (some ⟨mp, 0, none⟩), .slice a B.length c] w fun e w' => ∃ P : Nat → Bool, e = .returned (.tuple #[]) ∧ (∀ k, P k = true ↔ RR A B k) ∧ RPost mp m (goneR A 0 P) Y (fun b => ∃ o, XB a B b o) w w' := by
  refine (h.call (vals := [.slice a B.length c]) (RCollect_spec m A hb.old hb.len hb.cells B hB hl) (XB a B) (XB.ok hs hY) (fun F β hF => .cons (.fz _ _ (hs.fv hc hc2 hF)) .nil)).mono ?_
  rintro e w' ⟨rs, obs', rvals, ⟨P, rfl, rfl, hP⟩, rfl, ⟨F', β', hr⟩, hp⟩
  obtain rfl := hr.nil_inv
  exact ⟨P, rfl, hP, hp _ (.inl rfl)⟩
end Go.Proofs.YtfenhbjamohdgaaDoor.Vr
end

/- part H5I -/
section
namespace Go.Proofs.YtfenhbjamohdgaaDoor.Vr
open Go.Vx Go.Av Go.Vx.Hp Go.RowKit

theorem cellsAt_of_get {w : World} {b : Nat} : ∀ {xs : List Value} {o : Nat}, (∀ j x, xs[j]? = some x → w.cell? ⟨b, o + j, none⟩ = some x) → cellsAt w b o xs
  | [], _, _ => trivial
  | x :: xs, o, h => ⟨h 0 x rfl, cellsAt_of_get (o := o + 1) fun j y hy => by rw [show o + 1 + j = o + (j + 1) by omega]; exact h (j + 1) y (by simpa using hy)⟩
theorem rflat_inv : ∀ {B : List RV} {j : Nat} {x : Value}, (rflat B)[j]? = some x → ∃ b, B[j / 2]? = some b ∧ ((j % 2 = 0 ∧ x = .int .i64 b.st) ∨ (j % 2 = 1 ∧ x = .int .i64 b.n))
  | [], _, _, h => by simp [rflat] at h
  | c :: r, 0, x, h => ⟨c, rfl, .inl ⟨rfl, by simpa [rflat, rcs] using h.symm⟩⟩
  | c :: r, 1, x, h => ⟨c, rfl, .inr ⟨rfl, by simpa [rflat, rcs] using h.symm⟩⟩
  | c :: r, j + 2, x, h => by
    have e : rflat (c :: r) = .int .i64 c.st :: .int .i64 c.n :: rflat r := rfl
    rw [e] at h
    obtain ⟨b, h1, h2⟩ := rflat_inv (B := r) (j := j) (x := x) (by simpa using h)
    exact ⟨b, by rw [show (j + 2) / 2 = j / 2 + 1 by omega]; simpa using h1, by rw [show (j + 2) % 2 = j % 2 by omega]; exact h2⟩

theorem fv_sl {w : World} {F : Nat → Nat → Prop} {Y : Nat → Prop} {B : List RV} {x : Value} (h : FV [] G0 w F (.sl 2 (rvrs B)) x) (hF : ∀ b o, F b o → Y b) : ∃ a c, x = .slice a B.length c ∧ B.length ≤ c ∧ c ≤ maxLen ∧ Rsl w a B ∧ ∀ b o, 0 < B.length → a = some ⟨b, o, none⟩ → Y b := by
  generalize he : V.sl 2 (rvrs B) = u at h
  cases h with
  | sl z l a c val h1 h2 hz hc hv =>
    cases he
    rw [rvrs_len] at h1 ⊢
    have hget : ∀ (i : Nat) b, B[i]? = some b → (rvrs B)[i]? = some (rvr b) := fun i b hb => by rw [rvrs, List.getElem?_map, hb]; rfl
    have hne : 0 < B.length → rvrs B ≠ [] := fun h e => by
      have := congrArg List.length e
      rw [rvrs_len] at this; simp at this; rw [this] at h; simp at h
    refine ⟨a, c, rfl, h1, h2, fun hl => ?_, fun b o hl e => ?_⟩
    · obtain ⟨b, o, e, hcc⟩ := hc (hne hl)
      refine ⟨b, o, e, cellsAt_of_get fun j x hx => ?_⟩
      obtain ⟨y, hy, hxy⟩ := rflat_inv hx
      rcases hxy with ⟨hm, rfl⟩ | ⟨hm, rfl⟩
      · have k1 := (hcc (j / 2) _ 0 (.int .i64 y.st) (hget _ _ hy) rfl).1
        have k2 := hv (j / 2) _ 0 (.int .i64 y.st) (hget _ _ hy) rfl
        rw [show j = j / 2 * 2 + 0 by omega, k1]
        cases hq : val (j / 2) 0 <;> rw [hq] at k2 <;> cases k2
        rfl
      · have k1 := (hcc (j / 2) _ 1 (.int .i64 y.n) (hget _ _ hy) rfl).1
        have k2 := hv (j / 2) _ 1 (.int .i64 y.n) (hget _ _ hy) rfl
        rw [show j = j / 2 * 2 + 1 by omega, k1]
        cases hq : val (j / 2) 1 <;> rw [hq] at k2 <;> cases k2
        rfl
    · obtain ⟨b', o', e', hcc⟩ := hc (hne hl)
      rw [e] at e'; cases e'
      have hb := List.getElem?_eq_getElem hl
      exact hF b _ (hcc 0 _ 0 _ (hget 0 _ hb) rfl).2
  | _ => cases he

theorem Rf.box {mp : Nat} {w : World} {m : Int} {A : RA} {Y : Nat → Prop} (h : Rf mp w m A Y) : ∃ v1 t, w.heap[mp]? = some (.cells #[.int .i64 m, v1] t (0, 0)) ∧ Y mp ∧ ∀ (k : Nat) (s : RS), A[k]? = some s →
    ∃ g c, v1 = .slice (some ⟨g, 0, none⟩) A.length c ∧ Y g ∧ ∃ a c', cellsAt w g (0 + k * 5) [.int .i64 s.ctor, .slice a s.args.length c', .int .i64 s.nodes, .int .i64 s.depth, .bool s.gone] ∧ s.args.length ≤ c' ∧ c' ≤ maxLen ∧ Rsl w a s.args ∧ ∀ b o, 0 < s.args.length → a = some ⟨b, o, none⟩ → Y b := by
  obtain ⟨F, β, h1, h2, h3, h4⟩ := h.ex
  have o0 := h1.obj 0
  have e0 : getO (mkS (RO m A)) 0 = .box [.int .i64 m, .own 1] := rfl
  have e1 : getO (mkS (RO m A)) 1 = .lst 103 5 false (tabR A) := rfl
  rw [e0] at o0
  obtain ⟨b, t, cs, e, hh, hr, _⟩ := o0
  rw [h2] at e; cases e
  obtain ⟨x0, xs0, ecs, r0, r1⟩ := hr.cons_inv
  obtain ⟨x1, xs1, rfl, q1, q2⟩ := r1.cons_inv
  obtain rfl := q2.nil_inv
  have ex0 : x0 = .int .i64 m := by
    cases r0 with
    | fz _ _ h => cases h; rfl
  subst ex0
  have ecs' : cs = #[.int .i64 m, x1] := by
    have := congrArg List.toArray ecs
    simpa using this
  subst ecs'
  refine ⟨x1, t, hh, h3 0 mp ⟨by rw [e0]; trivial, by rw [h2]; rfl⟩, fun k s hs => ?_⟩
  have o1 := h1.obj 1
  rw [e1] at o1
  obtain ⟨xs, ho, hr, hz, _, _⟩ := o1.lst_pos (by omega)
  have ex1 : x1 = β 1 := by
    cases q1 with
    | fz _ _ h => cases h
    | own i a n c hi hl => exact (hl _ _ _ _ e1).symm
  rcases lst_cells (l := tabR A) ho with ⟨hn, _⟩ | ⟨g, c, eb, hc⟩
  · have := congrArg List.length hn
    rw [tabR_len] at this
    have h9 := (List.getElem?_eq_some_iff.1 hs).1
    simp only [List.length_nil] at this
    omega
  · refine ⟨g, c, by rw [ex1, eb, tabR_len], h3 1 g ⟨by rw [e1]; trivial, by rw [eb]; rfl⟩, ?_⟩
    have hrow : (tabR A)[k]? = some (rowR s) := by rw [tabR, List.getElem?_map, hs]; rfl
    have get : ∀ (j : Nat) u, (rowR s)[j]? = some u → ∃ x, w.cell? ⟨g, 0 + k * 5 + j, none⟩ = some x ∧ FV [] G0 w F u x := fun j u hj => by
      obtain ⟨x, hx, hf⟩ := hr.get (flatten_get hz hrow hj)
      exact ⟨x, by rw [show 0 + k * 5 + j = 0 + (k * 5 + j) by omega]; exact cellsAt_at hc hx, hf⟩
    obtain ⟨y0, c0, f0⟩ := get 0 _ rfl
    obtain ⟨y1, c1, f1⟩ := get 1 _ rfl
    obtain ⟨y2, c2, f2⟩ := get 2 _ rfl
    obtain ⟨y3, c3, f3⟩ := get 3 _ rfl
    obtain ⟨y4, c4, f4⟩ := get 4 _ rfl
    obtain ⟨a, c', rfl, l1, l2, hs1, hs2⟩ := fv_sl f1 h4
    cases f0; cases f2; cases f3; cases f4
    exact ⟨a, c', ⟨c0, c1, c2, c3, c4, trivial⟩, l1, l2, hs1, hs2⟩
end Go.Proofs.YtfenhbjamohdgaaDoor.Vr
end

/- part H5J -/
section
namespace Go.Vx.Hp

theorem Iso.vr_eq {φ : Nat → Nat} {S : List St} {A : RA} (h : Iso φ S A) {a a' : Val} {b b' : RV} (hv : VR φ A a b) (hv' : VR φ A a' b') : a = a' ↔ b = b' := by
  rcases hv with ⟨h1, rfl⟩ | ⟨k, rfl, h1, rfl⟩ <;> rcases hv' with ⟨g1, rfl⟩ | ⟨j, rfl, g1, rfl⟩
  · obtain ⟨x, y⟩ := b
    obtain ⟨z, u⟩ := b'
    simp only at h1 g1
    subst h1 g1
    simp
  · constructor
    · intro e; simp at e
    · intro e; rw [e] at h1; simp only at h1; omega
  · constructor
    · intro e; simp at e
    · intro e; rw [← e] at g1; simp only at g1; omega
  · simp only [Val.mk.injEq, true_and, RV.mk.injEq, and_true]
    constructor
    · intro e; rw [h.inj k j h1 g1 (by omega)]
    · intro e; have : k = j := by omega
      rw [this]
theorem allS_maxD {A : RA} {g : RV → RV → Bool} (hg : ∀ a b, g a b = true → rdepth A a = rdepth A b) : ∀ {l m : List RV}, l.length = m.length → allS g l m = true → rmaxD A l = rmaxD A m
  | [], [], _, _ => rfl
  | [], _ :: _, h, _ => by simp at h
  | _ :: _, [], h, _ => by simp at h
  | a :: l, b :: m, h, hs => by
    simp only [allS, Bool.and_eq_true] at hs
    rw [rmaxD, rmaxD, hg a b hs.1, allS_maxD hg (by simpa using h) hs.2]
theorem rsame_depth {A : RA} (hd : ∀ (k : Nat) (s : RS), A[k]? = some s → s.depth = rmaxD A s.args) : ∀ (f : Nat) (a b : RV), rsameF A f a b = true → rdepth A a = rdepth A b
  | 0, _, _, h => by cases h
  | f + 1, a, b, h => by
    rw [rsameF, Bool.or_eq_true] at h
    rcases h with h | h
    · rw [of_decide_eq_true h]
    · simp only [Bool.and_eq_true, Bool.not_eq_true', decide_eq_false_iff_not] at h
      obtain ⟨⟨h1, h2⟩, h⟩ := h
      split at h
      · rename_i s t hs ht
        simp only [Bool.and_eq_true, decide_eq_true_eq] at h
        obtain ⟨⟨⟨_, h4⟩, _⟩, h6⟩ := h
        simp only [rdepth, if_neg h1, if_neg h2, hs, ht, Option.map_some, Option.getD_some]
        rw [hd _ s hs, hd _ t ht]
        exact allS_maxD (rsame_depth hd f) h4 h6
      · cases h
end Go.Vx.Hp

namespace Go.Proofs.YtfenhbjamohdgaaDoor.Vf
open Go.Vx Go.Vx.Hp Go.RowKit

set_option maxHeartbeats 2000000 in
theorem same_spec {hp : Nat} {S : List St} {most : Int} {v : Value} {φ : Nat → Nat} {A : RA} (hi : Iso φ S A) : ∀ (f : Nat) (w : World) (a1 a2 : Val) (b1 b2 : RV), Is hp w S most v → b1.st + 1 < f → VR φ A a1 b1 → VR φ A a2 b2 →
    Calls Tryd.prog 29 #[.pointer (some ⟨hp, 0, none⟩), .agg #[.bool a1.ref, .int .i64 a1.n], .agg #[.bool a2.ref, .int .i64 a2.n]] w fun e w' => e = .returned (.bool (rsameF A f b1 b2)) ∧ Below w.heap.size w w' := by
  intro f
  induction f with
  | zero =>
    intro w a1 a2 b1 b2 _ hf h1 _
    rcases h1 with ⟨h, _⟩ | ⟨k, rfl, _, _⟩
    · omega
    · simp only at hf; omega
  | succ f ih =>
    intro w a1 a2 b1 b2 h hf h1 h2
    refine (Vg.same.calls (R := fun x w' => x = .bool (rsameF A (f + 1) b1 b2) ∧ Below w.heap.size w w') ?_).mono (fun x w' ⟨v, h1, h2, h3⟩ => ⟨by rw [h1, h2], h3⟩)
    unfold Vg.same.W
    have hlt := lt_of_block h.blk
    refine box fun w5 at5 hb5 hs5 => box fun w6 at6 hb6 hs6 => ?_
    have at5' := block_below hb6 (by omega) at5
    have b6 : Below w.heap.size w w6 := hb5.trans (hb6.mono (by omega))
    refine ⟨_, _, cellsAt_of_block at5' [.bool a1.ref, .int .i64 a1.n] 0 rfl, _, _, cellsAt_of_block at6 [.bool a2.ref, .int .i64 a2.n] 0 rfl, _, val_eq w6 _ _ a1 a2, ifB (fun he => ?_) (fun he => ?_)⟩
    · have : a1 = a2 := by
        simp only [Bool.and_eq_true, beq_iff_eq] at he
        obtain ⟨x, y⟩ := a1; obtain ⟨z, u⟩ := a2
        simp only at he; rw [he.1, he.2]
      have := (hi.vr_eq h1 h2).1 this
      exact ⟨by rw [rsameF, decide_eq_true this]; rfl, b6⟩
    have hne : ¬ b1 = b2 := fun e => by
      have := (hi.vr_eq h1 h2).2 e
      rw [this] at he; simp at he
    refine ⟨_, cell_of_block at5' rfl, ifN (fun hr => ⟨?_, b6⟩) (fun hr1 => ⟨_, cell_of_block at6 rfl, ifN (fun hr => ⟨?_, b6⟩) (fun hr2 => ?_)⟩)⟩
    · rcases h1 with ⟨g, _⟩ | ⟨k, _, _, rfl⟩
      · rw [rsameF, decide_eq_false hne, decide_eq_true (by omega)]; rfl
      · cases hr
    · rcases h2 with ⟨g, _⟩ | ⟨k, _, _, rfl⟩
      · rw [rsameF, decide_eq_false hne, decide_eq_true (p := b2.st < 0) (by omega)]; simp
      · cases hr
    obtain ⟨j, rfl, lj, rfl⟩ := h1.ref hr1
    obtain ⟨k, rfl, lk, rfl⟩ := h2.ref hr2
    obtain ⟨s, hs, gs⟩ := lj
    obtain ⟨t, ht, gt⟩ := lk
    have gj := hi.good h1
    have gk := hi.good h2
    obtain ⟨s', fs, s1, s2, s3, s4⟩ := hi.st j s hs gs
    obtain ⟨t', ft, t1, t2, t3, t4⟩ := hi.st k t ht gt
    have hR : rsameF A (f + 1) ⟨j, 0⟩ ⟨k, 0⟩ = (decide (s.ctor = t.ctor) && decide (s.args.length = t.args.length) && decide (s.nodes = t.nodes) && allS (rsameF A f) s.args t.args) := by
      rw [rsameF, decide_eq_false hne]
      simp [hs, ht]
    rw [hR]
    have oks := h.ok s' (find_mem fs)
    have okt := h.ok t' (find_mem ft)
    have ls := s4.len
    have l8 := oks.2.2.1
    have lt := t4.len
    refine drewStep fun w14 e14 hb14 => ?_
    have b14 : Below w.heap.size w w14 := b6.trans (hb14.mono b6.size)
    have h14 := h.below b14
    have at5a : w14.heap[w.heap.size]? = _ := e14 ▸ at5'
    have at6a : w14.heap[w5.heap.size]? = _ := e14 ▸ at6
    obtain ⟨s'', g, c, hs', hm, h0, hl, rfl, hc, hh⟩ := is_at h14 gj
    rw [Int.toNat_natCast, fs] at hs'; cases hs'
    obtain ⟨t'', g', c', ht', hm', h0', hl', e', hc', hh'⟩ := is_at h14 gk
    rw [Int.toNat_natCast, ft] at ht'; cases ht'
    cases e'
    have := s'.size_pos
    have := t'.size_pos
    refine ⟨_, _, rfl, _, _, _, cell_of_block h14.blk rfl, _, cell_of_block at5a rfl, g, 0, rfl, h0, by dsimp only; omega, _, hc, _, _, rfl, _, _, _, cell_of_block h14.blk rfl, _, cell_of_block at6a rfl, g, 0, rfl, h0', by dsimp only; omega, _, hc', drewStep fun w33 e33 hb33 => ?_⟩
    have b33 := b14.trans (hb33.mono b14.size)
    have hh3 : w33.heap[s'.blk]? = _ := e33 ▸ hh
    have hh3' : w33.heap[t'.blk]? = _ := e33 ▸ hh'
    refine ⟨_, _, rfl, _, cell_of_block hh3 rfl, _, _, rfl, _, cell_of_block hh3' rfl, ifNE (fun hx => ⟨?_, b33⟩) (fun hx => ?_)⟩
    · rw [decide_eq_false (by omega)]; rfl
    refine ⟨_, _, rfl, _, cell_of_block hh3 rfl, _, _, rfl, _, cell_of_block hh3' rfl, ifNE (fun hy => ⟨?_, b33⟩) (fun hy => ?_)⟩
    · have hy : ¬ ((s'.size : Nat) : Int) = (t'.size : Nat) := hy
      have : ¬ s.args.length = t.args.length := by simp only [St.size] at hy; omega
      rw [decide_eq_false (p := s.args.length = t.args.length) this]; simp
    have hy : ((s'.size : Nat) : Int) = (t'.size : Nat) := hy
    have hlen : s.args.length = t.args.length := by simp only [St.size] at hy; omega
    refine ⟨_, _, rfl, _, cell_of_block hh3 rfl, _, _, rfl, _, cell_of_block hh3' rfl, ifNE (fun hz => ⟨?_, b33⟩) (fun hz => ?_)⟩
    · rw [decide_eq_false (p := s.nodes = t.nodes) (by omega)]; simp
    refine ⟨_, _, rfl, _, cell_of_block hh3 rfl, _, _, rfl, _, cell_of_block hh3' rfl, ifNE (fun hd => ⟨?_, b33⟩) (fun hd => ?_)⟩
    · have : allS (rsameF A f) s.args t.args = false := by
        cases hq : allS (rsameF A f) s.args t.args with
        | false => rfl
        | true =>
          have e1 := allS_maxD (rsame_depth hi.dep f) hlen hq
          rw [← hi.dep j s hs, ← hi.dep k t ht] at e1
          omega
      rw [this]; simp
    rw [decide_eq_true (show s.ctor = t.ctor by omega), decide_eq_true hlen, decide_eq_true (show s.nodes = t.nodes by omega)]
    simp only [Bool.true_and]
    refine drewStep fun w58 e58 hb58 => ?_
    have b58 := b33.trans (hb58.mono b33.size)
    have h58 := h.below b58
    have e58' : w58.heap = w14.heap := e58.trans e33
    have at5b : w58.heap[w.heap.size]? = _ := e58' ▸ at5a
    have at6b : w58.heap[w5.heap.size]? = _ := e58' ▸ at6a
    refine ⟨_, cell_of_block at5b rfl, _, cell_of_block at6b rfl, (hargs_spec h58 (φ j) s' gj (by simpa using fs)).mono ?_⟩
    rintro _ w61 ⟨a63, c65, rfl, e61, hb61, ha⟩
    have at6c : w61.heap[w5.heap.size]? = _ := e61 ▸ at6b
    have b61 := b58.trans (hb61.mono b58.size)
    refine ⟨_, _, _, rfl, ⟨cell_of_block at6c rfl, trivial⟩, (hargs_spec (h.below b61) (φ k) t' gk (by simpa using ft)).mono ?_⟩
    rintro _ w66 ⟨a68, c70, rfl, e66, hb66, ha'⟩
    have b66 := b61.trans (hb66.mono b61.size)
    refine ⟨_, _, _, rfl, fun us w2 => ∃ q : Nat, q ≤ s'.args.length ∧ us = [.int .i64 q] ∧ Below w66.heap.size w66 w2 ∧ allS (rsameF A f) s.args t.args = allS (rsameF A f) (s.args.drop q) (t.args.drop q), fun us _ => match us with | [.int _ q] => s'.args.length - q.toNat | _ => 0, ⟨0, Nat.zero_le _, rfl, Below.refl _ _, rfl⟩, ?_⟩
    rintro _ us w73 ⟨q, hq, rfl, hb73, hall⟩
    have b73 := b66.trans (hb73.mono b66.size)
    refine ⟨_, rfl, ifD (fun hlt' => ?_) (fun hge => ?_)⟩
    · have hq1 : q < s'.args.length := by omega
      have hq2 : q < t'.args.length := by omega
      obtain ⟨g1, rfl, hgo, hcell⟩ := ha (by omega)
      obtain ⟨g2, rfl, hgo', hcell'⟩ := ha' (by omega)
      refine drewStep fun w77 e77 hb77 => ?_
      have b77 := b73.trans (hb77.mono b73.size)
      have c1 := hcell q hq1
      have c2 := hcell' q hq2
      have c1' : cellsAt w77 g1 ((((φ j : Nat) : Int).toNat + 1) * 3 + q * 3) [.bool s'.args[q].ref, .int .i64 s'.args[q].n] := by
        have := cellsAt_below (hb66.trans ((hb73.trans (hb77.mono hb73.size)).mono hb66.size)) (cellsAt_lt c1) c1
        exact ⟨this.1, this.2.1, trivial⟩
      have c2' : cellsAt w77 g2 ((((φ k : Nat) : Int).toNat + 1) * 3 + q * 3) [.bool t'.args[q].ref, .int .i64 t'.args[q].n] := by
        have := cellsAt_below (hb73.trans (hb77.mono hb73.size)) (cellsAt_lt c2) c2
        exact ⟨this.1, this.2.1, trivial⟩
      have x1 := List.getElem?_eq_getElem (l := s.args) (i := q) (by omega)
      have x2 := List.getElem?_eq_getElem (l := t.args) (i := q) (by omega)
      have v1 := s4.get (List.getElem?_eq_getElem hq1) x1
      have v2 := t4.get (List.getElem?_eq_getElem hq2) x2
      have hlt1 : s.args[q].st < j := by
        rcases hi.old j s _ hs (List.mem_of_getElem? x1) with e | ⟨i, e, hij⟩
        · rw [e]; omega
        · rw [e]; simp only; omega
      refine ⟨g1, _, rfl, by omega, by omega, _, _, c1', g2, _, rfl, by omega, by omega, _, _, c2', (ih w77 _ _ _ _ (h.below b77) (by simp only at hf; omega) v1 v2).mono ?_⟩
      rintro _ w86 ⟨rfl, hb86⟩
      refine ⟨_, rfl, ifN (fun hbad => ⟨?_, b77.trans (hb86.mono b77.size)⟩) (fun hok => ?_)⟩
      · rw [hall, allS_drop x1 x2, hbad]; rfl
      · rw [w64 (by omega) (by omega)]
        exact ⟨⟨q + 1, hq1, rfl, hb73.trans ((hb77.trans (hb86.mono hb77.size)).mono hb73.size), by rw [hall, allS_drop x1 x2, hok, Bool.true_and]⟩, by simp only; omega⟩
    · have : q = s'.args.length := by omega
      subst this
      rw [hall, ls, List.drop_length]
      exact ⟨rfl, b73⟩

theorem Same_ok {hp : Nat} {w : World} {S : List St} {most : Int} {v : Value} {φ : Nat → Nat} {A : RA} (h : Is hp w S most v) (hi : Iso φ S A) (f : Nat) (a1 a2 : Val) (b1 b2 : RV) (hf : b1.st + 1 < f) (h1 : VR φ A a1 b1) (h2 : VR φ A a2 b2) :
    Calls Tryd.prog 16 #[.pointer (some ⟨hp, 0, none⟩), .agg #[.bool a1.ref, .int .i64 a1.n], .agg #[.bool a2.ref, .int .i64 a2.n]] w fun e w' => e = .returned (.tuple #[.bool (rsameF A f b1 b2), .nilIface]) ∧ Below w.heap.size w w' := by
  refine (Vg.Same.calls (R := fun x w' => x = .tuple #[.bool (rsameF A f b1 b2), .nilIface] ∧ Below w.heap.size w w') ?_).mono (fun x w' ⟨v, h1, h2, h3⟩ => ⟨by rw [h1, h2], h3⟩)
  unfold Vg.Same.W
  have hlt := lt_of_block h.blk
  refine box fun w5 at5 hb5 hs5 => box fun w6 at6 hb6 hs6 => ?_
  have at5' := block_below hb6 (by omega) at5
  have b6 : Below w.heap.size w w6 := hb5.trans (hb6.mono (by omega))
  refine ⟨_, _, cellsAt_of_block at5' [.bool a1.ref, .int .i64 a1.n] 0 rfl, (hgood_spec (h.below b6) a1.ref a1.n).mono ?_⟩
  rintro _ w9 ⟨rfl, hb9⟩
  have g1 : Hp.good S ⟨a1.ref, a1.n⟩ = true := hi.good h1
  have g2 : Hp.good S ⟨a2.ref, a2.n⟩ = true := hi.good h2
  rw [g1]
  have b9 := b6.trans (hb9.mono b6.size)
  have at5a := block_below hb9 (by omega) at5'
  have at6a := block_below hb9 (by omega) at6
  refine ⟨_, rfl, ifN (fun h => nomatch h) (fun _ => ⟨_, _, cellsAt_of_block at6a [.bool a2.ref, .int .i64 a2.n] 0 rfl, (hgood_spec (h.below b9) a2.ref a2.n).mono ?_⟩)⟩
  rintro _ w16 ⟨rfl, hb16⟩
  rw [g2]
  have s9 := hb9.size
  have b16 := b9.trans (hb16.mono b9.size)
  have at5b := block_below hb16 (by omega) at5a
  have at6b := block_below hb16 (by omega) at6a
  refine ⟨_, rfl, ifN (fun h => nomatch h) (fun _ => ⟨_, _, cellsAt_of_block at5b [.bool a1.ref, .int .i64 a1.n] 0 rfl, _, _, cellsAt_of_block at6b [.bool a2.ref, .int .i64 a2.n] 0 rfl, (same_spec hi f w16 a1 a2 b1 b2 (h.below b16) hf h1 h2).mono ?_⟩)⟩
  rintro _ w25 ⟨rfl, hb25⟩
  exact ⟨_, rfl, rfl, b16.trans (hb25.mono b16.size)⟩

theorem Nodes_ok {hp : Nat} {w : World} {S : List St} {most : Int} {v : Value} (h : Is hp w S most v) (r : Bool) (n : Int) (hg : Hp.good S ⟨r, n⟩ = true) :
    Calls Tryd.prog 17 #[.pointer (some ⟨hp, 0, none⟩), .agg #[.bool r, .int .i64 n]] w fun e w' => e = .returned (.tuple #[.int .i64 (nodesOf S ⟨r, n⟩), .nilIface]) ∧ Below w.heap.size w w' := by
  refine (Vg.Nodes.calls (R := fun x w' => x = .tuple #[.int .i64 (nodesOf S ⟨r, n⟩), .nilIface] ∧ Below w.heap.size w w') ?_).mono (fun x w' ⟨v, h1, h2, h3⟩ => ⟨by rw [h1, h2], h3⟩)
  unfold Vg.Nodes.W
  have hlt := lt_of_block h.blk
  refine box fun w3 at3 hb3 hs3 => ?_
  refine ⟨_, _, cellsAt_of_block at3 [.bool r, .int .i64 n] 0 rfl, (hgood_spec (h.below hb3) r n).mono ?_⟩
  rintro _ w6 ⟨rfl, hb6⟩
  rw [hg]
  have b6 := hb3.trans (hb6.mono (by omega))
  have at6 := block_below hb6 (by omega) at3
  refine ⟨_, rfl, ifN (fun h => nomatch h) (fun _ => ⟨_, _, cellsAt_of_block at6 [.bool r, .int .i64 n] 0 rfl, (measure_spec (h.below b6) r n hg).mono ?_⟩)⟩
  rintro _ w13 ⟨rfl, hb13⟩
  exact ⟨_, _, rfl, rfl, b6.trans (hb13.mono b6.size)⟩
end Go.Proofs.YtfenhbjamohdgaaDoor.Vf
end

/- part H5K -/
section
namespace Go.Proofs.YtfenhbjamohdgaaDoor.Vf
open Go.Vx Go.Vx.Hp Go.RowKit

theorem map69 : Tryd.prog.underlying 69 = some (.map 3 30) := by kernel_rfl
theorem zero30 (w : World) : (zeroValue 30).run Tryd.prog w = .ok (.agg #[.bool false, .int .i64 0]) w := by
  have : (Tryd.prog.info? 30).bind (·.zero) = some (.agg #[.bool false, .int .i64 0]) := by kernel_rfl
  obtain ⟨i, h1, h2⟩ := Option.bind_eq_some_iff.1 this
  simp [zeroValue, typeInfo, h1, h2]

/-- the pair's state, seen from a function that looks at it -/
structure Pw (pp hp mp : Nat) (w : World) (S : List St) (most : Int) (v : Value) (A : RA) (Y : Nat → Prop) : Prop where
  is : Is hp w S most v
  rf : Vr.Rf mp w most A Y
  p0 : w.cell? ⟨pp, 0, none⟩ = some (.pointer (some ⟨hp, 0, none⟩))
  p1 : w.cell? ⟨pp, 1, none⟩ = some (.pointer (some ⟨mp, 0, none⟩))
theorem Pw.chg {pp hp mp : Nat} {w w' : World} {S : List St} {most : Int} {v : Value} {A : RA} {Y M : Nat → Prop} (h : Pw pp hp mp w S most v A Y) (hc : Chg M w w') (h1 : ∀ k, M k → ¬ Mine hp S v k) (h2 : ∀ k, M k → ¬ Y k) (h3 : ¬ M pp) : Pw pp hp mp w' S most v A Y := by
  have hpp : pp < w.heap.size := cellsAt_lt (vs := []) ⟨h.p0, trivial⟩
  have e : w'.heap[pp]? = w.heap[pp]? := hc.block pp hpp h3
  exact ⟨h.is.kept (fun k hk => hc.block k (h.is.mine_lt hk).2 fun hm => h1 k hm hk) hc.size, h.rf.frame (fun k hk => hc.block k (h.rf.lt k hk) fun hm => h2 k hm hk) hc.size, by rw [← h.p0]; simp only [World.cell?, e], by rw [← h.p1]; simp only [World.cell?, e]⟩
theorem Pw.below {pp hp mp : Nat} {w w' : World} {S : List St} {most : Int} {v : Value} {A : RA} {Y : Nat → Prop} (h : Pw pp hp mp w S most v A Y) (hb : Below w.heap.size w w') : Pw pp hp mp w' S most v A Y :=
  h.chg (M := fun _ => False) (Chg.of_below hb fun _ hk _ => hk) (fun _ h => h.elim) (fun _ h => h.elim) id

/-- what was seen together -/
def Seen (φ : Nat → Nat) (l : List (Int × Value)) : Prop := ∀ p ∈ l, ∃ k : Nat, p = ((k : Int), .agg #[.bool true, .int .i64 (φ k : Nat)])
theorem lookup_mem {q : Int} {x : Value} : ∀ {l : List (Int × Value)}, l.lookup q = some x → (q, x) ∈ l
  | [], h => by cases h
  | p :: l, h => by
    rw [List.lookup_cons] at h
    split at h
    · rename_i e
      cases h
      have : q = p.1 := by simpa using e
      rw [this]; exact List.mem_cons_self
    · exact List.mem_cons_of_mem _ (lookup_mem h)

set_option maxHeartbeats 2000000 in
theorem alike_spec {pp hp mp mb : Nat} {S : List St} {most : Int} {v : Value} {φ : Nat → Nat} {A : RA} {Y : Nat → Prop} (hi : Iso φ S A) (m1 : ¬ Mine hp S v mb) (m2 : ¬ Y mb) (m3 : pp ≠ mb) : ∀ (f : Nat) (w : World) (a : Val) (b : RV) (l : List (Int × Value)), Pw pp hp mp w S most v A Y → b.st + 1 < f → VR φ A a b → MMap w mb .i64 l → Seen φ l →
    Calls Tryd.prog 21 #[.pointer (some ⟨pp, 0, none⟩), .agg #[.bool a.ref, .int .i64 a.n], .agg #[.int .i64 b.st, .int .i64 b.n], .map (some mb)] w fun e w' => e = .returned (.bool true) ∧ Chg (fun k => k = mb) w w' ∧ ∃ l', MMap w' mb .i64 l' ∧ Seen φ l' := by
  intro f
  induction f with
  | zero =>
    intro w a b l _ hf h1 _ _
    rcases h1 with ⟨h, _⟩ | ⟨k, rfl, _, _⟩
    · omega
    · simp only at hf; omega
  | succ f ih =>
    intro w a b l hw hf hv hm hs
    refine (Vg.alike.calls (R := fun x w' => x = .bool true ∧ Chg (fun k => k = mb) w w' ∧ ∃ l', MMap w' mb .i64 l' ∧ Seen φ l') ?_).mono (fun x w' ⟨v, h1, h2, h3⟩ => ⟨by rw [h1, h2], h3⟩)
    unfold Vg.alike.W
    obtain ⟨es, ck, hmb, hes⟩ := hm
    have hmlt := lt_of_block hmb
    have hpp : pp < w.heap.size := cellsAt_lt (vs := []) ⟨hw.p0, trivial⟩
    refine box fun w6 at6 hb6 hs6 => box fun w7 at7 hb7 hs7 => ?_
    have at6' := block_below hb7 (by omega) at6
    have b7 : Below w.heap.size w w7 := hb6.trans (hb7.mono (by omega))
    have map7 : MMap w7 mb .i64 l := ⟨es, ck, block_below b7 hmlt hmb, hes⟩
    refine ⟨_, cell_of_block at7 rfl, ifD (fun hneg => ?_) (fun hpos => ?_)⟩
    · rcases hv with ⟨e1, rfl⟩ | ⟨k, rfl, _, rfl⟩
      · refine ⟨_, cell_of_block at6' rfl, ifN (fun _ => ⟨_, cell_of_block at6' rfl, _, cell_of_block at7 rfl, by simp, Chg.of_below b7 fun k hk _ => hk, l, map7, hs⟩) (fun h => nomatch h)⟩
      · simp only at hneg; omega
    obtain ⟨k, rfl, lk, rfl⟩ : ∃ k : Nat, b = ⟨k, 0⟩ ∧ live A k ∧ a = ⟨true, (φ k : Nat)⟩ := by
      rcases hv with ⟨e1, _⟩ | h
      · omega
      · exact h
    refine ⟨_, cell_of_block at7 rfl, ?_⟩
    have hlook := lookup_mm (P := Tryd.prog) (q := (k : Int)) map69 (zero30 w7) Tryd.underlying3 map7 true
    simp only [if_true] at hlook
    cases hq : l.lookup (k : Int) with
    | some x =>
      obtain ⟨k', e⟩ := hs _ (lookup_mem hq)
      simp only [Prod.mk.injEq] at e
      obtain ⟨e1, rfl⟩ := e
      have : k = k' := by omega
      subst this
      rw [hq] at hlook
      simp only [Option.getD_some, Option.isSome_some] at hlook
      refine ⟨_, _, _, hlook, copyStep rfl rfl fun w17 at17 hb17 hs17 => ifB (fun _ => ?_) (fun h => nomatch h)⟩
      have at6a := block_below hb17 (by omega) at6'
      refine ⟨_, _, cellsAt_of_block at17 [.bool true, .int .i64 (φ k : Nat)] 0 rfl, _, _, cellsAt_of_block at6a [.bool true, .int .i64 (φ k : Nat)] 0 rfl, _, val_eq w17 _ _ ⟨true, (φ k : Nat)⟩ ⟨true, (φ k : Nat)⟩, by simp, ?_, l, ⟨es, ck, block_below hb17 (by omega) (block_below b7 hmlt hmb), hes⟩, hs⟩
      exact Chg.of_below (b7.trans (hb17.mono (by omega))) fun k hk _ => hk
    | none =>
      rw [hq] at hlook
      simp only [Option.getD_none, Option.isSome_none] at hlook
      refine ⟨_, _, _, hlook, copyStep rfl rfl fun w17 at17 hb17 hs17 => ifB (fun h => nomatch h) (fun _ => ?_)⟩
      have at6a := block_below hb17 (by omega) at6'
      have at7a := block_below hb17 (by omega) at7
      have b17 : Below w.heap.size w w17 := b7.trans (hb17.mono (by omega))
      obtain ⟨w26, bb, hr26, map26, hs26, same26, chg26⟩ := update_mm (P := Tryd.prog) (q := (k : Int)) (v := .agg #[.bool true, .int .i64 (φ k : Nat)]) map69 Tryd.underlying3 (block_below b17 hmlt hmb) hes hq
      refine ⟨_, cell_of_block at7a rfl, _, _, cellsAt_of_block at6a [.bool true, .int .i64 (φ k : Nat)] 0 rfl, w26, hr26, drewStep fun w27 e27 hb27 => ?_⟩
      have c27 : Chg (fun j => j = mb) w w27 := ((Chg.of_below b17 fun k hk _ => hk).trans chg26 fun k _ h => h).trans (Chg.of_below hb27 fun k hk _ => hk) fun k _ h => h
      have fresh : ∀ j, w.heap.size ≤ j → w27.heap[j]? = w17.heap[j]? := fun j hj => (by rw [e27] : w27.heap[j]? = w26.heap[j]?).trans (same26 j (by omega))
      have at6b : w27.heap[w.heap.size]? = _ := (fresh _ (Nat.le_refl _)).trans at6a
      have at7b : w27.heap[w6.heap.size]? = _ := (fresh _ (by omega)).trans at7a
      have s27 : w27.heap.size = w17.heap.size := by rw [e27, hs26]
      have map27 : w27.heap[mb]? = _ := (by rw [e27] : w27.heap[mb]? = w26.heap[mb]?).trans map26
      have hes' : (es.push { key := .int .i64 (k : Int), val := .agg #[.bool true, .int .i64 (φ k : Nat)], born := bb }).toList.map (fun e => (e.key, e.val)) = (l ++ [((k : Int), Value.agg #[.bool true, .int .i64 (φ k : Nat)])]).map fun p => (Value.int .i64 p.1, p.2) := by simp [hes]
      have hs' : Seen φ (l ++ [((k : Int), Value.agg #[.bool true, .int .i64 (φ k : Nat)])]) := fun p hp => by
        rcases List.mem_append.1 hp with hp | hp
        · exact hs p hp
        · rw [List.mem_singleton] at hp; exact ⟨k, hp⟩
      generalize hl' : l ++ [((k : Int), Value.agg #[.bool true, .int .i64 (φ k : Nat)])] = l' at hes' hs'
      have hw27 : Pw pp hp mp w27 S most v A Y := hw.chg c27 (fun _ h => h ▸ m1) (fun _ h => h ▸ m2) m3
      obtain ⟨s, hsk, hg⟩ := lk
      obtain ⟨v1, t1, hbx, _, hrows⟩ := hw27.rf.box
      obtain ⟨g, c, rfl, hYg, a40, c42, hrow, hc1, hc2, hargs, hargY⟩ := hrows k s hsk
      have hklt := (List.getElem?_eq_some_iff.1 hsk).1
      refine ⟨_, _, rfl, _, hw27.p1, _, _, rfl, _, _, _, cell_of_block hbx rfl, _, cell_of_block at7b rfl, g, 0, rfl, by simp only; omega, by simp only; omega, _, _, _, _, _, _, _, by simpa using hrow, ?_⟩
      have hglt : g < w27.heap.size := cellsAt_lt hrow
      have hmp : mp < w27.heap.size := lt_of_block hbx
      have hpp27 : pp < w27.heap.size := by have := c27.size; omega
      refine box fun w46 at46 hb46 hs46 => ?_
      refine ⟨cellsAt_below hb46 hglt (by simpa using hrow), ⟨cell_of_block (block_below hb46 (by omega) at7b) rfl, trivial⟩, ⟨cell_of_block (block_below hb46 hmp hbx) rfl, trivial⟩, ⟨cell_below hb46 hpp27 hw27.p1, trivial⟩, setStep at46 (by simp) rfl fun w47 at47 same47 hs47 chg47 => ?_⟩
      have at47' : w47.heap[w27.heap.size]? = some (.cells #[.int .i64 s.ctor, .slice a40 s.args.length c42, .int .i64 s.nodes, .int .i64 s.depth, .bool s.gone] 103 (0, 0)) := at47
      have b47 : Below w27.heap.size w27 w47 := hb46.trans (chg47.below (by omega) fun k hk h => by omega)
      refine drewStep fun w48 e48 hb48 => ?_
      have b48 : Below w27.heap.size w27 w48 := b47.trans (hb48.mono (by omega))
      have s48 : w48.heap.size = w47.heap.size := by rw [e48]
      have hw48 := hw27.below b48
      have at6c := block_below b48 (by omega) at6b
      have at48 : w48.heap[w27.heap.size]? = _ := (by rw [e48] : w48.heap[w27.heap.size]? = w47.heap[w27.heap.size]?).trans at47'
      obtain ⟨s', fs, x1, x2, x3, x4⟩ := hi.st k s hsk hg
      have gk := hi.good hv
      have lx := x4.len
      refine ⟨_, _, rfl, _, hw48.p0, _, _, cellsAt_of_block at6c [.bool true, .int .i64 (φ k : Nat)] 0 rfl, (Get_ok hw48.is (φ k) s' gk (by simpa using fs)).mono ?_⟩
      rintro _ w54 ⟨a57, c59, rfl, hb54, own54⟩
      have b54 : Below w27.heap.size w27 w54 := b48.trans (hb54.mono b48.size)
      have s54 := hb54.size
      refine ⟨_, _, _, _, _, rfl, drewStep fun w61 e61 hb61 => ?_⟩
      have b61 : Below w27.heap.size w27 w61 := b54.trans (hb61.mono b54.size)
      have hw61 := hw27.below b61
      have at6d := block_below b61 (by omega) at6b
      have s61 : w61.heap.size = w54.heap.size := by rw [e61]
      refine ⟨_, _, rfl, _, hw61.p0, _, _, cellsAt_of_block at6d [.bool true, .int .i64 (φ k : Nat)] 0 rfl, (Nodes_ok hw61.is true (φ k) gk).mono ?_⟩
      rintro _ w67 ⟨rfl, hb67⟩
      have b67 : Below w27.heap.size w27 w67 := b61.trans (hb67.mono b61.size)
      have s67 := hb67.size
      have at6e := block_below b67 (by omega) at6b
      have b4867 : Below w48.heap.size w48 w67 := hb54.trans ((hb61.trans (hb67.mono (by omega))).mono (by omega))
      have at67 := block_below b4867 (by omega) at48
      have hn : nodesOf S ⟨true, (φ k : Nat)⟩ = s.nodes := by
        simp only [nodesOf, if_true, Int.toNat_natCast, fs]; exact x2
      refine ⟨_, _, rfl, _, cell_of_block at6e rfl, ifN (fun h => nomatch h) (fun _ => ⟨true, .inl ⟨rfl, rfl⟩, ifN (fun h => nomatch h) (fun _ => ⟨true, .inl ⟨rfl, rfl⟩, ifN (fun h => nomatch h) (fun _ => ?_)⟩)⟩)⟩
      refine ⟨_, cell_of_block at67 rfl, ifNE (fun h => absurd x1 h) (fun _ => ⟨_, _, _, cell_of_block at67 rfl, ifNE (fun h => absurd (by omega) h) (fun _ => ⟨_, cell_of_block at67 rfl, ifNE (fun h => absurd hn h) (fun _ => ?_)⟩)⟩)⟩
      have c67 : Chg (fun j => j = mb) w w67 := c27.trans (Chg.of_below b67 fun k hk _ => hk) fun k _ h => h
      have map67 : MMap w67 mb .i64 l' := ⟨_, _, block_below b67 (lt_of_block map27) map27, hes'⟩
      have hok := hw.is.ok s' (find_mem fs)
      have l8 := hok.2.2.1
      have hmb27 := lt_of_block map27
      refine ⟨fun us w2 => ∃ (q : Nat) (l2 : List (Int × Value)), q ≤ s'.args.length ∧ us = [.int .i64 q] ∧ MMap w2 mb .i64 l2 ∧ Seen φ l2 ∧ Chg (fun j => j = mb) w67 w2, fun us _ => match us with | [.int _ q] => s'.args.length - q.toNat | _ => 0, ⟨0, l', Nat.zero_le _, rfl, map67, hs', Chg.refl _ _⟩, ?_⟩
      rintro _ us w81 ⟨q, l2, hq2, rfl, map81, seen81, c81⟩
      have hc81 := c81.size
      refine ⟨_, rfl, ifD (fun hlt => ?_) (fun hge => ?_)⟩
      · have hq1 : q < s'.args.length := by omega
        refine drewStep fun w85 e85 hb85 => ?_
        have c85 : Chg (fun j => j = mb) w67 w85 := c81.trans (Chg.of_below hb85 fun k hk _ => hk) fun k _ h => h
        obtain ⟨es81, ck81, hm81, he81⟩ := map81
        have map85 : MMap w85 mb .i64 l2 := ⟨es81, ck81, block_below hb85 (lt_of_block hm81) hm81, he81⟩
        obtain ⟨a', c', e', hcell⟩ := own_vals own54 rfl
        cases e'
        obtain ⟨g', rfl, hg0, hg1, hcc⟩ := hcell q hq1
        have hcc67 := cellsAt_below (hb61.trans (hb67.mono (by omega))) hg1 hcc
        have hcc85 := cellsAt_same (c85.block g' (by omega) (by omega)) hcc67
        have at85 : w85.heap[w27.heap.size]? = _ := (c85.block _ (lt_of_block at67) (by omega)).trans at67
        obtain ⟨bB, oB, rfl, hcB⟩ := hargs (by omega)
        have hYB := hargY bB oB (by omega) rfl
        have hBlt : bB < w27.heap.size := hw27.rf.lt bB hYB
        have hBne : bB ≠ mb := fun e => m2 (e ▸ hYB)
        have xq := List.getElem?_eq_getElem (l := s.args) (i := q) (by omega)
        obtain ⟨r1, r2⟩ := Vr.rflat_get xq
        have k1 := Vr.cellsAt_at hcB r1
        have k2 := Vr.cellsAt_at hcB r2
        have hcB67 : cellsAt w67 bB (oB + q * 2) [.int .i64 s.args[q].st, .int .i64 s.args[q].n] := cellsAt_below b67 hBlt ⟨k1, by rw [show oB + q * 2 + 1 = oB + (q * 2 + 1) by omega]; exact k2, trivial⟩
        have hcB85 := cellsAt_same (c85.block bB (by have := b67.size; omega) hBne) hcB67
        have vq := x4.get (List.getElem?_eq_getElem hq1) xq
        have hw85 : Pw pp hp mp w85 S most v A Y := (hw27.below b67).chg c85 (fun _ h => h ▸ m1) (fun _ h => h ▸ m2) m3
        have hlt1 : s.args[q].st < k := by
          rcases hi.old k s _ hsk (List.mem_of_getElem? xq) with e | ⟨i, e, hij⟩
          · rw [e]; omega
          · rw [e]; simp only; omega
        refine ⟨g', 0, rfl, by omega, by omega, _, _, (by simpa [Val.cs] using hcc85), _, _, _, cell_of_block at85 rfl, bB, oB, rfl, by omega, by omega, _, _, (by simpa using hcB85), (ih w85 _ _ l2 hw85 (by simp only at hf; omega) vq map85 seen81).mono ?_⟩
        rintro _ w97 ⟨rfl, c97, l3, map97, seen97⟩
        refine ⟨_, rfl, ifN (fun h => nomatch h) (fun _ => ?_)⟩
        rw [w64 (by omega) (by omega)]
        exact ⟨⟨q + 1, l3, hq1, rfl, map97, seen97, c85.trans c97 fun k _ h => h⟩, by simp only; omega⟩
      · exact ⟨rfl, c67.trans c81 fun k _ h => h, l2, map81, seen81⟩
end Go.Proofs.YtfenhbjamohdgaaDoor.Vf
end

/- part H5L -/
section
namespace Go.Proofs.YtfenhbjamohdgaaDoor.Vf
open Go.Vx Go.Vx.Hp Go.RowKit Vr

theorem and7 (n : Int) : ∃ k : Nat, k < 8 ∧ IntKind.i64.wrap ((BitVec.ofInt IntKind.i64.bits n &&& BitVec.ofInt IntKind.i64.bits (7 : Int)).toNat) = (k : Int) := by
  refine ⟨(BitVec.ofInt IntKind.i64.bits n &&& BitVec.ofInt IntKind.i64.bits (7 : Int)).toNat, ?_, ?_⟩
  · rw [BitVec.toNat_and]
    have : (BitVec.ofInt IntKind.i64.bits (7 : Int)).toNat = 7 := by decide
    rw [this]
    exact Nat.lt_succ_of_le Nat.and_le_right
  · have h : (BitVec.ofInt IntKind.i64.bits n &&& BitVec.ofInt IntKind.i64.bits (7 : Int)).toNat ≤ 7 := by
      rw [BitVec.toNat_and]
      have : (BitVec.ofInt IntKind.i64.bits (7 : Int)).toNat = 7 := by decide
      rw [this]
      exact Nat.and_le_right
    exact w64 (by omega) (by omega)

def pcells (hp mp : Nat) (av : List Val) (bw : List RV) : Array Value := (.pointer (some ⟨hp, 0, none⟩) :: .pointer (some ⟨mp, 0, none⟩) :: (vflat av ++ rflat bw)).toArray
theorem rflat_at {w : World} {g o : Nat} {B : List RV} (h : cellsAt w g o (rflat B)) {i : Nat} {b : RV} (hb : B[i]? = some b) : cellsAt w g (o + i * 2) (rcs b) := by
  obtain ⟨h1, h2⟩ := rflat_get hb
  exact ⟨cellsAt_at h h1, by rw [show o + i * 2 + 1 = o + (i * 2 + 1) by omega]; exact cellsAt_at h h2, trivial⟩
section
variable {pp hp mp : Nat} {w : World} {av : List Val} {bw : List RV}
theorem pblk_v (h : w.heap[pp]? = some (.cells (pcells hp mp av bw) 66 (0, 0))) {i : Nat} (hi : i < av.length) : cellsAt w pp (0 + 2 + i * 2) [.bool av[i].ref, .int .i64 av[i].n] := by
  have : cellsAt w pp 2 (vflat av) := cellsAt_of_block h _ 2 (by simp [pcells])
  exact vflat_at this hi
theorem pblk_w (h : w.heap[pp]? = some (.cells (pcells hp mp av bw) 66 (0, 0))) (la : av.length = 8) {i : Nat} {b : RV} (hb : bw[i]? = some b) : cellsAt w pp (0 + 18 + i * 2) [.int .i64 b.st, .int .i64 b.n] := by
  have : cellsAt w pp 18 (rflat bw) := cellsAt_of_block h _ 18 (by
    have : (pcells hp mp av bw).toList.drop 18 = rflat bw := by
      rw [pcells, List.toList_toArray, show 18 = 16 + 1 + 1 by rfl, List.drop_succ_cons, List.drop_succ_cons, List.drop_append, List.drop_of_length_le (by rw [vflat_length, la]; omega), vflat_length, la]
      simp
    rw [this, List.take_length])
  exact rflat_at this hb
end

/-- two rows of one's own -/
structure Two (base : Nat) (w : World) (va vb : Value) (VA : List Val) (BA : List RV) : Prop where
  ra : w.ownsRow base 30 2 va VA.length (vflat VA)
  rb : w.ownsRow base 63 2 vb BA.length (rflat BA)
  ne : ∀ g, va.ownBlock = some g → vb.ownBlock ≠ some g
theorem Two.kept {base : Nat} {w w' : World} {va vb : Value} {VA : List Val} {BA : List RV} (h : Two base w va vb VA BA) (hb : Below w.heap.size w w') : Two base w' va vb VA BA :=
  ⟨own_below h.ra hb (Nat.le_refl _), own_below h.rb hb (Nat.le_refl _), h.ne⟩
theorem Two.pushA {base N : Nat} {w : World} {va vb : Value} {VA : List Val} {BA : List RV} (h : Two base w va vb VA BA) (hN : ∀ g, va.ownBlock = some g → g < N) (hb : base ≤ w.heap.size) {nb : Nat} {x : Val} (hc : cellsAt w nb 0 [.bool x.ref, .int .i64 x.n]) (hl : VA.length ≤ 1000) :
    ∃ a c w', Runs Tryd.prog (Builtin.append_ #[33, 33] 33 #[va, .slice (some ⟨nb, 0, none⟩) 1 1]) w (.slice a (VA ++ [x]).length c) w' ∧ Two base w' (.slice a (VA ++ [x]).length c) vb (VA ++ [x]) BA ∧ Chg (fun j => base ≤ j ∧ j < N) w w' := by
  obtain ⟨a, k, c, w', hr, rfl, ho, hg, hn⟩ := append_own (P := Tryd.prog) (ty := 33) Vg.ty33 rfl Vg.ty30 (by decide) h.ra (m := 1) (c := 1) (news := [.bool x.ref, .int .i64 x.n]) rfl hc rfl (by dsimp only; omega) (by omega) hb
  have el : VA.length + 1 = (VA ++ [x]).length := by simp
  refine ⟨a, c, w', el ▸ hr, ⟨?_, own_block h.rb fun g hg' => hg.block g (h.rb.lt g hg').2 fun e => h.ne g e.symm hg', fun g hg' => ?_⟩, ⟨hg.os, hg.tape, hg.output, hg.size, fun k hk hm => hg.block k hk fun e => hm ⟨(h.ra.lt k e.symm).1, hN k e.symm⟩⟩⟩
  · rw [← el, vflat, List.flatMap_append]; exact ho
  · rw [← el] at hg'
    rcases hn with e | ⟨j, h1, h2⟩
    · exact h.ne g (by rw [← e]; exact hg')
    · intro e
      rw [h2] at hg'; cases hg'
      have := (h.rb.lt g e).2; omega
theorem Two.pushB {base N : Nat} {w : World} {va vb : Value} {VA : List Val} {BA : List RV} (h : Two base w va vb VA BA) (hN : ∀ g, vb.ownBlock = some g → g < N) (hb : base ≤ w.heap.size) {nb : Nat} {x : RV} (hc : cellsAt w nb 0 [.int .i64 x.st, .int .i64 x.n]) (hl : BA.length ≤ 1000) :
    ∃ a c w', Runs Tryd.prog (Builtin.append_ #[70, 70] 70 #[vb, .slice (some ⟨nb, 0, none⟩) 1 1]) w (.slice a (BA ++ [x]).length c) w' ∧ Two base w' va (.slice a (BA ++ [x]).length c) VA (BA ++ [x]) ∧ Chg (fun j => base ≤ j ∧ j < N) w w' := by
  obtain ⟨a, k, c, w', hr, rfl, ho, hg, hn⟩ := append_own (P := Tryd.prog) (ty := 70) Vg.ty70 rfl Vg.ty63 (by decide) h.rb (m := 1) (c := 1) (news := [.int .i64 x.st, .int .i64 x.n]) rfl hc rfl (by dsimp only; omega) (by omega) hb
  have el : BA.length + 1 = (BA ++ [x]).length := by simp
  refine ⟨a, c, w', el ▸ hr, ⟨own_block h.ra fun g hg' => hg.block g (h.ra.lt g hg').2 fun e => h.ne g hg' e.symm, ?_, fun g hg' e => ?_⟩, ⟨hg.os, hg.tape, hg.output, hg.size, fun k hk hm => hg.block k hk fun e => hm ⟨(h.rb.lt k e.symm).1, hN k e.symm⟩⟩⟩
  · rw [← el, rflat, List.flatMap_append]; exact ho
  · rw [← el] at e
    rcases hn with e' | ⟨j, h1, h2⟩
    · exact h.ne g hg' (by rw [← e']; exact e)
    · rw [h2] at e; cases e
      have := (h.ra.lt g hg').2; omega

theorem RInt_spec (n : Int) (w : World) : Calls Tryd.prog 18 #[.int .i64 n] w fun e w' => e = .returned (.agg #[.int .i64 (-1), .int .i64 n]) ∧ Below w.heap.size w w' := by
  refine (Vg.RInt.calls (R := fun x w' => x = .agg #[.int .i64 (-1), .int .i64 n] ∧ Below w.heap.size w w') ?_).mono (fun x w' ⟨v, h1, h2, h3⟩ => ⟨by rw [h1, h2], h3⟩)
  unfold Vg.RInt.W
  exact copyStep rfl rfl fun w2 at2 hb2 hs2 => ⟨_, _, cellsAt_of_block at2 [.int .i64 (-1), .int .i64 n] 0 rfl, rfl, hb2⟩
theorem ROf_spec (n : Int) (w : World) : Calls Tryd.prog 33 #[.int .i64 n] w fun e w' => e = .returned (.agg #[.int .i64 n, .int .i64 0]) ∧ Below w.heap.size w w' := by
  refine (Vg.ROf.calls (R := fun x w' => x = .agg #[.int .i64 n, .int .i64 0] ∧ Below w.heap.size w w') ?_).mono (fun x w' ⟨v, h1, h2, h3⟩ => ⟨by rw [h1, h2], h3⟩)
  unfold Vg.ROf.W
  exact copyStep rfl rfl fun w2 at2 hb2 hs2 => ⟨_, _, cellsAt_of_block at2 [.int .i64 n, .int .i64 0] 0 rfl, rfl, hb2⟩

theorem _root_.Go.Vx.Hp.VRs.pick {φ : Nat → Nat} {A : RA} {V : List Val} {B : List RV} (h : VRs φ A V B) {i : Nat} (hi : i < V.length) : ∃ b, B[i]? = some b ∧ VR φ A V[i] b := by
  have hb : i < B.length := by rw [← h.len]; exact hi
  exact ⟨B[i], List.getElem?_eq_getElem hb, h.get (List.getElem?_eq_getElem hi) (List.getElem?_eq_getElem hb)⟩

set_option maxHeartbeats 2000000 in
theorem pargs_spec {pp hp mp : Nat} {w : World} {av : List Val} {bw : List RV} {φ : Nat → Nat} {A : RA} (hblk : w.heap[pp]? = some (.cells (pcells hp mp av bw) 66 (0, 0))) (la : av.length = 8) (hvr : VRs φ A av bw) (L : List (Bool × Int)) (hl : L.length ≤ 12) (a1 : Option Addr) (c3 : Nat)
    (hL : ∀ j (h : j < L.length), ∃ b o, a1 = some ⟨b, o, none⟩ ∧ b < w.heap.size ∧ cellsAt w b (o + j * 2) [.bool L[j].1, .int .i64 L[j].2]) :
    Calls Tryd.prog 30 #[.pointer (some ⟨pp, 0, none⟩), .slice a1 L.length c3] w fun e w' => ∃ (VA : List Val) (BA : List RV) (a : Option Addr) (c : Nat) (a' : Option Addr) (c' : Nat), e = .returned (.tuple #[.slice a VA.length c, .slice a' BA.length c']) ∧ VA.length = L.length ∧ VRs φ A VA BA ∧ Below w.heap.size w w' ∧
      Two w.heap.size w' (.slice a VA.length c) (.slice a' BA.length c') VA BA := by
  refine (Vg.pargs.calls (R := fun x w' => ∃ (VA : List Val) (BA : List RV) (a : Option Addr) (c : Nat) (a' : Option Addr) (c' : Nat), x = .tuple #[.slice a VA.length c, .slice a' BA.length c'] ∧ VA.length = L.length ∧ VRs φ A VA BA ∧ Below w.heap.size w w' ∧
      Two w.heap.size w' (.slice a VA.length c) (.slice a' BA.length c') VA BA) ?_).mono (fun x w' ⟨v, h1, VA, BA, a, c, a', c', h2, h3⟩ => ⟨VA, BA, a, c, a', c', by rw [h1, h2], h3⟩)
  unfold Vg.pargs.W
  have hpp := lt_of_block hblk
  refine box fun w4 at4 hb4 hs4 => box fun w5 at5 hb5 hs5 => ?_
  have at4' := block_below hb5 (by omega) at4
  have b5 : Below w.heap.size w w5 := hb4.trans (hb5.mono (by omega))
  have two5 : Two w.heap.size w5 (.slice (some ⟨w.heap.size, 0, none⟩) ([] : List Val).length 0) (.slice (some ⟨w4.heap.size, 0, none⟩) ([] : List RV).length 0) [] [] :=
    ⟨⟨by simp [vflat], .inr ⟨w.heap.size, 0, _, rfl, Nat.le_refl _, at4', Nat.le_refl _, by simp [maxLen], by simp, by simp [vflat]⟩⟩, ⟨by simp [rflat], .inr ⟨w4.heap.size, 0, _, rfl, by omega, at5, Nat.le_refl _, by simp [maxLen], by simp, by simp [rflat]⟩⟩, fun g h e => by
      have h' : w.heap.size = g := by simpa [Value.ownBlock] using h
      have e' : w4.heap.size = g := by simpa [Value.ownBlock] using e
      omega⟩
  refine ⟨fun us w2 => ∃ (VA : List Val) (BA : List RV) (a : Option Addr) (c : Nat) (a' : Option Addr) (c' : Nat), us = [.slice a VA.length c, .slice a' BA.length c', .int .i64 VA.length] ∧ VA.length ≤ L.length ∧ VRs φ A VA BA ∧ Below w.heap.size w w2 ∧ Two w.heap.size w2 (.slice a VA.length c) (.slice a' BA.length c') VA BA,
    fun us _ => match us with | [_, _, .int _ i] => L.length - i.toNat | _ => 0, ⟨[], [], _, _, _, _, rfl, Nat.zero_le _, .nil, b5, two5⟩, ?_⟩
  rintro _ us w8 ⟨VA, BA, a11, c13, a14, c16, rfl, hi, hv, b8, two8⟩
  have s8 := b8.size
  have hBA := hv.len
  refine ⟨_, _, _, _, _, _, _, rfl, ifD (fun hlt => ?_) (fun hge => ?_)⟩
  · have hi' : VA.length < L.length := by omega
    obtain ⟨b, o, rfl, hbl, hc⟩ := hL _ hi'
    refine ⟨b, o, rfl, by omega, hlt, L[VA.length].1, L[VA.length].2, cellsAt_below b8 hbl (by simpa using hc), copyStep rfl rfl fun w23 at23 hb23 hs23 => ?_⟩
    have hNa : ∀ g, (Value.slice a11 VA.length c13).ownBlock = some g → g < w8.heap.size := fun g hg => (two8.ra.lt g hg).2
    have hNb : ∀ g, (Value.slice a14 BA.length c16).ownBlock = some g → g < w8.heap.size := fun g hg => (two8.rb.lt g hg).2
    have fin : ∀ (x : Val) (y : RV) (a a' : Option Addr) (c c' : Nat) (w' : World), VR φ A x y → Chg (fun j => w.heap.size ≤ j ∧ j < w8.heap.size) w8 w' → Two w.heap.size w' (.slice a (VA ++ [x]).length c) (.slice a' (BA ++ [y]).length c') (VA ++ [x]) (BA ++ [y]) →
        ((∃ (VA' : List Val) (BA' : List RV) (a2 : Option Addr) (c2 : Nat) (a2' : Option Addr) (c2' : Nat), [Value.slice a (VA ++ [x]).length c, .slice a' (BA ++ [y]).length c', .int .i64 (IntKind.i64.wrap ((VA.length : Int) + 1))] = [.slice a2 VA'.length c2, .slice a2' BA'.length c2', .int .i64 VA'.length] ∧ VA'.length ≤ L.length ∧ VRs φ A VA' BA' ∧ Below w.heap.size w w' ∧ Two w.heap.size w' (.slice a2 VA'.length c2) (.slice a2' BA'.length c2') VA' BA') ∧
          L.length - (IntKind.i64.wrap ((VA.length : Int) + 1)).toNat < L.length - ((VA.length : Int)).toNat) := fun x y a a' c c' w' hxy hch htwo => by
      rw [w64 (by omega) (by omega)]
      exact ⟨⟨VA ++ [x], BA ++ [y], a, c, a', c', by simp, by simp; omega, hv.snoc hxy, b8.trans (hch.below s8 fun k hk h => by omega), htwo⟩, by omega⟩
    refine ⟨_, cell_of_block at23 rfl, ifB (fun hvar => ?_) (fun hint => ?_)⟩
    · refine drewStep fun w25 e25 hb25 => ?_
      have b25 : Below w8.heap.size w8 w25 := hb23.trans (hb25.mono (by omega))
      have s25 : w25.heap.size = w23.heap.size := by rw [e25]
      have at25 : w25.heap[w8.heap.size]? = _ := e25 ▸ at23
      have hblk25 := block_below b25 (by omega) (block_below b8 hpp hblk)
      obtain ⟨k, hk8, ek⟩ := and7 L[VA.length].2
      obtain ⟨y, hy, hxy⟩ := hvr.pick (i := k) (by omega)
      have tk : ((k : Int)).toNat = k := by simp
      have cv := pblk_v hblk25 (i := k) (by omega)
      have cw := pblk_w hblk25 la hy
      have two25 := two8.kept b25
      have stay : ∀ (w' : World), Chg (fun j => w.heap.size ≤ j ∧ j < w8.heap.size) w25 w' → cellsAt w' pp (0 + 2 + k * 2) [.bool av[k].ref, .int .i64 av[k].n] ∧ cellsAt w' pp (0 + 18 + k * 2) [.int .i64 y.st, .int .i64 y.n] ∧ cellsAt w' w8.heap.size 1 [.int .i64 L[VA.length].2] := fun w' hst => by
        have e1 := hst.block pp (by omega) (by omega)
        have e2 := hst.block w8.heap.size (by omega) (by omega)
        exact ⟨cellsAt_same e1 cv, cellsAt_same e1 cw, ⟨cell_same e2 (cell_of_block at25 rfl), trivial⟩⟩
      have bel : ∀ {u u' : World}, Below u.heap.size u u' → Chg (fun j => w.heap.size ≤ j ∧ j < w8.heap.size) u u' := fun hb => Chg.of_below hb fun k hk _ => hk
      have c8 := bel b25
      refine ⟨L[VA.length].2, cell_of_block at25 rfl, ?_⟩
      rw [ek]
      refine ⟨pp, 0, rfl, by omega, by omega, _, _, cv, L[VA.length].2, cell_of_block at25 rfl, ?_⟩
      rw [ek]
      refine ⟨pp, 0, rfl, by omega, by omega, _, _, cw, ?_, ?_⟩
      · refine box fun w36 at36 hb36 hs36 => ?_
        have c36 := bel hb36
        obtain ⟨v1, v2, v3⟩ := stay w36 c36
        refine ⟨v2, v3, ?_, ?_⟩
        · obtain ⟨a37, c39, w40, hr40, two40, ch40⟩ := (two25.kept hb36).pushA hNa (by omega) (cellsAt_of_block at36 [.bool av[k].ref, .int .i64 av[k].n] 0 rfl) (by omega)
          have c40 := c36.trans ch40 fun _ _ h => h
          obtain ⟨_, u2, u3⟩ := stay w40 c40
          refine ⟨_, _, _, w40, hr40, u2, u3, box fun w41 at41 hb41 hs41 => ?_⟩
          have c41 := c40.trans (bel hb41) fun _ _ h => h
          obtain ⟨t1, _, t3⟩ := stay w41 c41
          have := c40.size
          obtain ⟨a42, c44, w45, hr45, two45, ch45⟩ := (two40.kept hb41).pushB hNb (by omega) (cellsAt_of_block at41 [.int .i64 y.st, .int .i64 y.n] 0 rfl) (by omega)
          exact ⟨t1, t3, _, _, _, w45, hr45, fin _ _ _ _ _ _ w45 hxy ((c8.trans c41 fun _ _ h => h).trans ch45 fun _ _ h => h) two45⟩
        · refine box fun w46 at46 hb46 hs46 => ?_
          have c46 := c36.trans (bel hb46) fun _ _ h => h
          obtain ⟨t1, _, t3⟩ := stay w46 c46
          obtain ⟨a47, c49, w50, hr50, two50, ch50⟩ := ((two25.kept hb36).kept hb46).pushA hNa (by omega) (cellsAt_of_block (block_below hb46 (by omega) at36) [.bool av[k].ref, .int .i64 av[k].n] 0 rfl) (by omega)
          have c50 := c46.trans ch50 fun _ _ h => h
          obtain ⟨_, u2, u3⟩ := stay w50 c50
          have at50 := (ch50.block w36.heap.size (by omega) (by omega)).trans at46
          have := ch50.size
          obtain ⟨a51, c53, w54, hr54, two54, ch54⟩ := two50.pushB hNb (by omega) (cellsAt_of_block at50 [.int .i64 y.st, .int .i64 y.n] 0 rfl) (by omega)
          exact ⟨t1, t3, _, _, _, w50, hr50, u2, u3, _, _, _, w54, hr54, fin _ _ _ _ _ _ w54 hxy ((c8.trans c50 fun _ _ h => h).trans ch54 fun _ _ h => h) two54⟩
      · refine box fun w55 at55 hb55 hs55 => ?_
        have c55 := bel hb55
        obtain ⟨t1, _, t3⟩ := stay w55 c55
        refine ⟨t1, t3, box fun w56 at56 hb56 hs56 => ?_⟩
        have c56 := c55.trans (bel hb56) fun _ _ h => h
        obtain ⟨_, v2, v3⟩ := stay w56 c56
        obtain ⟨a57, c59, w60, hr60, two60, ch60⟩ := ((two25.kept hb55).kept hb56).pushA hNa (by omega) (cellsAt_of_block at56 [.bool av[k].ref, .int .i64 av[k].n] 0 rfl) (by omega)
        have c60 := c56.trans ch60 fun _ _ h => h
        obtain ⟨_, u2, u3⟩ := stay w60 c60
        have at60 := (ch60.block w25.heap.size (by omega) (by omega)).trans (block_below hb56 (by omega) at55)
        have := ch60.size
        obtain ⟨a61, c63, w64, hr64, two64, ch64⟩ := two60.pushB hNb (by omega) (cellsAt_of_block at60 [.int .i64 y.st, .int .i64 y.n] 0 rfl) (by omega)
        exact ⟨v2, v3, _, _, _, w60, hr60, u2, u3, _, _, _, w64, hr64, fin _ _ _ _ _ _ w64 hxy ((c8.trans c60 fun _ _ h => h).trans ch64 fun _ _ h => h) two64⟩
    · refine drewStep fun w65 e65 hb65 => ?_
      have b65 : Below w8.heap.size w8 w65 := hb23.trans (hb65.mono (by omega))
      have s65 : w65.heap.size = w23.heap.size := by rw [e65]
      have at65 : w65.heap[w8.heap.size]? = _ := e65 ▸ at23
      have bel : ∀ {u u' : World}, Below u.heap.size u u' → Chg (fun j => w.heap.size ≤ j ∧ j < w8.heap.size) u u' := fun hb => Chg.of_below hb fun k hk _ => hk
      refine ⟨L[VA.length].2, cell_of_block at65 rfl, L[VA.length].2, cell_of_block at65 rfl, box fun w68 at68 hb68 hs68 => ?_⟩
      have at68' := block_below hb68 (by omega) at65
      obtain ⟨a69, c71, w72, hr72, two72, ch72⟩ := ((two8.kept b65).kept hb68).pushA (x := ⟨false, L[VA.length].2⟩) hNa (by omega) (cellsAt_of_block at68 [.bool false, .int .i64 L[VA.length].2] 0 rfl) (by omega)
      have := ch72.size
      have at72 := (ch72.block w8.heap.size (by omega) (by omega)).trans at68'
      refine ⟨⟨cell_of_block at68' rfl, trivial⟩, _, _, _, w72, hr72, ⟨cell_of_block at72 rfl, trivial⟩, (RInt_spec _ w72).mono ?_⟩
      rintro _ w73 ⟨rfl, hb73⟩
      have := hb73.size
      refine ⟨_, _, rfl, box fun w77 at77 hb77 hs77 => ?_⟩
      obtain ⟨a78, c80, w81, hr81, two81, ch81⟩ := ((two72.kept hb73).kept hb77).pushB (x := ⟨-1, L[VA.length].2⟩) hNb (by omega) (cellsAt_of_block at77 [.int .i64 (-1), .int .i64 L[VA.length].2] 0 rfl) (by omega)
      exact ⟨_, _, _, w81, hr81, fin _ _ _ _ _ _ w81 (.inl ⟨rfl, rfl⟩) (((((bel b65).trans (bel hb68) fun _ _ h => h).trans ch72 fun _ _ h => h).trans ((bel hb73).trans (bel hb77) fun _ _ h => h) fun _ _ h => h).trans ch81 fun _ _ h => h) two81⟩
  · have e : VA.length = L.length := by omega
    exact ⟨VA, BA, _, _, _, _, rfl, e, hv, b8, two8⟩
end Go.Proofs.YtfenhbjamohdgaaDoor.Vf
end

/- part H5M -/
section
namespace Go.Proofs.YtfenhbjamohdgaaDoor.Vn
open Go.Vx Go.Av Go.Vx.Hp Go.RowKit

def tabE : List Nat := [3, 4, 5, 2, 6, 7, 8, 9, 10, 11, 12, 13, 14, 0, 15, 1]
def rowsE : List (List V) := tabE.map fun x => [.err (some x)]
theorem rowE {i : Nat} {y : Nat} (h : tabE[i]? = some y) : List.take 1 (Av.rowAt rowsE i) = [.err (some y)] := by
  rw [rowsE, Av.rowAt, List.getD_eq_getElem?_getD, List.getElem?_map, h]; rfl
theorem Num_nil : PCalls ax 32 [.err none] fun r => r = [.int .i64 0] := Num.calls (K := fun r => r = [.int .i64 0]) (by unfold Num.W; rfl)
theorem Num_spec {x p : Nat} (hp : tabE[p]? = some x) (hm : ∀ i, i < p → tabE[i]? ≠ some x) : PCalls ax 32 [.err (some x)] fun r => r = [.int .i64 ((p + 1 : Nat) : Int)] := by
  refine Num.calls (K := fun r => r = [.int .i64 ((p + 1 : Nat) : Int)]) ?_
  have hp16 : p < 16 := (List.getElem?_eq_some_iff.1 hp).1
  unfold Num.W
  show ∃ _, _
  refine ⟨fun us => ∃ i : Nat, i ≤ p ∧ us = [.int .i64 i], fun us => match us with | .int _ i :: _ => 100 - i.toNat | _ => 0, ⟨0, Nat.zero_le _, rfl⟩, ?_⟩
  rintro n ⟨i, hi, e⟩
  cases e
  have hi16 : i < tabE.length := by show i < 16; omega
  refine ifD (fun hlt => ?_) (fun hge => absurd (show (i : Int) < 16 by omega) hge)
  have hy := List.getElem?_eq_getElem hi16
  generalize tabE[i] = y at hy
  refine ⟨by omega, hlt, some y, rowE (by simpa using hy), ?_⟩
  show cond (errEq (some x) (some y)) _ _
  unfold errEq
  have hw : IntKind.i64.wrap ((i : Int) + 1) = ((i + 1 : Nat) : Int) := by rw [w64 (by omega) (by omega)]; push_cast; rfl
  rw [hw]
  refine ifD (fun h => ?_) (fun h => ⟨⟨i + 1, ?_, rfl⟩, by simp only [Int.toNat_natCast]; omega⟩)
  · have hxy : x = y := by simpa using h
    subst hxy
    rcases Nat.lt_or_ge i p with hlt' | hge
    · exact absurd hy (hm i hlt')
    · have : i = p := by omega
      rw [this]
  · rcases Nat.lt_or_ge i p with hlt' | hge
    · omega
    · have : i = p := by omega
      subst this
      rw [hy] at hp; cases hp
      simp at h

/-- the errors' variables -/
structure Errs (W0 : World) (G : Nat → Value) : Prop where
  ok : ErrOk ax.P ax.gs ax.ift ax.tabs G
  sim : ∀ β, Sim ax.gs G W0 (fun b _ => b < W0.heap.size) β (mkS [])
theorem Errs.call {W0 w : World} {G : Nat → Value} (h : Errs W0 G) (hb : Below W0.heap.size W0 w) (e : Option Nat) (n : Int) (hP : PCalls ax 32 [.err e] fun r => r = [.int .i64 n]) (he : ∀ g, e = some g → g ∈ ax.gs) :
    Calls Tryd.prog 32 #[match (generalizing := false) e with | none => .nilIface | some g => G g] w fun x w' => x = .returned (.int .i64 n) ∧ Below w.heap.size w w' := by
  obtain ⟨hs, _⟩ := (h.sim fun _ => .bool false).below hb
  have hv : FV ax.gs G w (fun b _ => b < W0.heap.size) (.err e) (match (generalizing := false) e with | none => .nilIface | some g => G g) := by
    cases e with
    | none => exact .errn
    | some g =>
      obtain ⟨_, _, _, t, b, e1, _⟩ := hs.glob g (he g rfl)
      exact .errs g (he g rfl) t _ e1
  refine (hP G w _ (fun _ => .bool false) [_] h.ok hs (.cons (.fz _ _ hv) .nil)).mono ?_
  rintro x w' ⟨rs, obs', F', β', rvals, hk, rfl, hrr, hs', hst⟩
  cases obs' with
  | cons => exact hk.elim
  | nil =>
    have hk' : rs = [.int .i64 n] := hk
    subst hk'
    obtain ⟨v, vs, rfl, h1, h2⟩ := hrr.cons_inv
    obtain rfl := h2.nil_inv
    have hv : v = .int .i64 n := by
      cases h1 with
      | fz _ _ h => cases h; rfl
    subst hv
    have no : ∀ (b : Nat) i, ¬ Has (fun _ => Value.bool false) i (getO (mkS []) i) b := fun b i hi => by have := hi.1; simp [mkS, getO, Live] at this
    exact ⟨rfl, hst.os, hst.tape, hst.output, hst.size, fun b hb => hst.block b hb (no b)⟩
theorem Errs.cell {W0 w : World} {G : Nat → Value} (h : Errs W0 G) (hb : Below W0.heap.size W0 w) {g : Nat} (hg : g ∈ ax.gs) : w.cell? ⟨g, 0, none⟩ = some (G g) ∧ g < W0.heap.size := by
  obtain ⟨h1, h2, _⟩ := (h.sim fun _ => .bool false).glob g hg
  exact ⟨(hb.cell (p := ⟨g, 0, none⟩) h2).trans h1, h2⟩
end Go.Proofs.YtfenhbjamohdgaaDoor.Vn
end

/- part H5P -/
section
namespace Go.Proofs.YtfenhbjamohdgaaDoor.Vf
open Go.Vx
def AllocTail (pp ob vb : Nat) (k sn : Int) (u : World) (R : Value → World → Prop) : Prop :=
 (bif (k == (0 : Int)) then
 (withW (World.drew u) fun w47 =>
 (∃ (n48 : Int), World.cell? w47 ⟨ob, 1, none⟩ = some (.int .i64 n48) ∧ (∃ (n49 : Int), World.cell? w47 ⟨ob, 1, none⟩ = some (.int .i64 n49) ∧ (∃ (b50 : Bool) (n51 : Int), cellsAt w47 vb 0 [(.bool b50), (.int .i64 n51)] ∧ (∃ b52 f53, (some ⟨pp, 0, none⟩ : Option Addr) = some ⟨b52, f53, none⟩ ∧ (∃ b54 f55, (some ⟨pp, 0, none⟩ : Option Addr) = some ⟨b54, f55, none⟩ ∧ (Calls Tryd.prog 33 #[(.int .i64 sn)] w47 fun e57 w56 => ∃ (n58 : Int) (n59 : Int), e57 = .returned (.agg #[(.int .i64 n58), (.int .i64 n59)]) ∧ (cellsAt w56 vb 0 [(.bool b50), (.int .i64 n51)] ∧ cellsAt w56 ob 1 [(.int .i64 n49)] ∧ cellsAt w56 ob 1 [(.int .i64 n48)] ∧ (0 ≤ (IntKind.i64.wrap ((BitVec.ofInt IntKind.i64.bits n48 &&& BitVec.ofInt IntKind.i64.bits (7 : Int))).toNat) ∧ (IntKind.i64.wrap ((BitVec.ofInt IntKind.i64.bits n48 &&& BitVec.ofInt IntKind.i64.bits (7 : Int))).toNat) < ((8 : Nat) : Int) ∧ (canSt w56 b52 ((f53 + 2) + ((IntKind.i64.wrap ((BitVec.ofInt IntKind.i64.bits n48 &&& BitVec.ofInt IntKind.i64.bits (7 : Int))).toNat) : Int).toNat * 2) [(.bool b50), (.int .i64 n51)] ∧ withW (setL w56 b52 ((f53 + 2) + ((IntKind.i64.wrap ((BitVec.ofInt IntKind.i64.bits n48 &&& BitVec.ofInt IntKind.i64.bits (7 : Int))).toNat) : Int).toNat * 2) [(.bool b50), (.int .i64 n51)]) fun w60 =>
 (cellsAt w60 ob 1 [(.int .i64 n49)] ∧ (0 ≤ (IntKind.i64.wrap ((BitVec.ofInt IntKind.i64.bits n49 &&& BitVec.ofInt IntKind.i64.bits (7 : Int))).toNat) ∧ (IntKind.i64.wrap ((BitVec.ofInt IntKind.i64.bits n49 &&& BitVec.ofInt IntKind.i64.bits (7 : Int))).toNat) < ((8 : Nat) : Int) ∧ (canSt w60 b54 ((f55 + 18) + ((IntKind.i64.wrap ((BitVec.ofInt IntKind.i64.bits n49 &&& BitVec.ofInt IntKind.i64.bits (7 : Int))).toNat) : Int).toNat * 2) [(.int .i64 n58), (.int .i64 n59)] ∧ withW (setL w60 b54 ((f55 + 18) + ((IntKind.i64.wrap ((BitVec.ofInt IntKind.i64.bits n49 &&& BitVec.ofInt IntKind.i64.bits (7 : Int))).toNat) : Int).toNat * 2) [(.int .i64 n58), (.int .i64 n59)]) fun w61 =>
 (R (.bool true) w61))))))))))))))
 else
 (R (.bool true) u))
end Go.Proofs.YtfenhbjamohdgaaDoor.Vf
end

/- part H5O -/
section
namespace Go.Proofs.YtfenhbjamohdgaaDoor.Vf
open Go.Vx Go.Vx.Hp Go.RowKit Vr

theorem vset : ∀ {av : List Val} {k : Nat} (_ : k < av.length) (x : Val) (post : List Value), ((vflat av ++ post).set (k * 2) (.bool x.ref)).set (k * 2 + 1) (.int .i64 x.n) = vflat (av.set k x) ++ post
  | [], _, h, _, _ => by simp at h
  | c :: r, 0, _, x, post => rfl
  | c :: r, k + 1, h, x, post => by
    have e : vflat (c :: r) ++ post = .bool c.ref :: .int .i64 c.n :: (vflat r ++ post) := rfl
    have e2 : vflat ((c :: r).set (k + 1) x) ++ post = .bool c.ref :: .int .i64 c.n :: (vflat (r.set k x) ++ post) := rfl
    rw [e, e2, ← vset (by simpa using h) x post, show (k + 1) * 2 = k * 2 + 1 + 1 by omega]
    rfl
theorem wset : ∀ {bw : List RV} {k : Nat} (_ : k < bw.length) (y : RV), ((rflat bw).set (k * 2) (.int .i64 y.st)).set (k * 2 + 1) (.int .i64 y.n) = rflat (bw.set k y)
  | [], _, h, _ => by simp at h
  | c :: r, 0, _, y => rfl
  | c :: r, k + 1, h, y => by
    have e : rflat (c :: r) = .int .i64 c.st :: .int .i64 c.n :: rflat r := rfl
    have e2 : rflat ((c :: r).set (k + 1) y) = .int .i64 c.st :: .int .i64 c.n :: rflat (r.set k y) := rfl
    rw [e, e2, ← wset (by simpa using h) y, show (k + 1) * 2 = k * 2 + 1 + 1 by omega]
    rfl
theorem set_app {α : Type} : ∀ (pre l : List α) (i : Nat) (x : α), (pre ++ l).set (pre.length + i) x = pre ++ l.set i x
  | [], l, i, x => by simp
  | a :: pre, l, i, x => by
    rw [List.cons_append, List.length_cons, show pre.length + 1 + i = (pre.length + i) + 1 by omega, List.set_cons_succ, set_app, List.cons_append]
section
variable {hp mp : Nat} {av : List Val} {bw : List RV}
theorem pcells_v {k : Nat} (hk : k < av.length) (x : Val) : (setAt (pcells hp mp av bw).toList (0 + 2 + k * 2) [.bool x.ref, .int .i64 x.n]).toArray = pcells hp mp (av.set k x) bw := by
  unfold pcells
  congr 1
  rw [← vset hk x, List.toList_toArray]
  show List.set (List.set _ (0 + 2 + k * 2) _) (0 + 2 + k * 2 + 1) _ = _
  rw [show 0 + 2 + k * 2 = k * 2 + 1 + 1 by omega]
  rfl
theorem pcells_w (la : av.length = 8) {k : Nat} (hk : k < bw.length) (y : RV) : (setAt (pcells hp mp av bw).toList (0 + 18 + k * 2) [.int .i64 y.st, .int .i64 y.n]).toArray = pcells hp mp av (bw.set k y) := by
  unfold pcells
  congr 1
  rw [← wset hk y, List.toList_toArray]
  show List.set (List.set _ (0 + 18 + k * 2) _) (0 + 18 + k * 2 + 1) _ = _
  have hl : (Value.pointer (some ⟨hp, 0, none⟩) :: Value.pointer (some ⟨mp, 0, none⟩) :: vflat av).length = 18 := by simp [vflat_length, la]
  have e : Value.pointer (some ⟨hp, 0, none⟩) :: Value.pointer (some ⟨mp, 0, none⟩) :: (vflat av ++ rflat bw) = (Value.pointer (some ⟨hp, 0, none⟩) :: Value.pointer (some ⟨mp, 0, none⟩) :: vflat av) ++ rflat bw := rfl
  rw [e, show 0 + 18 + k * 2 + 1 = (Value.pointer (some ⟨hp, 0, none⟩) :: Value.pointer (some ⟨mp, 0, none⟩) :: vflat av).length + (k * 2 + 1) by omega, show 0 + 18 + k * 2 = (Value.pointer (some ⟨hp, 0, none⟩) :: Value.pointer (some ⟨mp, 0, none⟩) :: vflat av).length + k * 2 by omega, set_app, set_app]
  rfl
theorem pcells_size (la : av.length = 8) (lb : bw.length = 8) : (pcells hp mp av bw).size = 34 := by
  simp [pcells, vflat_length, rflat_length, la, lb]
end

structure Pr (L0 pp hp mp : Nat) (w : World) (S : List St) (most : Int) (v : Value) (A : RA) (φ : Nat → Nat) (av : List Val) (bw : List RV) (Y : Nat → Prop) : Prop where
  is : Is hp w S most v
  rf : Rf mp w most A Y
  blk : w.heap[pp]? = some (.cells (pcells hp mp av bw) 66 (0, 0))
  la : av.length = 8
  vr : VRs φ A av bw
  iso : Iso φ S A
  bd : Bd A
  used : used S = usedL A
  pm : ¬ Mine hp S v pp
  py : ¬ Y pp
  my : ∀ k, Y k → ¬ Mine hp S v k
  lh : L0 ≤ hp
  lp : L0 ≤ pp
  ly : ∀ k, Y k → L0 ≤ k

section
variable {L0 pp hp mp : Nat} {w w' : World} {S : List St} {most : Int} {v : Value} {A : RA} {φ : Nat → Nat} {av : List Val} {bw : List RV} {Y : Nat → Prop}
theorem Pr.lb (h : Pr L0 pp hp mp w S most v A φ av bw Y) : bw.length = 8 := by rw [← h.vr.len]; exact h.la
theorem Pr.chg {M : Nat → Prop} (h : Pr L0 pp hp mp w S most v A φ av bw Y) (hc : Chg M w w') (h1 : ∀ k, M k → ¬ Mine hp S v k) (h2 : ∀ k, M k → ¬ Y k) (h3 : ¬ M pp) : Pr L0 pp hp mp w' S most v A φ av bw Y :=
  { h with
    is := h.is.kept (fun k hk => hc.block k (h.is.mine_lt hk).2 fun hm => h1 k hm hk) hc.size
    rf := h.rf.frame (fun k hk => hc.block k (h.rf.lt k hk) fun hm => h2 k hm hk) hc.size
    blk := (hc.block pp (lt_of_block h.blk) h3).trans h.blk }
theorem Pr.below (h : Pr L0 pp hp mp w S most v A φ av bw Y) (hb : Below w.heap.size w w') : Pr L0 pp hp mp w' S most v A φ av bw Y :=
  h.chg (M := fun _ => False) (Chg.of_below hb fun _ hk _ => hk) (fun _ h => h.elim) (fun _ h => h.elim) id
theorem Pr.pw (h : Pr L0 pp hp mp w S most v A φ av bw Y) : Pw pp hp mp w S most v A Y := ⟨h.is, h.rf, cell_of_block h.blk rfl, cell_of_block h.blk rfl⟩
theorem Pr.put (h : Pr L0 pp hp mp w S most v A φ av bw Y) (hc : Chg (fun j => j = pp) w w') {av' : List Val} {bw' : List RV} (hblk : w'.heap[pp]? = some (.cells (pcells hp mp av' bw') 66 (0, 0))) (la : av'.length = 8) (hv : VRs φ A av' bw') : Pr L0 pp hp mp w' S most v A φ av' bw' Y :=
  { h with
    is := h.is.kept (fun k hk => hc.block k (h.is.mine_lt hk).2 fun e => h.pm (e ▸ hk)) hc.size
    rf := h.rf.frame (fun k hk => hc.block k (h.rf.lt k hk) fun e => h.py (e ▸ hk)) hc.size
    blk := hblk
    la := la
    vr := hv }
theorem Pr.b_ok (_h : Pr L0 pp hp mp w S most v A φ av bw Y) {VA : List Val} {BA : List RV} (hv : VRs φ A VA BA) : ∀ b ∈ BA, b.ok A := fun b hb => by
  obtain ⟨a, _, hva⟩ := hv.mem_right hb
  rcases hva with ⟨e, _⟩ | ⟨k, rfl, hl, _⟩
  · exact .inl e
  · exact .inr ⟨k, rfl, live_lt hl⟩
end

theorem VRs.set {φ : Nat → Nat} {A : RA} {x : Val} {y : RV} (hxy : VR φ A x y) : ∀ {V : List Val} {B : List RV}, VRs φ A V B → ∀ k, VRs φ A (V.set k x) (B.set k y)
  | _, _, .nil, _ => .nil
  | _, _, .cons _h hs, 0 => .cons hxy hs
  | _, _, .cons h hs, k + 1 => .cons h (VRs.set hxy hs k)

/-- behind a call -/
def Next (L0 pp hp mp : Nat) (most : Int) (w0 w' : World) (n : Nat) : Prop := ∃ S v A φ av bw Y, Pr L0 pp hp mp w' S most v A φ av bw Y ∧ Below L0 w0 w' ∧ A.length ≤ n ∧ cellsR A ≤ 9 * n

set_option maxHeartbeats 1000000 in
theorem allocTail_spec {L0 pp hp mp ob vb n : Nat} {w0 u : World} {S : List St} {most : Int} {v : Value} {A : RA} {φ : Nat → Nat} {av : List Val} {bw : List RV} {Y : Nat → Prop} (h : Pr L0 pp hp mp u S most v A φ av bw Y) (hb0 : Below L0 w0 u) (hn : A.length ≤ n) (hn2 : cellsR A ≤ 9 * n) (hL : L0 ≤ u.heap.size) {x : Val} (k sn : Int) (hxy : k = 0 → VR φ A x ⟨sn, 0⟩) {kd to ct : Int} {s1 s2 : Value}
    (hob : u.heap[ob]? = some (.cells #[.int .i64 kd, .int .i64 to, .int .i64 ct, s1, s2] 45 (0, 0))) (hvb : u.heap[vb]? = some (.cells #[.bool x.ref, .int .i64 x.n] 30 (0, 0))) (ho : ob ≠ pp) (R : Value → World → Prop) (hR : ∀ w', Next L0 pp hp mp most w0 w' n → R (.bool true) w') : AllocTail pp ob vb k sn u R := by
  unfold AllocTail
  have hob' := lt_of_block hob
  have hvb' := lt_of_block hvb
  have hpp := lt_of_block h.blk
  refine ifE (fun hk => ?_) (fun _ => hR _ ⟨S, v, A, φ, av, bw, Y, h, hb0, hn, hn2⟩)
  have hxy := hxy hk
  refine drewStep fun w47 e47 hb47 => ?_
  have ob47 : w47.heap[ob]? = _ := e47 ▸ hob
  have vb47 : w47.heap[vb]? = _ := e47 ▸ hvb
  have s47 : w47.heap.size = u.heap.size := by rw [e47]
  refine ⟨to, cell_of_block ob47 rfl, to, cell_of_block ob47 rfl, _, _, cellsAt_of_block vb47 [.bool x.ref, .int .i64 x.n] 0 rfl, pp, 0, rfl, pp, 0, rfl, (ROf_spec sn w47).mono ?_⟩
  rintro _ w56 ⟨rfl, hb56⟩
  have b56 : Below u.heap.size u w56 := hb47.trans (hb56.mono (by omega))
  have h56 := h.below b56
  have ob56 := block_below b56 hob' hob
  have vb56 := block_below b56 hvb' hvb
  obtain ⟨q, hq8, eq⟩ := and7 to
  have lb := h.lb
  have la := h.la
  refine ⟨_, _, rfl, cellsAt_of_block vb56 [.bool x.ref, .int .i64 x.n] 0 rfl, ⟨cell_of_block ob56 rfl, trivial⟩, ⟨cell_of_block ob56 rfl, trivial⟩, ?_⟩
  rw [eq]
  refine ⟨by omega, by omega, setStep h56.blk (by rw [pcells_size la lb]; simp; omega) rfl fun w60 at60 same60 hs60 chg60 => ?_⟩
  have at60' : w60.heap[pp]? = some (.cells (pcells hp mp (av.set q x) bw) 66 (0, 0)) := by rw [at60]; exact congrArg _ (congrArg (fun z => Obj.cells z 66 (0, 0)) (pcells_v (by omega) x))
  have ob60 : w60.heap[ob]? = _ := (same60 ob ho).trans ob56
  refine ⟨⟨cell_of_block ob60 rfl, trivial⟩, by omega, by omega, setStep at60' (by rw [pcells_size (by simpa using la) lb]; simp; omega) rfl fun w61 at61 same61 hs61 chg61 => hR _ ?_⟩
  have at61' : w61.heap[pp]? = some (.cells (pcells hp mp (av.set q x) (bw.set q ⟨sn, 0⟩)) 66 (0, 0)) := by rw [at61]; exact congrArg _ (congrArg (fun z => Obj.cells z 66 (0, 0)) (pcells_w (by simpa using la) (by omega) ⟨sn, 0⟩))
  have c61 : Chg (fun j => j = pp) w56 w61 := chg60.trans chg61 fun _ _ h => h
  have hlp := h.lp
  exact ⟨S, v, A, φ, _, _, Y, h56.put c61 at61' (by simpa using la) (VRs.set hxy h.vr q), hb0.trans ((b56.mono hL).trans (c61.below (by have := b56.size; omega) fun j hj e => by omega)), hn, hn2⟩
end Go.Proofs.YtfenhbjamohdgaaDoor.Vf
end

/- part H5Q -/
section
namespace Go.Proofs.YtfenhbjamohdgaaDoor.Vf
open Go.Vx
def AllocMid (pp ob vb : Nat) (a : Option Addr) (m c : Nat) (ve : Value) (u : World) (R : Value → World → Prop) : Prop :=
 (∃ b36 f37, (some ⟨pp, 0, none⟩ : Option Addr) = some ⟨b36, f37, none⟩ ∧ (∃ (p38 : Option Addr), World.cell? u ⟨b36, (f37 + 1), none⟩ = some (.pointer p38) ∧ (∃ (n39 : Int), World.cell? u ⟨ob, 2, none⟩ = some (.int .i64 n39) ∧ (Calls Tryd.prog 31 #[(.pointer p38), (.int .i64 n39), (.slice a m c)] u fun e41 w40 => ∃ (n42 : Int) (n43 : Int), e41 = .returned (.tuple #[(.int .i64 n42), (.int .i64 n43)]) ∧ (Calls Tryd.prog 32 #[ve] w40 fun e45 w44 => ∃ (n46 : Int), e45 = .returned (.int .i64 n46) ∧ (bif (n46 != n43) then
 (R (.bool false) w44)
 else
 (AllocTail pp ob vb n43 n42 w44 R)))))))
end Go.Proofs.YtfenhbjamohdgaaDoor.Vf
end

/- part H5R -/
section
namespace Go.Proofs.YtfenhbjamohdgaaDoor.Vf
open Go.Vx Go.Vx.Hp Go.RowKit Vr

theorem Two.vsl {base : Nat} {w : World} {a : Option Addr} {c : Nat} {vb : Value} {VA : List Val} {BA : List RV} (h : Two base w (.slice a VA.length c) vb VA BA) : Vsl w a VA ∧ ∀ b o, a = some ⟨b, o, none⟩ → base ≤ b ∧ b < w.heap.size := by
  refine ⟨fun j hj => ?_, fun b o e => h.ra.lt b (by rw [e]; rfl)⟩
  obtain ⟨a', c', e, hc⟩ := own_vals h.ra rfl
  cases e
  obtain ⟨g, rfl, _, _, hcc⟩ := hc j hj
  exact ⟨g, 0, rfl, hcc⟩
theorem Two.rsl {base : Nat} {w : World} {a : Option Addr} {c : Nat} {va : Value} {VA : List Val} {BA : List RV} (h : Two base w va (.slice a BA.length c) VA BA) : Rsl w a BA ∧ (∀ b o, a = some ⟨b, o, none⟩ → base ≤ b ∧ b < w.heap.size) ∧ BA.length ≤ c ∧ c ≤ maxLen := by
  refine ⟨fun hl => ?_, fun b o e => h.rb.lt b (by rw [e]; rfl), ?_⟩
  · obtain ⟨hxl, ⟨e, h0⟩ | ⟨g, cap, cur, e, _, hh, _, _, _, ht⟩⟩ := h.rb
    · omega
    · cases e
      refine ⟨g, 0, rfl, cellsAt_of_block hh _ 0 ?_⟩
      rw [List.drop_zero, hxl]; exact ht
  · obtain ⟨_, _, e, h1, h2⟩ := own_slice h.rb
    cases e
    exact ⟨h1, h2⟩

set_option maxHeartbeats 1000000 in
theorem allocMid_spec {L0 pp hp mp ob vb n : Nat} {w0 u : World} {S' : List St} {most : Int} {v' : Value} {A A' : RA} {φ' : Nat → Nat} {av : List Val} {bw : List RV} {Y : Nat → Prop}
    (his : Is hp u S' most v') (hrf : Rf mp u most A Y) (hbd : Bd A) (hblk : u.heap[pp]? = some (.cells (pcells hp mp av bw) 66 (0, 0))) (la : av.length = 8) (hb0 : Below L0 w0 u) (hL : L0 ≤ u.heap.size)
    {a : Option Addr} {c : Nat} {BA : List RV} (hs : Rsl u a BA) (hB : ∀ b ∈ BA, b.ok A) (hl : BA.length ≤ 1000) (hc : BA.length ≤ c) (hc2 : c ≤ maxLen) (hX : ∀ b o, a = some ⟨b, o, none⟩ → ¬ Y b ∧ b ≠ pp ∧ ¬ Mine hp S' v' b ∧ L0 ≤ b)
    (hmy : ∀ k, Y k → ¬ Mine hp S' v' k) (pm : ¬ Mine hp S' v' pp) (py : ¬ Y pp) (lh : L0 ≤ hp) (lp : L0 ≤ pp) (ly : ∀ k, Y k → L0 ≤ k)
    {k sn ct kd to : Int} {s1 s2 ve : Value} {x : Val} (hA : rAlloc most A ct BA = (sn, k, A')) (iso' : Iso φ' S' A') (bd' : Bd A') (used' : used S' = usedL A') (vr' : VRs φ' A' av bw) (hxy : k = 0 → VR φ' A' x ⟨sn, 0⟩) (hn : A'.length ≤ n) (hn2 : cellsR A' ≤ 9 * n)
    (hnum : ∀ z, Below L0 w0 z → Calls Tryd.prog 32 #[ve] z fun e z' => e = .returned (.int .i64 k) ∧ Below z.heap.size z z')
    (hob : u.heap[ob]? = some (.cells #[.int .i64 kd, .int .i64 to, .int .i64 ct, s1, s2] 45 (0, 0))) (hvb : u.heap[vb]? = some (.cells #[.bool x.ref, .int .i64 x.n] 30 (0, 0))) (ho : ob ≠ pp) (yo : ¬ Y ob) (yv : ¬ Y vb)
    (R : Value → World → Prop) (hR : ∀ w', Next L0 pp hp mp most w0 w' n → R (.bool true) w') : AllocMid pp ob vb a BA.length c ve u R := by
  unfold AllocMid
  refine ⟨pp, 0, rfl, _, cell_of_block hblk rfl, ct, cell_of_block hob rfl, (RfAlloc hrf hbd ct a c BA hs hB (by omega) hc hc2 fun b o e => (hX b o e).1).mono ?_⟩
  rintro _ w40 ⟨rfl, Y', r1, r2, r3⟩
  rw [hA] at r1 ⊢
  have b40 : Below L0 w0 w40 := hb0.trans (r3.below hL fun j hj hy => by have := ly j hy; omega)
  have hYX : ∀ j, Y' j → Y j ∨ u.heap.size ≤ j ∨ ∃ o, a = some ⟨j, o, none⟩ := fun j hj => by
    rcases r2 j hj with h | h | ⟨o, _, o', e, _⟩
    · exact .inl h
    · exact .inr (.inl h)
    · exact .inr (.inr ⟨o', e⟩)
  have hpp := lt_of_block hblk
  have pr : Pr L0 pp hp mp w40 S' most v' A' φ' av bw Y' :=
    { is := his.kept (fun j hj => r3.block j (his.mine_lt hj).2 fun hy => hmy j hy hj) r3.size
      rf := r1
      blk := (r3.block pp hpp py).trans hblk
      la := la
      vr := vr'
      iso := iso'
      bd := bd'
      used := used'
      pm := pm
      py := fun hy => by
        rcases hYX pp hy with h | h | ⟨o, e⟩
        · exact py h
        · omega
        · exact (hX pp o e).2.1 rfl
      my := fun j hy hm => by
        rcases hYX j hy with h | h | ⟨o, e⟩
        · exact hmy j h hm
        · have := (his.mine_lt hm).2; omega
        · exact (hX j o e).2.2.1 hm
      lh := lh
      lp := lp
      ly := fun j hy => by
        rcases hYX j hy with h | h | ⟨o, e⟩
        · exact ly j h
        · omega
        · exact (hX j o e).2.2.2 }
  refine ⟨_, _, rfl, (hnum w40 b40).mono ?_⟩
  rintro _ w44 ⟨rfl, hb44⟩
  have s40 := r3.size
  refine ⟨_, rfl, ifNE (fun h => absurd rfl h) (fun _ => ?_)⟩
  refine allocTail_spec (pr.below hb44) (b40.trans (hb44.mono (by omega))) hn hn2 (by have := hb44.size; omega) k sn hxy (kd := kd) (to := to) (ct := ct) (s1 := s1) (s2 := s2) ?_ ?_ ho R hR
  · exact block_below hb44 (by have := lt_of_block hob; omega) ((r3.block ob (lt_of_block hob) yo).trans hob)
  · exact block_below hb44 (by have := lt_of_block hvb; omega) ((r3.block vb (lt_of_block hvb) yv).trans hvb)

/-- what the program's Alloc tells, and what the reference's does -/
theorem alloc_pair {hp : Nat} {w w' : World} {S : List St} {most : Int} {v : Value} {A : RA} {φ : Nat → Nat} (hi : Iso φ S A) (hu : used S = usedL A) {VA : List Val} {BA : List RV} (hv : VRs φ A VA BA) {E0 E1 E2 x : Value} {n : Int} (hp' : AllocPost hp w S most v E0 E1 E2 n VA x w') :
    (∃ E k, x = .tuple #[.agg #[.bool false, .int .i64 0], E] ∧ ((E = E0 ∧ k = 14) ∨ (E = E1 ∧ k = 16) ∨ (E = E2 ∧ k = 4)) ∧ rAlloc most A n BA = (0, k, A) ∧ Below w.heap.size w w') ∨
    (0 ≤ n ∧ VA.length ≤ 8 ∧ 1 + sumN S VA ≤ 4096 ∧ maxD S VA ≤ 200 ∧ x = .tuple #[.agg #[.bool true, .int .i64 (used S : Nat)], .nilIface] ∧ rAlloc most A n BA = (((A.length : Nat) : Int), (0 : Int), A ++ [(⟨n, BA, 1 + sumN S VA, rmaxD A BA, false⟩ : RS)]) ∧
      ∃ b v', w.heap.size ≤ b ∧ Is hp w' (S ++ [⟨b, n, VA, 1 + sumN S VA, maxD S VA⟩]) most v' ∧ Chg (fun k => k = hp ∨ some k = v.ownBlock) w w' ∧ Nxt w.heap.size v v') := by
  obtain ⟨e1, e2⟩ := hi.sums hv
  have hl := hv.len
  have hg := hi.goods hv
  rcases hp' with ⟨h, rfl, hb⟩ | ⟨h0, h8, _, h, rfl, hb⟩ | ⟨h0, h8, _, h1, h2, h, rfl, hb⟩ | ⟨h0, h8, _, h1, h2, h, rfl, hx⟩
  · refine .inl ⟨E1, 16, rfl, .inr (.inl ⟨rfl, rfl⟩), ?_, hb⟩
    rw [rAlloc, if_pos]
    rcases h with h | h | h
    · exact .inl h
    · exact .inr (by omega)
    · rw [hg] at h; cases h
  · refine .inl ⟨E2, 4, rfl, .inr (.inr ⟨rfl, rfl⟩), ?_, hb⟩
    rw [rAlloc, if_neg (by omega), if_pos (by omega)]
  · refine .inl ⟨E0, 14, rfl, .inl ⟨rfl, rfl⟩, ?_, hb⟩
    rw [rAlloc, if_neg (by omega), if_neg (by omega), if_pos (by omega)]
  · refine .inr ⟨h0, h8, h1, h2, rfl, ?_, hx⟩
    rw [rAlloc, if_neg (by omega), if_neg (by omega), if_neg (by omega), e1]
end Go.Proofs.YtfenhbjamohdgaaDoor.Vf
end

/- part H5S -/
section
set_option linter.unusedVariables false
namespace Go.Proofs.YtfenhbjamohdgaaDoor.Vf
open Go.Vx
def PlayAlloc (pp ob : Nat) (a16 : Option Addr) (m17 c18 : Nat) (a19 : Option Addr) (m20 c21 : Nat) (w14 : World) (R : Value → World → Prop) : Prop :=
 (withW (World.drew w14) fun w23 =>
 (∃ b24 f25, (some ⟨pp, 0, none⟩ : Option Addr) = some ⟨b24, f25, none⟩ ∧ (∃ (p26 : Option Addr), World.cell? w23 ⟨b24, f25, none⟩ = some (.pointer p26) ∧ (∃ (n27 : Int), World.cell? w23 ⟨ob, 2, none⟩ = some (.int .i64 n27) ∧ ((Calls Tryd.prog 10 #[(.pointer p26), (.int .i64 n27), (.slice a16 m17 c18)] w23 fun e29 w28 => ∃ (b30 : Bool) (n31 : Int) (v32 : Value), e29 = .returned (.tuple #[(.agg #[(.bool b30), (.int .i64 n31)]), v32]) ∧ (withW (World.alloc w28 (.cells #[.bool false, .int .i64 0] 30)) fun w33 =>
 (cellsAt w33 ob 2 [(.int .i64 n27)] ∧ cellsAt w33 b24 f25 [(.pointer p26)] ∧ (canSt w33 w28.heap.size 0 [(.bool b30), (.int .i64 n31)] ∧ withW (setL w33 w28.heap.size 0 [(.bool b30), (.int .i64 n31)]) fun w34 =>
 (withW (World.drew w34) fun w35 =>
 (∃ b36 f37, (some ⟨pp, 0, none⟩ : Option Addr) = some ⟨b36, f37, none⟩ ∧ (∃ (p38 : Option Addr), World.cell? w35 ⟨b36, (f37 + 1), none⟩ = some (.pointer p38) ∧ (∃ (n39 : Int), World.cell? w35 ⟨ob, 2, none⟩ = some (.int .i64 n39) ∧ (Calls Tryd.prog 31 #[(.pointer p38), (.int .i64 n39), (.slice a19 m20 c21)] w35 fun e41 w40 => ∃ (n42 : Int) (n43 : Int), e41 = .returned (.tuple #[(.int .i64 n42), (.int .i64 n43)]) ∧ (Calls Tryd.prog 32 #[v32] w40 fun e45 w44 => ∃ (n46 : Int), e45 = .returned (.int .i64 n46) ∧ (bif (n46 != n43) then
 (R (.bool false) w44)
 else
 (bif (n43 == (0 : Int)) then
 (withW (World.drew w44) fun w47 =>
 (∃ (n48 : Int), World.cell? w47 ⟨ob, 1, none⟩ = some (.int .i64 n48) ∧ (∃ (n49 : Int), World.cell? w47 ⟨ob, 1, none⟩ = some (.int .i64 n49) ∧ (∃ (b50 : Bool) (n51 : Int), cellsAt w47 w28.heap.size 0 [(.bool b50), (.int .i64 n51)] ∧ (∃ b52 f53, (some ⟨pp, 0, none⟩ : Option Addr) = some ⟨b52, f53, none⟩ ∧ (∃ b54 f55, (some ⟨pp, 0, none⟩ : Option Addr) = some ⟨b54, f55, none⟩ ∧ (Calls Tryd.prog 33 #[(.int .i64 n42)] w47 fun e57 w56 => ∃ (n58 : Int) (n59 : Int), e57 = .returned (.agg #[(.int .i64 n58), (.int .i64 n59)]) ∧ (cellsAt w56 w28.heap.size 0 [(.bool b50), (.int .i64 n51)] ∧ cellsAt w56 ob 1 [(.int .i64 n49)] ∧ cellsAt w56 ob 1 [(.int .i64 n48)] ∧ (0 ≤ (IntKind.i64.wrap ((BitVec.ofInt IntKind.i64.bits n48 &&& BitVec.ofInt IntKind.i64.bits (7 : Int))).toNat) ∧ (IntKind.i64.wrap ((BitVec.ofInt IntKind.i64.bits n48 &&& BitVec.ofInt IntKind.i64.bits (7 : Int))).toNat) < ((8 : Nat) : Int) ∧ (canSt w56 b52 ((f53 + 2) + ((IntKind.i64.wrap ((BitVec.ofInt IntKind.i64.bits n48 &&& BitVec.ofInt IntKind.i64.bits (7 : Int))).toNat) : Int).toNat * 2) [(.bool b50), (.int .i64 n51)] ∧ withW (setL w56 b52 ((f53 + 2) + ((IntKind.i64.wrap ((BitVec.ofInt IntKind.i64.bits n48 &&& BitVec.ofInt IntKind.i64.bits (7 : Int))).toNat) : Int).toNat * 2) [(.bool b50), (.int .i64 n51)]) fun w60 =>
 (cellsAt w60 ob 1 [(.int .i64 n49)] ∧ (0 ≤ (IntKind.i64.wrap ((BitVec.ofInt IntKind.i64.bits n49 &&& BitVec.ofInt IntKind.i64.bits (7 : Int))).toNat) ∧ (IntKind.i64.wrap ((BitVec.ofInt IntKind.i64.bits n49 &&& BitVec.ofInt IntKind.i64.bits (7 : Int))).toNat) < ((8 : Nat) : Int) ∧ (canSt w60 b54 ((f55 + 18) + ((IntKind.i64.wrap ((BitVec.ofInt IntKind.i64.bits n49 &&& BitVec.ofInt IntKind.i64.bits (7 : Int))).toNat) : Int).toNat * 2) [(.int .i64 n58), (.int .i64 n59)] ∧ withW (setL w60 b54 ((f55 + 18) + ((IntKind.i64.wrap ((BitVec.ofInt IntKind.i64.bits n49 &&& BitVec.ofInt IntKind.i64.bits (7 : Int))).toNat) : Int).toNat * 2) [(.int .i64 n58), (.int .i64 n59)]) fun w61 =>
 (R (.bool true) w61))))))))))))))
 else
 (R (.bool true) w44))))))))))))) ∧ (withW (World.alloc w23 (.cells #[.bool false, .int .i64 0] 30)) fun w62 =>
 (cellsAt w62 ob 2 [(.int .i64 n27)] ∧ cellsAt w62 b24 f25 [(.pointer p26)] ∧ (Calls Tryd.prog 10 #[(.pointer p26), (.int .i64 n27), (.slice a16 m17 c18)] w62 fun e64 w63 => ∃ (b65 : Bool) (n66 : Int) (v67 : Value), e64 = .returned (.tuple #[(.agg #[(.bool b65), (.int .i64 n66)]), v67]) ∧ (canSt w63 w23.heap.size 0 [(.bool b65), (.int .i64 n66)] ∧ withW (setL w63 w23.heap.size 0 [(.bool b65), (.int .i64 n66)]) fun w68 =>
 (withW (World.drew w68) fun w69 =>
 (∃ b70 f71, (some ⟨pp, 0, none⟩ : Option Addr) = some ⟨b70, f71, none⟩ ∧ (∃ (p72 : Option Addr), World.cell? w69 ⟨b70, (f71 + 1), none⟩ = some (.pointer p72) ∧ (∃ (n73 : Int), World.cell? w69 ⟨ob, 2, none⟩ = some (.int .i64 n73) ∧ (Calls Tryd.prog 31 #[(.pointer p72), (.int .i64 n73), (.slice a19 m20 c21)] w69 fun e75 w74 => ∃ (n76 : Int) (n77 : Int), e75 = .returned (.tuple #[(.int .i64 n76), (.int .i64 n77)]) ∧ (Calls Tryd.prog 32 #[v67] w74 fun e79 w78 => ∃ (n80 : Int), e79 = .returned (.int .i64 n80) ∧ (bif (n80 != n77) then
 (R (.bool false) w78)
 else
 (bif (n77 == (0 : Int)) then
 (withW (World.drew w78) fun w81 =>
 (∃ (n82 : Int), World.cell? w81 ⟨ob, 1, none⟩ = some (.int .i64 n82) ∧ (∃ (n83 : Int), World.cell? w81 ⟨ob, 1, none⟩ = some (.int .i64 n83) ∧ (∃ (b84 : Bool) (n85 : Int), cellsAt w81 w23.heap.size 0 [(.bool b84), (.int .i64 n85)] ∧ (∃ b86 f87, (some ⟨pp, 0, none⟩ : Option Addr) = some ⟨b86, f87, none⟩ ∧ (∃ b88 f89, (some ⟨pp, 0, none⟩ : Option Addr) = some ⟨b88, f89, none⟩ ∧ (Calls Tryd.prog 33 #[(.int .i64 n76)] w81 fun e91 w90 => ∃ (n92 : Int) (n93 : Int), e91 = .returned (.agg #[(.int .i64 n92), (.int .i64 n93)]) ∧ (cellsAt w90 w23.heap.size 0 [(.bool b84), (.int .i64 n85)] ∧ cellsAt w90 ob 1 [(.int .i64 n83)] ∧ cellsAt w90 ob 1 [(.int .i64 n82)] ∧ (0 ≤ (IntKind.i64.wrap ((BitVec.ofInt IntKind.i64.bits n82 &&& BitVec.ofInt IntKind.i64.bits (7 : Int))).toNat) ∧ (IntKind.i64.wrap ((BitVec.ofInt IntKind.i64.bits n82 &&& BitVec.ofInt IntKind.i64.bits (7 : Int))).toNat) < ((8 : Nat) : Int) ∧ (canSt w90 b86 ((f87 + 2) + ((IntKind.i64.wrap ((BitVec.ofInt IntKind.i64.bits n82 &&& BitVec.ofInt IntKind.i64.bits (7 : Int))).toNat) : Int).toNat * 2) [(.bool b84), (.int .i64 n85)] ∧ withW (setL w90 b86 ((f87 + 2) + ((IntKind.i64.wrap ((BitVec.ofInt IntKind.i64.bits n82 &&& BitVec.ofInt IntKind.i64.bits (7 : Int))).toNat) : Int).toNat * 2) [(.bool b84), (.int .i64 n85)]) fun w94 =>
 (cellsAt w94 ob 1 [(.int .i64 n83)] ∧ (0 ≤ (IntKind.i64.wrap ((BitVec.ofInt IntKind.i64.bits n83 &&& BitVec.ofInt IntKind.i64.bits (7 : Int))).toNat) ∧ (IntKind.i64.wrap ((BitVec.ofInt IntKind.i64.bits n83 &&& BitVec.ofInt IntKind.i64.bits (7 : Int))).toNat) < ((8 : Nat) : Int) ∧ (canSt w94 b88 ((f89 + 18) + ((IntKind.i64.wrap ((BitVec.ofInt IntKind.i64.bits n83 &&& BitVec.ofInt IntKind.i64.bits (7 : Int))).toNat) : Int).toNat * 2) [(.int .i64 n92), (.int .i64 n93)] ∧ withW (setL w94 b88 ((f89 + 18) + ((IntKind.i64.wrap ((BitVec.ofInt IntKind.i64.bits n83 &&& BitVec.ofInt IntKind.i64.bits (7 : Int))).toNat) : Int).toNat * 2) [(.int .i64 n92), (.int .i64 n93)]) fun w95 =>
 (R (.bool true) w95))))))))))))))
 else
 (R (.bool true) w78))))))))))))))))))
def PlaySame (pp ob : Nat) (a16 : Option Addr) (m17 c18 : Nat) (a19 : Option Addr) (m20 c21 : Nat) (w14 : World) (R : Value → World → Prop) : Prop :=
 (bif (decide ((m17 : Int) > (1 : Int))) then
 (withW (World.drew w14) fun w96 =>
 (∃ b97 f98, (some ⟨pp, 0, none⟩ : Option Addr) = some ⟨b97, f98, none⟩ ∧ (∃ (p99 : Option Addr), World.cell? w96 ⟨b97, f98, none⟩ = some (.pointer p99) ∧ (∃ b100 f101, a16 = some ⟨b100, f101, none⟩ ∧ 0 ≤ (0 : Int) ∧ (0 : Int) < (m17 : Int) ∧ (∃ (b102 : Bool) (n103 : Int), cellsAt w96 b100 (f101 + 0 * 2) [(.bool b102), (.int .i64 n103)] ∧ (∃ b104 f105, a16 = some ⟨b104, f105, none⟩ ∧ 0 ≤ (1 : Int) ∧ (1 : Int) < (m17 : Int) ∧ (∃ (b106 : Bool) (n107 : Int), cellsAt w96 b104 (f105 + 1 * 2) [(.bool b106), (.int .i64 n107)] ∧ (Calls Tryd.prog 16 #[(.pointer p99), (.agg #[(.bool b102), (.int .i64 n103)]), (.agg #[(.bool b106), (.int .i64 n107)])] w96 fun e109 w108 => ∃ (b110 : Bool) (v111 : Value), e109 = .returned (.tuple #[(.bool b110), v111]) ∧ (withW (World.drew w108) fun w112 =>
 (∃ r113, IsNil v111 r113 ∧ (bif r113 then (∃ b114 f115, (some ⟨pp, 0, none⟩ : Option Addr) = some ⟨b114, f115, none⟩ ∧ (∃ (p116 : Option Addr), World.cell? w112 ⟨b114, (f115 + 1), none⟩ = some (.pointer p116) ∧ (∃ b117 f118, a19 = some ⟨b117, f118, none⟩ ∧ 0 ≤ (0 : Int) ∧ (0 : Int) < (m20 : Int) ∧ (∃ (n119 : Int) (n120 : Int), cellsAt w112 b117 (f118 + 0 * 2) [(.int .i64 n119), (.int .i64 n120)] ∧ (∃ b121 f122, a19 = some ⟨b121, f122, none⟩ ∧ 0 ≤ (1 : Int) ∧ (1 : Int) < (m20 : Int) ∧ (∃ (n123 : Int) (n124 : Int), cellsAt w112 b121 (f122 + 1 * 2) [(.int .i64 n123), (.int .i64 n124)] ∧ (Calls Tryd.prog 34 #[(.pointer p116), (.agg #[(.int .i64 n119), (.int .i64 n120)]), (.agg #[(.int .i64 n123), (.int .i64 n124)])] w112 fun e126 w125 => ∃ (b127 : Bool), e126 = .returned (.bool b127) ∧ (R (.bool (b110 == b127)) w125)))))))) else (R (.bool false) w112))))))))))))
 else
 (R (.bool true) w14))
def PlayCollect (pp ob : Nat) (a16 : Option Addr) (m17 c18 : Nat) (a19 : Option Addr) (m20 c21 : Nat) (w14 : World) (R : Value → World → Prop) : Prop :=
 (withW (World.alloc w14 (.cells #[.bool false, .bool false, .bool false, .bool false, .bool false, .bool false, .bool false, .bool false] 100)) fun w128 =>
 (∃ (a129 : Option Addr) (m130 c131 : Nat), World.cell? w128 ⟨ob, 4, none⟩ = some (.slice a129 m130 c131) ∧ (∃ (I132 : List Value → World → Prop) (μ133 : List Value → World → Nat), I132 [(.int .i64 0)] w128 ∧ ∀ (_j135 : Env) (q136 : List Value) (w134 : World), I132 q136 w134 → ∃ (n137 : Int), q136 = [(.int .i64 n137)] ∧
 (bif (decide (n137 < (m130 : Int))) then
 (∃ b138 f139, a129 = some ⟨b138, f139, none⟩ ∧ 0 ≤ n137 ∧ n137 < (m130 : Int) ∧ (∃ (n140 : Int), World.cell? w134 ⟨b138, (f139 + (n137 : Int).toNat * 1), none⟩ = some (.int .i64 n140) ∧ (0 ≤ (IntKind.i64.wrap ((BitVec.ofInt IntKind.i64.bits n140 &&& BitVec.ofInt IntKind.i64.bits (7 : Int))).toNat) ∧ (IntKind.i64.wrap ((BitVec.ofInt IntKind.i64.bits n140 &&& BitVec.ofInt IntKind.i64.bits (7 : Int))).toNat) < ((8 : Nat) : Int) ∧ (canSt w134 w14.heap.size (0 + ((IntKind.i64.wrap ((BitVec.ofInt IntKind.i64.bits n140 &&& BitVec.ofInt IntKind.i64.bits (7 : Int))).toNat) : Int).toNat * 1) [(.bool true)] ∧ withW (setL w134 w14.heap.size (0 + ((IntKind.i64.wrap ((BitVec.ofInt IntKind.i64.bits n140 &&& BitVec.ofInt IntKind.i64.bits (7 : Int))).toNat) : Int).toNat * 1) [(.bool true)]) fun w141 =>
 (I132 [(.int .i64 (IntKind.i64.wrap (n137 + 1)))] w141 ∧ μ133 [(.int .i64 (IntKind.i64.wrap (n137 + 1)))] w141 < μ133 [(.int .i64 n137)] w134)))))
 else
 (withW (World.alloc w134 (.cells #[] 39)) fun w142 =>
 (withW (World.alloc w142 (.cells #[] 63)) fun w143 =>
 (∃ (I144 : List Value → World → Prop) (μ145 : List Value → World → Nat), I144 [(.slice (some ⟨w134.heap.size, 0, none⟩ : Option Addr) 0 0), (.slice (some ⟨w142.heap.size, 0, none⟩ : Option Addr) 0 0), (.int .i64 0)] w143 ∧ ∀ (_j147 : Env) (q148 : List Value) (w146 : World), I144 q148 w146 → ∃ (a149 : Option Addr) (m150 c151 : Nat) (a152 : Option Addr) (m153 c154 : Nat) (n155 : Int), q148 = [(.slice a149 m150 c151), (.slice a152 m153 c154), (.int .i64 n155)] ∧
 (bif (decide (n155 < (8 : Int))) then
 (0 ≤ n155 ∧ n155 < ((8 : Nat) : Int) ∧ (∃ (b156 : Bool), World.cell? w146 ⟨w14.heap.size, (0 + (n155 : Int).toNat * 1), none⟩ = some (.bool b156) ∧ (bif (!b156) then
 (withW (World.drew w146) fun w157 =>
 (∃ b158 f159, (some ⟨pp, 0, none⟩ : Option Addr) = some ⟨b158, f159, none⟩ ∧ (∃ b160 f161, (some ⟨pp, 0, none⟩ : Option Addr) = some ⟨b160, f161, none⟩ ∧ (Calls Tryd.prog 18 #[(.int .i64 0)] w157 fun e163 w162 => ∃ (n164 : Int) (n165 : Int), e163 = .returned (.agg #[(.int .i64 n164), (.int .i64 n165)]) ∧ (0 ≤ n155 ∧ n155 < ((8 : Nat) : Int) ∧ (canSt w162 b158 ((f159 + 2) + (n155 : Int).toNat * 2) [(.bool false), (.int .i64 0)] ∧ withW (setL w162 b158 ((f159 + 2) + (n155 : Int).toNat * 2) [(.bool false), (.int .i64 0)]) fun w166 =>
 (0 ≤ n155 ∧ n155 < ((8 : Nat) : Int) ∧ (canSt w166 b160 ((f161 + 18) + (n155 : Int).toNat * 2) [(.int .i64 n164), (.int .i64 n165)] ∧ withW (setL w166 b160 ((f161 + 18) + (n155 : Int).toNat * 2) [(.int .i64 n164), (.int .i64 n165)]) fun w167 =>
 (I144 [(.slice a149 m150 c151), (.slice a152 m153 c154), (.int .i64 (IntKind.i64.wrap (n155 + 1)))] w167 ∧ μ145 [(.slice a149 m150 c151), (.slice a152 m153 c154), (.int .i64 (IntKind.i64.wrap (n155 + 1)))] w167 < μ145 [(.slice a149 m150 c151), (.slice a152 m153 c154), (.int .i64 n155)] w146)))))))))
 else
 (withW (World.drew w146) fun w168 =>
 (∃ b169 f170, (some ⟨pp, 0, none⟩ : Option Addr) = some ⟨b169, f170, none⟩ ∧ (0 ≤ n155 ∧ n155 < ((8 : Nat) : Int) ∧ (∃ b171 f172, (some ⟨pp, 0, none⟩ : Option Addr) = some ⟨b171, f172, none⟩ ∧ (0 ≤ n155 ∧ n155 < ((8 : Nat) : Int) ∧ (∃ b173 f174, (some ⟨pp, 0, none⟩ : Option Addr) = some ⟨b173, f174, none⟩ ∧ (0 ≤ n155 ∧ n155 < ((8 : Nat) : Int) ∧ (∃ (n175 : Int) (n176 : Int), cellsAt w168 b173 ((f174 + 18) + (n155 : Int).toNat * 2) [(.int .i64 n175), (.int .i64 n176)] ∧ ((withW (World.alloc w168 (.cells #[(.pointer (some ⟨b169, ((f170 + 2) + (n155 : Int).toNat * 2), none⟩ : Option Addr)), (.pointer (some ⟨b171, ((f172 + 2) + (n155 : Int).toNat * 2), none⟩ : Option Addr))] 39)) fun w177 =>
 (cellsAt w177 b173 ((f174 + 18) + (n155 : Int).toNat * 2) [(.int .i64 n175), (.int .i64 n176)] ∧ ((∃ (a178 : Option Addr) (m179 c180 : Nat) (w181 : World), Runs Tryd.prog (Builtin.append_ #[50, 50] 50 #[(.slice a149 m150 c151), (.slice (some ⟨w168.heap.size, 0, none⟩ : Option Addr) 2 2)]) w177 (.slice a178 m179 c180) w181 ∧ (cellsAt w181 b173 ((f174 + 18) + (n155 : Int).toNat * 2) [(.int .i64 n175), (.int .i64 n176)] ∧ (withW (World.alloc w181 (.cells #[(.int .i64 n175), (.int .i64 n176)] 63)) fun w182 =>
 (∃ (a183 : Option Addr) (m184 c185 : Nat) (w186 : World), Runs Tryd.prog (Builtin.append_ #[70, 70] 70 #[(.slice a152 m153 c154), (.slice (some ⟨w181.heap.size, 0, none⟩ : Option Addr) 1 1)]) w182 (.slice a183 m184 c185) w186 ∧ (I144 [(.slice a178 m179 c180), (.slice a183 m184 c185), (.int .i64 (IntKind.i64.wrap (n155 + 1)))] w186 ∧ μ145 [(.slice a178 m179 c180), (.slice a183 m184 c185), (.int .i64 (IntKind.i64.wrap (n155 + 1)))] w186 < μ145 [(.slice a149 m150 c151), (.slice a152 m153 c154), (.int .i64 n155)] w146))))) ∧ (withW (World.alloc w177 (.cells #[(.int .i64 n175), (.int .i64 n176)] 63)) fun w187 =>
 (∃ (a188 : Option Addr) (m189 c190 : Nat) (w191 : World), Runs Tryd.prog (Builtin.append_ #[50, 50] 50 #[(.slice a149 m150 c151), (.slice (some ⟨w168.heap.size, 0, none⟩ : Option Addr) 2 2)]) w187 (.slice a188 m189 c190) w191 ∧ (cellsAt w191 b173 ((f174 + 18) + (n155 : Int).toNat * 2) [(.int .i64 n175), (.int .i64 n176)] ∧ (∃ (a192 : Option Addr) (m193 c194 : Nat) (w195 : World), Runs Tryd.prog (Builtin.append_ #[70, 70] 70 #[(.slice a152 m153 c154), (.slice (some ⟨w177.heap.size, 0, none⟩ : Option Addr) 1 1)]) w191 (.slice a192 m193 c194) w195 ∧ (I144 [(.slice a188 m189 c190), (.slice a192 m193 c194), (.int .i64 (IntKind.i64.wrap (n155 + 1)))] w195 ∧ μ145 [(.slice a188 m189 c190), (.slice a192 m193 c194), (.int .i64 (IntKind.i64.wrap (n155 + 1)))] w195 < μ145 [(.slice a149 m150 c151), (.slice a152 m153 c154), (.int .i64 n155)] w146)))))))) ∧ (withW (World.alloc w168 (.cells #[(.int .i64 n175), (.int .i64 n176)] 63)) fun w196 =>
 (withW (World.alloc w196 (.cells #[(.pointer (some ⟨b169, ((f170 + 2) + (n155 : Int).toNat * 2), none⟩ : Option Addr)), (.pointer (some ⟨b171, ((f172 + 2) + (n155 : Int).toNat * 2), none⟩ : Option Addr))] 39)) fun w197 =>
 (cellsAt w197 b173 ((f174 + 18) + (n155 : Int).toNat * 2) [(.int .i64 n175), (.int .i64 n176)] ∧ (∃ (a198 : Option Addr) (m199 c200 : Nat) (w201 : World), Runs Tryd.prog (Builtin.append_ #[50, 50] 50 #[(.slice a149 m150 c151), (.slice (some ⟨w196.heap.size, 0, none⟩ : Option Addr) 2 2)]) w197 (.slice a198 m199 c200) w201 ∧ (cellsAt w201 b173 ((f174 + 18) + (n155 : Int).toNat * 2) [(.int .i64 n175), (.int .i64 n176)] ∧ (∃ (a202 : Option Addr) (m203 c204 : Nat) (w205 : World), Runs Tryd.prog (Builtin.append_ #[70, 70] 70 #[(.slice a152 m153 c154), (.slice (some ⟨w168.heap.size, 0, none⟩ : Option Addr) 1 1)]) w201 (.slice a202 m203 c204) w205 ∧ (I144 [(.slice a198 m199 c200), (.slice a202 m203 c204), (.int .i64 (IntKind.i64.wrap (n155 + 1)))] w205 ∧ μ145 [(.slice a198 m199 c200), (.slice a202 m203 c204), (.int .i64 (IntKind.i64.wrap (n155 + 1)))] w205 < μ145 [(.slice a149 m150 c151), (.slice a152 m153 c154), (.int .i64 n155)] w146)))))))))))))))))))
 else
 (∃ b206 f207, (some ⟨pp, 0, none⟩ : Option Addr) = some ⟨b206, f207, none⟩ ∧ (∃ (p208 : Option Addr), World.cell? w146 ⟨b206, f207, none⟩ = some (.pointer p208) ∧ (Calls Tryd.prog 13 #[(.pointer p208), (.slice a149 m150 c151)] w146 fun e210 w209 => ∃ (v211 : Value), e210 = .returned v211 ∧ (∃ r212, IsNil v211 r212 ∧ (bif (!r212) then
 (R (.bool false) w209)
 else
 (∃ b213 f214, (some ⟨pp, 0, none⟩ : Option Addr) = some ⟨b213, f214, none⟩ ∧ (∃ (p215 : Option Addr), World.cell? w209 ⟨b213, (f214 + 1), none⟩ = some (.pointer p215) ∧ (Calls Tryd.prog 35 #[(.pointer p215), (.slice a152 m153 c154)] w209 fun e217 w216 => e217 = .returned (.tuple #[]) ∧ (R (.bool true) w216)))))))))))))))))
def PlayInt (pp ob : Nat) (a16 : Option Addr) (m17 c18 : Nat) (a19 : Option Addr) (m20 c21 : Nat) (w14 : World) (R : Value → World → Prop) : Prop :=
 (withW (World.drew w14) fun w218 =>
 (∃ (n219 : Int), World.cell? w218 ⟨ob, 1, none⟩ = some (.int .i64 n219) ∧ (∃ (n220 : Int), World.cell? w218 ⟨ob, 1, none⟩ = some (.int .i64 n220) ∧ (∃ (n221 : Int), World.cell? w218 ⟨ob, 2, none⟩ = some (.int .i64 n221) ∧ (∃ (n222 : Int), World.cell? w218 ⟨ob, 2, none⟩ = some (.int .i64 n222) ∧ (∃ b223 f224, (some ⟨pp, 0, none⟩ : Option Addr) = some ⟨b223, f224, none⟩ ∧ (∃ b225 f226, (some ⟨pp, 0, none⟩ : Option Addr) = some ⟨b225, f226, none⟩ ∧ (Calls Tryd.prog 18 #[(.int .i64 n222)] w218 fun e228 w227 => ∃ (n229 : Int) (n230 : Int), e228 = .returned (.agg #[(.int .i64 n229), (.int .i64 n230)]) ∧ (cellsAt w227 ob 2 [(.int .i64 n221)] ∧ cellsAt w227 ob 1 [(.int .i64 n220)] ∧ cellsAt w227 ob 1 [(.int .i64 n219)] ∧ (0 ≤ (IntKind.i64.wrap ((BitVec.ofInt IntKind.i64.bits n219 &&& BitVec.ofInt IntKind.i64.bits (7 : Int))).toNat) ∧ (IntKind.i64.wrap ((BitVec.ofInt IntKind.i64.bits n219 &&& BitVec.ofInt IntKind.i64.bits (7 : Int))).toNat) < ((8 : Nat) : Int) ∧ (canSt w227 b223 ((f224 + 2) + ((IntKind.i64.wrap ((BitVec.ofInt IntKind.i64.bits n219 &&& BitVec.ofInt IntKind.i64.bits (7 : Int))).toNat) : Int).toNat * 2) [(.bool false), (.int .i64 n221)] ∧ withW (setL w227 b223 ((f224 + 2) + ((IntKind.i64.wrap ((BitVec.ofInt IntKind.i64.bits n219 &&& BitVec.ofInt IntKind.i64.bits (7 : Int))).toNat) : Int).toNat * 2) [(.bool false), (.int .i64 n221)]) fun w231 =>
 (cellsAt w231 ob 1 [(.int .i64 n220)] ∧ (0 ≤ (IntKind.i64.wrap ((BitVec.ofInt IntKind.i64.bits n220 &&& BitVec.ofInt IntKind.i64.bits (7 : Int))).toNat) ∧ (IntKind.i64.wrap ((BitVec.ofInt IntKind.i64.bits n220 &&& BitVec.ofInt IntKind.i64.bits (7 : Int))).toNat) < ((8 : Nat) : Int) ∧ (canSt w231 b225 ((f226 + 18) + ((IntKind.i64.wrap ((BitVec.ofInt IntKind.i64.bits n220 &&& BitVec.ofInt IntKind.i64.bits (7 : Int))).toNat) : Int).toNat * 2) [(.int .i64 n229), (.int .i64 n230)] ∧ withW (setL w231 b225 ((f226 + 18) + ((IntKind.i64.wrap ((BitVec.ofInt IntKind.i64.bits n220 &&& BitVec.ofInt IntKind.i64.bits (7 : Int))).toNat) : Int).toNat * 2) [(.int .i64 n229), (.int .i64 n230)]) fun w232 =>
 (R (.bool true) w232)))))))))))))))

end Go.Proofs.YtfenhbjamohdgaaDoor.Vf
end

/- part H5T -/
section
namespace Go.Proofs.YtfenhbjamohdgaaDoor.Vf
open Go.Vx Go.Vx.Hp Go.RowKit Vr

/-- where a branch of play begins -/
structure Cx (pp hp mp ob base : Nat) (W0 w : World) (S : List St) (most : Int) (v : Value) (A : RA) (φ : Nat → Nat) (av : List Val) (bw : List RV) (Y : Nat → Prop) (a16 : Option Addr) (c18 : Nat) (a19 : Option Addr) (c21 : Nat) (VA : List Val) (BA : List RV) (kd to ct : Int) (s1 s2 : Value) (n : Nat) : Prop where
  pr : Pr W0.heap.size pp hp mp w S most v A φ av bw Y
  two : Two base w (.slice a16 VA.length c18) (.slice a19 BA.length c21) VA BA
  vv : VRs φ A VA BA
  opb : w.heap[ob]? = some (.cells #[.int .i64 kd, .int .i64 to, .int .i64 ct, s1, s2] 45 (0, 0))
  hob : ob < base
  hbase : base ≤ w.heap.size
  lowm : ∀ k, Mine hp S v k → k < ob
  lowy : ∀ k, Y k → k < ob
  lowp : pp < ob
  bel : Below W0.heap.size W0 w
  vl : VA.length ≤ 12
  an : A.length ≤ n
  ac : cellsR A ≤ 9 * n
  n1 : n ≤ 1000
  ct1 : ct ≤ 9223372036854775807

section
variable {pp hp mp ob base n : Nat} {W0 w : World} {S : List St} {most : Int} {v : Value} {A : RA} {φ : Nat → Nat} {av : List Val} {bw : List RV} {Y : Nat → Prop} {a16 : Option Addr} {c18 : Nat} {a19 : Option Addr} {c21 : Nat} {VA : List Val} {BA : List RV} {kd to ct : Int} {s1 s2 : Value}

theorem num_of {G : Nat → Value} (hE : Vn.Errs W0 G) {E : Value} {k : Int} (h : (E = G 0 ∧ k = 14) ∨ (E = G 1 ∧ k = 16) ∨ (E = G 2 ∧ k = 4)) (z : World) (hz : Below W0.heap.size W0 z) : Calls Tryd.prog 32 #[E] z fun e z' => e = .returned (.int .i64 k) ∧ Below z.heap.size z z' := by
  have g : ∀ i, i < 16 → i ∈ Vn.ax.gs := fun i hi => by show i ∈ [0, 1, 2, 3, 4, 5, 6, 7, 8, 9, 10, 11, 12, 13, 14, 15]; simp; omega
  have no : ∀ (x p : Nat), (Vn.tabE.take p).all (fun y => y != x) = true → ∀ i, i < p → Vn.tabE[i]? ≠ some x := fun x p h i hi e => by
    have := List.all_eq_true.1 h x (List.mem_of_getElem? (by rw [List.getElem?_take, if_pos hi]; exact e))
    simp at this
  rcases h with ⟨rfl, rfl⟩ | ⟨rfl, rfl⟩ | ⟨rfl, rfl⟩
  · exact hE.call hz (some 0) 14 (Vn.Num_spec (p := 13) rfl (no 0 13 (by decide))) fun i hi => by cases hi; exact g 0 (by omega)
  · exact hE.call hz (some 1) 16 (Vn.Num_spec (p := 15) rfl (no 1 15 (by decide))) fun i hi => by cases hi; exact g 1 (by omega)
  · exact hE.call hz (some 2) 4 (Vn.Num_spec (p := 3) rfl (no 2 3 (by decide))) fun i hi => by cases hi; exact g 2 (by omega)
theorem num_nil {G : Nat → Value} (hE : Vn.Errs W0 G) (z : World) (hz : Below W0.heap.size W0 z) : Calls Tryd.prog 32 #[.nilIface] z fun e z' => e = .returned (.int .i64 0) ∧ Below z.heap.size z z' :=
  hE.call hz none 0 Vn.Num_nil fun i hi => by cases hi

set_option maxHeartbeats 2000000 in
theorem allocGo {G : Nat → Value} (hE : Vn.Errs W0 G) (cx : Cx pp hp mp ob base W0 w S most v A φ av bw Y a16 c18 a19 c21 VA BA kd to ct s1 s2 n) {x x' u : World} (hx : Below w.heap.size w x) {res : Value} (post : AllocPost hp x S most v (G 0) (G 1) (G 2) ct VA res x') {vb : Nat} (hu : Chg (fun j => j = vb) x' u) (hv1 : w.heap.size ≤ vb) (hv2 : vb < x.heap.size ∨ x'.heap.size ≤ vb) {y : Val} {ve : Value}
    (hres : res = .tuple #[.agg #[.bool y.ref, .int .i64 y.n], ve]) (hvb : u.heap[vb]? = some (.cells #[.bool y.ref, .int .i64 y.n] 30 (0, 0))) (R : Value → World → Prop) (hR : ∀ w', Next W0.heap.size pp hp mp most W0 w' (n + 1) → R (.bool true) w') : AllocMid pp ob vb a19 BA.length c21 ve u R := by
  obtain ⟨hs, hsl, hc, hc2⟩ := cx.two.rsl
  have hlen := cx.vv.len
  have hvl := cx.vl
  have hob := cx.hob
  have hbase := cx.hbase
  have hlh := cx.pr.lh
  have hxs := hx.size
  have lowm := cx.lowm
  have lowy := cx.lowy
  have han := cx.an
  have hac := cx.ac
  have hn1 := cx.n1
  -- from w to u only the heap's own blocks have changed
  have go : ∀ (S' : List St) (v' : Value), Chg (fun j => Mine hp S v j) x x' → Is hp x' S' most v' → (∀ j, Mine hp S' v' j → Mine hp S v j ∨ x.heap.size ≤ j) → ∀ (A' : RA) (φ' : Nat → Nat) (sn k : Int), rAlloc most A ct BA = (sn, k, A') → Iso φ' S' A' → Bd A' → used S' = usedL A' → VRs φ' A' av bw → (k = 0 → VR φ' A' y ⟨sn, 0⟩) → A'.length ≤ n + 1 → cellsR A' ≤ 9 * (n + 1) →
      (∀ z, Below W0.heap.size W0 z → Calls Tryd.prog 32 #[ve] z fun e z' => e = .returned (.int .i64 k) ∧ Below z.heap.size z z') → AllocMid pp ob vb a19 BA.length c21 ve u R := by
    intro S' v' hch his hmine A' φ' sn k hA iso' bd' used' vr' hxy hl1 hl2 hnum
    have cwu : Chg (fun j => Mine hp S v j) w u := ((Chg.of_below hx fun j hj _ => hj).trans hch fun _ _ h => h).trans hu fun j hj e => by omega
    have hus := cwu.size
    have hm' : ∀ j, Mine hp S' v' j → j ≠ vb := fun j hj e => by
      have h2 := (his.mine_lt hj).2
      rcases hmine j hj with h | h
      · have := lowm j h; omega
      · omega
    have stay : ∀ j, j < w.heap.size → ¬ Mine hp S v j → u.heap[j]? = w.heap[j]? := cwu.block
    have nm : ∀ j, ob ≤ j → ¬ Mine hp S v j := fun j hj h => by have := lowm j h; omega
    refine allocMid_spec (his.kept (fun j hj => hu.block j (his.mine_lt hj).2 (hm' j hj)) hu.size) (cx.pr.rf.frame (fun j hj => stay j (cx.pr.rf.lt j hj) (cx.pr.my j hj)) hus) cx.pr.bd
      ((stay pp (lt_of_block cx.pr.blk) cx.pr.pm).trans cx.pr.blk) cx.pr.la (cx.bel.trans (cwu.below cx.bel.size fun j hj h => by have := (cx.pr.is.mine_lt h).1; omega)) (by have := cx.bel.size; omega)
      (fun hp0 => ?_) (cx.pr.b_ok cx.vv) (by omega) hc hc2 (fun b o e => ?_) (fun j hj h => ?_) (fun h => ?_) cx.pr.py hlh cx.pr.lp cx.pr.ly hA iso' bd' used' vr' hxy hl1 hl2 hnum
      ((stay ob (lt_of_block cx.opb) (nm ob (Nat.le_refl _))).trans cx.opb) hvb (by have := cx.lowp; omega) (fun h => by have := lowy _ h; omega) (fun h => by have := lowy _ h; omega) R hR
    · obtain ⟨b, o, e, hcc⟩ := hs hp0
      obtain ⟨g1, g2⟩ := hsl b o e
      exact ⟨b, o, e, cellsAt_same (stay b g2 (nm b (by omega))) hcc⟩
    · obtain ⟨g1, g2⟩ := hsl b o e
      refine ⟨fun h => by have := lowy _ h; omega, by have := cx.lowp; omega, fun h => ?_, ?_⟩
      · rcases hmine b h with h | h
        · have := lowm b h; omega
        · omega
      · have := cx.lowp; have := cx.pr.lp; omega
    · rcases hmine j h with h | h
      · exact cx.pr.my j hj h
      · have := lowy j hj; have := lt_of_block cx.opb; omega
    · rcases hmine pp h with h | h
      · exact cx.pr.pm h
      · have := lt_of_block cx.pr.blk; omega
  rcases alloc_pair cx.pr.iso cx.pr.used cx.vv post with ⟨E, k, e1, e2, e3, e4⟩ | ⟨n0, h8, g1, g2, e1, e3, b, v', hbx, his, hch, hnx⟩
  · rw [hres] at e1
    have : y = ⟨false, 0⟩ ∧ ve = E := by
      obtain ⟨yr, yn⟩ := y
      simp only [Value.tuple.injEq, Array.mk.injEq, List.cons.injEq, Value.agg.injEq, Value.bool.injEq, Value.int.injEq, true_and, and_true] at e1
      simp [e1]
    obtain ⟨rfl, rfl⟩ := this
    have hk : k ≠ 0 := by rcases e2 with ⟨_, h⟩ | ⟨_, h⟩ | ⟨_, h⟩ <;> omega
    exact go S v (Chg.of_below e4 fun j hj _ => hj) ((cx.pr.is.below hx).below e4) (fun j h => .inl h) A φ 0 k e3 cx.pr.iso cx.pr.bd cx.pr.used cx.pr.vr (fun h => absurd h hk) (by omega) (by omega) fun z hz => num_of hE e2 z hz
  · rw [hres] at e1
    have : y = ⟨true, (used S : Nat)⟩ ∧ ve = .nilIface := by
      obtain ⟨yr, yn⟩ := y
      simp only [Value.tuple.injEq, Array.mk.injEq, List.cons.injEq, Value.agg.injEq, Value.bool.injEq, Value.int.injEq, true_and, and_true] at e1
      simp [e1]
    obtain ⟨rfl, rfl⟩ := this
    obtain ⟨q1, q2⟩ := cx.pr.iso.alloc cx.vv (b := b) (n := ct) (x := 1 + sumN S VA) (cx.pr.b_ok cx.vv)
    obtain ⟨z1, z2⟩ := cx.pr.iso.sums cx.vv
    have hsum := cx.pr.bd.ok.sum (cx.pr.b_ok cx.vv)
    refine go _ v' (hch.mono fun j hj => hj.elim .inl fun h => .inr (.inl h)) his (fun j hj => ?_) _ _ _ 0 e3 q1 ⟨fun s hs => ?_, q1.old, by simp; omega, ?_⟩ ?_ (cx.pr.vr.mono fun a b => VR.snoc) (fun _ => q2) (by simp; omega) ?_ fun z hz => num_nil hE z hz
    · rcases hj with h | h | ⟨s, h, e⟩
      · exact .inl (.inl h)
      · rcases hnx with e | ⟨k, h1, h2⟩
        · exact .inl (.inr (.inl (by rw [← e]; exact h)))
        · rw [h2] at h; cases h; exact .inr h1
      · rcases List.mem_append.1 h with h | h
        · exact .inl (.inr (.inr ⟨s, h, e⟩))
        · rw [List.mem_singleton] at h; subst h; subst e; exact .inr hbx
    · rcases List.mem_append.1 hs with h | h
      · exact cx.pr.bd.ok s h
      · rw [List.mem_singleton] at h; subst h
        simp only
        omega
    · rw [cellsR_append]; simp only [cellsR]; omega
    · rw [used_append, usedL_append, cx.pr.used]
      simp only [used_cons, used_nil, St.size, usedL, Bool.false_eq_true, if_false]
      omega
    · rw [cellsR_append]; simp only [cellsR]; omega

set_option maxHeartbeats 1000000 in
theorem playAlloc_spec {G : Nat → Value} (hE : Vn.Errs W0 G) (cx : Cx pp hp mp ob base W0 w S most v A φ av bw Y a16 c18 a19 c21 VA BA kd to ct s1 s2 n) (R : Value → World → Prop) (hR : ∀ w', Next W0.heap.size pp hp mp most W0 w' (n + 1) → R (.bool true) w') : PlayAlloc pp ob a16 VA.length c18 a19 BA.length c21 w R := by
  unfold PlayAlloc
  have g : ∀ i, i < 16 → i ∈ Vn.ax.gs := fun i hi => by show i ∈ [0, 1, 2, 3, 4, 5, 6, 7, 8, 9, 10, 11, 12, 13, 14, 15]; simp; omega
  have hlh := cx.pr.lh
  have hvl := cx.vl
  have hbl := cx.bel.size
  have hob := cx.hob
  have hbase := cx.hbase
  have lowm := cx.lowm
  have hl2 := (hE.cell cx.bel (g 2 (by omega))).2
  have hpp := lt_of_block cx.pr.blk
  have hpp2 := cx.lowp
  refine drewStep fun w23 e23 hb23 => ?_
  have h23 := cx.pr.below hb23
  have s23 : w23.heap.size = w.heap.size := by rw [e23]
  have ob23 : w23.heap[ob]? = _ := e23 ▸ cx.opb
  have call : ∀ x : World, Below w.heap.size w x → Calls Tryd.prog 10 #[.pointer (some ⟨hp, 0, none⟩), .int .i64 ct, .slice a16 VA.length c18] x fun e x' => ∃ r, e = .returned r ∧ AllocPost hp x S most v (G 0) (G 1) (G 2) ct VA r x' := fun x hx => by
    have bx : Below W0.heap.size W0 x := cx.bel.trans (hx.mono hbl)
    have two := cx.two.kept hx
    obtain ⟨hV, hVl⟩ := two.vsl
    exact Alloc_spec (cx.pr.is.below hx) _ _ _ (hE.cell bx (g 0 (by omega))).1 (hE.cell bx (g 1 (by omega))).1 (hE.cell bx (g 2 (by omega))).1 (by omega) ct cx.ct1 a16 c18 VA hV (by omega) fun b o e h => by
      have := (hVl b o e).1; have := lowm b h; omega
  -- a result is a pair
  have two : ∀ {x x' : World} {r : Value}, AllocPost hp x S most v (G 0) (G 1) (G 2) ct VA r x' → ∃ (y : Val) (ve : Value), r = .tuple #[.agg #[.bool y.ref, .int .i64 y.n], ve] := fun hpost => by
    rcases hpost with ⟨_, rfl, _⟩ | ⟨_, _, _, _, rfl, _⟩ | ⟨_, _, _, _, _, _, rfl, _⟩ | ⟨_, _, _, _, _, _, rfl, _⟩
    · exact ⟨⟨false, 0⟩, _, rfl⟩
    · exact ⟨⟨false, 0⟩, _, rfl⟩
    · exact ⟨⟨false, 0⟩, _, rfl⟩
    · exact ⟨⟨true, _⟩, _, rfl⟩
  have chg : ∀ {x x' : World} {r : Value}, AllocPost hp x S most v (G 0) (G 1) (G 2) ct VA r x' → Chg (fun j => Mine hp S v j) x x' := fun hpost => by
    rcases hpost with ⟨_, _, h⟩ | ⟨_, _, _, _, _, h⟩ | ⟨_, _, _, _, _, _, _, h⟩ | ⟨_, _, _, _, _, _, _, b, v', _, _, h, _⟩
    · exact Chg.of_below h fun j hj _ => hj
    · exact Chg.of_below h fun j hj _ => hj
    · exact Chg.of_below h fun j hj _ => hj
    · exact h.mono fun j hj => hj.elim .inl fun h => .inr (.inl h)
  have nm : ∀ j, ob ≤ j → ¬ Mine hp S v j := fun j hj h => by have := lowm j h; omega
  refine ⟨pp, 0, rfl, _, cell_of_block h23.blk rfl, ct, cell_of_block ob23 rfl, ?_, ?_⟩
  · refine (call w23 hb23).mono ?_
    rintro _ w28 ⟨r, rfl, hpost⟩
    obtain ⟨y, ve, rfl⟩ := two hpost
    have c28 := chg hpost
    have s28 := c28.size
    have ob28 := (c28.block ob (lt_of_block ob23) (nm ob (Nat.le_refl _))).trans ob23
    have pp28 := (c28.block pp (by omega) cx.pr.pm).trans h23.blk
    refine ⟨_, _, _, rfl, box fun w33 at33 hb33 hs33 => ⟨⟨cell_of_block (block_below hb33 (by omega) ob28) rfl, trivial⟩, ⟨cell_of_block (block_below hb33 (by omega) pp28) rfl, trivial⟩, setStep at33 (by simp) rfl fun w34 at34 same34 hs34 chg34 => drewStep fun w35 e35 hb35 => ?_⟩⟩
    have at34' : w34.heap[w28.heap.size]? = some (.cells #[.bool y.ref, .int .i64 y.n] 30 (0, 0)) := at34
    refine allocGo hE cx hb23 hpost (vb := w28.heap.size) (u := w35) ?_ (by omega) (.inr (Nat.le_refl _)) rfl (e35 ▸ at34') R hR
    exact ((Chg.of_below hb33 fun j hj _ => hj).trans chg34 fun _ _ h => h).trans (Chg.of_below hb35 fun j hj _ => hj) fun _ _ h => h
  · refine box fun w62 at62 hb62 hs62 => ?_
    have b62 := hb23.trans (hb62.mono (by omega))
    have ob62 := block_below hb62 (by omega) ob23
    have pp62 := block_below hb62 (by omega) h23.blk
    refine ⟨⟨cell_of_block ob62 rfl, trivial⟩, ⟨cell_of_block pp62 rfl, trivial⟩, (call w62 b62).mono ?_⟩
    rintro _ w63 ⟨r, rfl, hpost⟩
    obtain ⟨y, ve, rfl⟩ := two hpost
    have c63 := chg hpost
    have s63 := c63.size
    have at63 := (c63.block w23.heap.size (by omega) (nm _ (by omega))).trans at62
    refine ⟨_, _, _, rfl, setStep at63 (by simp) rfl fun w68 at68 same68 hs68 chg68 => drewStep fun w69 e69 hb69 => ?_⟩
    have at68' : w68.heap[w23.heap.size]? = some (.cells #[.bool y.ref, .int .i64 y.n] 30 (0, 0)) := at68
    exact allocGo hE cx b62 hpost (vb := w23.heap.size) (u := w69) (chg68.trans (Chg.of_below hb69 fun j hj _ => hj) fun _ _ h => h) (by omega) (.inl (by omega)) rfl (e69 ▸ at68') R hR
end
end Go.Proofs.YtfenhbjamohdgaaDoor.Vf
end

/- part H5U -/
section
namespace Go.Proofs.YtfenhbjamohdgaaDoor.Vf
open Go.Vx Go.Vx.Hp Go.RowKit Vr

section
variable {pp hp mp ob base n : Nat} {W0 w : World} {S : List St} {most : Int} {v : Value} {A : RA} {φ : Nat → Nat} {av : List Val} {bw : List RV} {Y : Nat → Prop} {a16 : Option Addr} {c18 : Nat} {a19 : Option Addr} {c21 : Nat} {VA : List Val} {BA : List RV} {kd to ct : Int} {s1 s2 : Value}

theorem Cx.next (cx : Cx pp hp mp ob base W0 w S most v A φ av bw Y a16 c18 a19 c21 VA BA kd to ct s1 s2 n) : Next W0.heap.size pp hp mp most W0 w (n + 1) := by
  have := cx.an
  have := cx.ac
  exact ⟨S, v, A, φ, av, bw, Y, cx.pr, cx.bel, by omega, by omega⟩
theorem Next.below {L0 : Nat} {W0 w w' : World} (h : Next L0 pp hp mp most W0 w n) (hb : Below w.heap.size w w') (hl : L0 ≤ w.heap.size) : Next L0 pp hp mp most W0 w' n := by
  obtain ⟨S, v, A, φ, av, bw, Y, h1, h2, h3, h4⟩ := h
  exact ⟨S, v, A, φ, av, bw, Y, h1.below hb, h2.trans (hb.mono hl), h3, h4⟩

theorem playInt_spec (cx : Cx pp hp mp ob base W0 w S most v A φ av bw Y a16 c18 a19 c21 VA BA kd to ct s1 s2 n) (R : Value → World → Prop) (hR : ∀ w', Next W0.heap.size pp hp mp most W0 w' (n + 1) → R (.bool true) w') : PlayInt pp ob a16 VA.length c18 a19 BA.length c21 w R := by
  unfold PlayInt
  have hob' := lt_of_block cx.opb
  have hpp := lt_of_block cx.pr.blk
  have ho : ob ≠ pp := by have := cx.lowp; omega
  have han := cx.an
  have hac := cx.ac
  refine drewStep fun w47 e47 hb47 => ?_
  have ob47 : w47.heap[ob]? = _ := e47 ▸ cx.opb
  have s47 : w47.heap.size = w.heap.size := by rw [e47]
  refine ⟨to, cell_of_block ob47 rfl, to, cell_of_block ob47 rfl, ct, cell_of_block ob47 rfl, ct, cell_of_block ob47 rfl, pp, 0, rfl, pp, 0, rfl, (RInt_spec ct w47).mono ?_⟩
  rintro _ w56 ⟨rfl, hb56⟩
  have b56 : Below w.heap.size w w56 := hb47.trans (hb56.mono (by omega))
  have h56 := cx.pr.below b56
  have ob56 := block_below b56 hob' cx.opb
  obtain ⟨q, hq8, eq⟩ := and7 to
  have lb := cx.pr.lb
  have la := cx.pr.la
  refine ⟨_, _, rfl, ⟨cell_of_block ob56 rfl, trivial⟩, ⟨cell_of_block ob56 rfl, trivial⟩, ⟨cell_of_block ob56 rfl, trivial⟩, ?_⟩
  rw [eq]
  refine ⟨by omega, by omega, setStep h56.blk (by rw [pcells_size la lb]; simp; omega) rfl fun w60 at60 same60 hs60 chg60 => ?_⟩
  have at60' : w60.heap[pp]? = some (.cells (pcells hp mp (av.set q ⟨false, ct⟩) bw) 66 (0, 0)) := by rw [at60]; exact congrArg _ (congrArg (fun z => Obj.cells z 66 (0, 0)) (pcells_v (by omega) ⟨false, ct⟩))
  have ob60 : w60.heap[ob]? = _ := (same60 ob ho).trans ob56
  refine ⟨⟨cell_of_block ob60 rfl, trivial⟩, by omega, by omega, setStep at60' (by rw [pcells_size (by simpa using la) lb]; simp; omega) rfl fun w61 at61 same61 hs61 chg61 => hR _ ?_⟩
  have at61' : w61.heap[pp]? = some (.cells (pcells hp mp (av.set q ⟨false, ct⟩) (bw.set q ⟨-1, ct⟩)) 66 (0, 0)) := by rw [at61]; exact congrArg _ (congrArg (fun z => Obj.cells z 66 (0, 0)) (pcells_w (by simpa using la) (by omega) ⟨-1, ct⟩))
  have c61 : Chg (fun j => j = pp) w56 w61 := chg60.trans chg61 fun _ _ h => h
  have hlp := cx.pr.lp
  have hbl := cx.bel.size
  exact ⟨S, v, A, φ, _, _, Y, h56.put c61 at61' (by simpa using la) (VRs.set (x := ⟨false, ct⟩) (y := ⟨-1, ct⟩) (.inl ⟨rfl, rfl⟩) cx.pr.vr q), cx.bel.trans ((b56.mono hbl).trans (c61.below (by have := b56.size; omega) fun j hj e => by omega)), by omega, by omega⟩

set_option maxHeartbeats 1000000 in
theorem playSame_spec (cx : Cx pp hp mp ob base W0 w S most v A φ av bw Y a16 c18 a19 c21 VA BA kd to ct s1 s2 n) (R : Value → World → Prop) (hR : ∀ w', Next W0.heap.size pp hp mp most W0 w' (n + 1) → R (.bool true) w') : PlaySame pp ob a16 VA.length c18 a19 BA.length c21 w R := by
  unfold PlaySame
  have hlen := cx.vv.len
  have hbl := cx.bel.size
  refine ifD (fun h1 => ?_) (fun _ => hR _ cx.next)
  have hv2 : 1 < VA.length := by omega
  refine drewStep fun w96 e96 hb96 => ?_
  have h96 := cx.pr.below hb96
  have s96 : w96.heap.size = w.heap.size := by rw [e96]
  have two := cx.two.kept hb96
  obtain ⟨a', c', e', hc⟩ := own_vals two.ra rfl
  cases e'
  obtain ⟨g, rfl, _, hg, c0⟩ := hc 0 (by omega)
  obtain ⟨g', e', _, _, c1⟩ := hc 1 (by omega)
  cases e'
  have x0 := List.getElem?_eq_getElem (l := BA) (i := 0) (by omega)
  have x1 := List.getElem?_eq_getElem (l := BA) (i := 1) (by omega)
  have v0 := cx.vv.get (List.getElem?_eq_getElem (by omega)) x0
  have v1 := cx.vv.get (List.getElem?_eq_getElem (by omega)) x1
  have o0 := cx.pr.b_ok cx.vv _ (List.mem_of_getElem? x0)
  have o1 := cx.pr.b_ok cx.vv _ (List.mem_of_getElem? x1)
  have hf : BA[0].st + 1 < ((A.length + 2 : Nat) : Int) := by
    rcases o0 with e | ⟨j, e, hj⟩
    · rw [e]; omega
    · rw [e]; simp only; omega
  refine ⟨pp, 0, rfl, _, cell_of_block h96.blk rfl, g, 0, rfl, by omega, by omega, _, _, (by simpa [Val.cs] using c0), g, 0, rfl, by omega, by omega, _, _, (by simpa [Val.cs] using c1), (Same_ok h96.is cx.pr.iso (A.length + 2) _ _ _ _ hf v0 v1).mono ?_⟩
  rintro _ w108 ⟨rfl, hb108⟩
  refine ⟨_, _, rfl, drewStep fun w112 e112 hb112 => ⟨true, .inl ⟨rfl, rfl⟩, ifB (fun _ => ?_) (fun h => nomatch h)⟩⟩
  have b112 : Below w.heap.size w w112 := hb96.trans ((hb108.trans (hb112.mono hb108.size)).mono (by omega))
  have h112 := cx.pr.below b112
  obtain ⟨hs, hsl, _, _⟩ := (cx.two.kept b112).rsl
  obtain ⟨b, o, rfl, hcc⟩ := hs (by omega)
  have k0 := rflat_at hcc x0
  have k1 := rflat_at hcc x1
  refine ⟨pp, 0, rfl, _, cell_of_block h112.blk rfl, b, o, rfl, by omega, by omega, _, _, k0, b, o, rfl, by omega, by omega, _, _, k1, (RfSame h112.rf cx.pr.bd (A.length + 2) _ _ hf o0 o1).mono ?_⟩
  rintro _ w125 ⟨rfl, hpost⟩
  obtain ⟨Y', r1, r2, r3⟩ := hpost.none fun _ h => h.elim
  refine ⟨_, rfl, ?_⟩
  rw [beq_self_eq_true]
  have hpp := lt_of_block h112.blk
  have han := cx.an
  have hac := cx.ac
  refine hR _ ⟨S, v, A, φ, av, bw, Y', { h112 with is := ?_, rf := r1, blk := ?_, py := ?_, my := ?_, ly := ?_ }, ?_, by omega, by omega⟩
  · exact h112.is.kept (fun j hj => r3.block j (h112.is.mine_lt hj).2 fun hy => h112.my j hy hj) r3.size
  · exact (r3.block pp hpp h112.py).trans h112.blk
  · intro hy
    rcases r2 pp hy with h | h
    · exact h112.py h
    · omega
  · intro j hy hm
    rcases r2 j hy with h | h
    · exact h112.my j h hm
    · have := (h112.is.mine_lt hm).2; omega
  · intro j hy
    rcases r2 j hy with h | h
    · exact h112.ly j h
    · have := b112.size; omega
  · exact (cx.bel.trans (b112.mono hbl)).trans (r3.below (by have := b112.size; omega) fun j hj hy => by have := h112.ly j hy; omega)
end
end Go.Proofs.YtfenhbjamohdgaaDoor.Vf
end
