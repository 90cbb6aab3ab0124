/- Data: the order, in plain Lean. -/
import Derived.Test.YtkplhlciocbecaaDoorD1Q
namespace Go.Vx.Da

def cmpI (x y : Int) : Int := if x < y then -1 else if y < x then 1 else 0
def cmpB (x y : List UInt8) : Int := if Op.bytesLess x y = true then -1 else if x = y then 0 else 1
def lex (x y : Int) : Int := if x ≠ 0 then x else y

mutual
def cmpD : D → D → Int
  | ⟨c, i, s, l⟩, ⟨c', i', s', l'⟩ => match c, c' with
    | false, false => cmpI i i'
    | false, true => -1
    | true, false => 1
    | true, true => lex (lex (cmpB s.toList s'.toList) (cmpI l.length l'.length)) (cmpL l l')
def cmpL : List D → List D → Int
  | [], _ => 0
  | _ :: _, [] => 0
  | a :: r, b :: r' => lex (cmpD a b) (cmpL r r')
end

theorem cmpD_ii {d e : D} (h : d.ctor = false) (h' : e.ctor = false) : cmpD d e = cmpI d.int e.int := by
  obtain ⟨c, i, s, l⟩ := d; obtain ⟨c', i', s', l'⟩ := e; subst h h'; rfl
theorem cmpD_ic {d e : D} (h : d.ctor = false) (h' : e.ctor = true) : cmpD d e = -1 := by
  obtain ⟨c, i, s, l⟩ := d; obtain ⟨c', i', s', l'⟩ := e; subst h h'; rfl
theorem cmpD_ci {d e : D} (h : d.ctor = true) (h' : e.ctor = false) : cmpD d e = 1 := by
  obtain ⟨c, i, s, l⟩ := d; obtain ⟨c', i', s', l'⟩ := e; subst h h'; rfl
theorem cmpD_cc {d e : D} (h : d.ctor = true) (h' : e.ctor = true) : cmpD d e = lex (lex (cmpB d.name.toList e.name.toList) (cmpI d.args.length e.args.length)) (cmpL d.args e.args) := by
  obtain ⟨c, i, s, l⟩ := d; obtain ⟨c', i', s', l'⟩ := e; subst h h'; rfl

theorem cmpB_cons (a b : UInt8) (r t : List UInt8) : cmpB (a :: r) (b :: t) = lex (cmpI a.toNat b.toNat) (cmpB r t) := by
  simp only [cmpB, cmpI, lex, Op.bytesLess, Bool.or_eq_true, Bool.and_eq_true, decide_eq_true_eq, List.cons.injEq, beq_iff_eq, UInt8.lt_iff_toNat_lt, ← UInt8.toNat_inj]
  rcases Nat.lt_trichotomy a.toNat b.toNat with h | h | h
  · simp [h]
  · simp [h]
  · have h1 : ¬ a.toNat < b.toNat := by omega
    have h2 : ¬ a.toNat = b.toNat := by omega
    have h3 : ¬ (a.toNat : Int) < b.toNat := by omega
    have h4 : (b.toNat : Int) < a.toNat := by omega
    simp [h1, h2, h3, h4]

/-- what an order's answers over three pairs keep -/
def Tr (x y z : Int) : Prop := (x ≤ 0 → y ≤ 0 → z ≤ 0) ∧ (x < 0 → y ≤ 0 → z < 0) ∧ (x ≤ 0 → y < 0 → z < 0)
theorem Tr.lex {x y z x' y' z' : Int} (h : Tr x y z) (h' : Tr x' y' z') : Tr (lex x x') (lex y y') (lex z z') := by
  obtain ⟨h1, h2, h3⟩ := h; obtain ⟨h4, h5, h6⟩ := h'
  simp only [Da.lex, Tr]
  split <;> split <;> split <;> omega
def Ra (x : Int) : Prop := -1 ≤ x ∧ x ≤ 1
theorem Ra.lex {x y : Int} (h : Ra x) (h' : Ra y) : Ra (lex x y) := by simp only [Da.lex]; split <;> assumption
theorem lex_anti {x y x' y' : Int} (h : x = - x') (h' : y = - y') : lex x y = - lex x' y' := by simp only [lex]; split <;> split <;> omega
theorem lex_zero (x : Int) : lex 0 x = x := rfl

theorem cmpI_ra (x y : Int) : Ra (cmpI x y) := by unfold Ra cmpI; (repeat' split) <;> omega
theorem cmpI_anti (x y : Int) : cmpI x y = - cmpI y x := by unfold cmpI; split <;> split <;> (try split) <;> omega
theorem cmpI_tr (x y z : Int) : Tr (cmpI x y) (cmpI y z) (cmpI x z) := by
  have e : ∀ x y, (cmpI x y ≤ 0 ↔ x ≤ y) ∧ (cmpI x y < 0 ↔ x < y) := fun x y => by unfold cmpI; constructor <;> split <;> (try split) <;> omega
  simp only [Tr, (e _ _).1, (e _ _).2]; omega
theorem cmpB_ra (x y : List UInt8) : Ra (cmpB x y) := by unfold Ra cmpB; (repeat' split) <;> omega
theorem cmpB_anti : ∀ (x y : List UInt8), cmpB x y = - cmpB y x
  | [], [] => by decide
  | [], _ :: _ => by simp [cmpB, Op.bytesLess]
  | _ :: _, [] => by simp [cmpB, Op.bytesLess]
  | a :: r, b :: t => by rw [cmpB_cons, cmpB_cons]; exact lex_anti (cmpI_anti _ _) (cmpB_anti r t)
theorem cmpB_tr : ∀ (x y z : List UInt8), Tr (cmpB x y) (cmpB y z) (cmpB x z)
  | [], y, [] => by have := cmpB_anti y []; rw [this]; have e : cmpB [] [] = 0 := by decide
                    rw [e]; unfold Tr; omega
  | [], [], _ :: _ => by simp [cmpB, Op.bytesLess, Tr]
  | [], _ :: _, _ :: _ => by simp [cmpB, Op.bytesLess, Tr]
  | _ :: _, [], z => by simp [cmpB, Op.bytesLess, Tr]
  | _ :: _, _ :: _, [] => by simp [cmpB, Op.bytesLess, Tr]
  | a :: r, b :: t, c :: u => by rw [cmpB_cons, cmpB_cons, cmpB_cons]; exact (cmpI_tr _ _ _).lex (cmpB_tr r t u)

theorem cmpD_ra : ∀ (k : Nat), (∀ (d e : D), SizeOf.sizeOf d < k → Ra (cmpD d e)) ∧ (∀ (l m : List D), SizeOf.sizeOf l < k → Ra (cmpL l m)) := by
  intro k
  induction k with
  | zero => exact ⟨fun d e h => by omega, fun l m h => by omega⟩
  | succ k ih =>
  refine ⟨fun d e h => ?_, fun l m h => ?_⟩
  · obtain ⟨c, i, s, l⟩ := d; obtain ⟨c', i', s', l'⟩ := e
    simp only [D.mk.sizeOf_spec] at h
    cases c <;> cases c'
    · exact cmpI_ra _ _
    · show Ra (-1); unfold Ra; omega
    · show Ra 1; unfold Ra; omega
    · exact ((cmpB_ra _ _).lex (cmpI_ra _ _)).lex (ih.2 _ _ (by omega))
  · cases l <;> cases m
    · show Ra 0; unfold Ra; omega
    · show Ra 0; unfold Ra; omega
    · show Ra 0; unfold Ra; omega
    · rename_i a r b t
      simp only [List.cons.sizeOf_spec] at h
      exact (ih.1 _ _ (by omega)).lex (ih.2 _ _ (by omega))

theorem cmpD_anti : ∀ (k : Nat), (∀ (d e : D), SizeOf.sizeOf d < k → cmpD d e = - cmpD e d) ∧ (∀ (l m : List D), SizeOf.sizeOf l < k → l.length = m.length → cmpL l m = - cmpL m l) := by
  intro k
  induction k with
  | zero => exact ⟨fun d e h => by omega, fun l m h => by omega⟩
  | succ k ih =>
  refine ⟨fun d e h => ?_, fun l m h hl => ?_⟩
  · obtain ⟨c, i, s, l⟩ := d; obtain ⟨c', i', s', l'⟩ := e
    simp only [D.mk.sizeOf_spec] at h
    cases c <;> cases c'
    · exact cmpI_anti _ _
    · rfl
    · rfl
    · show lex (lex (cmpB s.toList s'.toList) (cmpI l.length l'.length)) (cmpL l l') = - lex (lex (cmpB s'.toList s.toList) (cmpI l'.length l.length)) (cmpL l' l)
      by_cases hl : l.length = l'.length
      · exact lex_anti (lex_anti (cmpB_anti _ _) (cmpI_anti _ _)) (ih.2 _ _ (by omega) hl)
      · have h0 : lex (cmpB s.toList s'.toList) (cmpI l.length l'.length) ≠ 0 := by
          have : cmpI (l.length : Int) l'.length ≠ 0 := by unfold cmpI; split <;> (try split) <;> omega
          unfold lex; split <;> assumption
        have h1 := lex_anti (cmpB_anti s.toList s'.toList) (cmpI_anti (l.length : Int) l'.length)
        have h2 : lex (cmpB s'.toList s.toList) (cmpI l'.length l.length) ≠ 0 := by omega
        have e : ∀ (p q : Int), p ≠ 0 → lex p q = p := fun p q hp => by rw [lex, if_pos hp]
        rw [e _ _ h0, e _ _ h2, h1]
  · cases l <;> cases m
    · rfl
    · simp at hl
    · simp at hl
    · rename_i a r b t
      simp only [List.cons.sizeOf_spec] at h
      exact lex_anti (ih.1 _ _ (by omega)) (ih.2 _ _ (by omega) (by simpa using hl))

theorem cmpD_tr : ∀ (k : Nat), (∀ (d e f : D), SizeOf.sizeOf d < k → Tr (cmpD d e) (cmpD e f) (cmpD d f)) ∧ (∀ (l m n : List D), SizeOf.sizeOf l < k → l.length = m.length → m.length = n.length → Tr (cmpL l m) (cmpL m n) (cmpL l n)) := by
  intro k
  induction k with
  | zero => exact ⟨fun d e f h => by omega, fun l m n h => by omega⟩
  | succ k ih =>
  refine ⟨fun d e f h => ?_, fun l m n h hl hm => ?_⟩
  · obtain ⟨c, i, s, l⟩ := d; obtain ⟨c', i', s', l'⟩ := e; obtain ⟨c'', i'', s'', l''⟩ := f
    simp only [D.mk.sizeOf_spec] at h
    cases c <;> cases c' <;> cases c''
    · exact cmpI_tr _ _ _
    · have := cmpI_ra i i'; simp only [Tr]; show (_ → _ → (-1 : Int) ≤ 0) ∧ (_ → _ → (-1 : Int) < 0) ∧ (_ → _ → (-1 : Int) < 0); omega
    · have : cmpD ⟨true, i', s', l'⟩ ⟨false, i'', s'', l''⟩ = 1 := rfl
      simp only [Tr, this]; omega
    · have : cmpD ⟨false, i, s, l⟩ ⟨true, i'', s'', l''⟩ = -1 := rfl
      simp only [Tr, this]; omega
    · have : cmpD ⟨true, i, s, l⟩ ⟨false, i', s', l'⟩ = 1 := rfl
      simp only [Tr, this]; omega
    · have : cmpD ⟨true, i, s, l⟩ ⟨false, i', s', l'⟩ = 1 := rfl
      simp only [Tr, this]; omega
    · have : cmpD ⟨true, i', s', l'⟩ ⟨false, i'', s'', l''⟩ = 1 := rfl
      simp only [Tr, this]; omega
    · show Tr (lex (lex (cmpB s.toList s'.toList) (cmpI l.length l'.length)) (cmpL l l')) (lex (lex (cmpB s'.toList s''.toList) (cmpI l'.length l''.length)) (cmpL l' l'')) (lex (lex (cmpB s.toList s''.toList) (cmpI l.length l''.length)) (cmpL l l''))
      have hp := (cmpB_tr s.toList s'.toList s''.toList).lex (cmpI_tr (l.length : Int) l'.length l''.length)
      by_cases hl : l.length = l'.length ∧ l'.length = l''.length
      · exact hp.lex (ih.2 _ _ _ (by omega) hl.1 hl.2)
      · have z : ∀ (p q : Int), q ≠ 0 → lex p q ≠ 0 := fun p q hq => by unfold lex; split <;> assumption
        have zi : ∀ (x y : Nat), x ≠ y → cmpI x y ≠ 0 := fun x y h => by unfold cmpI; split <;> (try split) <;> omega
        obtain ⟨h1, h2, h3⟩ := hp
        by_cases ha : l.length = l'.length
        · have hb := z (cmpB s'.toList s''.toList) _ (zi _ _ (fun h => hl ⟨ha, h⟩))
          simp only [Tr]
          generalize lex (cmpB s.toList s'.toList) (cmpI l.length l'.length) = x at *
          generalize lex (cmpB s'.toList s''.toList) (cmpI l'.length l''.length) = y at *
          generalize lex (cmpB s.toList s''.toList) (cmpI l.length l''.length) = z at *
          simp only [lex]; (repeat' split) <;> omega
        · have hb := z (cmpB s.toList s'.toList) _ (zi _ _ ha)
          simp only [Tr]
          generalize lex (cmpB s.toList s'.toList) (cmpI l.length l'.length) = x at *
          generalize lex (cmpB s'.toList s''.toList) (cmpI l'.length l''.length) = y at *
          generalize lex (cmpB s.toList s''.toList) (cmpI l.length l''.length) = z at *
          simp only [lex]; (repeat' split) <;> omega
  · cases l <;> cases m <;> cases n
    all_goals (try (simp at hl; done))
    all_goals (try (simp at hm; done))
    · unfold Tr; simp [cmpL]
    · rename_i a r b t c u
      simp only [List.cons.sizeOf_spec] at h
      exact (ih.1 _ _ _ (by omega)).lex (ih.2 _ _ _ (by omega) (by simpa using hl) (by simpa using hm))

end Go.Vx.Da
