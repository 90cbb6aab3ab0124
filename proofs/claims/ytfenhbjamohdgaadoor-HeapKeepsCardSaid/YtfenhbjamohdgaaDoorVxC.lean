/- An executor over the model's code: operations on values. -/
import Derived.Test.YtfenhbjamohdgaaDoorVxB
namespace Go.Vx

variable {P : Program} {tys : Tys} {fns : Fns} {w : World}

theorem guard_none {op : BinOp} {t : Nat} {xo yo : Operand} {x y : Value} (h : ∀ cs, x ≠ .agg cs) (h2 : x = .nilIface → ∃ v, yo = .const v) :
    (eqGuard op t xo yo x y).run P w = .ok () w := by
  unfold eqGuard
  cases op <;> try (simp; done)
  all_goals
    cases x <;> try (simp; done)
    case agg cs => exact absurd rfl (h cs)
    case nilIface =>
      obtain ⟨v, rfl⟩ := h2 rfl
      cases y <;> simp

theorem run_intBin {op : BinOp} {t : Nat} {k : IntKind} {a b : Int} {v : Value} (h : intBin op k a b = some v) : (binOp op t (.int k a) (.int k b)).run P w = .ok v w := by
  cases op <;> simp only [intBin, Option.some.injEq, reduceCtorEq] at h <;> subst h <;> simp [binOp, Op.intArith, Op.intCmp, Op.intBits]

theorem intW_gen {op : BinOp} {t : Nat} {k k' : IntKind} {a b : Int} {K : Value → Prop} (h : if k = k' then (match intBin op k a b with | some v => K v | none => False) else False) :
    ∃ v, K v ∧ ∀ w, (binOp op t (.int k a) (.int k' b)).run P w = .ok v w := by
  by_cases hk : k = k'
  · subst hk
    rw [if_pos rfl] at h
    cases hv : intBin op k a b with
    | none => rw [hv] at h; exact h.elim
    | some v => rw [hv] at h; exact ⟨v, h, fun w => run_intBin hv⟩
  · rw [if_neg hk] at h; exact h.elim

theorem intW_run {op : BinOp} {t : Nat} {k k' : IntKind} {a b : Int} {K : Value → Prop} (h : intW op k k' a b K) : ∃ v, K v ∧ ∀ w, (binOp op t (.int k a) (.int k' b)).run P w = .ok v w := by
  unfold intW at h
  cases op
  case shl => obtain ⟨h1, h2⟩ := h; exact ⟨_, h2, fun w => by simp [binOp, Op.shift, show ¬ b < 0 by omega]⟩
  case shr => obtain ⟨h1, h2⟩ := h; exact ⟨_, h2, fun w => by simp [binOp, Op.shift, show ¬ b < 0 by omega]⟩
  case quo => obtain ⟨rfl, h1, h2⟩ := h; exact ⟨_, h2, fun w => by simp [binOp, Op.intDiv, h1]⟩
  case rem => obtain ⟨rfl, h1, h2⟩ := h; exact ⟨_, h2, fun w => by simp [binOp, Op.intDiv, h1]⟩
  all_goals exact intW_gen h

theorem strBin_run {op : BinOp} {t : Nat} {a b : ByteArray} {K : Value → Prop} (h : strBin op a b K) : ∃ v, K v ∧ ∀ w, (binOp op t (.string a) (.string b)).run P w = .ok v w := by
  unfold strBin at h
  cases op <;> try exact h.elim
  case add =>
    obtain ⟨h1, h2⟩ := h
    have h1' : (a.size : Int) + (b.size : Int) ≤ 9223372036854775807 := by
      have e : IntKind.i64.max = 9223372036854775807 := by decide
      rw [e] at h1; omega
    exact ⟨_, h2, fun w => by simp [binOp, Op.stringOp, h1']⟩
  all_goals exact ⟨_, h, fun w => by simp [binOp, Op.stringOp]⟩

theorem isEq_cases {op : BinOp} (h : isEq op = true) : op = .eql ∨ op = .neq := by cases op <;> simp [isEq] at h <;> simp

theorem cond_false_elim {b : Bool} {p : Prop} (h : cond b p False) : b = true ∧ p := by cases b <;> simp_all

theorem run_eq_of {op : BinOp} {t : Nat} {x y : Value} {r : Bool} (hop : isEq op = true) (hx : ∀ k n, x ≠ .int k n) (hs : ∀ s, x ≠ .string s) (hf : ∀ k n, x ≠ .float k n) (hc : ∀ k n m, x ≠ .complex k n m)
    (h : (Op.equal t x y).run P w = .ok r w) : (binOp op t x y).run P w = .ok (.bool (flip op r)) w := by
  rcases isEq_cases hop with rfl | rfl <;> cases x <;> first | (exfalso; first | exact hx _ _ rfl | exact hs _ rfl | exact hf _ _ rfl | exact hc _ _ _ rfl) | (cases y <;> simp [binOp, flip, h])

theorem equal_bool {t : Nat} {a b : Bool} (h : P.underlying t = some .bool) : (Op.equal t (.bool a) (.bool b)).run P w = .ok (a == b) w := by
  have g : ∀ d, (Op.equalIn (d + 1) t (.bool a) (.bool b)).run P w = .ok (a == b) w := fun d => by simp [Op.equalIn, run_under h]
  exact g 9999
theorem equal_ptr {t e : Nat} {a : Option Addr} (h : P.underlying t = some (.pointer e)) : (Op.equal t (.pointer a) (.pointer none)).run P w = .ok a.isNone w := by
  have g : ∀ d, (Op.equalIn (d + 1) t (.pointer a) (.pointer none)).run P w = .ok a.isNone w := fun d => by cases a <;> simp [Op.equalIn, run_under h]
  exact g 9999
theorem equal_slice {t e : Nat} {a : Option Addr} {n c m k : Nat} (h : P.underlying t = some (.slice e)) : (Op.equal t (.slice a n c) (.slice none m k)).run P w = .ok a.isNone w := by
  have g : ∀ d, (Op.equalIn (d + 1) t (.slice a n c) (.slice none m k)).run P w = .ok a.isNone w := fun d => by cases a <;> simp [Op.equalIn, run_under h]
  exact g 9999
theorem equal_map {t e k : Nat} {a : Option Nat} (h : P.underlying t = some (.map k e)) : (Op.equal t (.map a) (.map none)).run P w = .ok a.isNone w := by
  have g : ∀ d, (Op.equalIn (d + 1) t (.map a) (.map none)).run P w = .ok a.isNone w := fun d => by cases a <;> simp [Op.equalIn, run_under h]
  exact g 9999
theorem equal_nils {t : Nat} {ms : Array (String × TypeId)} (h : P.underlying t = some (.interface ms)) : (Op.equal t .nilIface .nilIface).run P w = .ok true w := by
  have g : ∀ d, (Op.equalIn (d + 1) t .nilIface .nilIface).run P w = .ok true w := fun d => by simp [Op.equalIn, run_under h]
  exact g 9999
theorem equal_nil {t u : Nat} {x : Value} {ms : Array (String × TypeId)} (h : P.underlying t = some (.interface ms)) : (Op.equal t (.iface u x) .nilIface).run P w = .ok false w := by
  have g : ∀ d, (Op.equalIn (d + 1) t (.iface u x) .nilIface).run P w = .ok false w := fun d => by simp [Op.equalIn, run_under h]
  exact g 9999

theorem semEq_of {op : BinOp} {t : Nat} {xo yo : Operand} {x y v : Value} (h : ∀ cs, x ≠ .agg cs) (h2 : x = .nilIface → ∃ v, yo = .const v) (hb : (binOp op t x y).run P w = .ok v w) :
    (semEq op t xo yo x y).run P w = .ok v w := by
  simp only [semEq, Sem.run_bind, guard_none h h2, Result.andThen_ok]; exact hb

theorem binP_run {op : BinOp} {t : Nat} {xo yo : Operand} {x y : Value} {ρ : Operand → Value} {K : Value → Prop} (hT : AllOk P tys) (hy : ρ yo = y) (hρ : ∀ v, ρ (.const v) = v) (h : binP tys op t yo x y K) :
    ∃ v, K v ∧ ∀ w, (semEq op t xo yo x y).run P w = .ok v w := by
  have other : nilEqP tys op t yo x K → ∃ v, K v ∧ ∀ w, (semEq op t xo yo x y).run P w = .ok v w := by
    clear h
    intro h
    unfold nilEqP at h
    split at h
    · rw [hρ] at hy
      obtain ⟨hop, h⟩ := cond_false_elim h
      split at h
      · rename_i hl
        obtain ⟨ms, htk⟩ := (ok_of_look hT hl).tk
        obtain ⟨r, hn, hK⟩ := h
        refine ⟨_, hK, fun w => ?_⟩
        subst hy
        rcases hn with ⟨rfl, rfl⟩ | ⟨u, z, rfl, rfl⟩
        · exact semEq_of (by simp) (fun _ => ⟨_, rfl⟩) (run_eq_of hop (by simp) (by simp) (by simp) (by simp) (equal_nils htk))
        · exact semEq_of (by simp) (fun _ => ⟨_, rfl⟩) (run_eq_of hop (by simp) (by simp) (by simp) (by simp) (equal_nil htk))
      · exact h.elim
    · exact h.elim
  unfold binP at h
  cases hnc : isNilC yo with
  | true => rw [hnc] at h; exact other h
  | false =>
  rw [hnc] at h
  replace h : binV tys op t x y K := h
  unfold binV at h
  cases x with
  | int k a =>
    cases y with
    | int k' b =>
      obtain ⟨v, h2, h1⟩ := intW_run (P := P) (t := t) h
      exact ⟨v, h2, fun w => semEq_of (by simp) (by simp) (h1 w)⟩
    | _ => exact False.elim h
  | string a =>
    cases y with
    | string b =>
      obtain ⟨v, h2, h1⟩ := strBin_run (P := P) (t := t) h
      exact ⟨v, h2, fun w => semEq_of (by simp) (by simp) (h1 w)⟩
    | _ => exact False.elim h
  | bool a =>
    cases y with
    | bool b =>
      obtain ⟨hop, h⟩ := cond_false_elim h
      split at h
      · rename_i hl
        have htk : P.underlying t = _ := (ok_of_look hT hl).tk
        exact ⟨_, h, fun w => semEq_of (by simp) (by simp) (run_eq_of hop (by simp) (by simp) (by simp) (by simp) (equal_bool htk))⟩
      · exact False.elim h
    | _ => exact False.elim h
  | pointer a =>
    cases y with
    | pointer b =>
      cases b with
      | none =>
        obtain ⟨hop, h⟩ := cond_false_elim h
        split at h
        · rename_i hl
          have htk : P.underlying t = _ := (ok_of_look hT hl).tk
          exact ⟨_, h, fun w => semEq_of (by simp) (by simp) (run_eq_of hop (by simp) (by simp) (by simp) (by simp) (equal_ptr htk))⟩
        · exact False.elim h
      | some b => exact False.elim h
    | _ => exact False.elim h
  | slice a _ _ =>
    cases y with
    | slice b _ _ =>
      cases b with
      | none =>
        obtain ⟨hop, h⟩ := cond_false_elim h
        split at h
        · rename_i hl
          have htk : P.underlying t = _ := (ok_of_look hT hl).tk
          exact ⟨_, h, fun w => semEq_of (by simp) (by simp) (run_eq_of hop (by simp) (by simp) (by simp) (by simp) (equal_slice htk))⟩
        · exact False.elim h
      | some b => exact False.elim h
    | _ => exact False.elim h
  | map a =>
    cases y with
    | map b =>
      cases b with
      | none =>
        obtain ⟨hop, h⟩ := cond_false_elim h
        split at h
        · rename_i hl
          have htk : P.underlying t = _ := (ok_of_look hT hl).tk
          exact ⟨_, h, fun w => semEq_of (by simp) (by simp) (run_eq_of hop (by simp) (by simp) (by simp) (by simp) (equal_map htk))⟩
        · exact False.elim h
      | some b => exact False.elim h
    | _ => exact False.elim h
  | _ => exact False.elim h

theorem convP_run {s d : Nat} {x : Value} {K : Value → Prop} (hT : AllOk P tys) (h : convP tys s d x K) : ∃ v, K v ∧ ∀ w, (convert s d x).run P w = .ok v w := by
  unfold convP at h
  split at h
  · rename_i ys hs
    split at h
    · rename_i yd hd
      have ts := (ok_of_look hT hs).tk
      have td := (ok_of_look hT hd).tk
      split at h
      · rename_i k hk
        rw [hk] at td
        have td' : P.underlying d = _ := td
        split at h
        · split at h
          · rename_i k' hk'
            rw [hk'] at ts
            have ts' : P.underlying s = _ := ts
            exact ⟨_, h, fun w => by simp [convert, run_under ts', run_under td', Conv.intToInt]⟩
          · exact h.elim
        · exact h.elim
      · rename_i hk
        rw [hk] at td
        have td' : P.underlying d = _ := td
        split at h
        · split at h
          · rename_i hk'
            rw [hk'] at ts
            have ts' : P.underlying s = _ := ts
            exact ⟨_, h, fun w => by simp [convert, run_under ts', run_under td']⟩
          · exact h.elim
        · exact h.elim
      · exact h.elim
    · exact h.elim
  · exact h.elim

theorem convW_run {s d : Nat} {x : Value} {K : Value → World → Prop} (h : convW P tys s d x w K) : ∃ v w', (convert s d x).run P w = .ok v w' ∧ K v w' := by
  unfold convW at h
  split at h
  · split at h
    · obtain ⟨a, n, c, w', h1, h2⟩ := h
      exact ⟨_, _, h1, h2⟩
    · exact h.elim
  · exact h.elim

theorem run_sbound {y : Nat} {code : BoundsCode} {k : IntKind} {n : Int} (h0 : 0 ≤ n) (h1 : n ≤ y) : (Instr.sliceBound (.int k n) y code).run P w = .ok n.toNat w := by
  simp [Instr.sliceBound, asIntOf, h0, h1]

theorem cutA_map (a : Option Addr) (l m s : Nat) : (if m = l then a else Option.map (fun x => x.add (l * s)) a) = cutA a l m s := rfl

theorem sliceW_run {t : Nat} {x : Value} {lo hi mx : Option Value} {K : Value → Prop} (hT : AllOk P tys) (h : sliceW tys t x lo hi mx K) : ∃ v, K v ∧ ∀ w, (Instr.sliceAt t x lo hi mx).run P w = .ok v w := by
  unfold sliceW at h
  split at h
  · -- strings
    rename_i s
    split at h
    · rename_i hl
      have ht : P.underlying t = _ := (ok_of_look hT hl).tk
      split at h
      · exact h.elim
      · split at h
        · split at h
          · exact ⟨_, h, fun w => by simp [Instr.sliceAt, Instr.slice, Instr.sliceBounds, run_under ht]⟩
          · obtain ⟨h0, h1, h⟩ := h
            exact ⟨_, h, fun w => by simp [Instr.sliceAt, Instr.slice, Instr.sliceBounds, run_under ht, run_sbound h0 h1]⟩
          · exact h.elim
        · rename_i k hh
          split at h
          · obtain ⟨h0, h1, h⟩ := h
            exact ⟨_, h, fun w => by simp [Instr.sliceAt, Instr.slice, Instr.sliceBounds, run_under ht, run_sbound h0 h1]⟩
          · obtain ⟨h0, h1, h2, h⟩ := h
            exact ⟨_, h, fun w => by simp [Instr.sliceAt, Instr.slice, Instr.sliceBounds, run_under ht, run_sbound (Int.le_trans h0 h1) h2, run_sbound h0 (show _ ≤ ((Int.toNat _ : Nat) : Int) by rw [Int.toNat_of_nonneg (Int.le_trans h0 h1)]; exact h1)]⟩
          · exact h.elim
        · exact h.elim
    · exact h.elim
  · rename_i a n c
    split at h
    · rename_i el _ _ _ _ hl
      have ht : P.underlying t = _ := (ok_of_look hT hl).tk
      split at h
      · rename_i ye he
        have hs := fun w => run_sizeOf (w := w) (ok_of_look hT he)
        split at h
        · split at h
          · split at h
            · exact ⟨_, h, fun w => by simp only [Instr.sliceAt, Instr.slice, Instr.sliceBounds, Sem.run_bind, run_under ht, Result.andThen_ok, hs, Sem.run_pure, cutA_map]; rfl⟩
            · obtain ⟨h0, h1, h⟩ := h
              exact ⟨_, h, fun w => by simp [Instr.sliceAt, Instr.slice, Instr.sliceBounds, run_under ht, hs, run_sbound h0 h1]; rfl⟩
            · exact h.elim
          · split at h
            · obtain ⟨h0, h1, h⟩ := h
              exact ⟨_, h, fun w => by simp only [Instr.sliceAt, Instr.slice, Instr.sliceBounds, Sem.run_bind, run_under ht, Result.andThen_ok, hs, Sem.run_pure, cutA_map, run_sbound h0 h1, if_true]; rfl⟩
            · obtain ⟨h0, h1, h2, h⟩ := h
              exact ⟨_, h, fun w => by simp [Instr.sliceAt, Instr.slice, Instr.sliceBounds, run_under ht, hs, run_sbound (Int.le_trans h0 h1) h2, run_sbound h0 (show _ ≤ ((Int.toNat _ : Nat) : Int) by rw [Int.toNat_of_nonneg (Int.le_trans h0 h1)]; exact h1)]; rfl⟩
            · exact h.elim
          · exact h.elim
        · split at h
          · split at h
            · obtain ⟨h0, h1, h2, h⟩ := h
              exact ⟨_, h, fun w => by simp only [Instr.sliceAt, Instr.slice, Instr.sliceBounds, Sem.run_bind, run_under ht, Result.andThen_ok, hs, Sem.run_pure, cutA_map, if_true, run_sbound (Int.le_trans h0 h1) h2, run_sbound h0 (show _ ≤ ((Int.toNat _ : Nat) : Int) by rw [Int.toNat_of_nonneg (Int.le_trans h0 h1)]; exact h1)]; rfl⟩
            · obtain ⟨h0, h1, h2, h3, h⟩ := h
              exact ⟨_, h, fun w => by simp [Instr.sliceAt, Instr.slice, Instr.sliceBounds, run_under ht, hs, run_sbound (Int.le_trans h0 (Int.le_trans h1 h2)) h3, run_sbound (Int.le_trans h0 h1) (show _ ≤ ((Int.toNat _ : Nat) : Int) by rw [Int.toNat_of_nonneg (Int.le_trans h0 (Int.le_trans h1 h2))]; exact h2), run_sbound h0 (show _ ≤ ((Int.toNat _ : Nat) : Int) by rw [Int.toNat_of_nonneg (Int.le_trans h0 h1)]; exact h1)]; rfl⟩
            · exact h.elim
          · exact h.elim
        · exact h.elim
      · exact h.elim
    · exact h.elim
  · exact h.elim

end Go.Vx
