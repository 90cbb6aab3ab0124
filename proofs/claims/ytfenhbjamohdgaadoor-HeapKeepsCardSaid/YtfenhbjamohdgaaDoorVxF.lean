/- An executor over the model's code: regions. -/
import Derived.Test.YtfenhbjamohdgaaDoorVxE
namespace Go.Vx

variable {P : Program} {tys : Tys} {fns : Fns} {w : World}

structure Rel (n : Nat) (e : Env) (a : Act) : Prop where
  size : a.tmps.size = n
  at_ : ∀ t, a.tmps.getD t undef = e t
  defers : a.defers = []

theorem Rel.eval {n : Nat} {e : Env} {a : Act} (h : Rel n e a) : a.eval = ev e := by
  funext x
  cases x with
  | tmp t => exact h.at_ t
  | const v => rfl
  | global g => rfl
  | func f => rfl

theorem Rel.put {n : Nat} {e : Env} {a : Act} (h : Rel n e a) (d : Option Nat) (v : Value) (hd : ∀ x, d = some x → x < n) : Rel n (e.put d v) (a.put d v) := by
  cases d with
  | none => exact h
  | some d =>
    have hlt : d < a.tmps.size := h.size ▸ hd d rfl
    refine ⟨by simp [Act.put, h.size], fun t => ?_, h.defers⟩
    have := h.at_ t
    simp only [Act.put, Env.put]
    by_cases e1 : t = d
    · subst e1
      have : Nat.beq t t = true := by simp
      rw [this]
      simp [Array.getD_eq_getD_getElem?, hlt]
    · have e2 : Nat.beq t d = false := by
        cases hb : Nat.beq t d with
        | false => rfl
        | true => exact absurd (Nat.eq_of_beq_eq_true hb) e1
      rw [e2]
      simp only [Array.getD_eq_getD_getElem?] at this ⊢
      rw [Array.getElem?_setIfInBounds_ne (Ne.symm e1)]
      exact this

theorem Rel.same {n : Nat} {e e' : Env} {a : Act} (h : Rel n e a) (he : ∀ t, e' t = e t) : Rel n e' a := ⟨h.size, fun t => (h.at_ t).trans (he t).symm, h.defers⟩

theorem put_same {e : Env} {s : Nat} {v : Value} (h : e s = v) (t : Nat) : (e.put (some s) v) t = e t := by
  simp only [Env.put]
  cases hb : Nat.beq t s with
  | false => rfl
  | true => rw [Nat.eq_of_beq_eq_true hb]; exact h.symm

theorem put_ne {e : Env} {d : Option Nat} {v : Value} {t : Nat} (h : d ≠ some t) : (e.put d v) t = e t := by
  cases d with
  | none => rfl
  | some d =>
    simp only [Env.put]
    cases hb : Nat.beq t d with
    | false => rfl
    | true => exact absurd (congrArg some (Nat.eq_of_beq_eq_true hb).symm) h

theorem wanted_some {n : Nat} {e : Env} {a : Act} {ops : Array Oper} {o : Oper} {j s : Nat} {want b : Bool} (h : Rel n e a) (hg : o.guard = some (j, want)) (hs : slotOf ops j = some s) (hb : e s = .bool b) :
    Region.wanted o (yielded ops a.tmps) = (b == want) := by
  have h1 : ((ops[j]?).bind (·.dst)) = some s := by
    unfold slotOf at hs
    rw [← Array.getElem?_toList]
    cases hj : ops.toList[j]? with
    | none => rw [hj] at hs; cases hs
    | some o => rw [hj] at hs; exact hs
  have h2 := h.at_ s
  rw [hb] at h2
  have h3 : a.tmps[s]? = some (.bool b) := by
    rw [Array.getD_eq_getD_getElem?] at h2
    cases hx : a.tmps[s]? with
    | none => rw [hx] at h2; cases h2
    | some v => rw [hx] at h2; exact congrArg some h2
  unfold Region.wanted yielded
  rw [hg]
  simp only [h1, Option.bind_some, h3]
  cases b <;> cases want <;> rfl

theorem wanted_no {n : Nat} {e : Env} {a : Act} {ops : Array Oper} {o : Oper} {j s : Nat} {want : Bool} (h : Rel n e a) (hg : o.guard = some (j, want)) (hs : slotOf ops j = some s) (hb : ∀ b, e s ≠ .bool b) :
    Region.wanted o (yielded ops a.tmps) = false := by
  have h1 : ((ops[j]?).bind (·.dst)) = some s := by
    unfold slotOf at hs
    rw [← Array.getElem?_toList]
    cases hj : ops.toList[j]? with
    | none => rw [hj] at hs; cases hs
    | some o => rw [hj] at hs; exact hs
  have h2 := h.at_ s
  unfold Region.wanted yielded
  rw [hg]
  simp only [h1, Option.bind_some]
  rw [Array.getD_eq_getD_getElem?] at h2
  cases hx : a.tmps[s]? with
  | none => rfl
  | some v =>
    rw [hx] at h2
    simp only [Option.getD_some] at h2
    cases v with
    | bool b => exact absurd h2.symm (hb b)
    | _ => rfl

theorem guard_elim {n : Nat} {e : Env} {a : Act} {ops : Array Oper} {o : Oper} {yes no : Env → Prop} (hr : Rel n e a) (h : guardW ops o e yes no) :
    ∃ e', Rel n e' a ∧ (∀ t, e' t = e t) ∧ ((Region.wanted o (yielded ops a.tmps) = true ∧ yes e') ∨ (Region.wanted o (yielded ops a.tmps) = false ∧ no e')) := by
  unfold guardW at h
  split at h
  · rename_i hg
    exact ⟨e, hr, fun _ => rfl, .inl ⟨by simp [Region.wanted, hg], h⟩⟩
  · rename_i j want hg
    split at h
    · exact h.elim
    · rename_i s hs
      split at h
      · rename_i b hb
        have hw := wanted_some hr hg hs hb
        refine ⟨e.put (some s) (.bool b), hr.same (put_same hb), put_same hb, ?_⟩
        cases b <;> cases want <;> simp only [cond_true, cond_false] at h <;> rw [hw]
        · exact .inl ⟨rfl, h⟩
        · exact .inr ⟨rfl, h⟩
        · exact .inr ⟨rfl, h⟩
        · exact .inl ⟨rfl, h⟩
      · rename_i hb
        exact ⟨e, hr, fun _ => rfl, .inr ⟨wanted_no hr hg hs hb, h⟩⟩

/-- what is left of the slots that a region doesn't write -/
def Frm (l : List Nat) (e e' : Env) : Prop := ∀ t, t ∉ l → e' t = e t

theorem Frm.refl (l : List Nat) (e : Env) : Frm l e e := fun _ _ => rfl
theorem Frm.step {l : List Nat} {e e1 e' : Env} {d : Option Nat} {v : Value} (h : Frm l (e1.put d v) e') (h1 : ∀ t, e1 t = e t) (hd : ∀ x, d = some x → x ∈ l) : Frm l e e' := fun t ht => by
  rw [h t ht, put_ne (fun hh => ht (hd t hh)), h1 t]

theorem regW_wp {ops : Array Oper} {n : Nat} {L : List Nat} {K : Env → World → Prop} {Q : Exit → Act → World → Prop} (hT : AllOk P tys) (hF : FnsOk P fns) : ∀ (l : List Oper) (e : Env) (a : Act) (w : World),
    (∀ o ∈ l, ∀ d, o.dst = some d → d < n ∧ d ∈ L) → Rel n e a → (∀ e' a' w', Rel n e' a' → Frm L e e' → K e' w' → Q .normal a' w') → regW P tys fns ops l e w K → wpList P ops Q l a w
  | [], e, a, w, _, hr, hQ, h => hQ e a w hr (Frm.refl _ _) h
  | o :: r, e, a, w, hd, hr, hQ, h => by
    simp only [regW] at h
    obtain ⟨e1, hr1, he1, hc⟩ := guard_elim hr h
    have hd' := fun o ho => hd o (List.mem_cons_of_mem _ ho)
    have hdo : ∀ d, o.dst = some d → d < n := fun d h => (hd o (by simp) d h).1
    have hdl : ∀ d, o.dst = some d → d ∈ L := fun d h => (hd o (by simp) d h).2
    unfold wpList
    rcases hc with ⟨hw, h⟩ | ⟨hw, h⟩
    · rw [if_pos hw]
      have hres := opW_run hT hF (fun _ => rfl) h
      rw [← hr1.eval] at hres
      exact .inl (hres.wp fun v w' hk => regW_wp hT hF r _ _ _ hd' (hr1.put _ _ hdo) (fun e' a' w'' h1 h2 h3 => hQ e' a' w'' h1 (h2.step he1 hdl) h3) hk)
    · rw [if_neg (by simp [hw])]
      exact regW_wp hT hF r _ _ _ hd' (hr1.put _ _ hdo) (fun e' a' w'' h1 h2 h3 => hQ e' a' w'' h1 (h2.step he1 hdl) h3) h

/-! ### regions that draw their order -/
abbrev Obl := List (Nat × (World → Prop))
def wpAnyO (P : Program) (ops : Array Oper) (Q : Exit → Act → World → Prop) (O : Obl) : Nat → Array Bool → Act → World → Prop
  | 0, listed, a, w => Region.ready .any ops listed = [] ∧ Q .normal a w
  | fuel + 1, listed, a, w =>
    (Region.ready .any ops listed = [] → Q .normal a w) ∧
    ∀ i ∈ Region.ready .any ops listed, wpOp P ops Q i (fun a' w' => (∀ p ∈ O, downB ops.toList ops.toList.length i p.1 = false → p.2 w → p.2 w') ∧ wpAnyO P ops Q O fuel (listed.setIfInBounds i true) a' w') a w

section
variable {ops : Array Oper} {Q : Exit → Act → World → Prop}
theorem wpAny_of_O {O : Obl} : ∀ (fuel : Nat) (listed : Array Bool) (a : Act) (w : World), wpAnyO P ops Q O fuel listed a w → wpAny P .any ops Q fuel listed a w
  | 0, _, _, _, h => h
  | fuel + 1, _, _, _, h => ⟨h.1, fun i hi => wpOp_mono (fun a' w' h' => wpAny_of_O fuel _ a' w' h'.2) (h.2 i hi)⟩

/-- whatever has come up, what it waits for has come up -/
def Closed (ops : Array Oper) (listed : Array Bool) : Prop := ∀ j o, ops[j]? = some o → listed.getD j false = true → ∀ e ∈ o.after, Region.binds .any e = true → listed.getD e.on false = true

theorem Closed.start : Closed ops (Array.replicate ops.size false) := by
  intro j o _ h
  rw [Array.getD_eq_getD_getElem?, Array.getElem?_replicate] at h
  split at h <;> cases h

theorem getD_set (listed : Array Bool) (i j : Nat) (h : listed.getD j false = true) : (listed.setIfInBounds i true).getD j false = true := by
  rw [Array.getD_eq_getD_getElem?] at h ⊢
  by_cases e : i = j
  · subst e
    rw [Array.getElem?_setIfInBounds_self]
    split
    · rfl
    · rename_i hn
      rw [Array.getElem?_eq_none (by omega)] at h
      cases h
  · rw [Array.getElem?_setIfInBounds_ne e]; exact h

theorem Closed.set {listed : Array Bool} {i : Nat} (h : Closed ops listed) (hi : i ∈ Region.ready .any ops listed) : Closed ops (listed.setIfInBounds i true) := by
  intro j o hj hl e he hb
  obtain ⟨_, oi, hoi, hall⟩ := mem_ready.1 hi
  by_cases hji : j = i
  · subst hji
    rw [hoi] at hj; cases hj
    exact getD_set _ _ _ (hall e he hb)
  · refine getD_set _ _ _ (h j o hj ?_ e he hb)
    rw [Array.getD_eq_getD_getElem?, Array.getElem?_setIfInBounds_ne (Ne.symm hji)] at hl
    rw [Array.getD_eq_getD_getElem?]; exact hl

theorem down_listed {listed : Array Bool} (hc : Closed ops listed) {i : Nat} : ∀ (n j : Nat), downB ops.toList n j i = true →
    (∀ o, ops[j]? = some o → ∀ e ∈ o.after, Region.binds .any e = true → listed.getD e.on false = true) → listed.getD i false = true
  | 0, _, h, _ => by simp [downB] at h
  | n + 1, j, h, hj => by
    simp only [downB] at h
    split at h
    · rename_i o ho
      have ho' : ops[j]? = some o := by rw [← Array.getElem?_toList]; exact ho
      obtain ⟨x, hx, hb⟩ := List.any_eq_true.1 h
      rw [Bool.and_eq_true, Bool.or_eq_true] at hb
      have hx' : x ∈ o.after := Array.mem_toList_iff.1 hx
      have hl := hj o ho' x hx' hb.1
      rcases hb.2 with hb2 | hb2
      · rw [← Nat.eq_of_beq_eq_true hb2]; exact hl
      · exact down_listed hc n x.on hb2 fun o' ho'' e he heb => hc x.on o' ho'' hl e he heb
    · cases h

theorem not_down {listed : Array Bool} (hc : Closed ops listed) {i j : Nat} (hj : j ∈ Region.ready .any ops listed) (hi : i ∈ Region.ready .any ops listed) : ∀ n, downB ops.toList n j i = false := by
  intro n
  cases hd : downB ops.toList n j i with
  | false => rfl
  | true =>
    obtain ⟨_, oj, hoj, hall⟩ := mem_ready.1 hj
    have h1 := down_listed hc n j hd (fun o ho e he hb => by rw [hoj] at ho; cases ho; exact hall e he hb)
    have h0 := (mem_ready.1 hi).1
    rcases Nat.lt_or_ge i listed.size with h' | h'
    · simp [h'] at h0 h1; rw [h0] at h1; cases h1
    · simp [Array.getElem?_eq_none h'] at h1

theorem wpAnyO_first {i : Nat} {oi : Oper} {v : Value} {c : World → Prop} {O : Obl} (hi : ops[i]? = some oi) (hsel : ∀ (j : Nat) (o : Oper) cs b, ops[j]? = some o → o.op ≠ .select cs b)
    (hQ : ∀ c a w, Q (.panic c) (a.put oi.dst v) w → Q (.panic c) a w) :
    ∀ (fuel : Nat) (listed : Array Bool) (a : Act) (w : World), Closed ops listed →
      (∀ j oj, ops[j]? = some oj → j ≠ i → listed.getD j true = false → (∀ e ∈ oj.after, Region.binds .any e = true → e.on ≠ i) → oi.apart ops oj = true) →
      i ∈ Region.ready .any ops listed → YieldsIf P ops c oi v a → c w →
      wpAnyO P ops Q ((i, c) :: O) fuel (listed.setIfInBounds i true) (a.put oi.dst v) w → wpAnyO P ops Q O (fuel + 1) listed a w := by
  have drop : ∀ (fuel : Nat) (listed : Array Bool) (a : Act) (w : World), wpAnyO P ops Q ((i, c) :: O) fuel listed a w → wpAnyO P ops Q O fuel listed a w := by
    intro fuel
    induction fuel with
    | zero => exact fun _ _ _ h => h
    | succ fuel ih => exact fun listed a w h => ⟨h.1, fun j hj => wpOp_mono (fun a' w' h' => ⟨fun p hp => h'.1 p (List.mem_cons_of_mem _ hp), ih _ _ _ h'.2⟩) (h.2 j hj)⟩
  intro fuel
  induction fuel with
  | zero =>
    intro listed a w hc _ hr hy hS H
    refine ⟨fun h => (by rw [h] at hr; cases hr), fun j hj => ?_⟩
    by_cases hji : j = i
    · subst hji; exact hy.wpOp hi hS ⟨fun _ _ _ h => h, drop _ _ _ _ H⟩
    · have := ready_mono hj hji
      rw [H.1] at this
      cases this
  | succ fuel ih =>
    intro listed a w hc hfree hr hy hS H
    refine ⟨fun h => (by rw [h] at hr; cases hr), fun j hj => ?_⟩
    by_cases hji : j = i
    · subst hji; exact hy.wpOp hi hS ⟨fun _ _ _ h => h, drop _ _ _ _ H⟩
    · have h1 := H.2 j (ready_mono hj hji)
      obtain ⟨hjun, oj, hoj, hall⟩ := mem_ready.1 hj
      have hnot : ∀ e ∈ oj.after, Region.binds .any e = true → e.on ≠ i := fun e he hb heq => by
        have h1 := hall e he hb
        have h0 := (mem_ready.1 hr).1
        rw [heq] at h1
        rcases Nat.lt_or_ge i listed.size with h' | h'
        · simp [h'] at h0 h1; rw [h0] at h1; cases h1
        · simp [Array.getElem?_eq_none h'] at h1
      have h2 := wpOp_putIf hoj (hfree j oj hoj hji hjun hnot) (fun cs b => hsel i oi cs b hi) (fun cs b => hsel j oj cs b hoj) hQ hy h1
      have hfree' : ∀ k ok, ops[k]? = some ok → k ≠ i → (listed.setIfInBounds j true).getD k true = false →
          (∀ e ∈ ok.after, Region.binds .any e = true → e.on ≠ i) → oi.apart ops ok = true := fun k ok hk hki hun hno => by
        refine hfree k ok hk hki ?_ hno
        by_cases hjk : j = k
        · subst hjk; exact hjun
        · rw [getD_set_ne true hjk] at hun; exact hun
      refine wpOp_mono (fun a' w' h3 => ?_) h2
      obtain ⟨h3a, h3b, h3c⟩ := h3
      have hcw : c w' := h3b (i, c) (by simp) (not_down hc hj hr _) hS
      refine ⟨fun p hp => h3b p (List.mem_cons_of_mem _ hp), ih (listed.setIfInBounds j true) a' w' (hc.set hj) hfree' (ready_mono hr (Ne.symm hji)) h3a hcw ?_⟩
      rw [Array.setIfInBounds_comm _ _ hji]
      exact h3c

theorem keepW_elim {l : List Oper} {j : Nat} {w' : World} {p : Prop} : ∀ {pend : Pend}, keepW l j w' p pend → p ∧ ∀ x ∈ pend, downB l l.length j x.1 = false → x.2 w'
  | [], h => ⟨h, by simp⟩
  | (i, c) :: r, h => by
    simp only [keepW] at h
    cases hd : downB l l.length j i with
    | true =>
      rw [hd] at h
      obtain ⟨h1, h2⟩ := keepW_elim h
      refine ⟨h1, fun x hx hx2 => ?_⟩
      rcases List.mem_cons.1 hx with rfl | hx
      · rw [hd] at hx2; cases hx2
      · exact h2 x hx hx2
    | false =>
      rw [hd] at h
      obtain ⟨h1, h2⟩ := keepW_elim h.2
      refine ⟨h1, fun x hx hx2 => ?_⟩
      rcases List.mem_cons.1 hx with rfl | hx
      · exact h.1
      · exact h2 x hx hx2

theorem drawW_wp {n : Nat} {L : List Nat} {K : Env → World → Prop} (hT : AllOk P tys) (hF : FnsOk P fns) (hsel : Region.noSelect ops = true) (hP : ∀ c a w, ¬ Q (.panic c) a w) :
    ∀ (l : List Nat) (m : Nat) (listed : Array Bool) (pend : Pend) (e : Env) (a : Act) (w : World), drawOk tys ops l listed = true → Closed ops listed →
    (∀ (i : Nat) (o : Oper), ops[i]? = some o → ∀ d, o.dst = some d → d < n ∧ d ∈ L) → Rel n e a → (∀ e' a' w', Rel n e' a' → Frm L e e' → K e' w' → Q .normal a' w') →
    drawW P tys fns ops l pend e w K → wpAnyO P ops Q pend (l.length + m) listed a w
  | [], m, listed, pend, e, a, w, hok, hc, _, hr, hQ, h => by
    have hnil : Region.ready .any ops listed = [] := by simpa [drawOk] using hok
    cases m with
    | zero => exact ⟨hnil, hQ e a w hr (Frm.refl _ _) h⟩
    | succ m => exact ⟨fun _ => hQ e a w hr (Frm.refl _ _) h, by rw [hnil]; simp⟩
  | i :: r, m, listed, pend, e, a, w, hok, hc, hd, hr, hQ, h => by
    simp only [drawOk, Bool.and_eq_true] at hok
    obtain ⟨⟨hcont, hk⟩, hrest⟩ := hok
    have hready : i ∈ Region.ready .any ops listed := by simpa using hcont
    simp only [drawW] at h
    split at h
    · exact h.elim
    · rename_i o ho
      have ho' : ops[i]? = some o := by rw [← Array.getElem?_toList]; exact ho
      rw [ho'] at hk
      dsimp only at hk
      obtain ⟨e1, hr1, he1, hcase⟩ := guard_elim hr h
      have hdo : ∀ d, o.dst = some d → d < n := fun d h => (hd i o ho' d h).1
      have hdl : ∀ d, o.dst = some d → d ∈ L := fun d h => (hd i o ho' d h).2
      have hQ' : ∀ (v : Value) e' a' w', Rel n e' a' → Frm L (e1.put o.dst v) e' → K e' w' → Q .normal a' w' := fun v e' a' w'' h1 h2 h3 => hQ e' a' w'' h1 (h2.step he1 hdl) h3
      have hlen : (i :: r).length + m = r.length + m + 1 := by simp; omega
      rw [hlen]
      have first : ∀ (v : Value) (c : World → Prop), Region.free .any ops listed i = true → YieldsIf P ops c o v a → c w → wpAnyO P ops Q ((i, c) :: pend) (r.length + m) (listed.setIfInBounds i true) (a.put o.dst v) w → wpAnyO P ops Q pend (r.length + m + 1) listed a w :=
        fun v c hf hy hcw H => wpAnyO_first ho' (Region.noSelect_spec hsel) (fun _ _ _ hp => absurd hp (hP _ _ _)) _ listed a w hc (Region.free_spec ho' hf) hready hy hcw H
      have more : ∀ (c : World → Prop) (fuel : Nat) (listed : Array Bool) (a : Act) (w : World), (∀ w, c w) → wpAnyO P ops Q pend fuel listed a w → wpAnyO P ops Q ((i, c) :: pend) fuel listed a w := by
        intro c fuel
        induction fuel with
        | zero => exact fun _ _ _ _ h => h
        | succ fuel ih =>
          intro listed a w hcw h
          exact ⟨h.1, fun j hj => wpOp_mono (fun a' w' h' => ⟨fun p hp hdn hpw => by
            rcases List.mem_cons.1 hp with rfl | hp
            · exact hcw w'
            · exact h'.1 p hp hdn hpw, ih _ _ _ hcw h'.2⟩) (h.2 j hj)⟩
      have skip : ∀ (hw : Region.wanted o (yielded ops a.tmps) = false) (h : drawW P tys fns ops r pend (e1.put o.dst undef) w K), wpAnyO P ops Q pend (r.length + m + 1) listed a w := by
        intro hw h
        by_cases hf : Region.free .any ops listed i = true
        · exact first undef (fun _ => True) hf (.inr ⟨hw, rfl⟩) trivial (more _ _ _ _ _ (fun _ => trivial) (drawW_wp hT hF hsel hP r m _ pend _ _ w hrest (hc.set hready) hd (hr1.put _ _ hdo) (hQ' undef) h))
        · cases hkk : kindOf tys o.op with
          | event =>
            rw [hkk] at hk
            have hone : Region.ready .any ops listed = [i] := by simpa using hk
            refine ⟨fun h0 => (by rw [hone] at h0; cases h0), fun j hj => ?_⟩
            rw [hone] at hj
            rw [List.mem_singleton.1 hj]
            unfold wpOp
            rw [ho']
            dsimp only
            rw [if_neg (by simp [hw])]
            exact ⟨fun _ _ _ h => h, drawW_wp hT hF hsel hP r m _ pend _ _ w hrest (hc.set hready) hd (hr1.put _ _ hdo) (hQ' undef) h⟩
          | pure => rw [hkk] at hk; exact absurd hk hf
          | load => rw [hkk] at hk; exact absurd hk hf
      rcases hcase with ⟨hw, h⟩ | ⟨hw, h⟩
      · cases hkk : kindOf tys o.op with
        | pure =>
          rw [hkk] at hk h
          obtain ⟨v, h1, h2⟩ := pureW_run hT (fun _ => rfl) h
          rw [← hr1.eval] at h2
          exact first v (fun _ => True) hk (.inl ⟨hw, fun w' _ => h2 w'⟩) trivial (more _ _ _ _ _ (fun _ => trivial) (drawW_wp hT hF hsel hP r m _ pend _ _ w hrest (hc.set hready) hd (hr1.put _ _ hdo) (hQ' v) h1))
        | load =>
          rw [hkk] at hk h
          obtain ⟨c, v, h0, h1, h2⟩ := ldW_run (P := P) hT h
          rw [← hr1.eval] at h2
          exact first v c hk (.inl ⟨hw, h2⟩) h0 (drawW_wp hT hF hsel hP r m _ ((i, c) :: pend) _ _ w hrest (hc.set hready) hd (hr1.put _ _ hdo) (hQ' v) h1)
        | event =>
          rw [hkk] at hk h
          have hone : Region.ready .any ops listed = [i] := by simpa using hk
          refine ⟨fun h0 => (by rw [hone] at h0; cases h0), fun j hj => ?_⟩
          rw [hone] at hj
          rw [List.mem_singleton.1 hj]
          unfold wpOp
          rw [ho']
          dsimp only
          rw [if_pos hw]
          have hres := eventW_run hT hF h
          rw [← hr1.eval] at hres
          refine .inl (hres.wp fun v w' hkp => ?_)
          obtain ⟨h1, h2⟩ := keepW_elim hkp
          exact ⟨fun p hp hdn _ => h2 p hp hdn, drawW_wp hT hF hsel hP r m _ pend _ _ w' hrest (hc.set hready) hd (hr1.put _ _ hdo) (hQ' v) h1⟩
      · exact skip hw h
end

end Go.Vx
