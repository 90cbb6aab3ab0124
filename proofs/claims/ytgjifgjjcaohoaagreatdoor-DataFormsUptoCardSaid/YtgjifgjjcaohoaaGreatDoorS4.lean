/- The second executor where calls are put off: pieces of a function's code that may throw, and a closure put off that recovers. -/
import Derived.Test.YtgjifgjjcaohoaaGreatDoorS1
import Derived.TacticsIn
import Derived.OrdersIn
import Derived.RangeFuncCalls
import Derived.RangeFuncFrom
import Derived.Test.YtgjifgjjcaohoaaGreatDoorS3
import Derived.Recover
import Derived.Defers
/- part VxR -/
section
namespace Go.Vx

/-- with these calls put off, too -/
def more (a : Act) (ds : List Deferred) : Act := { a with defers := a.defers ++ ds }
theorem more_put (a : Act) (ds : List Deferred) (d : Option Tmp) (v : Value) : (more a ds).put d v = more (a.put d v) ds := by
  cases d <;> rfl
theorem more_eval (a : Act) (ds : List Deferred) : (more a ds).eval = a.eval := rfl
theorem more_defer (a : Act) (ds : List Deferred) (d : Deferred) : { more a ds with defers := d :: (more a ds).defers } = more { a with defers := d :: a.defers } ds := rfl

/-- a fence that lets in every function, at every depth -/
structure Opn (F : Fence) : Prop where
  fn : ∀ f, F.fn f
  depth : F.depth = none
  fenced : ∀ (P : Program) (m : Machine), m.fenced P F

theorem Opn.wide : Opn Fence.wide := ⟨fun _ => trivial, rfl, fenced_wide⟩
theorem Opn.inRound {F : Fence} (h : Opn F) (l : Nat) : Opn (F.inRound l) := ⟨h.fn, h.depth, h.fenced⟩
theorem Opn.room {F : Fence} (h : Opn F) (n : Nat) : F.room n := fun d hd => by rw [h.depth] at hd; cases hd
theorem Opn.isSome {F : Fence} (h : Opn F) {p : Prop} : F.depth.isSome = true → p := fun hd => by rw [h.depth] at hd; cases hd
theorem Opn.steps {F : Fence} (h : Opn F) {P : Program} {m m' : Machine} (hs : Steps P m m') : StepsIn (Machine.fenced P F) P m m' := (StepsIn.of_steps hs).mono fun m _ => h.fenced P m
theorem Opn.calls {F : Fence} (h : Opn F) {n : Nat} {P : Program} {f : FuncId} {args : Array Value} {w : World} {R : Ending → World → Prop} (hc : Calls P f args w R) : CallsIn F n P f args w R := by
  refine ⟨h.fn f, fun cs _ => ?_⟩
  obtain ⟨e, w', fr, h1, h2, h3⟩ := hc cs
  refine ⟨e, w', fr, h1, ?_, h3⟩
  cases e with
  | outgrown => exact h2
  | returned v => exact h.steps h2
  | panicked c => exact h.steps h2
theorem Opn.rows {F : Fence} (h : Opn F) {n : Nat} {P : Program} {row : String} {args : Array Value} {w : World} {R : Value → World → Prop} (hc : Rows P row args w R) : RowsIn F n P row args w R := by
  intro c cs _
  obtain ⟨v, w', h1, h2⟩ := hc c cs
  exact ⟨v, w', h1, h.steps h2⟩

section
variable {P : Program} {F : Fence} (hF : Opn F) {n : Nat} {ds : List Deferred} {Q0 Q : Exit → Act → World → Prop}
variable (hN : ∀ a w, Q0 .normal a w → Q .normal (more a ds) w) (hP : ∀ c a w, ¬ Q0 (.panic c) a w) (hO : ∀ a w, ¬ Q0 .outgrown a w)
include hF hP hO

theorem op_in {o : Oper} {a : Act} {w : World} {K0 K : Act → World → Prop} (hd : ∀ c, o.op ≠ .defer c) (hK : ∀ a w, K0 a w → K (more a ds) w) (h : o.wp P a w K0 Q0) : o.wpIn F n P (more a ds) w K Q := by
  unfold Oper.wp at h
  unfold Oper.wpIn
  refine ⟨fun f _ => hF.fn f, ?_⟩
  rw [Oper.semAt_eq _ _ _ hd, more_eval]
  generalize (execOp a.eval o).run P w = r at h ⊢
  cases r with
  | ok x w' =>
    cases x <;> simp only [Oper.upon, Oper.uponIn] at h ⊢
    case value u => rw [more_put]; exact hK _ _ h
    case skip => rw [more_put]; exact hK _ _ h
    case defer d => rw [more_defer, more_put]; exact hK _ _ h
    case enter f args =>
      refine ⟨hF.isSome, (hF.calls h).mono fun e w'' he => ?_⟩
      cases e with
      | returned u => dsimp only at he ⊢; rw [more_put]; exact hK _ _ he
      | panicked c => exact absurd he (hP _ _ _)
      | outgrown => obtain ⟨a', w', h'⟩ := he; exact absurd h' (hO _ _)
    case row row args => exact ⟨hF.isSome, (hF.rows h).mono fun u w'' he => by rw [more_put]; exact hK _ _ he⟩
  | halt x w' =>
    cases x <;> simp only [Oper.upon, Oper.uponIn] at h ⊢
    case panic u => exact absurd h (hP _ _ _)

include hN

theorem list_in {ops : Array Oper} : ∀ (l : List Oper) (a : Act) (w : World), (∀ o ∈ l, ∀ c, o.op ≠ .defer c) → wpList P ops Q0 l a w → wpListIn F n P ops Q l (more a ds) w
  | [], a, w, _, h => hN _ _ h
  | o :: r, a, w, hd, h => by
    unfold wpList at h
    unfold wpListIn
    have ht : (more a ds).tmps = a.tmps := rfl
    rw [ht]
    split at h
    · rename_i hw
      rw [if_pos hw]
      rcases h with h | ⟨_, a', w', h'⟩
      · exact op_in hF hP hO (hd o List.mem_cons_self) (fun a w h => list_in r a w (fun o ho => hd o (List.mem_cons_of_mem _ ho)) h) h
      · exact absurd h' (hO _ _)
    · rename_i hw
      rw [if_neg hw]
      refine ⟨fun f _ => hF.fn f, ?_⟩
      rw [more_put]
      exact list_in r _ w (fun o ho => hd o (List.mem_cons_of_mem _ ho)) h

theorem any_in {ops : Array Oper} {md : Region.Mode} (hd : ∀ (i : Nat) (o : Oper), ops[i]? = some o → ∀ c, o.op ≠ .defer c) : ∀ (fuel : Nat) (listed : Array Bool) (a : Act) (w : World), wpAny P md ops Q0 fuel listed a w → wpAnyIn F n P md ops Q fuel listed (more a ds) w
  | 0, _, a, w, h => ⟨h.1, hN _ _ h.2⟩
  | fuel + 1, listed, a, w, h => by
    refine ⟨fun h0 => hN _ _ (h.1 h0), fun i hi => ?_⟩
    have h := h.2 i hi
    unfold wpOp at h
    unfold wpOpIn
    have ht : (more a ds).tmps = a.tmps := rfl
    cases ho : ops[i]? with
    | none => rw [ho] at h; exact any_in hd fuel _ a w h
    | some o =>
      rw [ho] at h; dsimp only at h ⊢
      rw [ht]
      split at h
      · rename_i hw
        rw [if_pos hw]
        rcases h with h | ⟨_, a', w', h'⟩
        · exact op_in hF hP hO (hd i o ho) (fun a w h => any_in hd fuel _ a w h) h
        · exact absurd h' (hO _ _)
      · rename_i hw
        rw [if_neg hw]
        refine ⟨fun f _ => hF.fn f, ?_⟩
        rw [more_put]
        exact any_in hd fuel _ _ w h
end

/-- no call is put off -/
def calm (ops : List Oper) : Bool := ops.all fun o => match o.op with | .defer _ => false | _ => true
theorem calm_elim {ops : List Oper} (h : calm ops = true) : ∀ o ∈ ops, ∀ c, o.op ≠ .defer c := by
  intro o ho c hc
  have := List.all_eq_true.1 h o ho
  rw [hc] at this; cases this
def calmC : Code → Bool
  | .region _ ops _ => calm ops.toList
  | .seq a b => calmC a && calmC b
  | .cond _ a b => calmC a && calmC b
  | .block _ a => calmC a
  | .loop a => calmC a
  | _ => true

/-- how the slots stand -/
structure RelD (ds : List Deferred) (n : Nat) (e : Env) (a : Act) : Prop where
  size : a.tmps.size = n
  at_ : ∀ t, a.tmps.getD t undef = e t
  defers : a.defers = ds
theorem RelD.split {ds : List Deferred} {n : Nat} {e : Env} {a : Act} (h : RelD ds n e a) : ∃ a0, Rel n e a0 ∧ a = more a0 ds := by
  refine ⟨{ a with defers := [] }, ⟨h.size, h.at_, rfl⟩, ?_⟩
  cases a
  have := h.defers
  simp only [more, List.nil_append] at this ⊢
  rw [this]
theorem RelD.of {ds : List Deferred} {n : Nat} {e : Env} {a : Act} (h : Rel n e a) : RelD ds n e (more a ds) := ⟨h.size, h.at_, by simp [more, h.defers]⟩
theorem RelD.same {ds : List Deferred} {n : Nat} {e e' : Env} {a : Act} (h : RelD ds n e a) (he : ∀ t, e' t = e t) : RelD ds n e' a := ⟨h.size, fun t => (h.at_ t).trans (he t).symm, h.defers⟩
theorem RelD.eval {ds : List Deferred} {n : Nat} {e : Env} {a : Act} (h : RelD ds n e a) (x : Operand) : a.eval x = ev e x := by
  obtain ⟨a0, h0, rfl⟩ := h.split
  rw [more_eval, h0.eval]

variable {P : Program} {tys : Tys} {fns : Fx} {hs : Hints} {w : World}

theorem cW_wpIn (hT : AllOk P tys) (hFn : FnsOk P fns.l) (hN : ∀ c w, ¬ fns.thr c w) (hm : P.follows .mixedOrders = true) {F : Fence} (hF : Opn F) {m n : Nat} {ds : List Deferred} : ∀ (c : Code) (Q : Exit → Env → World → Prop) (e : Env) (a : Act) (w : World), codeOk tys hs n c = true → calmC c = true → RelD ds n e a →
    cW P tys fns hs c Q e w → c.wpIn F m P (fun ex a' w' => ∃ e', RelD ds n e' a' ∧ Frm (assigned hs c) e e' ∧ Q ex e' w') a w := by
  intro c
  induction c with
  | skip => exact fun Q e a w _ _ hr h => wpIn_skip ⟨e, hr, Frm.refl _ _, h⟩
  | ret => exact fun Q e a w _ _ hr h => wpIn_ret ⟨e, hr, Frm.refl _ _, h⟩
  | exit id => exact fun Q e a w _ _ hr h => wpIn_exit ⟨e, hr, Frm.refl _ _, h⟩
  | region id ops draw =>
    intro Q e a w hok hcm hr h
    simp only [cW] at h
    simp only [codeOk, Bool.and_eq_true] at hok
    simp only [calmC] at hcm
    obtain ⟨hd, hdraw⟩ := hok
    obtain ⟨a0, hr0, rfl⟩ := hr.split
    have hcm1 := calm_elim hcm
    cases draw with
    | false =>
      simp only [cond_false] at h
      have h1 := regW_wp (Q := fun ex a' w' => ex = .normal ∧ ∃ e', Rel n e' a' ∧ Frm (dstsOf ops) e e' ∧ Q .normal e' w') hT hFn (fun c _ _ _ _ _ hc => (hN _ _ hc).elim) ops.toList e a0 w (dsts_lt hd) hr0 (Frm.refl _ _) (fun e' a' w' h1 h2 h3 => ⟨rfl, e', h1, h2, h3⟩) h
      refine wpIn_region_list (list_in hF (fun a' w' h2 => ?_) (fun _ _ _ hp => by simp at hp) (fun _ _ hp => by simp at hp) ops.toList a0 w hcm1 h1)
      obtain ⟨_, e', k1, k2, k3⟩ := h2
      exact ⟨e', .of k1, k2, k3⟩
    | true =>
      simp only [cond_true] at h hdraw
      split at h
      · rename_i l hl
        rw [hl] at hdraw
        simp only [Bool.and_eq_true] at hdraw
        obtain ⟨⟨hlen, hsel⟩, hdo⟩ := hdraw
        have hlen := Nat.le_of_ble_eq_true hlen
        have hd' : ∀ (i : Nat) (o : Oper), ops[i]? = some o → ∀ d, o.dst = some d → d < n ∧ d ∈ dstsOf ops := fun i o ho => dsts_lt hd o (List.mem_of_getElem? (i := i) (by rw [Array.getElem?_toList]; exact ho))
        have key := drawW_wp (Q := fun ex a' w' => ex = .normal ∧ ∃ e', Rel n e' a' ∧ Frm (dstsOf ops) e e' ∧ Q .normal e' w') hT hFn hsel (fun c _ _ _ _ _ hc => (hN _ _ hc).elim) (fun _ _ _ _ _ _ hp => by simp at hp) hd' l ops.size (Array.replicate ops.size false) [] e a0 w.drew Closed.start hr0 (Frm.refl _ _) (fun e' a' w' h1 h2 h3 => ⟨rfl, e', h1, h2, h3⟩) h
        refine wpIn_region_any hm (any_in hF (fun a' w' h2 => ?_) (fun _ _ _ hp => by simp at hp) (fun _ _ hp => by simp at hp) (fun i o ho => hcm1 o (List.mem_of_getElem? (i := i) (by rw [Array.getElem?_toList]; exact ho))) _ _ a0 _ (wpAny_of_O _ _ _ _ (key.1 hdo hlen)))
        obtain ⟨_, e', k1, k2, k3⟩ := h2
        exact ⟨e', .of k1, k2, k3⟩
      · exact h.elim
  | seq x y ihx ihy =>
    intro Q e a w hok hcm hr h
    simp only [codeOk, Bool.and_eq_true] at hok
    simp only [calmC, Bool.and_eq_true] at hcm
    simp only [cW] at h
    refine wpIn_seq (wpIn_mono (ihx _ e a w hok.1 hcm.1 hr h) ?_)
    rintro ex a1 w1 ⟨e1, hr1, hf1, hq⟩
    have hf1' : Frm (assigned hs (.seq x y)) e e1 := fun t ht => hf1 t (fun h => ht (List.mem_append.2 (.inl h)))
    cases ex with
    | normal =>
      refine wpIn_mono (ihy _ e1 a1 w1 hok.2 hcm.2 hr1 hq) ?_
      rintro ex a2 w2 ⟨e2, hr2, hf2, hq2⟩
      exact ⟨e2, hr2, fun t ht => (hf2 t (fun h => ht (List.mem_append.2 (.inr h)))).trans (hf1' t ht), hq2⟩
    | _ => exact ⟨e1, hr1, hf1', hq⟩
  | cond c x y ihx ihy =>
    intro Q e a w hok hcm hr h
    simp only [codeOk, Bool.and_eq_true] at hok
    simp only [calmC, Bool.and_eq_true] at hcm
    simp only [cW] at h
    split at h
    · rename_i t ht
      have hev : a.eval c = .bool t := by rw [hr.eval]; exact ht
      split at h
      · rename_i s
        have ht' : e s = .bool t := ht
        cases t with
        | true =>
          refine wpIn_cond_true hev (wpIn_mono (ihx Q _ a w hok.2.1 hcm.1 (hr.same (put_same ht')) h) ?_)
          rintro ex a2 w2 ⟨e2, hr2, hf2, hq2⟩
          exact ⟨e2, hr2, fun t ht => (hf2 t (fun h => ht (by simp [assigned, h]))).trans (put_same ht' t), hq2⟩
        | false =>
          refine wpIn_cond_false hev (wpIn_mono (ihy Q _ a w hok.2.2 hcm.2 (hr.same (put_same ht')) h) ?_)
          rintro ex a2 w2 ⟨e2, hr2, hf2, hq2⟩
          exact ⟨e2, hr2, fun t ht => (hf2 t (fun h => ht (by simp [assigned, h]))).trans (put_same ht' t), hq2⟩
      · cases t with
        | true =>
          refine wpIn_cond_true hev (wpIn_mono (ihx Q _ a w hok.2.1 hcm.1 hr h) ?_)
          rintro ex a2 w2 ⟨e2, hr2, hf2, hq2⟩
          exact ⟨e2, hr2, fun t ht => hf2 t (fun h => ht (by simp [assigned, h])), hq2⟩
        | false =>
          refine wpIn_cond_false hev (wpIn_mono (ihy Q _ a w hok.2.2 hcm.2 hr h) ?_)
          rintro ex a2 w2 ⟨e2, hr2, hf2, hq2⟩
          exact ⟨e2, hr2, fun t ht => hf2 t (fun h => ht (by simp [assigned, h])), hq2⟩
    · exact h.elim
  | block id x ih =>
    intro Q e a w hok hcm hr h
    simp only [cW] at h
    refine wpIn_block (wpIn_mono (ih _ e a w hok hcm hr h) ?_)
    rintro ex a1 w1 ⟨e1, hr1, hf1, hq⟩
    cases ex with
    | exit i =>
      dsimp only at hq
      simp only [Exit.inBlock]
      split
      · rename_i hi
        subst hi
        have : Nat.beq i i = true := by simp
        rw [this] at hq
        exact ⟨e1, hr1, hf1, hq⟩
      · rename_i hi
        have : Nat.beq i id = false := by
          cases hb : Nat.beq i id with
          | false => rfl
          | true => exact absurd (Nat.eq_of_beq_eq_true hb) hi
        rw [this] at hq
        exact ⟨e1, hr1, hf1, hq⟩
    | _ => exact ⟨e1, hr1, hf1, hq⟩
  | loop x ih =>
    intro Q e a w hok hcm hr h
    simp only [cW] at h
    split at h
    · rename_i S hS
      obtain ⟨I, μ, h0, hround⟩ := h
      have hasg : assigned hs (.loop x) = assigned hs x ++ S.map (·.1) := by simp [assigned, hS]
      let vals : Act → List Value := fun a => S.map fun s => a.tmps.getD s.1 undef
      have key : (Code.loop x).wpIn F m P (fun ex a' w' => ∃ e', RelD ds n e' a' ∧ Frm (assigned hs (.loop x)) e e' ∧ Q ex e' w') a w := by
        refine wpIn_loop (fun a w => I (vals a) w ∧ a.tmps.size = n ∧ a.defers = ds ∧ ∀ t, t ∉ assigned hs (.loop x) → a.tmps.getD t undef = e t) (fun a w => μ (vals a) w) ?_ ?_
        · refine ⟨?_, hr.size, hr.defers, fun t _ => hr.at_ t⟩
          have : vals a = S.map fun s => e s.1 := List.map_congr_left fun s _ => hr.at_ s.1
          rw [this]; exact h0
        · rintro a1 w1 ⟨hI, hsz, hdf, hfr⟩
          let junk : Env := fun t => a1.tmps.getD t undef
          obtain ⟨us, _, hus, hb⟩ := exL_elim (hround junk (vals a1) w1 hI)
          have hrel : RelD ds n (mixE e S us (assigned hs x) junk) a1 := by
            refine ⟨hsz, fun t => ?_, hdf⟩
            have hmx := mixE_at e (assigned hs x) junk t (fun _ _ => trivial) S
            have : us = S.map fun s => junk s.1 := hus.symm
            rw [this, hmx]
            split
            · rfl
            · rename_i hnS
              cases hh : hasB (assigned hs x) t with
              | true => rfl
              | false =>
                refine hfr t ?_
                rw [hasg, List.mem_append]
                rintro (h | h)
                · rw [hasB_iff.2 h] at hh; cases hh
                · exact hnS h
          refine wpIn_mono (ih _ _ a1 w1 hok hcm hrel hb) ?_
          rintro ex a2 w2 ⟨e2, hr2, hf2, hq⟩
          have hfr2 : Frm (assigned hs (.loop x)) e e2 := fun t ht => by
            rw [hasg, List.mem_append, not_or] at ht
            rw [hf2 t ht.1]
            have := hrel.at_ t
            rw [← this]
            exact hfr t (by rw [hasg, List.mem_append, not_or]; exact ht)
          cases ex with
          | normal =>
            have hv : vals a2 = S.map fun s => e2 s.1 := List.map_congr_left fun s _ => hr2.at_ s.1
            simp only [Exit.then]
            refine ⟨⟨hv ▸ hq.1, hr2.size, hr2.defers, fun t ht => (hr2.at_ t).trans (hfr2 t ht)⟩, ?_⟩
            have hq2 := hq.2
            rw [← hus] at hq2
            rw [hv]; exact hq2
          | _ => exact ⟨e2, hr2, hfr2, hq⟩
      exact key
    · exact h.elim
  | _ => exact fun Q e a w _ _ _ h => h.elim

end Go.Vx
end

/- part VxT -/
section
namespace Go.Vx

section
variable {P : Program} {ds : List Deferred} {Q0 Q : Exit → Act → World → Prop}
variable (hN : ∀ a w, Q0 .normal a w → Q .normal (more a ds) w) (hP : ∀ c a w, Q0 (.panic c) a w → Q (.panic c) (more a ds) w) (hO : ∀ a w, ¬ Q0 .outgrown a w)
include hP hO

theorem op_D {o : Oper} {a : Act} {w : World} {K0 K : Act → World → Prop} (hK : ∀ a w, K0 a w → K (more a ds) w) (h : o.wp P a w K0 Q0) : o.wp P (more a ds) w K Q := by
  unfold Oper.wp at h ⊢
  rw [more_eval]
  generalize (execOp a.eval o).run P w = r at h ⊢
  cases r with
  | ok x w' =>
    cases x <;> simp only [Oper.upon] at h ⊢
    case value u => rw [more_put]; exact hK _ _ h
    case skip => rw [more_put]; exact hK _ _ h
    case defer d => rw [more_defer, more_put]; exact hK _ _ h
    case enter f args =>
      refine h.mono fun e w'' he => ?_
      cases e with
      | returned u => dsimp only at he ⊢; rw [more_put]; exact hK _ _ he
      | panicked c => exact hP _ _ _ he
      | outgrown => obtain ⟨a', w', h'⟩ := he; exact absurd h' (hO _ _)
    case row row args => exact h.mono fun u w'' he => by rw [more_put]; exact hK _ _ he
  | halt x w' =>
    cases x <;> simp only [Oper.upon] at h ⊢
    case panic u => exact hP _ _ _ h

include hN

theorem list_D {ops : Array Oper} : ∀ (l : List Oper) (a : Act) (w : World), (∀ o ∈ l, ∀ c, o.op ≠ .defer c) → wpList P ops Q0 l a w → wpList P ops Q l (more a ds) w
  | [], a, w, _, h => hN _ _ h
  | o :: r, a, w, hd, h => by
    unfold wpList at h ⊢
    have ht : (more a ds).tmps = a.tmps := rfl
    rw [ht]
    split at h
    · rename_i hw
      rw [if_pos hw]
      rcases h with h | ⟨_, a', w', h'⟩
      · exact .inl (op_D hP hO (fun a w h => list_D r a w (fun o ho => hd o (List.mem_cons_of_mem _ ho)) h) h)
      · exact absurd h' (hO _ _)
    · rename_i hw
      rw [if_neg hw]
      rw [more_put]
      exact list_D r _ w (fun o ho => hd o (List.mem_cons_of_mem _ ho)) h

theorem any_D {ops : Array Oper} {md : Region.Mode} (hd : ∀ (i : Nat) (o : Oper), ops[i]? = some o → ∀ c, o.op ≠ .defer c) : ∀ (fuel : Nat) (listed : Array Bool) (a : Act) (w : World), wpAny P md ops Q0 fuel listed a w → wpAny P md ops Q fuel listed (more a ds) w
  | 0, _, a, w, h => ⟨h.1, hN _ _ h.2⟩
  | fuel + 1, listed, a, w, h => by
    refine ⟨fun h0 => hN _ _ (h.1 h0), fun i hi => ?_⟩
    have h := h.2 i hi
    unfold wpOp at h ⊢
    have ht : (more a ds).tmps = a.tmps := rfl
    cases ho : ops[i]? with
    | none => rw [ho] at h; exact any_D hd fuel _ a w h
    | some o =>
      rw [ho] at h; dsimp only at h ⊢
      rw [ht]
      split at h
      · rename_i hw
        rw [if_pos hw]
        rcases h with h | ⟨_, a', w', h'⟩
        · exact .inl (op_D hP hO (fun a w h => any_D hd fuel _ a w h) h)
        · exact absurd h' (hO _ _)
      · rename_i hw
        rw [if_neg hw]
        rw [more_put]
        exact any_D hd fuel _ _ w h
end

theorem put_getD {a : Act} {d : Option Nat} {v : Value} {t : Nat} (h : d ≠ some t) : (a.put d v).tmps.getD t undef = a.tmps.getD t undef := by
  cases d with
  | none => rfl
  | some x =>
    have hx : x ≠ t := fun e => h (by rw [e])
    simp only [Act.put]
    simp [Array.getD_eq_getD_getElem?, hx]
variable {P : Program} {tys : Tys} {fns : Fx} {hs : Hints}

theorem cW_wpD (hT : AllOk P tys) (hF : FnsOk P fns.l) (hm : P.follows .mixedOrders = true) {n : Nat} {ds : List Deferred} : ∀ (c : Code) (Q : Exit → Env → World → Prop) (e : Env) (a : Act) (w : World), codeOk tys hs n c = true → calmC c = true → RelD ds n e a →
    cW P tys fns hs c Q e w → c.wp P (fun ex a' w' => (∃ ch, ex = .panic ch ∧ a'.defers = ds ∧ (∀ t, t ∉ assigned hs c → a'.tmps.getD t undef = e t) ∧ fns.thr ch w') ∨ ∃ e', RelD ds n e' a' ∧ Frm (assigned hs c) e e' ∧ Q ex e' w') a w := by
  intro c
  induction c with
  | skip => exact fun Q e a w _ _ hr h => wp_skip (.inr ⟨e, hr, Frm.refl _ _, h⟩)
  | ret => exact fun Q e a w _ _ hr h => wp_ret (.inr ⟨e, hr, Frm.refl _ _, h⟩)
  | exit id => exact fun Q e a w _ _ hr h => wp_exit (.inr ⟨e, hr, Frm.refl _ _, h⟩)
  | region id ops draw =>
    intro Q e a w hok hcm hr h
    simp only [cW] at h
    simp only [codeOk, Bool.and_eq_true] at hok
    simp only [calmC] at hcm
    obtain ⟨hd, hdraw⟩ := hok
    obtain ⟨a0, hr0, rfl⟩ := hr.split
    have hcm1 := calm_elim hcm
    cases draw with
    | false =>
      simp only [cond_false] at h
      have h1 := regW_wp (Q := fun ex a' w' => (∃ c, ex = .panic c ∧ a'.defers = [] ∧ (∀ t, t ∉ dstsOf ops → a'.tmps.getD t undef = e t) ∧ fns.thr c w') ∨ (ex = .normal ∧ ∃ e', Rel n e' a' ∧ Frm (dstsOf ops) e e' ∧ Q .normal e' w')) hT hF (fun c _ _ _ hr hf hc => .inl ⟨c, rfl, hr.defers, fun t ht => (hr.at_ t).trans (hf t ht), hc⟩) ops.toList e a0 w (dsts_lt hd) hr0 (Frm.refl _ _) (fun e' a' w' h1 h2 h3 => .inr ⟨rfl, e', h1, h2, h3⟩) h
      refine wp_region_list (list_D (fun a' w' h2 => ?_) (fun c a' w' h2 => ?_) (fun _ _ hp => by simp at hp) ops.toList a0 w hcm1 h1)
      · rcases h2 with ⟨_, h, _⟩ | ⟨_, e', k1, k2, k3⟩
        · cases h
        · exact .inr ⟨e', .of k1, k2, k3⟩
      · rcases h2 with ⟨c', h, k1, kf, k2⟩ | ⟨h, _⟩
        · exact .inl ⟨c', h, by simp [more, k1], kf, k2⟩
        · cases h
    | true =>
      simp only [cond_true] at h hdraw
      split at h
      · rename_i l hl
        rw [hl] at hdraw
        simp only [Bool.and_eq_true] at hdraw
        obtain ⟨⟨hlen, hsel⟩, hdo⟩ := hdraw
        have hlen := Nat.le_of_ble_eq_true hlen
        have hd' : ∀ (i : Nat) (o : Oper), ops[i]? = some o → ∀ d, o.dst = some d → d < n ∧ d ∈ dstsOf ops := fun i o ho => dsts_lt hd o (List.mem_of_getElem? (i := i) (by rw [Array.getElem?_toList]; exact ho))
        have key := drawW_wp (Q := fun ex a' w' => (∃ c, ex = .panic c ∧ a'.defers = [] ∧ (∀ t, t ∉ dstsOf ops → a'.tmps.getD t undef = e t) ∧ fns.thr c w') ∨ (ex = .normal ∧ ∃ e', Rel n e' a' ∧ Frm (dstsOf ops) e e' ∧ Q .normal e' w')) hT hF hsel (fun c _ _ _ hr hf hc => .inl ⟨c, rfl, hr.defers, fun t ht => (hr.at_ t).trans (hf t ht), hc⟩) (fun c a d v w hdl hp => .inl (by
          rcases hp with ⟨c', h1, h2, hf, h3⟩ | ⟨h, _⟩
          · exact ⟨c', h1, by rw [put_defers] at h2; exact h2, fun t ht => by rw [← hf t ht]; exact (put_getD fun hh => ht (hdl t hh)).symm, h3⟩
          · cases h)) hd' l ops.size (Array.replicate ops.size false) [] e a0 w.drew Closed.start hr0 (Frm.refl _ _) (fun e' a' w' h1 h2 h3 => .inr ⟨rfl, e', h1, h2, h3⟩) h
        refine wp_region_any hm (any_D (fun a' w' h2 => ?_) (fun c a' w' h2 => ?_) (fun _ _ hp => by simp at hp) (fun i o ho => hcm1 o (List.mem_of_getElem? (i := i) (by rw [Array.getElem?_toList]; exact ho))) _ _ a0 _ (wpAny_of_O _ _ _ _ (key.1 hdo hlen)))
        · rcases h2 with ⟨_, h, _⟩ | ⟨_, e', k1, k2, k3⟩
          · cases h
          · exact .inr ⟨e', .of k1, k2, k3⟩
        · rcases h2 with ⟨c', h, k1, kf, k2⟩ | ⟨h, _⟩
          · exact .inl ⟨c', h, by simp [more, k1], kf, k2⟩
          · cases h
      · exact h.elim
  | seq x y ihx ihy =>
    intro Q e a w hok hcm hr h
    simp only [codeOk, Bool.and_eq_true] at hok
    simp only [calmC, Bool.and_eq_true] at hcm
    simp only [cW] at h
    refine wp_seq (wp_mono (ihx _ e a w hok.1 hcm.1 hr h) ?_)
    rintro ex a1 w1 (⟨c, rfl, h1, hf, h2⟩ | ⟨e1, hr1, hf1, hq⟩)
    · exact .inl ⟨c, rfl, h1, fun t ht => hf t (fun h => ht (List.mem_append.2 (.inl h))), h2⟩
    have hf1' : Frm (assigned hs (.seq x y)) e e1 := fun t ht => hf1 t (fun h => ht (List.mem_append.2 (.inl h)))
    cases ex with
    | normal =>
      refine wp_mono (ihy _ e1 a1 w1 hok.2 hcm.2 hr1 hq) ?_
      rintro ex a2 w2 (⟨c, rfl, h1, hf, h2⟩ | ⟨e2, hr2, hf2, hq2⟩)
      · exact .inl ⟨c, rfl, h1, fun t ht => (hf t (fun h => ht (List.mem_append.2 (.inr h)))).trans (hf1' t ht), h2⟩
      exact .inr ⟨e2, hr2, fun t ht => (hf2 t (fun h => ht (List.mem_append.2 (.inr h)))).trans (hf1' t ht), hq2⟩
    | _ => exact .inr ⟨e1, hr1, hf1', hq⟩
  | cond c x y ihx ihy =>
    intro Q e a w hok hcm hr h
    simp only [codeOk, Bool.and_eq_true] at hok
    simp only [calmC, Bool.and_eq_true] at hcm
    simp only [cW] at h
    split at h
    · rename_i t ht
      have hev : a.eval c = .bool t := by rw [hr.eval]; exact ht
      split at h
      · rename_i s
        have ht' : e s = .bool t := ht
        cases t with
        | true =>
          refine wp_cond_true hev (wp_mono (ihx Q _ a w hok.2.1 hcm.1 (hr.same (put_same ht')) h) ?_)
          rintro ex a2 w2 (⟨c, rfl, h1, hf, h2⟩ | ⟨e2, hr2, hf2, hq2⟩)
          · exact .inl ⟨c, rfl, h1, fun t ht => (hf t (fun h => ht (by simp [assigned, h]))).trans (put_same ht' t), h2⟩
          exact .inr ⟨e2, hr2, fun t ht => (hf2 t (fun h => ht (by simp [assigned, h]))).trans (put_same ht' t), hq2⟩
        | false =>
          refine wp_cond_false hev (wp_mono (ihy Q _ a w hok.2.2 hcm.2 (hr.same (put_same ht')) h) ?_)
          rintro ex a2 w2 (⟨c, rfl, h1, hf, h2⟩ | ⟨e2, hr2, hf2, hq2⟩)
          · exact .inl ⟨c, rfl, h1, fun t ht => (hf t (fun h => ht (by simp [assigned, h]))).trans (put_same ht' t), h2⟩
          exact .inr ⟨e2, hr2, fun t ht => (hf2 t (fun h => ht (by simp [assigned, h]))).trans (put_same ht' t), hq2⟩
      · cases t with
        | true =>
          refine wp_cond_true hev (wp_mono (ihx Q _ a w hok.2.1 hcm.1 hr h) ?_)
          rintro ex a2 w2 (⟨c, rfl, h1, hf, h2⟩ | ⟨e2, hr2, hf2, hq2⟩)
          · exact .inl ⟨c, rfl, h1, fun t ht => hf t (fun h => ht (by simp [assigned, h])), h2⟩
          exact .inr ⟨e2, hr2, fun t ht => hf2 t (fun h => ht (by simp [assigned, h])), hq2⟩
        | false =>
          refine wp_cond_false hev (wp_mono (ihy Q _ a w hok.2.2 hcm.2 hr h) ?_)
          rintro ex a2 w2 (⟨c, rfl, h1, hf, h2⟩ | ⟨e2, hr2, hf2, hq2⟩)
          · exact .inl ⟨c, rfl, h1, fun t ht => hf t (fun h => ht (by simp [assigned, h])), h2⟩
          exact .inr ⟨e2, hr2, fun t ht => hf2 t (fun h => ht (by simp [assigned, h])), hq2⟩
    · exact h.elim
  | block id x ih =>
    intro Q e a w hok hcm hr h
    simp only [cW] at h
    refine wp_block (wp_mono (ih _ e a w hok hcm hr h) ?_)
    rintro ex a1 w1 (⟨c, rfl, h1, hf, h2⟩ | ⟨e1, hr1, hf1, hq⟩)
    · exact .inl ⟨c, rfl, h1, hf, h2⟩
    cases ex with
    | exit i =>
      dsimp only at hq
      simp only [Exit.inBlock]
      split
      · rename_i hi
        subst hi
        have : Nat.beq i i = true := by simp
        rw [this] at hq
        exact .inr ⟨e1, hr1, hf1, hq⟩
      · rename_i hi
        have : Nat.beq i id = false := by
          cases hb : Nat.beq i id with
          | false => rfl
          | true => exact absurd (Nat.eq_of_beq_eq_true hb) hi
        rw [this] at hq
        exact .inr ⟨e1, hr1, hf1, hq⟩
    | _ => exact .inr ⟨e1, hr1, hf1, hq⟩
  | loop x ih =>
    intro Q e a w hok hcm hr h
    simp only [cW] at h
    split at h
    · rename_i S hS
      obtain ⟨I, μ, h0, hround⟩ := h
      have hasg : assigned hs (.loop x) = assigned hs x ++ S.map (·.1) := by simp [assigned, hS]
      let vals : Act → List Value := fun a => S.map fun s => a.tmps.getD s.1 undef
      have key : (Code.loop x).wp P (fun ex a' w' => (∃ c, ex = .panic c ∧ a'.defers = ds ∧ (∀ t, t ∉ assigned hs (.loop x) → a'.tmps.getD t undef = e t) ∧ fns.thr c w') ∨ ∃ e', RelD ds n e' a' ∧ Frm (assigned hs (.loop x)) e e' ∧ Q ex e' w') a w := by
        refine wp_loop (fun a w => I (vals a) w ∧ a.tmps.size = n ∧ a.defers = ds ∧ ∀ t, t ∉ assigned hs (.loop x) → a.tmps.getD t undef = e t) (fun a w => μ (vals a) w) ?_ ?_
        · refine ⟨?_, hr.size, hr.defers, fun t _ => hr.at_ t⟩
          have : vals a = S.map fun s => e s.1 := List.map_congr_left fun s _ => hr.at_ s.1
          rw [this]; exact h0
        · rintro a1 w1 ⟨hI, hsz, hdf, hfr⟩
          let junk : Env := fun t => a1.tmps.getD t undef
          obtain ⟨us, _, hus, hb⟩ := exL_elim (hround junk (vals a1) w1 hI)
          have hrel : RelD ds n (mixE e S us (assigned hs x) junk) a1 := by
            refine ⟨hsz, fun t => ?_, hdf⟩
            have hmx := mixE_at e (assigned hs x) junk t (fun _ _ => trivial) S
            have : us = S.map fun s => junk s.1 := hus.symm
            rw [this, hmx]
            split
            · rfl
            · rename_i hnS
              cases hh : hasB (assigned hs x) t with
              | true => rfl
              | false =>
                refine hfr t ?_
                rw [hasg, List.mem_append]
                rintro (h | h)
                · rw [hasB_iff.2 h] at hh; cases hh
                · exact hnS h
          refine wp_mono (ih _ _ a1 w1 hok hcm hrel hb) ?_
          have hback : ∀ t, t ∉ assigned hs (.loop x) → mixE e S us (assigned hs x) junk t = e t := fun t ht => by
            rw [← hrel.at_ t]; exact hfr t ht
          rintro ex a2 w2 (⟨c, rfl, h1, hf, h2⟩ | ⟨e2, hr2, hf2, hq⟩)
          · exact .inl ⟨c, rfl, h1, fun t ht => (hf t (fun h => ht (by rw [hasg, List.mem_append]; exact .inl h))).trans (hback t ht), h2⟩
          have hfr2 : Frm (assigned hs (.loop x)) e e2 := fun t ht => by
            rw [hasg, List.mem_append, not_or] at ht
            rw [hf2 t ht.1]
            have := hrel.at_ t
            rw [← this]
            exact hfr t (by rw [hasg, List.mem_append, not_or]; exact ht)
          cases ex with
          | normal =>
            have hv : vals a2 = S.map fun s => e2 s.1 := List.map_congr_left fun s _ => hr2.at_ s.1
            simp only [Exit.then]
            refine ⟨⟨hv ▸ hq.1, hr2.size, hr2.defers, fun t ht => (hr2.at_ t).trans (hfr2 t ht)⟩, ?_⟩
            have hq2 := hq.2
            rw [← hus] at hq2
            rw [hv]; exact hq2
          | _ => exact .inr ⟨e2, hr2, hfr2, hq⟩
      exact key
    · exact h.elim
  | _ => exact fun Q e a w _ _ _ h => h.elim

end Go.Vx
end

/- part VxS -/
section
namespace Go.Vx
open Go.RowKit

def isLD : Obj → Bool
  | .loop _ => true
  | .deferred _ => true
  | _ => false

/-- the world goes on: records of loops and blocks of calls put off may turn -/
structure Calmly (N : Nat) (w w' : World) : Prop where
  os : w'.os = w.os
  tape : w'.tape = w.tape
  output : w'.output = w.output
  size : w.heap.size ≤ w'.heap.size
  low : ∀ (b : Nat), b < N → b < w.heap.size → w'.heap[b]? = w.heap[b]?
  same : ∀ (b : Nat) (o : Obj), w.heap[b]? = some o → isLD o = false → w'.heap[b]? = some o
  ld : ∀ (b : Nat) (o : Obj), w.heap[b]? = some o → isLD o = true → ∃ o', w'.heap[b]? = some o' ∧ isLD o' = true

theorem Calmly.of_below {N : Nat} {w w' : World} (h : Below w.heap.size w w') : Calmly N w w' :=
  ⟨h.os, h.tape, h.output, h.size, fun b _ hb => h.block b hb, fun b _ ho _ => (h.block b (Array.getElem?_eq_some_iff.1 ho).1).trans ho, fun b o ho hl => ⟨o, (h.block b (Array.getElem?_eq_some_iff.1 ho).1).trans ho, hl⟩⟩
theorem Calmly.mono {N M : Nat} {w w' : World} (h : Calmly N w w') (hM : M ≤ N) : Calmly M w w' := ⟨h.os, h.tape, h.output, h.size, fun b hb => h.low b (Nat.lt_of_lt_of_le hb hM), h.same, h.ld⟩
theorem Calmly.trans {N : Nat} {a b c : World} (h : Calmly N a b) (k : Calmly N b c) : Calmly N a c :=
  ⟨k.os.trans h.os, k.tape.trans h.tape, k.output.trans h.output, Nat.le_trans h.size k.size, fun i hi hb => (k.low i hi (Nat.lt_of_lt_of_le hb h.size)).trans (h.low i hi hb), fun i o ho hl => k.same i o (h.same i o ho hl) hl, fun i o ho hl => by
    obtain ⟨o', h1, h2⟩ := h.ld i o ho hl
    exact k.ld i o' h1 h2⟩
theorem Calmly.put {N : Nat} {w : World} {l : Nat} {o o' : Obj} (h : w.heap[l]? = some o) (hN : N ≤ l) (ho : isLD o = true) (ho' : isLD o' = true) : Calmly N w (w.putObj l o') :=
  ⟨rfl, rfl, rfl, by simp, fun b hb _ => World.putObj_heap_other (by omega), fun b x hx hl => by
      have : b ≠ l := fun e => by subst e; rw [h] at hx; cases hx; rw [ho] at hl; cases hl
      exact (World.putObj_heap_other this).trans hx, fun b x hx hl => by
      by_cases e : b = l
      · subst e; exact ⟨o', World.putObj_heap_same (Array.getElem?_eq_some_iff.1 h).1, ho'⟩
      · exact ⟨x, (World.putObj_heap_other e).trans hx, hl⟩⟩
theorem Calmly.cell {N : Nat} {w w' : World} (h : Calmly N w w') {b o : Nat} (hb : b < w.heap.size) : w'.cell? ⟨b, o, none⟩ = w.cell? ⟨b, o, none⟩ := by
  have hx := Array.getElem?_eq_getElem hb
  cases hl : isLD w.heap[b] with
  | false =>
    have := h.same b _ hx hl
    simp only [World.cell?, this, hx]
  | true =>
    obtain ⟨o', h1, h2⟩ := h.ld b _ hx hl
    simp only [World.cell?, h1, hx]
    generalize w.heap[b] = x at hl
    cases x <;> simp [isLD] at hl <;> cases o' <;> simp [isLD] at h2 <;> rfl

/-- blocks from a number on lie as they lay -/
structure Kp (B : Nat) (w w' : World) : Prop where
  size : w.heap.size ≤ w'.heap.size
  same : ∀ b, B ≤ b → b < w.heap.size → w'.heap[b]? = w.heap[b]?
theorem Kp.refl (B : Nat) (w : World) : Kp B w w := ⟨Nat.le_refl _, fun _ _ _ => rfl⟩
theorem Kp.trans {B : Nat} {a b c : World} (h : Kp B a b) (k : Kp B b c) : Kp B a c := ⟨Nat.le_trans h.size k.size, fun i hi hb => (k.same i hi (Nat.lt_of_lt_of_le hb h.size)).trans (h.same i hi hb)⟩
theorem Kp.mono {B B' : Nat} {w w' : World} (h : Kp B w w') (hB : B ≤ B') : Kp B' w w' := ⟨h.size, fun b hb => h.same b (Nat.le_trans hB hb)⟩
theorem Kp.of_below {B : Nat} {w w' : World} (h : Below w.heap.size w w') : Kp B w w' := ⟨h.size, fun b _ hb => h.block b hb⟩
theorem Kp.put {B l : Nat} {w : World} (o : Obj) (h : l < B) : Kp B w (w.putObj l o) := ⟨by simp, fun b hb _ => World.putObj_heap_other (by omega)⟩

section
variable {F : Fence} {P : Program}
theorem wpIn_any (hF : Opn F) {m m' : Nat} {c : Code} {Q : Exit → Act → World → Prop} {a : Act} {w : World} (h : c.wpIn F m P Q a w) : c.wpIn F m' P Q a w := fun b k cs hro hb _ => h b k cs hro hb (hF.room _)
theorem callsIn_any (hF : Opn F) {m m' : Nat} {f : FuncId} {args : Array Value} {w : World} {R : Ending → World → Prop} (h : CallsIn F m P f args w R) : CallsIn F m' P f args w R := ⟨h.1, fun cs _ => h.2 cs (hF.room _)⟩
theorem roundIn_any (hF : Opn F) {m m' l : Nat} {f : FuncId} {tmps : Array Value} {assign body : Code} {w : World} {R : Ending → World → Prop} (h : RoundIn F m P l f tmps assign body w R) : RoundIn F m' P l f tmps assign body w R := ⟨h.1, fun c cs _ => h.2 c cs (hF.room _)⟩

/-- **An iterator's contract**: it hands on these rows, one behind the other, as long as it is told to go on. -/
def Iter (F : Fence) (P : Program) (gf : Nat) (lb : Array Value) (encs : List (Array Value)) (n0 : Nat) (w0 : World) (Pre : World → Prop) : Prop :=
  ∀ (l : Nat) (J Jx : Nat → World → Prop) (W : World), Pre W → n0 ≤ W.heap.size →
    (∀ k W', J k W' → Below n0 w0 W') → (∀ k W', Jx k W' → Below n0 w0 W') →
    (∀ k W1 W2, J k W1 → Below W1.heap.size W1 W2 → J k W2) → (∀ k W1 W2, Jx k W1 → Below W1.heap.size W1 W2 → Jx k W2) →
    (∀ k x W1, encs[k]? = some x → J k W1 → W.heap.size ≤ W1.heap.size → YieldAt F 0 P l x W1 fun e W' =>
      (e = .returned (.bool true) ∧ J (k + 1) W' ∧ Kp W.heap.size W1 W') ∨ (e = .returned (.bool false) ∧ Jx k W')) →
    J 0 W → CallsIn F 0 P gf (#[.func (.yield l) #[] #[]] ++ lb) W fun e W' => (∃ v, e = .returned v) ∧ (J encs.length W' ∨ ∃ k, k < encs.length ∧ Jx k W')

/-- how a round may be left -/
def leftBy (I : World → Prop) (Ix : Code → World → Prop) : Exit → World → Prop
  | .normal, W => I W
  | .ret, W => Ix .ret W
  | .exit id, W => Ix (.exit id) W
  | _, _ => False

/-- **The statement 'for .. := range f { .. }'.** -/
theorem range_run (hF : Opn F) (hro : F.round = none) {m : Nat} {g : Operand} {ps : Array Tmp} {assign body : Code} {gf : Nat} {lb : Array Value} {encs : List (Array Value)} {n0 : Nat} {w0 : World} {Pre : World → Prop}
    {Q : Exit → Act → World → Prop} {a : Act} {w : World} (hg : a.eval g = .func (.func gf) #[] lb) (eg : ∀ args w, (callFunc gf args).run P w = .ok (.enter gf args) w) (hps : ∀ x ∈ encs, x.size = ps.size)
    (hseq : Iter F P gf lb encs n0 w0 Pre) (I : Nat → World → Prop) (Ix : Code → World → Prop) (M : Nat → Act → World → Prop)
    (hI : ∀ k W W', I k W → Calmly w.heap.size W W' → I k W') (hIx : ∀ c W W', Ix c W → Calmly w.heap.size W W' → Ix c W') (hM : ∀ k a W W', M k a W → Calmly w.heap.size W W' → M k a W')
    (hIb : ∀ k W, I k W → Below n0 w0 W) (hIxb : ∀ c W, Ix c W → Below n0 w0 W) (hPre : ∀ W, I 0 W → Pre W) (hn0 : n0 ≤ w.heap.size) (h0 : I 0 w)
    (hassign : ∀ l k x W, encs[k]? = some x → I k W → assign.wpIn (F.inRound l) 0 P (fun ex a1 W1 => ex = .normal ∧ M k a1 W1 ∧ Kp w.heap.size W W1) { tmps := (ps.zip x).foldl (fun t (p, v) => t.setIfInBounds p v) a.tmps, defers := [] } W)
    (hbody : ∀ l k x a1 W1, encs[k]? = some x → M k a1 W1 → body.wpIn (F.inRound l) 0 P (fun ex _ W2 => Kp w.heap.size W1 W2 ∧ leftBy (I (k + 1)) Ix ex W2) a1 W1)
    (hdone : ∀ D W, w.heap.size ≤ D → I encs.length W → W.heap[D]? = some (.deferred (some [])) → Q .normal { a with defers := { target := .collected D, args := #[] } :: a.defers } W)
    (hstop : ∀ D c W, w.heap.size ≤ D → Ix c W → W.heap[D]? = some (.deferred (some [])) → c.wpIn F m P Q { a with defers := { target := .collected D, args := #[] } :: a.defers } W) :
    (Code.rangeFunc g ps assign body).wpIn F m P Q a w := by
  refine wpIn_rangeFunc ?_
  intro fn hfn
  rw [hro]
  obtain ⟨rec, hrec⟩ : ∃ rec : LoopState → Option Code → Loop, rec = fun st pe => { state := st, pending := pe, fn, tmps := a.tmps, params := ps, assign, body, defers := w.heap.size } := ⟨_, rfl⟩
  obtain ⟨W1, hW1⟩ : ∃ W1, (w.alloc (.deferred (some []))).alloc (.loop (rec .ready none)) = W1 := ⟨_, rfl⟩
  have hs1 : W1.heap.size = w.heap.size + 2 := by rw [← hW1]; simp
  have hL1 : W1.heap[w.heap.size + 1]? = some (.loop (rec .ready none)) := by
    rw [← hW1]; have := World.alloc_heap_new (w.alloc (.deferred (some []))) (.loop (rec .ready none)); rwa [World.size_alloc] at this
  have hK1 : W1.heap[w.heap.size]? = some (.deferred (some [])) := by
    rw [← hW1]; exact (Below.heap_alloc _ _ _ (by simp)).trans (World.alloc_heap_new w _)
  have hb1 : Below w.heap.size w W1 := by
    rw [← hW1]; exact ((Below.refl _ w).alloc (Nat.le_refl _) _).alloc (by simp) _
  have hI1 : I 0 W1 := hI 0 w W1 h0 (.of_below hb1)
  refine ⟨w.heap.size + 1, [{ target := .collected w.heap.size, args := #[] }], W1, { target := .fn (.func gf) lb, args := #[.func (.yield (w.heap.size + 1)) #[] #[]] }, W1, gf,
    #[.func (.yield (w.heap.size + 1)) #[] #[]] ++ lb, W1, ?_, ?_, ?_, ?_, hF.isSome, ?_⟩
  · rw [← hW1, hrec]; exact run_enterLoop_outer _ _ _ _ _
  · simp only [resolve, hg]
    simp [go_sem]
  · intro f' _; exact hF.fn f'
  · simp [invoke, go_sem, eg]
  · have keepL : ∀ {A B : World}, Below A.heap.size A B → ∀ {i : Nat} {o : Obj}, A.heap[i]? = some o → B.heap[i]? = some o := fun h i o ho => (h.block i (Array.getElem?_eq_some_iff.1 ho).1).trans ho
    refine callsIn_any hF ((hseq (w.heap.size + 1)
      (fun k W => I k W ∧ W.heap[w.heap.size + 1]? = some (.loop (rec .ready none)) ∧ W.heap[w.heap.size]? = some (.deferred (some [])))
      (fun _ W => ∃ c, Ix c W ∧ W.heap[w.heap.size + 1]? = some (.loop (rec .done (some c))) ∧ W.heap[w.heap.size]? = some (.deferred (some [])))
      W1 (hPre _ hI1) (by omega) (fun k W h => hIb k W h.1) (fun k W h => by obtain ⟨c, h1, _⟩ := h; exact hIxb c W h1)
      (fun k A B h hb => ⟨hI k A B h.1 (.of_below hb), keepL hb h.2.1, keepL hb h.2.2⟩)
      (fun k A B h hb => by obtain ⟨c, h1, h2, h3⟩ := h; exact ⟨c, hIx c A B h1 (.of_below hb), keepL hb h2, keepL hb h3⟩)
      ?_ ⟨hI1, hL1, hK1⟩).mono ?_)
    · rintro k x W hx ⟨hi, hl, hk⟩ hsz
      have hlt : w.heap.size + 1 < W.heap.size := (Array.getElem?_eq_some_iff.1 hl).1
      have hy := run_yield (P := P) (args := x) hl (by rw [hrec]; exact hps x (List.mem_of_getElem? hx))
      rw [hrec] at hy
      refine ⟨fn, _, assign, body, hy, roundIn_of_wpIn hfn (wpIn_mono (hassign (w.heap.size + 1) k x W hx hi) ?_)⟩
      rintro ex a1 Wa ⟨rfl, hm, hkp⟩
      have hla : Wa.heap[w.heap.size + 1]? = some (.loop (rec .ready none)) := (hkp.same _ (by omega) hlt).trans hl
      have hka : Wa.heap[w.heap.size]? = some (.deferred (some [])) := (hkp.same _ (Nat.le_refl _) (by omega)).trans hk
      refine ⟨_, run_beginRound hla (by rw [hrec]), ?_⟩
      have hl2 : (Wa.putObj (w.heap.size + 1) (.loop { rec .ready none with state := .busy })).heap[w.heap.size + 1]? = some (.loop { rec .ready none with state := .busy }) := World.putObj_heap_same (Array.getElem?_eq_some_iff.1 hla).1
      have hk2 : (Wa.putObj (w.heap.size + 1) (.loop { rec .ready none with state := .busy })).heap[w.heap.size]? = some (.deferred (some [])) := (World.putObj_heap_other (by omega)).trans hka
      have c2 : Calmly w.heap.size Wa (Wa.putObj (w.heap.size + 1) (.loop { rec .ready none with state := .busy })) := Calmly.put hla (by omega) rfl rfl
      refine wpIn_mono (hbody (w.heap.size + 1) k x a1 _ hx (hM k a1 _ _ hm c2)) ?_
      rintro ex a2 W3 ⟨hkp3, hleft⟩
      have hl3 : W3.heap[w.heap.size + 1]? = some (.loop { rec .ready none with state := .busy }) := (hkp3.same _ (by omega) (Array.getElem?_eq_some_iff.1 hl2).1).trans hl2
      have hk3 : W3.heap[w.heap.size]? = some (.deferred (some [])) := (hkp3.same _ (Nat.le_refl _) (Array.getElem?_eq_some_iff.1 hk2).1).trans hk2
      have fin : ∀ (jump : Option Code), (Instr.endRound (w.heap.size + 1) jump).run P W3 = .ok (.bool jump.isNone) (W3.putObj (w.heap.size + 1) (.loop (rec (if jump.isNone then .ready else .done) jump))) ∧
          (W3.putObj (w.heap.size + 1) (.loop (rec (if jump.isNone then .ready else .done) jump))).heap[w.heap.size + 1]? = some (.loop (rec (if jump.isNone then .ready else .done) jump)) ∧
          (W3.putObj (w.heap.size + 1) (.loop (rec (if jump.isNone then .ready else .done) jump))).heap[w.heap.size]? = some (.deferred (some [])) ∧
          Calmly w.heap.size W3 (W3.putObj (w.heap.size + 1) (.loop (rec (if jump.isNone then .ready else .done) jump))) := fun jump => by
        have := run_endRound (P := P) jump hl3
        rw [hrec] at this ⊢
        exact ⟨this, World.putObj_heap_same (Array.getElem?_eq_some_iff.1 hl3).1, (World.putObj_heap_other (by omega)).trans hk3, Calmly.put hl3 (by omega) rfl rfl⟩
      have kall : ∀ o, Kp W1.heap.size W (W3.putObj (w.heap.size + 1) o) := fun o =>
        (((hkp.mono (by omega)).trans (Kp.put _ (by omega))).trans (hkp3.mono (by omega))).trans (Kp.put _ (by omega))
      cases ex with
      | normal =>
        obtain ⟨hr, h4, h5, h6⟩ := fin none
        exact ⟨_, _, hr, .inl ⟨rfl, ⟨hI _ _ _ hleft h6, h4, h5⟩, kall _⟩⟩
      | ret =>
        obtain ⟨hr, h4, h5, h6⟩ := fin (some .ret)
        exact ⟨_, _, hr, .inr ⟨rfl, .ret, hIx _ _ _ hleft h6, h4, h5⟩⟩
      | exit id =>
        obtain ⟨hr, h4, h5, h6⟩ := fin (some (.exit id))
        exact ⟨_, _, hr, .inr ⟨rfl, .exit id, hIx _ _ _ hleft h6, h4, h5⟩⟩
      | goto t => exact hleft.elim
      | panic ch => exact hleft.elim
      | outgrown => exact hleft.elim
    · rintro e W2 ⟨⟨v, rfl⟩, (⟨hi, hl, hk⟩ | ⟨k, hlt, c, hi, hl, hk⟩)⟩
      · refine ⟨none, _, by have := run_endLoop (P := P) hl (by rw [hrec]; simp); rw [hrec] at this; exact this, ?_⟩
        exact hdone _ _ (Nat.le_refl _) (hI _ _ _ hi (Calmly.put hl (by omega) rfl rfl)) ((World.putObj_heap_other (by omega)).trans hk)
      · refine ⟨some c, _, by have := run_endLoop (P := P) hl (by rw [hrec]; simp); rw [hrec] at this; exact this, ?_⟩
        exact hstop _ c _ (Nat.le_refl _) (hIx _ _ _ hi (Calmly.put hl (by omega) rfl rfl)) ((World.putObj_heap_other (by omega)).trans hk)
end

end Go.Vx
end

/- part AvX -/
section
namespace Go.Av
open Go.Vx Go.RowKit

def envL : List (Nat × V) → AEnv
  | [], _ => .junk
  | (i, v) :: r, t => cond (Nat.beq t i) v (envL r t)

section
variable {gs : List Nat} {G : Nat → Value} {w w' : World} {F F' : Nat → Nat → Prop} {β β' : Nat → Value} {σ σ' : Store}

theorem Sim.has_obj (h : Sim gs G w F β σ) {i b : Nat} (hb : Has β i (getO σ i) b) : ∃ o, w.heap[b]? = some o ∧ isLD o = false := by
  have ho := h.obj i
  obtain ⟨h1, h2⟩ := hb
  cases hg : getO σ i with
  | dead => rw [hg] at h1; exact h1.elim
  | mp l => rw [hg] at ho; exact ho.elim
  | box l =>
    rw [hg] at ho
    obtain ⟨b', t, cs, e, hh, _⟩ := ho
    rw [e] at h2
    simp only [vblk, Option.some.injEq] at h2
    subst h2
    exact ⟨_, hh, rfl⟩
  | lst t z fz l =>
    rw [hg] at ho
    rcases ho with ⟨r, es, clock, e, hh, _⟩ | ⟨xs, ho, _⟩
    · rw [e] at h2
      simp only [vblk, Option.some.injEq] at h2
      subst h2
      exact ⟨_, hh, rfl⟩
    obtain ⟨_, ⟨e, _⟩ | ⟨g, cap, cur, e, _, hh, _⟩⟩ := ho
    · rw [e] at h2; cases h2
    · rw [e] at h2
      simp only [vblk, Option.some.injEq] at h2
      subst h2
      exact ⟨_, hh, rfl⟩

/-- what lies below stays, where a piece began without objects -/
theorem Step.below0 (h : Step w F β [] w' F' β' σ') : Below w.heap.size w w' :=
  ⟨h.os, h.tape, h.output, h.size, fun b hb => h.block b hb fun i hi => by have := hi.1; simp [getO, Live] at this⟩
theorem Step.below_same (h : Step w F β σ w' F' β' σ') (hv : ∀ i, i < σ.length → verO σ' i = verO σ i) : Below w.heap.size w w' := by
  refine ⟨h.os, h.tape, h.output, h.size, fun b hb => ?_⟩
  by_cases hh : ∃ i, Has β i (getO σ i) b
  · obtain ⟨i, hi⟩ := hh
    have hlt : i < σ.length := getO_lt fun e => by rw [e] at hi; exact no_has_dead hi
    exact ((h.ver i hlt).2 (hv i hlt)).2 b hi
  · exact h.block b hb fun i hi => hh ⟨i, hi⟩
theorem Step.ld (h : Step w F β σ w' F' β' σ') (hs : Sim gs G w F β σ) {b : Nat} {o : Go.Obj} (hb : w.heap[b]? = some o) (ho : isLD o = true) : w'.heap[b]? = some o := by
  refine (h.block b (Array.getElem?_eq_some_iff.1 hb).1 fun i hi => ?_).trans hb
  obtain ⟨o', h1, h2⟩ := hs.has_obj hi
  rw [hb] at h1; cases h1; rw [ho] at h2; cases h2
/-- blocks that none of the objects has -/
theorem Step.kp (h : Step w F β σ w' F' β' σ') {B : Nat} (hB : ∀ i b, Has β i (getO σ i) b → b < B) : Kp B w w' :=
  ⟨h.size, fun b hb hlt => h.block b hlt fun i hi => by have := hB i b hi; omega⟩
/-- objects that lay stay where they lie -/
theorem Step.old_has {w0 : World} {F0 : Nat → Nat → Prop} {β0 : Nat → Value} {σ0 : Store} (h : Step w0 F0 β0 σ0 w F β σ) (hs : Sim gs G w0 F0 β0 σ0) (hl : σ.length = σ0.length) : ∀ i b, Has β i (getO σ i) b → b < w0.heap.size := by
  intro i b hb
  have hi : i < σ.length := getO_lt fun e => by rw [e] at hb; exact no_has_dead hb
  rw [hl] at hi
  obtain ⟨e1, e2⟩ := h.ext i hi
  refine hs.has_lt (i := i) ⟨?_, by rw [← e1]; exact hb.2⟩
  have := hb.1
  cases h0 : getO σ0 i with
  | dead =>
    rw [h0] at e2
    cases h1 : getO σ i <;> rw [h1] at e2 this <;> simp [obLe, Live] at e2 this
  | mp l =>
    have := hs.obj i
    rw [h0] at this
    exact this.elim
  | _ => trivial

theorem Sim.calm {w0 : World} {F0 : Nat → Nat → Prop} {β0 : Nat → Value} (h : Sim gs G w F β σ) (h0 : Step w0 F0 β0 [] w F β σ) (hc : Calmly w0.heap.size w w') : Sim gs G w' F β σ ∧ Step w0 F0 β0 [] w' F β σ := by
  have hcell : ∀ b o, b < w.heap.size → w'.cell? ⟨b, o, none⟩ = w.cell? ⟨b, o, none⟩ := fun b o hlt => hc.cell hlt
  have hcar : Carry w F β σ w' F β σ := ⟨fun b o hf => ⟨hf, hcell b o (h.lt b o hf)⟩, Nat.le_refl _, fun i _ => ⟨rfl, obLe.refl _⟩⟩
  have hblk : ∀ i b, Has β i (getO σ i) b → w'.heap[b]? = w.heap[b]? := fun i b hb => by
    obtain ⟨o, h1, h2⟩ := h.has_obj hb
    rw [h1]; exact hc.same b o h1 h2
  refine ⟨⟨fun b o hf => Nat.lt_of_lt_of_le (h.lt b o hf) hc.size, fun g hg => ?_, fun i => ?_, fun g cs hg => ?_, h.sep, h.dis⟩, ?_⟩
  · obtain ⟨h1, h2, h3, t, b, h4, h5, h6, h7⟩ := h.glob g hg
    refine ⟨(hcell g 0 (h.lt g 0 h2)).trans h1, h2, h3, t, b, h4, Nat.lt_of_lt_of_le h5 hc.size, ?_, h7⟩
    obtain ⟨cs, t', e⟩ := h6
    exact ⟨cs, t', hc.same _ _ e rfl⟩
  · cases hg : getO σ i with
    | dead => trivial
    | _ => exact hg ▸ (h.obj i).keep hcar rfl fun b hv => hblk i b ⟨by rw [hg]; trivial, hv⟩
  · obtain ⟨h1, ⟨t, p, h2⟩, h3⟩ := h.tab g cs hg
    exact ⟨Nat.lt_of_lt_of_le h1 hc.size, ⟨t, p, hc.same _ _ h2 rfl⟩, h3⟩
  · have n0 : ∀ {i b : Nat}, ¬ Has β0 i (getO ([] : Store) i) b := fun hi => by have := hi.1; simp [getO, Live] at this
    have hb0 := h0.below0
    have hlow : ∀ b, b < w0.heap.size → w'.heap[b]? = w0.heap[b]? := fun b hb => (hc.low b hb (Nat.lt_of_lt_of_le hb hb0.size)).trans (hb0.block b hb)
    refine ⟨hc.os.trans h0.os, hc.tape.trans h0.tape, hc.output.trans h0.output, Nat.le_trans h0.size hc.size, fun b o hf => ?_, fun b o hb hm => ?_, fun b hb _ => hlow b hb, h0.newF, h0.newH, h0.newM, h0.len, fun i hi => by simp at hi, fun i hi => by simp at hi⟩
    · obtain ⟨k1, k2⟩ := h0.fcell b o hf
      exact ⟨k1, (hcell b o (h.lt b o k1)).trans k2⟩
    · exact (hcell b o (Nat.lt_of_lt_of_le hb h0.size)).trans (h0.cell b o hb hm)

/-- the first objects alone -/
theorem Sim.trim (h : Sim gs G w F β σ) {σ1 : Store} (hg : ∀ i, i < σ1.length → getO σ1 i = getO σ i) (hb : ∀ i l, i < σ1.length → getO σ1 i = .box l → ∀ k ∈ idsL l, k < σ1.length) :
    Sim gs G w F β σ1 ∧ ∀ {u : V} {v : Value}, RV gs G w F β σ u v → (∀ k ∈ idsV u, k < σ1.length) → RV gs G w F β σ1 u v := by
  let f : Nat → Option Nat := fun i => if i < σ1.length then some i else none
  have hf : ∀ i, i < σ1.length → f i = some i := fun i hi => if_pos hi
  obtain ⟨h1, h2⟩ := h.restrict (σ1 := σ1) (g := id) (f := f) (fun i hi => by
      have e := hg i hi
      rw [show getO σ (id i) = getO σ1 i from e.symm]
      cases ho : getO σ1 i with
      | box l =>
        simp only [renOb]
        rw [ren_idL f l fun k hk => hf k (hb i l hi ho k hk)]
      | _ => rfl) (fun i j _ _ e => e) (fun o k _ hk => by
      by_cases ho : o < σ1.length
      · rw [hf o ho] at hk; cases hk; exact ⟨ho, rfl⟩
      · simp only [f, if_neg ho] at hk; cases hk)
  refine ⟨h1, fun {u v} hv hk => ?_⟩
  have := hv.ren h2
  rwa [ren_id f u fun k hm => hf k (hk k hm)] at this

/-- a box in memory, over a state without objects -/
theorem Sim.addBox {w0 : World} (h : Sim gs G w F β []) (hF : ∀ b o, F b o → b < w0.heap.size) (hg0 : ∀ g ∈ gs, g < w0.heap.size ∧ ∀ t b, G g = .iface t (.pointer (some b)) → b.block < w0.heap.size) (ht0 : ∀ g cs, G g = .agg cs → g < w0.heap.size)
    {b t : Nat} {cs : Array Value} {l : List V} (hb : w0.heap.size ≤ b) (hh : w.heap[b]? = some (.cells cs t (0, 0))) (hl : Rl (RV gs G w F (fun _ => .pointer (some ⟨b, 0, none⟩)) []) l cs.toList) (h1 : ∀ v ∈ cs.toList, v.oneCell' = true) :
    Sim gs G w F (fun _ => .pointer (some ⟨b, 0, none⟩)) [⟨0, .box l⟩] := by
  have hhas : ∀ i b', Has (fun _ => Value.pointer (some ⟨b, 0, none⟩)) i (getO [⟨0, Ob.box l⟩] i) b' → i = 0 ∧ b' = b := fun i b' hi => by
    cases i with
    | zero => have := hi.2; simp only [vblk, Option.some.injEq] at this; exact ⟨rfl, this.symm⟩
    | succ i => have := hi.1; simp [getO, Live] at this
  refine ⟨h.lt, fun g hg => ?_, fun i => ?_, fun g cs hg => ?_, fun i j b' hij hi hj => ?_, fun i b' o hm hf => ?_⟩
  · obtain ⟨k1, k2, _, t, p, k4, k5, k6, _⟩ := h.glob g hg
    obtain ⟨m1, m2⟩ := hg0 g hg
    exact ⟨k1, k2, fun i hi => by have := (hhas i g hi).2; omega, t, p, k4, k5, k6, fun i hi => by have := (hhas i _ hi).2; have := m2 t p k4; omega⟩
  · cases i with
    | zero =>
      have hc : Carry w F (fun _ => Value.pointer (some ⟨b, 0, none⟩)) [] w F (fun _ => Value.pointer (some ⟨b, 0, none⟩)) [⟨0, .box l⟩] := ⟨fun _ _ h => ⟨h, rfl⟩, Nat.zero_le _, fun i hi => by simp at hi⟩
      exact ⟨b, t, cs, rfl, hh, hl.mono fun u v => RV.mono hc, h1⟩
    | succ i => trivial
  · obtain ⟨k1, k2, _⟩ := h.tab g cs hg
    exact ⟨k1, k2, fun i hi => by have := (hhas i g hi).2; have := ht0 g cs hg; omega⟩
  · exact absurd ((hhas i b' hi).1.trans (hhas j b' hj).1.symm) hij
  · have := (hhas i b' hm.has).2
    have := hF b' o hf
    omega
end

/-! ### states within a function -/
section
variable (ax : Ax) (G : Nat → Value) (w0 : World) (F0 : Nat → Nat → Prop) (β0 : Nat → Value) (σ0 : Store)
/-- the slots and objects stand so, and all has come of the state at the beginning -/
def St (ds : List Deferred) (n : Nat) (e : AEnv) (σ : Store) (a : Act) (w : World) : Prop :=
  ∃ ρ F β, RelD ds n ρ a ∧ RE ax.gs G w F β σ e ρ ∧ Sim ax.gs G w F β σ ∧ Step w0 F0 β0 σ0 w F β σ
/-- of objects alone -/
def Sw (σ : Store) (w : World) : Prop := ∃ F β, Sim ax.gs G w F β σ ∧ Step w0 F0 β0 σ0 w F β σ
end

section
variable {ax : Ax} {ah : AH} {G : Nat → Value} {w0 : World} {F0 : Nat → Nat → Prop} {β0 : Nat → Value} {σ0 : Store} {ds : List Deferred} {n : Nat}

theorem St.piece (hT : AllOk ax.P ax.tys) (hFn : FnsOk ax.P ax.fns) (hm : ax.P.follows .mixedOrders = true) (hQ : EqOk ax) (hN : ax.T = none) (hE : ErrOk ax.P ax.gs ax.ift ax.tabs G) {F : Fence} (hF : Opn F) {m : Nat} {c : Code} {K : Exit → AEnv → Store → Prop} {e : AEnv} {σ : Store} {a : Act} {w : World}
    (hok : codeOk ax.tys (hintsOf ah) n c = true) (hc : calmC c = true) (h : acW ax ah c K e σ) (hs : St ax G w0 F0 β0 σ0 ds n e σ a w) :
    c.wpIn F m ax.P (fun ex a' w' => ∃ e' σ', K ex e' σ' ∧ St ax G w0 F0 β0 σ0 ds n e' σ' a' w' ∧ (∃ F β F' β', Sim ax.gs G w F β σ ∧ Step w0 F0 β0 σ0 w F β σ ∧ Step w F β σ w' F' β' σ')) a w := by
  obtain ⟨ρ, F1, β1, h1, h2, h3, h4⟩ := hs
  refine wpIn_mono (cW_wpIn (fns := ax.fns) hT hFn (fun _ _ h => h) hm hF c _ _ a w hok hc h1 (acW_run (fx := ax.fns) hT hE hQ c h ⟨rfl, by rw [hN]⟩ h3 h2 fun ex ρ' w' hp => hp)) ?_
  rintro ex a' w' ⟨ρ', k1, _, e', F', β', σ', k3, k4, k5, k6, _⟩
  exact ⟨e', σ', k3, ⟨ρ', F', β', k1, k4, k5, h4.trans k6⟩, F1, β1, F', β', h3, h4, k6⟩

theorem St.env {e e' : AEnv} {σ : Store} {a : Act} {w : World} (h : St ax G w0 F0 β0 σ0 ds n e σ a w) (he : ∀ t, e' t = e t ∨ e' t = .junk) : St ax G w0 F0 β0 σ0 ds n e' σ a w := by
  obtain ⟨ρ, F, β, h1, h2, h3, h4⟩ := h
  refine ⟨ρ, F, β, h1, fun t => ?_, h3, h4⟩
  rcases he t with k | k
  · rw [k]; exact h2 t
  · rw [k]; exact .junk _
theorem envL_of (e : AEnv) : ∀ (l : List Nat) (t : Nat), envL (l.map fun s => (s, e s)) t = e t ∨ envL (l.map fun s => (s, e s)) t = .junk
  | [], _ => .inr rfl
  | s :: l, t => by
    simp only [List.map_cons, envL]
    cases hb : Nat.beq t s with
    | true => have := Nat.eq_of_beq_eq_true hb; subst this; exact .inl rfl
    | false => exact envL_of e l t
theorem St.envL {e : AEnv} {σ : Store} {a : Act} {w : World} (h : St ax G w0 F0 β0 σ0 ds n e σ a w) (l : List Nat) : St ax G w0 F0 β0 σ0 ds n (envL (l.map fun s => (s, e s))) σ a w := h.env (envL_of e l)

theorem St.sw {e : AEnv} {σ : Store} {a : Act} {w : World} (h : St ax G w0 F0 β0 σ0 ds n e σ a w) : Sw ax G w0 F0 β0 σ0 σ w := by
  obtain ⟨_, F, β, _, _, h3, h4⟩ := h
  exact ⟨F, β, h3, h4⟩
theorem St.calm {β0 : Nat → Value} {e : AEnv} {σ : Store} {a : Act} {w w' : World} (h : St ax G w0 F0 β0 [] ds n e σ a w) (hc : Calmly w0.heap.size w w') : St ax G w0 F0 β0 [] ds n e σ a w' := by
  obtain ⟨ρ, F, β, h1, h2, h3, h4⟩ := h
  obtain ⟨k1, k2⟩ := h3.calm h4 hc
  exact ⟨ρ, F, β, h1, h2.mono ⟨fun b o hf => ⟨hf, hc.cell (h3.lt b o hf)⟩, Nat.le_refl _, fun i _ => ⟨rfl, obLe.refl _⟩⟩, k1, k2⟩
/-- the first objects alone, counted anew -/
theorem Step.trim0 {w : World} {F : Nat → Nat → Prop} {β : Nat → Value} {σ σ1 : Store} (h : Step w0 F0 β0 [] w F β σ) (hg : ∀ i, i < σ1.length → getO σ1 i = getO σ i) : Step w0 F0 β0 [] w F β σ1 := by
  have hh : ∀ i ob, getO σ1 i = ob → Live ob → getO σ i = ob := fun i ob e hlv => by
    rw [← hg i (getO_lt (by rw [e]; intro hd; rw [hd] at hlv; exact hlv)), e]
  refine ⟨h.os, h.tape, h.output, h.size, h.fcell, h.cell, h.block, h.newF, fun i b hb => ?_, fun i b o hb => ?_, Nat.zero_le _, fun i hi => by simp at hi, fun i hi => by simp at hi⟩
  · refine h.newH i b ?_
    rw [hh i _ rfl hb.1]; exact hb
  · refine h.newM i b o ?_
    rw [hh i _ rfl hb.1.1]; exact hb
theorem St.trim {β0 : Nat → Value} {e : AEnv} {σ σ1 : Store} {a : Act} {w : World} (h : St ax G w0 F0 β0 [] ds n e σ a w) (hg : ∀ i, i < σ1.length → getO σ1 i = getO σ i) (hb : ∀ i l, i < σ1.length → getO σ1 i = .box l → ∀ k ∈ idsL l, k < σ1.length) (he : ∀ t, ∀ k ∈ idsV (e t), k < σ1.length) : St ax G w0 F0 β0 [] ds n e σ1 a w := by
  obtain ⟨ρ, F, β, h1, h2, h3, h4⟩ := h
  obtain ⟨k1, k2⟩ := h3.trim hg hb
  exact ⟨ρ, F, β, h1, fun t => k2 (h2 t) (he t), k1, h4.trim0 hg⟩

/-- marks of loops among the calls put off -/
def Marks (n0 : Nat) (ds : List Deferred) (w : World) : Prop := ∃ Ds : List Nat, ds = Ds.map (fun D => { target := .collected D, args := #[] }) ∧ Ds.Nodup ∧ ∀ D ∈ Ds, n0 ≤ D ∧ w.heap[D]? = some (.deferred (some []))
theorem Marks.nil (n0 : Nat) (w : World) : Marks n0 [] w := ⟨[], rfl, List.nodup_nil, fun _ h => by cases h⟩
theorem Marks.keep {n0 : Nat} {w w' : World} (h : Marks n0 ds w) (hk : ∀ (b : Nat) (o : Go.Obj), w.heap[b]? = some o → isLD o = true → w'.heap[b]? = some o) : Marks n0 ds w' := by
  obtain ⟨Ds, h1, h2, h3⟩ := h
  exact ⟨Ds, h1, h2, fun D hD => ⟨(h3 D hD).1, hk _ _ (h3 D hD).2 rfl⟩⟩
theorem Marks.cons {n0 : Nat} {w : World} {D : Nat} (h : Marks n0 ds w) (hD : n0 ≤ D) (hh : w.heap[D]? = some (.deferred (some []))) (hnew : ∀ Ds : List Nat, ds = Ds.map (fun D => { target := .collected D, args := #[] }) → D ∉ Ds) : Marks n0 ({ target := .collected D, args := #[] } :: ds) w := by
  obtain ⟨Ds, h1, h2, h3⟩ := h
  refine ⟨D :: Ds, by rw [h1]; rfl, List.nodup_cons.2 ⟨hnew Ds h1, h2⟩, fun E hE => ?_⟩
  rcases List.mem_cons.1 hE with rfl | hE
  · exact ⟨hD, hh⟩
  · exact h3 E hE

theorem leave_marks {P : Program} {F : Fence} {m : Nat} {fn : Func} {tmps : Array Value} {R : Ending → World → Prop} {n0 : Nat} : ∀ (Ds : List Nat) (w : World), Ds.Nodup → (∀ D ∈ Ds, n0 ≤ D ∧ w.heap[D]? = some (.deferred (some []))) →
    (∀ w', Calmly n0 w w' → ∃ v, (results fn tmps).run P w' = .ok v w' ∧ R (.returned v) w') → LeavesInM F m P fn tmps R (Ds.map fun D => { target := .collected D, args := #[] }) .returning w
  | [], w, _, _, h => h w ⟨rfl, rfl, rfl, Nat.le_refl _, fun _ _ _ => rfl, fun _ _ h _ => h, fun _ o h hl => ⟨o, h, hl⟩⟩
  | D :: Ds, w, hn, hD, h => by
    obtain ⟨h1, h2⟩ := hD D List.mem_cons_self
    have hc : Calmly n0 w (w.putObj D (.deferred none)) := Calmly.put h2 h1 rfl rfl
    obtain ⟨n1, n2⟩ := List.nodup_cons.1 hn
    refine ⟨by simp, .inl ⟨D, _, rfl, run_takeDeferred h2, leave_marks Ds _ n2 (fun E hE => ?_) fun w' hw => h w' (hc.trans hw)⟩⟩
    obtain ⟨k1, k2⟩ := hD E (List.mem_cons_of_mem _ hE)
    exact ⟨k1, (World.putObj_heap_other (fun e => n1 (by rw [← e]; exact hE))).trans k2⟩

/-- **A function that holds ranges over functions**: what its body comes to holds of every call. -/
theorem callsM {N : Nat} {fn : Func} {c : Code} {args : List V} {K : List V → Prop} (hf : ax.P.funcs[N]? = some fn) (hb : fn.body = some c) (hT : AllOk ax.P ax.tys) (hn : Nat.ble args.length fn.ntmps = true)
    (h : ∀ (G : Nat → Value) (w0 : World) (F0 : Nat → Nat → Prop) (β0 : Nat → Value) (a : Act), ErrOk ax.P ax.gs ax.ift ax.tabs G → Sim ax.gs G w0 F0 β0 [] → St ax G w0 F0 β0 [] [] fn.ntmps (fun t => args.getD t .undef) [] a w0 →
      c.wpIn Fence.wide 0 ax.P (fun ex a' w' => (ex = .normal ∨ ex = .ret) ∧ ∃ ds e' σ', Marks w0.heap.size ds w' ∧ St ax G w0 F0 β0 [] ds fn.ntmps e' σ' a' w' ∧ aresL ax e' σ' fn.results.toList fun vs => (∀ u ∈ vs, idsV u = []) ∧ K vs) a w0) : PCalls ax N args K := by
  intro G w F β vals hE hs hr
  have hn := Nat.le_of_ble_eq_true hn
  refine callsIn_wide.1 (callsIn_of_wp_marks (n := 0) hf hb trivial ?_)
  have hrel : RelD [] fn.ntmps (fun t => vals.getD t undef) { tmps := vals.toArray ++ Array.replicate (fn.ntmps - vals.toArray.size) undef, defers := [] } := by
    have hlen := hr.1
    refine ⟨by simp; omega, fun t => ?_, rfl⟩
    simp only [Array.getD_eq_getD_getElem?, List.getD_eq_getElem?_getD]
    by_cases ht : t < vals.length
    · rw [Array.getElem?_append_left (by simpa using ht)]; simp
    · rw [Array.getElem?_append_right (by simpa using ht), List.getElem?_eq_none (by omega), Array.getElem?_replicate]
      split <;> rfl
  have he : RE ax.gs G w F β [] (fun t => args.getD t .undef) (fun t => vals.getD t undef) := fun t => by
    simp only [List.getD_eq_getElem?_getD]
    cases ha : args[t]? with
    | none =>
      have : vals[t]? = none := by rw [List.getElem?_eq_none_iff] at ha ⊢; rw [← hr.1]; exact ha
      rw [this]; exact .undef
    | some u =>
      obtain ⟨x, hx, hux⟩ := hr.get ha
      rw [hx]; exact hux
  refine wpIn_mono (h G w F β _ hE hs ⟨_, F, β, hrel, he, hs, Step.refl _ _ _ _⟩) ?_
  rintro ex a' w' ⟨hex, ds, e', σ', ⟨Ds, rfl, hD1, hD2⟩, ⟨ρ', F', β', k1, k2, k3, k4⟩, hres⟩
  have fin : LeavesInM Fence.wide 0 ax.P fn a'.tmps (fun e w' => ∃ rs obs' F' β' rvals, onlyV K rs obs' ∧ e = .returned (oneOr rvals) ∧ Rl (RV ax.gs G w' F' β' (mkS1 obs')) rs rvals ∧ Sim ax.gs G w' F' β' (mkS1 obs') ∧ Step w F β (mkS []) w' F' β' (mkS1 obs')) a'.defers .returning w' := by
    rw [k1.defers]
    refine leave_marks Ds w' hD1 hD2 fun w2 hc => ?_
    obtain ⟨c1, c2⟩ := k3.calm k4 hc
    have he2 : RE ax.gs G w2 F' β' σ' e' ρ' := k2.mono ⟨fun b o hf => ⟨hf, hc.cell (k3.lt b o hf)⟩, Nat.le_refl _, fun i _ => ⟨rfl, obLe.refl _⟩⟩
    obtain ⟨a0, r0, ea⟩ := k1.split
    have hl := aresL_run (K' := fun xs => ∃ rs obs' F' β' rvals, onlyV K rs obs' ∧ oneOr xs = oneOr rvals ∧ Rl (RV ax.gs G w2 F' β' (mkS1 obs')) rs rvals ∧ Sim ax.gs G w2 F' β' (mkS1 obs') ∧ Step w F β (mkS []) w2 F' β' (mkS1 obs')) c1 he2 _ hres fun us xs hk hrx => by
      obtain ⟨hids, hK⟩ := hk
      obtain ⟨t1, t2⟩ := c1.trim (σ1 := []) (fun i hi => by simp at hi) (fun i l hi => by simp at hi)
      refine ⟨us, [], F', β', xs, hK, rfl, ?_, t1, c2.trim0 fun i hi => absurd hi (Nat.not_lt_zero i)⟩
      exact ⟨hrx.1, fun i u v hu hv => t2 (hrx.2 i u v hu hv) fun k hk => by rw [hids u (List.mem_of_getElem? hu)] at hk; cases hk⟩
    obtain ⟨v, h1, h2⟩ := results_run (P := ax.P) (R := fun v => ∃ rs obs' F' β' rvals, onlyV K rs obs' ∧ v = oneOr rvals ∧ Rl (RV ax.gs G w2 F' β' (mkS1 obs')) rs rvals ∧ Sim ax.gs G w2 F' β' (mkS1 obs') ∧ Step w F β (mkS []) w2 F' β' (mkS1 obs')) hT r0 hl
    have et : a0.tmps = a'.tmps := by rw [ea]; rfl
    rw [et] at h1
    obtain ⟨rs, obs', F2, β2, rvals, m1, m2, m3⟩ := h2
    exact ⟨v, h1, rs, obs', F2, β2, rvals, m1, by rw [m2], m3⟩
  rcases hex with rfl | rfl
  · exact fin
  · exact fin
end

/-! ### parts of code -/
def pre : Nat → Code → Code
  | 0, .seq a _ => a
  | k + 1, .seq a b => .seq a (pre k b)
  | _, c => c
def post : Nat → Code → Code
  | 0, .seq _ b => b
  | k + 1, .seq _ b => post k b
  | _, _ => .skip
def chainB : Nat → Code → Bool
  | 0, .seq _ _ => true
  | k + 1, .seq _ b => chainB k b
  | _, _ => false
def dropR (k : Nat) : Code → Code
  | .seq (.region id ops d) b => .seq (.region id ⟨ops.toList.drop k⟩ d) b
  | c => c
inductive Pa where | fst | snd | inn | asg | bod | pre (k : Nat) | post (k : Nat) | drp (k : Nat)
def part1 : Pa → Code → Code
  | .fst, .seq a _ => a
  | .snd, .seq _ b => b
  | .inn, .block _ b => b
  | .inn, .loop b => b
  | .asg, .rangeFunc _ _ a _ => a
  | .bod, .rangeFunc _ _ _ b => b
  | .pre k, c => Av.pre k c
  | .post k, c => Av.post k c
  | .drp k, c => Av.dropR k c
  | _, c => c
def part : List Pa → Code → Code
  | [], c => c
  | p :: r, c => part r (part1 p c)

section
variable {ax : Ax} {ah : AH} {G : Nat → Value} {w0 : World} {F0 : Nat → Nat → Prop} {β0 : Nat → Value} {σ0 : Store} {ds : List Deferred} {n : Nat}

theorem St.chain (hT : AllOk ax.P ax.tys) (hFn : FnsOk ax.P ax.fns) (hm : ax.P.follows .mixedOrders = true) (hQ : EqOk ax) (hN : ax.T = none) (hE : ErrOk ax.P ax.gs ax.ift ax.tabs G) {F : Fence} (hF : Opn F) {m : Nat} (hj : ah.joins = []) {K : Exit → AEnv → Store → Prop} {Q : Exit → Act → World → Prop} (R : World → Prop)
    (hR : ∀ {w1 : World} {F1 : Nat → Nat → Prop} {β1 : Nat → Value} {σ1 : Store} {w2 : World} {F2 : Nat → Nat → Prop} {β2 : Nat → Value} {σ2 : Store}, Sim ax.gs G w1 F1 β1 σ1 → Step w0 F0 β0 σ0 w1 F1 β1 σ1 → Step w1 F1 β1 σ1 w2 F2 β2 σ2 → R w1 → R w2) :
    ∀ (k : Nat) {c : Code} {e : AEnv} {σ : Store} {a : Act} {w : World}, chainB k c = true → codeOk ax.tys (hintsOf ah) n (pre k c) = true → calmC (pre k c) = true → acW ax ah (pre k c) K e σ → St ax G w0 F0 β0 σ0 ds n e σ a w → R w →
    (∀ ex e' σ' a' w', K ex e' σ' → St ax G w0 F0 β0 σ0 ds n e' σ' a' w' → R w' → Exit.then ((post k c).wpIn F m ax.P Q) Q ex a' w') → c.wpIn F m ax.P Q a w := by
  intro k
  induction k with
  | zero =>
    intro c e σ a w hcb hok hc h hs hRw hK
    cases c with
    | seq x y =>
      refine wpIn_seq (wpIn_mono (hs.piece hT hFn hm hQ hN hE hF hok hc h) ?_)
      rintro ex a' w' ⟨e', σ', h1, h2, F1, β1, F2, β2, h3, h4, h5⟩
      exact hK ex e' σ' a' w' h1 h2 (hR h3 h4 h5 hRw)
    | _ => cases hcb
  | succ k ih =>
    intro c e σ a w hcb hok hc h hs hRw hK
    cases c with
    | seq x y =>
      simp only [pre, codeOk, calmC, Bool.and_eq_true] at hok hc
      simp only [pre, acW, hj, lookO] at h
      refine wpIn_seq (wpIn_mono (hs.piece hT hFn hm hQ hN hE hF hok.1 hc.1 h) ?_)
      rintro ex a' w' ⟨e', σ', h1, h2, F1, β1, F2, β2, h3, h4, h5⟩
      have hr := hR h3 h4 h5 hRw
      cases ex with
      | normal => exact ih hcb hok.2 hc.2 h1 h2 hr hK
      | _ => exact hK _ e' σ' a' w' h1 h2 hr
    | _ => cases hcb
end
end Go.Av
end

/- part AvY -/
section
namespace Go.Av
open Go.Vx Go.RowKit

theorem zip_map (e : AEnv) : ∀ l : List Nat, l.zip (l.map e) = l.map fun s => (s, e s)
  | [] => rfl
  | s :: l => by simp [zip_map e l]

section
variable {ax : Ax} {ah : AH} {G : Nat → Value} {w0 : World} {F0 : Nat → Nat → Prop} {β0 : Nat → Value} {σ0 : Store} {ds : List Deferred} {n : Nat}

theorem St.size {e : AEnv} {σ : Store} {a : Act} {w : World} (h : St ax G w0 F0 β0 σ0 ds n e σ a w) : a.tmps.size = n ∧ a.defers = ds := by
  obtain ⟨_, _, _, h1, _⟩ := h; exact ⟨h1.size, h1.defers⟩
theorem St.int {e : AEnv} {σ : Store} {a : Act} {w : World} (h : St ax G w0 F0 β0 σ0 ds n e σ a w) {t : Nat} {k : IntKind} {i : Int} (he : e t = .int k i) : a.tmps.getD t undef = .int k i := by
  obtain ⟨ρ, _, _, h1, h2, _⟩ := h
  have := h2 t; rw [he] at this; rw [h1.at_, this.int_inv]
theorem St.bool {e : AEnv} {σ : Store} {a : Act} {w : World} (h : St ax G w0 F0 β0 σ0 ds n e σ a w) {t : Nat} {b : Bool} (he : e t = .bool b) : a.tmps.getD t undef = .bool b := by
  obtain ⟨ρ, _, _, h1, h2, _⟩ := h
  have := h2 t; rw [he] at this; rw [h1.at_, this.bool_inv]
theorem St.str {e : AEnv} {σ : Store} {a : Act} {w : World} (h : St ax G w0 F0 β0 σ0 ds n e σ a w) {t : Nat} {s : ByteArray} (he : e t = .str s) : a.tmps.getD t undef = .string s := by
  obtain ⟨ρ, _, _, h1, h2, _⟩ := h
  have := h2 t; rw [he] at this; rw [h1.at_, this.str_inv]

/-- a piece: what its slots hold behind it -/
theorem St.run (hT : AllOk ax.P ax.tys) (hFn : FnsOk ax.P ax.fns) (hm : ax.P.follows .mixedOrders = true) (hQ : EqOk ax) (hN : ax.T = none) (hE : ErrOk ax.P ax.gs ax.ift ax.tabs G) {F : Fence} (hF : Opn F) {m : Nat} {c : Code} {K : Exit → List V → Store → Prop} {slots : List Nat} {sl : AEnv → List V} {e : AEnv} {σ : Store} {a : Act} {w : World}
    (hsl : ∀ e, sl e = slots.map e) (hok : codeOk ax.tys (hintsOf ah) n c = true) (hc : calmC c = true) (h : acW ax ah c (fun ex e σ => K ex (sl e) σ) e σ) (hs : St ax G w0 F0 β0 σ0 ds n e σ a w) :
    c.wpIn F m ax.P (fun ex a' w' => ∃ vs σ', K ex vs σ' ∧ St ax G w0 F0 β0 σ0 ds n (Av.envL (slots.zip vs)) σ' a' w' ∧ (∀ t, t ∉ assigned (hintsOf ah) c → a'.tmps.getD t undef = a.tmps.getD t undef) ∧
      (∃ F β F' β', Sim ax.gs G w F β σ ∧ Step w0 F0 β0 σ0 w F β σ ∧ Step w F β σ w' F' β' σ')) a w := by
  obtain ⟨ρ, F1, β1, h1, h2, h3, h4⟩ := hs
  refine wpIn_mono (cW_wpIn (fns := ax.fns) hT hFn (fun _ _ h => h) hm hF c _ _ a w hok hc h1 (acW_run (fx := ax.fns) hT hE hQ c h ⟨rfl, by rw [hN]⟩ h3 h2 fun ex ρ' w' hp => hp)) ?_
  rintro ex a' w' ⟨ρ', k1, _, e', F', β', σ', k3, k4, k5, k6, k7⟩
  have hst : St ax G w0 F0 β0 σ0 ds n e' σ' a' w' := ⟨ρ', F', β', k1, k4, k5, h4.trans k6⟩
  refine ⟨sl e', σ', k3, ?_, fun t ht => ?_, F1, β1, F', β', h3, h4, k6⟩
  · rw [hsl, zip_map]; exact hst.envL slots
  · rw [k1.at_, h1.at_]; exact k7 t ht

theorem St.chainR (hT : AllOk ax.P ax.tys) (hFn : FnsOk ax.P ax.fns) (hm : ax.P.follows .mixedOrders = true) (hQ : EqOk ax) (hN : ax.T = none) (hE : ErrOk ax.P ax.gs ax.ift ax.tabs G) {F : Fence} (hF : Opn F) {m : Nat} (hj : ah.joins = []) {K : Exit → List V → Store → Prop} {slots : List Nat} {sl : AEnv → List V} {Q : Exit → Act → World → Prop} (k : Nat) {c c0 : Code} (hp : Av.pre k c = c0) {e : AEnv} {σ : Store} {a : Act} {w : World}
    (hsl : ∀ e, sl e = slots.map e) (hcb : chainB k c = true) (hok : codeOk ax.tys (hintsOf ah) n c0 = true) (hc : calmC c0 = true) (h : acW ax ah c0 (fun ex e σ => K ex (sl e) σ) e σ) (hs : St ax G w0 F0 β0 σ0 ds n e σ a w)
    (hK : ∀ ex vs σ' a' w', K ex vs σ' → St ax G w0 F0 β0 σ0 ds n (Av.envL (slots.zip vs)) σ' a' w' → Exit.then ((Av.post k c).wpIn F m ax.P Q) Q ex a' w') : c.wpIn F m ax.P Q a w := by
  subst hp
  refine St.chain hT hFn hm hQ hN hE hF hj (fun _ => True) (fun _ _ _ _ => trivial) k hcb hok hc h hs trivial ?_
  intro ex e' σ' a' w' h1 h2 _
  exact hK ex _ σ' a' w' h1 (by rw [hsl, zip_map]; exact h2.envL slots)

theorem St.chainM (hT : AllOk ax.P ax.tys) (hFn : FnsOk ax.P ax.fns) (hm : ax.P.follows .mixedOrders = true) (hQ : EqOk ax) (hN : ax.T = none) (hE : ErrOk ax.P ax.gs ax.ift ax.tabs G) {F : Fence} (hF : Opn F) {m : Nat} (hj : ah.joins = []) {K : Exit → List V → Store → Prop} {slots : List Nat} {sl : AEnv → List V} {Q : Exit → Act → World → Prop} (k : Nat) {c c0 : Code} (hp : Av.pre k c = c0) {e : AEnv} {σ : Store} {a : Act} {w : World} {n0 : Nat} (hM : Marks n0 ds w)
    (hsl : ∀ e, sl e = slots.map e) (hcb : chainB k c = true) (hok : codeOk ax.tys (hintsOf ah) n c0 = true) (hc : calmC c0 = true) (h : acW ax ah c0 (fun ex e σ => K ex (sl e) σ) e σ) (hs : St ax G w0 F0 β0 σ0 ds n e σ a w)
    (hK : ∀ ex vs σ' a' w', K ex vs σ' → St ax G w0 F0 β0 σ0 ds n (Av.envL (slots.zip vs)) σ' a' w' → Marks n0 ds w' → Exit.then ((Av.post k c).wpIn F m ax.P Q) Q ex a' w') : c.wpIn F m ax.P Q a w := by
  subst hp
  refine St.chain hT hFn hm hQ hN hE hF hj (fun w => Marks n0 ds w) (fun h1 _ h2 h => h.keep fun _ _ hb ho => h2.ld h1 hb ho) k hcb hok hc h hs hM ?_
  intro ex e' σ' a' w' h1 h2 h3
  exact hK ex _ σ' a' w' h1 (by rw [hsl, zip_map]; exact h2.envL slots) h3

theorem listIn_append {F : Fence} {m : Nat} {P : Program} {ops : Array Oper} {Q : Exit → Act → World → Prop} {rest : List Oper} : ∀ (l : List Oper) {a : Act} {w : World},
    wpListIn F m P ops (Exit.then (wpListIn F m P ops Q rest) Q) l a w → wpListIn F m P ops Q (l ++ rest) a w
  | [], _, _, h => h
  | o :: l, a, w, h => by
    simp only [List.cons_append]
    unfold wpListIn at h ⊢
    split at h
    · rename_i hw
      rw [if_pos hw]
      unfold Oper.wpIn at h ⊢
      refine ⟨h.1, ?_⟩
      have h := h.2
      generalize (o.semAt F.round a.eval).run P w = r at h ⊢
      cases r with
      | ok x w' =>
        cases x <;> simp only [Oper.uponIn] at h ⊢
        case value u => exact listIn_append l h
        case skip => exact listIn_append l h
        case defer d => exact listIn_append l h
        case enter f args =>
          refine ⟨h.1, CallsIn.mono h.2 fun e w'' he => ?_⟩
          cases e with
          | returned u => exact listIn_append l he
          | panicked c => exact he
          | outgrown => exact he
        case row row args => exact ⟨h.1, RowsIn.mono h.2 fun u w'' he => listIn_append l he⟩
        case round l' f tmps assign body =>
          refine ⟨h.1, RoundIn.mono h.2 fun e w'' he => ?_⟩
          cases e with
          | returned u => exact listIn_append l he
          | panicked c => exact he
          | outgrown => exact he
      | halt x w' => cases x <;> simp only [Oper.uponIn] at h ⊢ <;> exact h
    · rename_i hw
      rw [if_neg hw]
      exact ⟨h.1, listIn_append l h.2⟩

/-- the first operations of a region -/
theorem St.list (hT : AllOk ax.P ax.tys) (hFn : FnsOk ax.P ax.fns) (hQ : EqOk ax) (hN : ax.T = none) (hE : ErrOk ax.P ax.gs ax.ift ax.tabs G) {F : Fence} (hF : Opn F) {m : Nat} {ops : Array Oper} {l rest : List Oper} {Q : Exit → Act → World → Prop} {K : AEnv → Store → Prop} {e : AEnv} {σ : Store} {a : Act} {w : World}
    (hd : (l.all fun o => match o.dst with | some d => Nat.ble (d + 1) n | none => true) = true) (hc : Vx.calm l = true) (h : areg ax ah ops l e σ K) (hs : St ax G w0 F0 β0 σ0 ds n e σ a w)
    (hK : ∀ e' σ' a' w', K e' σ' → St ax G w0 F0 β0 σ0 ds n e' σ' a' w' → (∀ t, (∀ o ∈ l, o.dst ≠ some t) → a'.tmps.getD t undef = a.tmps.getD t undef) →
      (∃ F β F' β', Sim ax.gs G w F β σ ∧ Step w0 F0 β0 σ0 w F β σ ∧ Step w F β σ w' F' β' σ') → wpListIn F m ax.P ops Q rest a' w') : wpListIn F m ax.P ops Q (l ++ rest) a w := by
  obtain ⟨ρ, F1, β1, h1, h2, h3, h4⟩ := hs
  obtain ⟨a0, hr0, ea⟩ := h1.split
  let L : List Nat := l.filterMap (·.dst)
  have hL : ∀ o ∈ l, ∀ d, o.dst = some d → d ∈ L := fun o ho d hdd => List.mem_filterMap.2 ⟨o, ho, hdd⟩
  have hd' : ∀ o ∈ l, ∀ d, o.dst = some d → d < n ∧ d ∈ L := fun o ho d hdd => by
    have := List.all_eq_true.1 hd o ho
    rw [hdd] at this
    exact ⟨Nat.le_of_ble_eq_true this, hL o ho d hdd⟩
  have hW := areg_run (fx := ax.fns) (ah := ah) hT hE hQ (L := L) l hL h ⟨rfl, by rw [hN]⟩ h3 h2 (fun ρ' w' hp => hp)
  have h5 := regW_wp (Q := fun ex a' w' => ex = .normal ∧ ∃ ρ', Rel n ρ' a' ∧ Frm L ρ ρ' ∧ Post ax.gs G L ρ w F1 β1 σ K ρ' w') (fns := ax.fns) hT hFn (fun _ _ _ _ _ _ h => False.elim h) l ρ a0 w hd' hr0 (Frm.refl _ _) (fun e' a' w' k1 k2 k3 => ⟨rfl, e', k1, k2, k3⟩) hW
  rw [ea]
  refine listIn_append l (list_in hF (fun a' w' h6 => ?_) (fun _ _ _ hp => by simp at hp) (fun _ _ hp => by simp at hp) l a0 w (calm_elim hc) h5)
  obtain ⟨_, ρ', k1, k2, e', F', β', σ', k3, k4, k5, k6, _⟩ := h6
  have kd : RelD ds n ρ' (more a' ds) := .of k1
  refine hK e' σ' _ w' k3 ⟨ρ', F', β', kd, k4, k5, h4.trans k6⟩ (fun t ht => ?_) ⟨F1, β1, F', β', h3, h4, k6⟩
  rw [kd.at_, h1.at_]
  refine k2 t fun hm => ?_
  obtain ⟨o, ho, hoo⟩ := List.mem_filterMap.1 hm
  exact ht o ho hoo
end

theorem St.put {ax : Ax} {G : Nat → Value} {w0 : World} {F0 : Nat → Nat → Prop} {β0 : Nat → Value} {σ0 : Store} {ds : List Deferred} {n : Nat} {e : AEnv} {σ : Store} {a : Act} {w : World} (h : St ax G w0 F0 β0 σ0 ds n e σ a w) {d : Nat} (hd : d < n) (v : Value) :
    St ax G w0 F0 β0 σ0 ds n (fun t => cond (Nat.beq t d) .junk (e t)) σ (a.put (some d) v) w ∧ (a.put (some d) v).tmps.getD d undef = v ∧ ∀ t, t ≠ d → (a.put (some d) v).tmps.getD t undef = a.tmps.getD t undef := by
  obtain ⟨ρ, F, β, h1, h2, h3, h4⟩ := h
  obtain ⟨a0, r0, ea⟩ := h1.split
  have r1 := r0.put (some d) v (fun x hx => by cases hx; exact hd)
  have kd : RelD ds n (ρ.put (some d) v) (a.put (some d) v) := by rw [ea, more_put]; exact .of r1
  refine ⟨⟨_, F, β, kd, fun t => ?_, h3, h4⟩, ?_, fun t ht => ?_⟩
  · simp only [Env.put]
    cases hb : Nat.beq t d with
    | true => exact .junk _
    | false => exact h2 t
  · rw [kd.at_]; simp [Env.put]
  · rw [kd.at_, h1.at_]; exact put_ne (fun e => ht (by cases e; rfl))
theorem envL_sub {e : AEnv} : ∀ (L : List (Nat × V)), (∀ x ∈ L, e x.1 = x.2) → ∀ t, envL L t = e t ∨ envL L t = .junk
  | [], _, _ => .inr rfl
  | x :: L, h, t => by
    simp only [envL]
    cases hb : Nat.beq t x.1 with
    | true => have := Nat.eq_of_beq_eq_true hb; subst this; exact .inl (h x List.mem_cons_self).symm
    | false => exact envL_sub L (fun y hy => h y (List.mem_cons_of_mem _ hy)) t
theorem move_op {F : Fence} (hF : Opn F) {m : Nat} {P : Program} {o : Oper} {x : Operand} {a : Act} {w : World} {next : Act → World → Prop} {Q : Exit → Act → World → Prop} (hop : o.op = .move x) (h : next (a.put o.dst (a.eval x)) w) : o.wpIn F m P a w next Q := by
  unfold Oper.wpIn
  refine ⟨fun f _ => hF.fn f, ?_⟩
  rw [Oper.semAt_eq _ _ _ (fun c' h => by rw [hop] at h; cases h)]
  have hrun : (execOp a.eval o).run P w = .ok (.value (a.eval x)) w := by
    unfold execOp; rw [hop]; simp
  rw [hrun]
  exact h
theorem wantedD {o : Oper} {ops : Array Oper} {a : Act} {j s : Nat} {want b : Bool} (hg : o.guard = some (j, want)) (hs : slotOf ops j = some s) (hb : a.tmps.getD s undef = .bool b) : Region.wanted o (yielded ops a.tmps) = (b == want) :=
  wanted_some (n := a.tmps.size) (e := fun t => a.tmps.getD t undef) (a := { a with defers := [] }) ⟨rfl, fun _ => rfl, rfl⟩ hg hs hb

/-- a call of a round -/
theorem yield_op {F : Fence} (hF : Opn F) {P : Program} {o : Oper} {c : Call} {x : Operand} {l : Nat} {vs : Array Value} {a : Act} {w : World} {next : Act → World → Prop} {Q : Exit → Act → World → Prop} {R : Ending → World → Prop}
    (hop : o.op = .call c) (hx : c.callee = .value x) (hv : a.eval x = .func (.yield l) #[] #[]) (hvs : c.args.map a.eval = vs) (hy : YieldAt F 0 P l vs w R)
    (hR : ∀ e w', R e w' → ∃ v, e = .returned v ∧ next (a.put o.dst v) w') : o.wpIn F 0 P a w next Q := by
  obtain ⟨fn, tmps, assign, body, h1, h2⟩ := hy
  unfold Oper.wpIn
  refine ⟨fun f _ => hF.fn f, ?_⟩
  rw [Oper.semAt_eq _ _ _ (fun c' h => by rw [hop] at h; cases h)]
  have hrun : (execOp a.eval o).run P w = .ok (.round l fn tmps assign body) w := by
    unfold execOp
    rw [hop]
    simp only [resolve, hx, hv, hvs]
    simpa [go_sem, invoke] using h1
  rw [hrun]
  refine ⟨hF.isSome, (roundIn_any hF h2).mono fun e w' he => ?_⟩
  obtain ⟨v, rfl, hn⟩ := hR e w' he
  exact hn
end Go.Av
end

/- part AvZ -/
section
namespace Go.Av
open Go.Vx Go.RowKit

abbrev Beside := World → (Nat → Nat → Prop) → (Nat → Value) → Store → Prop
/-- what a step leaves so -/
def Shut (C : Beside) : Prop := ∀ {w : World} {F : Nat → Nat → Prop} {β : Nat → Value} {σ : Store} {w' : World} {F' : Nat → Nat → Prop} {β' : Nat → Value} {σ' : Store} {gs : List Nat} {G : Nat → Value}, C w F β σ → Sim gs G w F β σ → Step w F β σ w' F' β' σ' → C w' F' β' σ'

def StC (ax : Ax) (G : Nat → Value) (C : Beside) (ds : List Deferred) (n : Nat) (e : AEnv) (σ : Store) (a : Act) (w : World) : Prop :=
  ∃ ρ F β, RelD ds n ρ a ∧ RE ax.gs G w F β σ e ρ ∧ Sim ax.gs G w F β σ ∧ C w F β σ
def SwC (ax : Ax) (G : Nat → Value) (C : Beside) (σ : Store) (w : World) : Prop := ∃ F β, Sim ax.gs G w F β σ ∧ C w F β σ

section
variable {ax : Ax} {ah : AH} {G : Nat → Value} {C : Beside} {ds : List Deferred} {n : Nat}

theorem StC.size {e : AEnv} {σ : Store} {a : Act} {w : World} (h : StC ax G C ds n e σ a w) : a.tmps.size = n ∧ a.defers = ds := by
  obtain ⟨_, _, _, h1, _⟩ := h; exact ⟨h1.size, h1.defers⟩
theorem StC.sw {e : AEnv} {σ : Store} {a : Act} {w : World} (h : StC ax G C ds n e σ a w) : SwC ax G C σ w := by
  obtain ⟨_, F, β, _, _, h3, h4⟩ := h; exact ⟨F, β, h3, h4⟩
theorem StC.env {e e' : AEnv} {σ : Store} {a : Act} {w : World} (h : StC ax G C ds n e σ a w) (he : ∀ t, e' t = e t ∨ e' t = .junk) : StC ax G C ds n e' σ a w := by
  obtain ⟨ρ, F, β, h1, h2, h3, h4⟩ := h
  refine ⟨ρ, F, β, h1, fun t => ?_, h3, h4⟩
  rcases he t with k | k
  · rw [k]; exact h2 t
  · rw [k]; exact .junk _
theorem StC.run (hC : Shut C) (hT : AllOk ax.P ax.tys) (hFn : FnsOk ax.P ax.fns) (hm : ax.P.follows .mixedOrders = true) (hQ : EqOk ax) (hN : ax.T = none) (hE : ErrOk ax.P ax.gs ax.ift ax.tabs G) {F : Fence} (hF : Opn F) {m : Nat} {c : Code} {K : Exit → List V → Store → Prop} {slots : List Nat} {sl : AEnv → List V} {e : AEnv} {σ : Store} {a : Act} {w : World}
    (hsl : ∀ e, sl e = slots.map e) (hok : codeOk ax.tys (hintsOf ah) n c = true) (hc : calmC c = true) (h : acW ax ah c (fun ex e σ => K ex (sl e) σ) e σ) (hs : StC ax G C ds n e σ a w) :
    c.wpIn F m ax.P (fun ex a' w' => ∃ vs σ', K ex vs σ' ∧ StC ax G C ds n (Av.envL (slots.zip vs)) σ' a' w' ∧ (∀ t, t ∉ assigned (hintsOf ah) c → a'.tmps.getD t undef = a.tmps.getD t undef) ∧
      (∃ F β F' β', Sim ax.gs G w F β σ ∧ C w F β σ ∧ Step w F β σ w' F' β' σ')) a w := by
  obtain ⟨ρ, F1, β1, h1, h2, h3, h4⟩ := hs
  refine wpIn_mono (cW_wpIn (fns := ax.fns) hT hFn (fun _ _ h => h) hm hF c _ _ a w hok hc h1 (acW_run (fx := ax.fns) hT hE hQ c h ⟨rfl, by rw [hN]⟩ h3 h2 fun ex ρ' w' hp => hp)) ?_
  rintro ex a' w' ⟨ρ', k1, _, e', F', β', σ', k3, k4, k5, k6, k7⟩
  refine ⟨sl e', σ', k3, ?_, fun t ht => ?_, F1, β1, F', β', h3, h4, k6⟩
  · rw [hsl, zip_map]; exact StC.env ⟨ρ', F', β', k1, k4, k5, hC h4 h3 k6⟩ (envL_of e' slots)
  · rw [k1.at_, h1.at_]; exact k7 t ht

/-- slots and objects of one's own -/
theorem StC.of {L : List (Nat × V)} {σ : Store} {a : Act} {w : World} {F : Nat → Nat → Prop} {β : Nat → Value} (hs : a.tmps.size = n) (hd : a.defers = ds) (hL : ∀ x ∈ L, RV ax.gs G w F β σ x.2 (a.tmps.getD x.1 undef)) (h3 : Sim ax.gs G w F β σ) (h4 : C w F β σ) : StC ax G C ds n (Av.envL L) σ a w := by
  refine ⟨fun t => a.tmps.getD t undef, F, β, ⟨hs, fun _ => rfl, hd⟩, fun t => ?_, h3, h4⟩
  induction L with
  | nil => exact .junk _
  | cons x L ih =>
    simp only [Av.envL]
    cases hb : Nat.beq t x.1 with
    | true => have := Nat.eq_of_beq_eq_true hb; subst this; exact hL x List.mem_cons_self
    | false => exact ih fun x hx => hL x (List.mem_cons_of_mem _ hx)
end

def zero (σ : Store) : Store := σ.map fun o => ⟨0, o.ob⟩
theorem zero_get (σ : Store) (i : Nat) : getO (zero σ) i = getO σ i := by
  simp only [getO, zero, List.getElem?_map]
  cases σ[i]? <;> rfl
theorem zero_length (σ : Store) : (zero σ).length = σ.length := by simp [zero]

/-- the first objects, counted anew -/
theorem take_get {σ : Store} {k i : Nat} (h : i < k) : getO ((zero σ).take k) i = getO σ i := by
  rw [← zero_get σ i]
  simp only [getO, List.getElem?_take, if_pos h]
theorem take_len {σ : Store} {k i : Nat} (h : i < ((zero σ).take k).length) : i < k := by rw [List.length_take] at h; omega

/-- no object's number from k on stands in the first k boxes -/
def closedB (k : Nat) (σ : Store) : Bool := ((zero σ).take k).all fun o => match o.ob with | .box l => (idsL l).all fun j => Nat.blt j ((zero σ).take k).length | _ => true
theorem closedB_elim {k : Nat} {σ : Store} (h : closedB k σ = true) : ∀ i l, i < ((zero σ).take k).length → getO ((zero σ).take k) i = .box l → ∀ j ∈ idsL l, j < ((zero σ).take k).length := by
  intro i l hi hl j hj
  have hm : ((zero σ).take k)[i] ∈ (zero σ).take k := List.getElem_mem hi
  have := List.all_eq_true.1 h _ hm
  have e : ((zero σ).take k)[i].ob = .box l := by
    simpa [getO, List.getElem?_eq_getElem hi] using hl
  rw [e] at this
  have := List.all_eq_true.1 this j hj
  exact Nat.le_of_ble_eq_true this

/-- what comes of a state: from the beginning, and from the loop's -/
def CC (w0 : World) (F0 : Nat → Nat → Prop) (β0 : Nat → Value) (wL : World) (FL : Nat → Nat → Prop) (βL : Nat → Value) (σL : Store) : Beside :=
  fun w F β σ => Step w0 F0 β0 [] w F β σ ∧ Carry wL FL βL σL w F β σ

section
variable {gs : List Nat} {G : Nat → Value} {w0 : World} {F0 : Nat → Nat → Prop} {β0 : Nat → Value} {wL : World} {FL : Nat → Nat → Prop} {βL : Nat → Value} {σL : Store}

theorem Carry.trans {w F β σ w1 F1 β1 σ1 w2 F2 β2 σ2} (h : Carry w F β σ w1 F1 β1 σ1) (k : Carry w1 F1 β1 σ1 w2 F2 β2 σ2) : Carry w F β σ w2 F2 β2 σ2 :=
  ⟨fun b o hf => ⟨(k.f b o (h.f b o hf).1).1, (k.f b o (h.f b o hf).1).2.trans (h.f b o hf).2⟩, Nat.le_trans h.len k.len, fun i hi => by
    have h1 := h.ext i hi
    have h2 := k.ext i (Nat.lt_of_lt_of_le hi h.len)
    exact ⟨h2.1.trans h1.1, h1.2.trans h2.2⟩⟩
theorem Carry.refl (w : World) (F : Nat → Nat → Prop) (β : Nat → Value) (σ : Store) : Carry w F β σ w F β σ := ⟨fun _ _ h => ⟨h, rfl⟩, Nat.le_refl _, fun _ _ => ⟨rfl, obLe.refl _⟩⟩

theorem CC.shut : Shut (CC w0 F0 β0 wL FL βL σL) := fun h _ hs => ⟨h.1.trans hs, h.2.trans hs.carry⟩
theorem CC.calm {w w' : World} {F : Nat → Nat → Prop} {β : Nat → Value} {σ : Store} (h : CC w0 F0 β0 wL FL βL σL w F β σ) (hs : Sim gs G w F β σ) {N : Nat} (hc : Calmly N w w') (hN : w0.heap.size ≤ N) : Sim gs G w' F β σ ∧ CC w0 F0 β0 wL FL βL σL w' F β σ := by
  obtain ⟨k1, k2⟩ := hs.calm h.1 (hc.mono hN)
  exact ⟨k1, k2, h.2.trans ⟨fun b o hf => ⟨hf, hc.cell (hs.lt b o hf)⟩, Nat.le_refl _, fun _ _ => ⟨rfl, obLe.refl _⟩⟩⟩
theorem CC.take {w : World} {F : Nat → Nat → Prop} {β : Nat → Value} {σ : Store} (h : CC w0 F0 β0 wL FL βL σL w F β σ) (hs : Sim gs G w F β σ) {k : Nat} (hk : closedB k σ = true) (hL : σL.length ≤ ((zero σ).take k).length) :
    Sim gs G w F β ((zero σ).take k) ∧ CC w0 F0 β0 wL FL βL σL w F β ((zero σ).take k) := by
  obtain ⟨k1, _⟩ := hs.trim (σ1 := (zero σ).take k) (fun i hi => take_get (take_len hi)) (closedB_elim hk)
  refine ⟨k1, h.1.trim0 fun i hi => take_get (take_len hi), h.2.f, hL, fun i hi => ?_⟩
  have e := h.2.ext i hi
  rw [take_get (take_len (Nat.lt_of_lt_of_le hi hL))]
  exact e
/-- objects of the loop's beginning lie ahead of it -/
theorem Carry.old_has {w : World} {F : Nat → Nat → Prop} {β : Nat → Value} {σ : Store} (h : Carry wL FL βL σL w F β σ) (hs : Sim gs G wL FL βL σL) : ∀ i b, i < σL.length → Has β i (getO σ i) b → b < wL.heap.size := by
  intro i b hi hb
  obtain ⟨e1, e2⟩ := h.ext i hi
  refine hs.has_lt (i := i) ⟨?_, by rw [← e1]; exact hb.2⟩
  have := hb.1
  cases h0 : getO σL i with
  | dead =>
    rw [h0] at e2
    cases h1 : getO σ i <;> rw [h1] at e2 this <;> simp [obLe, Live] at e2 this
  | mp l =>
    have := hs.obj i
    rw [h0] at this
    exact this.elim
  | _ => trivial
theorem Step.kp2 {w w' : World} {F F' : Nat → Nat → Prop} {β β' : Nat → Value} {σ σ' : Store} (h : Step w F β σ w' F' β' σ') {B : Nat} (hB : ∀ i b, i < σ.length → Has β i (getO σ i) b → b < B ∨ verO σ' i = verO σ i) : Kp B w w' := by
  refine ⟨h.size, fun b hb hlt => ?_⟩
  by_cases hh : ∃ i, Has β i (getO σ i) b
  · obtain ⟨i, hi⟩ := hh
    have hil : i < σ.length := getO_lt fun e => by rw [e] at hi; exact no_has_dead hi
    rcases hB i b hil hi with k | k
    · omega
    · exact ((h.ver i hil).2 k).2 b hi
  · exact h.block b hlt fun i hi => hh ⟨i, hi⟩
theorem Marks.step {n0 : Nat} {ds : List Deferred} {w w' : World} {F F' : Nat → Nat → Prop} {β β' : Nat → Value} {σ σ' : Store} (h : Marks n0 ds w) (hs : Sim gs G w F β σ) (hst : Step w F β σ w' F' β' σ') : Marks n0 ds w' :=
  h.keep fun _ _ hb ho => hst.ld hs hb ho
theorem Marks.low {n0 N : Nat} {ds : List Deferred} {w w' : World} (h : Marks n0 ds w) (hN : w.heap.size ≤ N ∨ ∀ Ds : List Nat, ds = Ds.map (fun D => { target := .collected D, args := #[] }) → ∀ D ∈ Ds, D < N) (hc : Calmly N w w') : Marks n0 ds w' := by
  obtain ⟨Ds, h1, h2, h3⟩ := h
  refine ⟨Ds, h1, h2, fun D hD => ⟨(h3 D hD).1, ?_⟩⟩
  have hlt := (Array.getElem?_eq_some_iff.1 (h3 D hD).2).1
  rcases hN with hN | hN
  · exact (hc.low D (by omega) hlt).trans (h3 D hD).2
  · exact (hc.low D (hN Ds h1 D hD) hlt).trans (h3 D hD).2
end

theorem Sim.zero {gs : List Nat} {G : Nat → Value} {w : World} {F : Nat → Nat → Prop} {β : Nat → Value} {σ : Store} (hs : Sim gs G w F β σ) : Sim gs G w F β (zero σ) ∧ ∀ {u : V} {v : Value}, RV gs G w F β σ u v → RV gs G w F β (zero σ) u v := by
  obtain ⟨k1, k2⟩ := hs.trim (σ1 := Av.zero σ) (fun i _ => zero_get σ i) (fun i l hi hl k hk => by
    rw [zero_length]; rw [zero_get] at hl; exact box_ids hs hl k hk)
  exact ⟨k1, fun h => k2 h fun k hk => by rw [zero_length]; exact h.ids k hk⟩
theorem CC.zero {w0 : World} {F0 : Nat → Nat → Prop} {β0 : Nat → Value} {wL : World} {FL : Nat → Nat → Prop} {βL : Nat → Value} {σL : Store} {w : World} {F : Nat → Nat → Prop} {β : Nat → Value} {σ : Store} (h : CC w0 F0 β0 wL FL βL σL w F β σ) : CC w0 F0 β0 wL FL βL σL w F β (zero σ) :=
  ⟨h.1.trim0 fun i _ => zero_get σ i, h.2.f, by rw [zero_length]; exact h.2.len, fun i hi => by rw [zero_get]; exact h.2.ext i hi⟩
theorem StC.zero {ax : Ax} {G : Nat → Value} {w0 : World} {F0 : Nat → Nat → Prop} {β0 : Nat → Value} {wL : World} {FL : Nat → Nat → Prop} {βL : Nat → Value} {σL : Store} {ds : List Deferred} {n : Nat} {e : AEnv} {σ : Store} {a : Act} {w : World} (h : StC ax G (CC w0 F0 β0 wL FL βL σL) ds n e σ a w) : StC ax G (CC w0 F0 β0 wL FL βL σL) ds n e (zero σ) a w := by
  obtain ⟨ρ, F, β, h1, h2, h3, h4⟩ := h
  obtain ⟨k1, k2⟩ := h3.zero
  exact ⟨ρ, F, β, h1, fun t => k2 (h2 t), k1, h4.zero⟩
theorem St.zero {ax : Ax} {G : Nat → Value} {w0 : World} {F0 : Nat → Nat → Prop} {β0 : Nat → Value} {ds : List Deferred} {n : Nat} {e : AEnv} {σ : Store} {a : Act} {w : World} (h : St ax G w0 F0 β0 [] ds n e σ a w) : St ax G w0 F0 β0 [] ds n e (zero σ) a w := by
  obtain ⟨ρ, F, β, h1, h2, h3, h4⟩ := h
  obtain ⟨k1, k2⟩ := h3.zero
  exact ⟨ρ, F, β, h1, fun t => k2 (h2 t), k1, h4.trim0 fun i _ => zero_get σ i⟩
theorem StC.calm {ax : Ax} {G : Nat → Value} {w0 : World} {F0 : Nat → Nat → Prop} {β0 : Nat → Value} {wL : World} {FL : Nat → Nat → Prop} {βL : Nat → Value} {σL : Store} {ds : List Deferred} {n : Nat} {e : AEnv} {σ : Store} {a : Act} {w w' : World} (h : StC ax G (CC w0 F0 β0 wL FL βL σL) ds n e σ a w) {N : Nat} (hc : Calmly N w w') (hN : w0.heap.size ≤ N) : StC ax G (CC w0 F0 β0 wL FL βL σL) ds n e σ a w' := by
  obtain ⟨ρ, F, β, h1, h2, h3, h4⟩ := h
  obtain ⟨k1, k2⟩ := h4.calm h3 hc hN
  exact ⟨ρ, F, β, h1, h2.mono ⟨fun b o hf => ⟨hf, hc.cell (h3.lt b o hf)⟩, Nat.le_refl _, fun i _ => ⟨rfl, obLe.refl _⟩⟩, k1, k2⟩
theorem SwC.calm {ax : Ax} {G : Nat → Value} {w0 : World} {F0 : Nat → Nat → Prop} {β0 : Nat → Value} {wL : World} {FL : Nat → Nat → Prop} {βL : Nat → Value} {σL : Store} {σ : Store} {w w' : World} (h : SwC ax G (CC w0 F0 β0 wL FL βL σL) σ w) {N : Nat} (hc : Calmly N w w') (hN : w0.heap.size ≤ N) : SwC ax G (CC w0 F0 β0 wL FL βL σL) σ w' := by
  obtain ⟨F, β, h3, h4⟩ := h
  obtain ⟨k1, k2⟩ := h4.calm h3 hc hN
  exact ⟨F, β, k1, k2⟩

/-- what a round begins with -/
theorem round_act (a : Act) (p1 p2 : Nat) (x1 x2 : Value) : ({ tmps := ((#[p1, p2] : Array Tmp).zip #[x1, x2]).foldl (fun t (p, v) => t.setIfInBounds p v) a.tmps, defers := [] } : Act) = ((({ a with defers := [] } : Act).put (some p1) x1).put (some p2) x2) := by
  simp only [← Array.foldl_toList, Array.toList_zip, Act.put]
  rfl
theorem put_get {a : Act} {d t : Nat} {v : Value} (hd : d < a.tmps.size) : (a.put (some d) v).tmps.getD t undef = if t = d then v else a.tmps.getD t undef := by
  simp only [Act.put, Array.getD_eq_getD_getElem?]
  by_cases e : t = d
  · subst e; rw [if_pos rfl, Array.getElem?_setIfInBounds_self_of_lt hd]; rfl
  · rw [if_neg e, Array.getElem?_setIfInBounds_ne (fun h => e h.symm)]
theorem put_size (a : Act) (d : Nat) (v : Value) : (a.put (some d) v).tmps.size = a.tmps.size ∧ (a.put (some d) v).defers = a.defers := ⟨by simp [Act.put], rfl⟩
end Go.Av
end

/- part AvDf -/
section
namespace Go
variable {P : Program}
theorem wpOpsS_of {ops : Array Oper} {Q : Exit → Act → List Frame → World → Prop} {cs : List Frame} (hL : ¬ LetsOut (fun e a w => Q e a cs w)) : ∀ (l : List Nat) (a : Act) (w : World), wpOps P ops (fun e a w => Q e a cs w) l a w → wpOpsS P ops Q l a cs w
  | [], _, _, h => h
  | i :: rest, a, w, h => by
    unfold wpOps at h
    unfold wpOpsS
    cases ho : ops[i]? with
    | none => rw [ho] at h; exact wpOpsS_of hL rest a w h
    | some o =>
      rw [ho] at h
      dsimp only at h ⊢
      by_cases hw : Region.wanted o (yielded ops a.tmps) = true
      · rw [if_pos hw] at h ⊢
        have h := h.resolve_right fun h => hL h.2
        have h2 := Oper.wp_mono (fun a w => wpOpsS_of hL rest a w) h
        unfold Oper.wp at h2
        split
        · rename_i w' hr
          rw [hr] at h2
          exact h2.elim
        · exact h2
      · rw [if_neg hw] at h ⊢
        exact wpOpsS_of hL rest _ w h
/-- a closure that recovers and asks what it has: its first region -/
theorem catch_wpS {id : Nat} {ops : Array Oper} {o0 o1 : Oper} {l : List Oper} {rest : Code} {d0 d1 : Nat} {a : Act} {cs cs' : List Frame} {w : World} {v t : Value} {Q : Exit → Act → List Frame → World → Prop}
    (hops : ops = ⟨o0 :: o1 :: l⟩) (hg0 : o0.guard = none) (hg1 : o1.guard = none) (hd0 : o0.dst = some d0) (hd1 : o1.dst = some d1) (h0 : (execOp a.eval o0).run P w = .ok .recover w)
    (hrec : (match recoverD cs with | some (v, cs') => (v, cs') | none => (.nilIface, cs)) = (v, cs')) (h1 : (execOp (a.put (some d0) v).eval o1).run P w = .ok (.value t) w)
    (hL : ¬ LetsOut (fun e a w => Exit.thenS (rest.wpS P Q) Q e a cs' w)) (h : wpList P ops (fun e a w => Exit.thenS (rest.wpS P Q) Q e a cs' w) l ((a.put (some d0) v).put (some d1) t) w) :
    (Code.seq (.region id ops false) rest).wpS P Q a cs w := by
  refine wpS_seq (wpS_region ?_)
  have e1 : List.range ops.size = 0 :: 1 :: List.range' 2 l.length := by
    subst hops
    simp [List.range_eq_range', List.range'_succ]
  have ho0 : ops[0]? = some o0 := by subst hops; rfl
  have ho1 : ops[1]? = some o1 := by subst hops; rfl
  have h2 : wpOpsS P ops (Exit.thenS (rest.wpS P Q) Q) (List.range' 2 l.length) ((a.put (some d0) v).put (some d1) t) cs' w := by
    refine wpOpsS_of hL _ _ _ ?_
    rw [wpOps_eq_wpList l 2 (fun j => by subst hops; show l[j]? = (⟨o0 :: o1 :: l⟩ : Array Oper)[2 + j]?; rw [← Array.getElem?_toList, show 2 + j = j + 1 + 1 by omega]; rfl)]
    exact h
  have h3 : wpOpsS P ops (Exit.thenS (rest.wpS P Q) Q) (1 :: List.range' 2 l.length) (a.put (some d0) v) cs' w := by
    unfold wpOpsS
    rw [ho1]
    dsimp only
    rw [if_pos (by simp [Region.wanted, hg1]), h1]
    show wpOpsS P ops _ _ ((a.put (some d0) v).put o1.dst t) cs' w
    rw [hd1]; exact h2
  rw [e1]
  unfold wpOpsS
  rw [ho0]
  dsimp only
  rw [if_pos (by simp [Region.wanted, hg0]), h0]
  dsimp only
  rw [hd0]
  cases hr : recoverD cs with
  | none => rw [hr] at hrec; cases hrec; exact h3
  | some p =>
    obtain ⟨v1, cs1⟩ := p
    rw [hr] at hrec; cases hrec; exact h3
theorem recover_run {o : Oper} {ρ : Operand → Value} {w : World} (h : o.op = .call ⟨.builtin .recover, #[], #[]⟩) : (execOp ρ o).run P w = .ok .recover w := by
  simp [execOp, resolve, invoke, builtin, h, go_sem]
/-- 'is it a struct of this type, and which': of nothing -/
theorem assert_none {o : Oper} {ρ : Operand → Value} {w : World} {x : Operand} {xT T : Nat} {fs : Array Field} {z : Value} (h : o.op = .typeAssert x xT T true) (hx : ρ x = .nilIface) (hu : P.underlying T = some (.struct fs)) (hz : ((P.info? T).bind (·.zero)) = some z) :
    (execOp ρ o).run P w = .ok (.value (.tuple #[z, .bool false])) w := by
  obtain ⟨i, hi, hz⟩ := Option.bind_eq_some_iff.1 hz
  simp [execOp, h, hx, Instr.typeAssert, underlying, hu, zeroValue, typeInfo, hi, hz, go_sem]
/-- of one of this type -/
theorem assert_some {o : Oper} {ρ : Operand → Value} {w : World} {x : Operand} {xT T : Nat} {fs : Array Field} {v : Value} (h : o.op = .typeAssert x xT T true) (hx : ρ x = .iface T v) (hu : P.underlying T = some (.struct fs)) :
    (execOp ρ o).run P w = .ok (.value (.tuple #[v, .bool true])) w := by
  simp [execOp, h, hx, Instr.typeAssert, underlying, hu, go_sem]
/-- a function's value is made, and its call put off -/
theorem defer_wp {id : Nat} {o0 o1 : Oper} {c rest : Code} {d0 g : Nat} {caps : Array Operand} {a : Act} {w : World} {Q : Exit → Act → World → Prop} (hc : c = .seq (.region id ⟨[o0, o1]⟩ false) rest)
    (hg0 : o0.guard = none) (hg1 : o1.guard = none) (hp0 : o0.op = .makeFunc (.func g) #[] caps) (hd0 : o0.dst = some d0) (hp1 : o1.op = .defer ⟨.value (.tmp d0), #[], #[]⟩) (hd1 : o1.dst = none) (hlt : d0 < a.tmps.size)
    (h : rest.wp P Q { (a.put (some d0) (.func (.func g) #[] (caps.map a.eval))) with defers := { target := .fn (.func g) (caps.map a.eval), args := #[] } :: a.defers } w) : c.wp P Q a w := by
  subst hc
  refine wp_seq (wp_region_list ?_)
  show wpList P _ _ [o0, o1] a w
  unfold wpList
  rw [if_pos (by simp [Region.wanted, hg0])]
  left
  unfold Oper.wp
  have e0 : (execOp a.eval o0).run P w = .ok (.value (.func (.func g) #[] (caps.map a.eval))) w := by
    have hmf : ∀ (fn : Fn) (first cap : Array Value) (w : World), (Instr.makeFunc fn first cap).run P w = .ok (.func fn first cap) w := fun _ _ _ _ => rfl
    simp [execOp, hp0, hmf, go_sem]
  rw [e0]
  show wpList P _ _ [o1] (a.put o0.dst _) w
  rw [hd0]
  unfold wpList
  rw [if_pos (by simp [Region.wanted, hg1])]
  left
  unfold Oper.wp
  have e1 : (execOp (a.put (some d0) (.func (.func g) #[] (caps.map a.eval))).eval o1).run P w = .ok (.defer { target := .fn (.func g) (caps.map a.eval), args := #[] }) w := by
    simp [execOp, resolve, hp1, hlt, Deferred.ofValue, go_sem]
  rw [e1]
  simp only [Oper.upon, hd1]
  exact h
end Go
namespace Go.Av
open Go.Vx Go.RowKit
def opsOf : Code → List Oper
  | .seq (.region _ ops _) _ => ops.toList
  | _ => []
def opAt (c : Code) (i : Nat) : Oper := (opsOf c).getD i default
section
variable {ax : Ax} {ah : AH} {G : Nat → Value} {w0 : World} {F0 : Nat → Nat → Prop} {β0 : Nat → Value} {σ0 : Store} {ds : List Deferred} {n : Nat}
variable (hT : AllOk ax.P ax.tys) (hFn : FnsOk ax.P ax.fns) (hm : ax.P.follows .mixedOrders = true) (hQ : EqOk ax) (hE : ErrOk ax.P ax.gs ax.ift ax.tabs G)
include hT hFn hm hQ hE

theorem St.pieceD {fx : Fx} (hX : ThrOk ax fx G w0 F0 β0 σ0) {c : Code} {K : Exit → AEnv → Store → Prop} {e : AEnv} {σ : Store} {a : Act} {w : World}
    (hok : codeOk ax.tys (hintsOf ah) n c = true) (hc : calmC c = true) (h : acW ax ah c K e σ) (hs : St ax G w0 F0 β0 σ0 ds n e σ a w) :
    c.wp ax.P (fun ex a' w' => (∃ ch, ex = .panic ch ∧ a'.defers = ds ∧ (∀ t, t ∉ assigned (hintsOf ah) c → a'.tmps.getD t undef = a.tmps.getD t undef) ∧ fx.thr ch w') ∨
      ∃ e' σ', K ex e' σ' ∧ St ax G w0 F0 β0 σ0 ds n e' σ' a' w' ∧ ∀ t, t ∉ assigned (hintsOf ah) c → a'.tmps.getD t undef = a.tmps.getD t undef) a w := by
  obtain ⟨ρ, F1, β1, h1, h2, h3, h4⟩ := hs
  have hl := hX.1
  refine wp_mono (cW_wpD (fns := fx) hT (by rw [hl]; exact hFn) hm c _ _ a w hok hc h1 (acW_run (fx := fx) hT hE hQ c h (hX.step h4) h3 h2 fun ex ρ' w' hp => hp)) ?_
  rintro ex a' w' (⟨ch, rfl, k1, k2, k3⟩ | ⟨ρ', k1, _, e', F', β', σ', k3, k4, k5, k6, k7⟩)
  · exact .inl ⟨ch, rfl, k1, fun t ht => (k2 t ht).trans (h1.at_ t).symm, k3⟩
  · exact .inr ⟨e', σ', k3, ⟨ρ', F', β', k1, k4, k5, h4.trans k6⟩, fun t ht => by rw [k1.at_, h1.at_]; exact k7 t ht⟩

theorem St.chainD {fx : Fx} (hX : ThrOk ax fx G w0 F0 β0 σ0) (hj : ah.joins = []) {K : Exit → AEnv → Store → Prop} {Q : Exit → Act → World → Prop} : ∀ (k : Nat) {c : Code} {e : AEnv} {σ : Store} {a : Act} {w : World}, chainB k c = true → codeOk ax.tys (hintsOf ah) n (pre k c) = true → calmC (pre k c) = true →
    acW ax ah (pre k c) K e σ → St ax G w0 F0 β0 σ0 ds n e σ a w →
    (∀ ch a' w', a'.defers = ds → (∀ t, t ∉ assigned (hintsOf ah) (pre k c) → a'.tmps.getD t undef = a.tmps.getD t undef) → fx.thr ch w' → Q (.panic ch) a' w') →
    (∀ ex e' σ' a' w', K ex e' σ' → St ax G w0 F0 β0 σ0 ds n e' σ' a' w' → (∀ t, t ∉ assigned (hintsOf ah) (pre k c) → a'.tmps.getD t undef = a.tmps.getD t undef) → Exit.then ((post k c).wp ax.P Q) Q ex a' w') → c.wp ax.P Q a w := by
  intro k
  induction k with
  | zero =>
    intro c e σ a w hcb hok hc h hs hP hK
    cases c with
    | seq x y =>
      refine wp_seq (wp_mono (St.pieceD hT hFn hm hQ hE hX hok hc h hs) ?_)
      rintro ex a' w' (⟨ch, rfl, h1, h2, h3⟩ | ⟨e', σ', h1, h2, h3⟩)
      · exact hP ch a' w' h1 h2 h3
      · exact hK ex e' σ' a' w' h1 h2 h3
    | _ => cases hcb
  | succ k ih =>
    intro c e σ a w hcb hok hc h hs hP hK
    cases c with
    | seq x y =>
      simp only [pre, codeOk, calmC, Bool.and_eq_true] at hok hc
      simp only [pre, acW, hj, lookO] at h
      have hasg : assigned (hintsOf ah) (pre (k + 1) (.seq x y)) = assigned (hintsOf ah) x ++ assigned (hintsOf ah) (pre k y) := rfl
      refine wp_seq (wp_mono (St.pieceD hT hFn hm hQ hE hX hok.1 hc.1 h hs) ?_)
      rintro ex a' w' (⟨ch, rfl, h1, h2, h3⟩ | ⟨e', σ', h1, h2, h3⟩)
      · exact hP ch a' w' h1 (fun t ht => h2 t fun hh => ht (by rw [hasg]; exact List.mem_append.2 (.inl hh))) h3
      cases ex with
      | normal =>
        have hback : ∀ t, t ∉ assigned (hintsOf ah) (pre (k + 1) (.seq x y)) → t ∉ assigned (hintsOf ah) (pre k y) ∧ t ∉ assigned (hintsOf ah) x := fun t ht => by
          rw [hasg, List.mem_append, not_or] at ht; exact ⟨ht.2, ht.1⟩
        refine ih hcb hok.2 hc.2 h1 h2 (fun ch a2 w2 k1 k2 k3 => hP ch a2 w2 k1 (fun t ht => (k2 t (hback t ht).1).trans (h3 t (hback t ht).2)) k3) fun ex e2 σ2 a2 w2 k1 k2 k3 => ?_
        exact hK ex e2 σ2 a2 w2 k1 k2 fun t ht => (k3 t (hback t ht).1).trans (h3 t (hback t ht).2)
      | _ => exact hK _ e' σ' a' w' h1 h2 fun t ht => h3 t fun hh => ht (by rw [hasg]; exact List.mem_append.2 (.inl hh))
    | _ => cases hcb
end
theorem areg_guards {ax : Ax} {ah : AH} {ops ops' : Array Oper} : ∀ (l : List Oper) {e : AEnv} {σ : Store} {K : AEnv → Store → Prop}, (l.all fun o => o.guard.isNone) = true → areg ax ah ops l e σ K = areg ax ah ops' l e σ K
  | [], _, _, _, _ => rfl
  | o :: r, e, σ, K, hg => by
    simp only [List.all_cons, Bool.and_eq_true, Option.isNone_iff_eq_none] at hg
    simp only [areg, aguard, hg.1]
    congr 1
    funext v σ'
    exact areg_guards r hg.2
section
variable {ax : Ax} {ah : AH} {G : Nat → Value} {w0 : World} {F0 : Nat → Nat → Prop} {β0 : Nat → Value} {σ0 : Store} {n : Nat}
/-- the first region's rest, and what comes behind, in a closure that recovered -/
theorem St.catchD (hT : AllOk ax.P ax.tys) (hFn : FnsOk ax.P ax.fns) (hm : ax.P.follows .mixedOrders = true) (hQ : EqOk ax) (hE : ErrOk ax.P ax.gs ax.ift ax.tabs G) (hN : ax.T = none)
    {id : Nat} {ops : Array Oper} {l : List Oper} {rest : Code} {K : Exit → AEnv → Store → Prop} {e : AEnv} {σ : Store} {a : Act} {w : World} {cs : List Frame} {Q : Exit → Act → List Frame → World → Prop}
    (hg : (l.all fun o => o.guard.isNone) = true) (hok : codeOk ax.tys (hintsOf ah) n (.seq (.region id ⟨l⟩ false) rest) = true) (hc : calmC rest = true) (hj : ah.joins = []) (h : acW ax ah (.seq (.region id ⟨l⟩ false) rest) K e σ) (hs : St ax G w0 F0 β0 σ0 [] n e σ a w)
    (hK : ∀ ex e' σ' a' w', K ex e' σ' → St ax G w0 F0 β0 σ0 [] n e' σ' a' w' → Q ex a' cs w') :
    wpList ax.P ops (fun e a w => Exit.thenS (rest.wpS ax.P Q) Q e a cs w) l a w := by
  simp only [acW, hj, lookO, cond_false] at h
  rw [areg_guards (ops' := ops) l hg] at h
  simp only [codeOk, Bool.and_eq_true] at hok
  obtain ⟨ρ, F1, β1, h1, h2, h3, h4⟩ := hs
  have hr0 : Rel n ρ a := ⟨h1.size, h1.at_, h1.defers⟩
  have hd' := dsts_lt hok.1.1
  have hW := areg_run (fx := ax.fns) (ah := ah) hT hE hQ (L := Go.Vx.dstsOf (⟨l⟩ : Array Oper)) l (fun o ho d hd => (hd' o ho d hd).2) h ⟨rfl, by rw [hN]⟩ h3 h2 (fun ρ' w' hp => hp)
  refine regW_wp (fns := ax.fns) hT hFn (fun _ _ _ _ _ _ h => False.elim h) l ρ a w hd' hr0 (Frm.refl _ _) (fun ρ' a' w' k1 k2 k3 => ?_) hW
  obtain ⟨e', F', β', σ', m1, m2, m3, m4, _⟩ := k3
  show rest.wpS ax.P Q a' cs w'
  refine wpS_of_wp (wp_mono (St.pieceD hT hFn hm hQ hE (fx := ax.fns) ⟨rfl, by rw [hN]⟩ hok.2 hc m1 ⟨ρ', F', β', ⟨k1.size, k1.at_, k1.defers⟩, m2, m3, h4.trans m4⟩) ?_)
  rintro ex a2 w2 (⟨ch, rfl, _, _, k⟩ | ⟨e2, σ2, k1, k2, _⟩)
  · exact False.elim k
  · exact hK ex e2 σ2 a2 w2 k1 k2
end
section
variable {ax : Ax} {ah : AH} {G : Nat → Value}
/-- what goes back to the caller -/
theorem aret_run (hT : AllOk ax.P ax.tys) {fn : Func} {obs : List Ob} {K : List V → List Ob → Prop} {w w' : World} {F F' : Nat → Nat → Prop} {β β' : Nat → Value} {σ' : Store} {e' : AEnv} {n : Nat} {ρ' : Env} {a : Act} (hr : RelD [] n ρ' { a with defers := [] })
    (h1 : aret ax ah obs.length fn K e' σ') (h2 : RE ax.gs G w' F' β' σ' e' ρ') (h3 : Sim ax.gs G w' F' β' σ') (h4 : Step w F β (mkS obs) w' F' β' σ') :
    ∃ v, (results fn a.tmps).run ax.P w' = .ok v w' ∧ ∃ rs obs' F' β' rvals, K rs obs' ∧ v = oneOr rvals ∧ Rl (RV ax.gs G w' F' β' (mkS1 obs')) rs rvals ∧ Sim ax.gs G w' F' β' (mkS1 obs') ∧ Step w F β (mkS obs) w' F' β' (mkS1 obs') := by
  refine results_run (tys := ax.tys) (e := ρ') (n := n) (a := { a with defers := [] }) hT ⟨hr.size, hr.at_, rfl⟩ ?_
  unfold aret at h1
  refine aresL_run (ax := ax) h3 h2 _ h1 fun us xs hk hrx => ?_
  cases hnb : normB obs.length σ' ah.fin with
  | none => rw [hnb] at hk; exact hk.elim
  | some r0 =>
   obtain ⟨ps0, σ0⟩ := r0
   rw [hnb] at hk; dsimp only at hk
   have hle0 : obs.length ≤ σ'.length := by have := h4.len; simpa [mkS] using this
   obtain ⟨F0, β0, _, m1, m2, _⟩ := normB_run (n3 := σ'.length) hle0 h3 (Nat.le_refl _) hnb (fun i l _ hgi v hv k hk => by
     have ho := h3.obj i
     rw [hgi] at ho
     obtain ⟨_, _, _, _, _, hrl, _⟩ := ho
     obtain ⟨j, hj⟩ := List.mem_iff_getElem?.1 hv
     obtain ⟨y, _, hy⟩ := hrl.get hj
     exact hy.ids k hk)
   obtain ⟨Fk, m3, m4⟩ := killL_run (F := F0) ah.kill m1
   have hrx := hrx.mono (fun u v h => h.mono (m2.trans m4).carry)
   cases hc : retP ah (killL σ0 ah.kill) us with
   | none => rw [hc] at hk; exact hk.elim
   | some r =>
    obtain ⟨us', σ1⟩ := r
    rw [hc] at hk; dsimp only at hk
    obtain ⟨F1, βr, k1, k2, k3⟩ := retP_run m3 hc hrx
    have hst := (h4.trans (m2.trans m4)).trans k2
    obtain ⟨hnd, r, hids⟩ := reach_spec σ1 1000 (idsL us' ++ boxIds σ1 obs.length) (List.range obs.length) List.nodup_range
    obtain ⟨ids, hi⟩ : ∃ ids, reach σ1 1000 (idsL us' ++ boxIds σ1 obs.length) (List.range obs.length) = ids := ⟨_, rfl⟩
    rw [hi] at hk hnd hids
    obtain ⟨_, r2, r1, r3⟩ := ret_back k1 hst hnd hids
    exact ⟨_, _, F1, _, xs, hk, rfl, k3.ren r2, r1, r3⟩
/-- at a function's beginning -/
theorem St.start {w : World} {F : Nat → Nat → Prop} {β : Nat → Value} {obs : List Ob} {args : List V} {vals : List Value} {n : Nat} (hs : Sim ax.gs G w F β (mkS obs)) (hr : Rl (RV ax.gs G w F β (mkS obs)) args vals) (hn : args.length ≤ n) :
    St ax G w F β (mkS obs) [] n (fun t => args.getD t .undef) (mkS obs) { tmps := vals.toArray ++ Array.replicate (n - vals.toArray.size) undef, defers := [] } w := by
  have hl := hr.1
  refine ⟨fun t => vals.getD t undef, F, β, ⟨by simp; omega, fun t => ?_, rfl⟩, fun t => ?_, hs, Step.refl _ _ _ _⟩
  · simp only [Array.getD_eq_getD_getElem?, List.getD_eq_getElem?_getD]
    by_cases ht : t < vals.length
    · rw [Array.getElem?_append_left (by simpa using ht)]; simp
    · rw [Array.getElem?_append_right (by simpa using ht), List.getElem?_eq_none (by omega), Array.getElem?_replicate]
      split <;> rfl
  · simp only [List.getD_eq_getElem?_getD]
    cases ha : args[t]? with
    | none =>
      have : vals[t]? = none := by rw [List.getElem?_eq_none_iff] at ha ⊢; rw [← hr.1]; exact ha
      rw [this]; exact .undef
    | some u =>
      obtain ⟨x, hx, hux⟩ := hr.get ha
      rw [hx]; exact hux
end
section
variable {ax : Ax} {ah : AH} {G : Nat → Value}
/-- a closure that recovers, called when its function returns, or when a struct of the type was thrown -/
theorem catch_calls (hT : AllOk ax.P ax.tys) (hFn : FnsOk ax.P ax.fns) (hm : ax.P.follows .mixedOrders = true) (hQ : EqOk ax) (hE : ErrOk ax.P ax.gs ax.ift ax.tabs G) (hN : ax.T = none)
    {N id d0 d1 xT T : Nat} {fn : Func} {body rest : Code} {o0 o1 : Oper} {l : List Oper} {fs : Array Field} {z : Value} (hf : ax.P.funcs[N]? = some fn) (hb : fn.body = some body) (hbody : body = .seq (.region id ⟨o0 :: o1 :: l⟩ false) rest)
    (hres : fn.results = #[]) (hg0 : o0.guard = none) (hg1 : o1.guard = none) (hd0 : o0.dst = some d0) (hd1 : o1.dst = some d1) (hp0 : o0.op = .call ⟨.builtin .recover, #[], #[]⟩) (hp1 : o1.op = .typeAssert (.tmp d0) xT T true)
    (hu : ax.P.underlying T = some (.struct fs)) (hz : ((ax.P.info? T).bind (·.zero)) = some z) (hlt0 : d0 < fn.ntmps) (hlt1 : d1 < fn.ntmps)
    (hgl : (l.all fun o => o.guard.isNone) = true) (hok : codeOk ax.tys (hintsOf ah) fn.ntmps (.seq (.region id ⟨l⟩ false) rest) = true) (hc : calmC rest = true) (hj : ah.joins = [])
    {w : World} {F : Nat → Nat → Prop} {β : Nat → Value} {obs : List Ob} {args : List V} {vals : List Value} {u u' : FrameMode} {tv : Value} {e7 : V} {e : AEnv} {K : Exit → AEnv → Store → Prop}
    (hs : Sim ax.gs G w F β (mkS obs)) (hr : Rl (RV ax.gs G w F β (mkS obs)) args vals) (hn : args.length ≤ fn.ntmps)
    (hmode : (u = .returning ∧ u' = .returning ∧ tv = .tuple #[z, .bool false]) ∨ ∃ x, u = .panicking [{ v := .iface T x, recovered := false }] ∧ u' = .panicking [{ v := .iface T x, recovered := true }] ∧ tv = .tuple #[x, .bool true])
    (h7 : RV ax.gs G w F β (mkS obs) e7 tv) (he : ∀ t, e t = cond (Nat.beq t d1) e7 (cond (Nat.beq t d0) .junk (args.getD t .undef)) ∨ e t = .junk)
    (h : acW ax ah (.seq (.region id ⟨l⟩ false) rest) K e (mkS obs)) (hK : ∀ ex e' σ', K ex e' σ' → ex = .normal ∨ ex = .ret) :
    CallsD ax.P N vals.toArray u w fun en u2 w' => en = .returned (.tuple #[]) ∧ u2 = u' ∧ ∃ ex e' σ' F' β', K ex e' σ' ∧ Sim ax.gs G w' F' β' σ' ∧ Step w F β (mkS obs) w' F' β' σ' := by
  refine callsD_of_wpS hf hb fun c₀ cs hu0 => ?_
  obtain ⟨ρ, F1, β1, r1, r2, r3, r4⟩ := St.start (ax := ax) (G := G) hs hr hn
  generalize hA : ({ tmps := vals.toArray ++ Array.replicate (fn.ntmps - vals.toArray.size) undef, defers := [] } : Act) = a at r1 ⊢
  have hv : ∃ v, (match recoverD (c₀ :: cs) with | some (v, cs') => (v, cs') | none => (Value.nilIface, c₀ :: cs)) = (v, { c₀ with mode := u' } :: cs) ∧ (execOp (a.put (some d0) v).eval o1).run ax.P w = .ok (.value tv) w := by
    have hev : ∀ v, (a.put (some d0) v).eval (.tmp d0) = v := fun v => by
      have := r1.size
      simp [Act.eval, Act.put, this, hlt0]
    rcases hmode with ⟨e1, e2, e3⟩ | ⟨x, e1, e2, e3⟩
    · refine ⟨.nilIface, ?_, e3 ▸ assert_none hp1 (hev _) hu hz⟩
      rw [e1] at hu0
      simp [recoverD, hu0, e2]
      cases c₀; simp at hu0; simp [hu0]
    · refine ⟨.iface T x, ?_, e3 ▸ assert_some hp1 (hev _) hu⟩
      rw [e1] at hu0
      simp [recoverD, hu0, e2]
  obtain ⟨v, hv1, hv2⟩ := hv
  rw [hbody]
  refine catch_wpS rfl hg0 hg1 hd0 hd1 (recover_run hp0) hv1 hv2 ?_ ?_
  · rintro ⟨a', w', u2, h, _⟩
    cases h
  have q1 : Rel fn.ntmps ρ a := ⟨r1.size, r1.at_, r1.defers⟩
  have q2 := (q1.put (some d0) v (fun x hx => by cases hx; exact hlt0)).put (some d1) tv (fun x hx => by cases hx; exact hlt1)
  have hst : St ax G w F β (mkS obs) [] fn.ntmps e (mkS obs) ((a.put (some d0) v).put (some d1) tv) w := by
    refine St.env (e := fun t => cond (Nat.beq t d1) e7 (cond (Nat.beq t d0) .junk (args.getD t .undef))) ⟨_, F1, β1, ⟨q2.size, q2.at_, q2.defers⟩, fun t => ?_, r3, r4⟩ he
    simp only [Env.put]
    cases hb1 : Nat.beq t d1 with
    | true => exact h7.mono r4.carry
    | false =>
      cases hb0 : Nat.beq t d0 with
      | true => exact .junk _
      | false => exact r2 t
  refine St.catchD hT hFn hm hQ hE hN hgl hok hc hj h hst fun ex e' σ' a' w' k1 k2 => ?_
  have hfin : bodyPostS ax.P fn c₀ cs (fun en u2 w' => en = .returned (.tuple #[]) ∧ u2 = u' ∧ ∃ ex e' σ' F' β', K ex e' σ' ∧ Sim ax.gs G w' F' β' σ' ∧ Step w F β (mkS obs) w' F' β' σ') .normal a' ({ c₀ with mode := u' } :: cs) w' := by
    obtain ⟨ρ', F', β', m1, m2, m3, m4⟩ := k2
    exact ⟨m1.defers, u', rfl, .tuple #[], by simp [results, hres], rfl, rfl, ex, e', σ', F', β', k1, m3, m4⟩
  rcases hK ex e' σ' k1 with rfl | rfl
  · exact hfin
  · exact hfin
end
end Go.Av
end
