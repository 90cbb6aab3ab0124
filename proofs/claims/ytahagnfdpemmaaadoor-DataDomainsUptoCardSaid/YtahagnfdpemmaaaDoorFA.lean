/- The second executor within iterators: a body that writes a list of its own. -/
import Derived.Test.YtahagnfdpemmaaaDoorF1
import Derived.TacticsIn
import Derived.OrdersIn
import Derived.RangeFuncCalls
import Derived.RangeFuncFrom
import Derived.Test.YtahagnfdpemmaaaDoorF3
/- part VxR -/
section
namespace Go.Vx

/-- with these calls put off, too -/
def more (a : Act) (ds : List Deferred) : Act := { a with defers := a.defers ++ ds }
theorem more_put (a : Act) (ds : List Deferred) (d : Option Tmp) (v : Value) : (more a ds).put d v = more (a.put d v) ds := by
  cases d <;> rfl
theorem more_eval (a : Act) (ds : List Deferred) : (more a ds).eval = a.eval := rfl
theorem more_defer (a : Act) (ds : List Deferred) (d : Deferred) : { more a ds with defers := d :: (more a ds).defers } = more { a with defers := d :: a.defers } ds := rfl

/-- a fence that lets in every function, at every depth -/
structure Opn (F : Fence) : Prop where
  fn : ∀ f, F.fn f
  depth : F.depth = none
  fenced : ∀ (P : Program) (m : Machine), m.fenced P F

theorem Opn.wide : Opn Fence.wide := ⟨fun _ => trivial, rfl, fenced_wide⟩
theorem Opn.inRound {F : Fence} (h : Opn F) (l : Nat) : Opn (F.inRound l) := ⟨h.fn, h.depth, h.fenced⟩
theorem Opn.room {F : Fence} (h : Opn F) (n : Nat) : F.room n := fun d hd => by rw [h.depth] at hd; cases hd
theorem Opn.isSome {F : Fence} (h : Opn F) {p : Prop} : F.depth.isSome = true → p := fun hd => by rw [h.depth] at hd; cases hd
theorem Opn.steps {F : Fence} (h : Opn F) {P : Program} {m m' : Machine} (hs : Steps P m m') : StepsIn (Machine.fenced P F) P m m' := (StepsIn.of_steps hs).mono fun m _ => h.fenced P m
theorem Opn.calls {F : Fence} (h : Opn F) {n : Nat} {P : Program} {f : FuncId} {args : Array Value} {w : World} {R : Ending → World → Prop} (hc : Calls P f args w R) : CallsIn F n P f args w R := by
  refine ⟨h.fn f, fun cs _ => ?_⟩
  obtain ⟨e, w', fr, h1, h2, h3⟩ := hc cs
  refine ⟨e, w', fr, h1, ?_, h3⟩
  cases e with
  | outgrown => exact h2
  | returned v => exact h.steps h2
  | panicked c => exact h.steps h2
theorem Opn.rows {F : Fence} (h : Opn F) {n : Nat} {P : Program} {row : String} {args : Array Value} {w : World} {R : Value → World → Prop} (hc : Rows P row args w R) : RowsIn F n P row args w R := by
  intro c cs _
  obtain ⟨v, w', h1, h2⟩ := hc c cs
  exact ⟨v, w', h1, h.steps h2⟩

section
variable {P : Program} {F : Fence} (hF : Opn F) {n : Nat} {ds : List Deferred} {Q0 Q : Exit → Act → World → Prop}
variable (hN : ∀ a w, Q0 .normal a w → Q .normal (more a ds) w) (hP : ∀ c a w, ¬ Q0 (.panic c) a w) (hO : ∀ a w, ¬ Q0 .outgrown a w)
include hF hP hO

theorem op_in {o : Oper} {a : Act} {w : World} {K0 K : Act → World → Prop} (hd : ∀ c, o.op ≠ .defer c) (hK : ∀ a w, K0 a w → K (more a ds) w) (h : o.wp P a w K0 Q0) : o.wpIn F n P (more a ds) w K Q := by
  unfold Oper.wp at h
  unfold Oper.wpIn
  refine ⟨fun f _ => hF.fn f, ?_⟩
  rw [Oper.semAt_eq _ _ _ hd, more_eval]
  generalize (execOp a.eval o).run P w = r at h ⊢
  cases r with
  | ok x w' =>
    cases x <;> simp only [Oper.upon, Oper.uponIn] at h ⊢
    case value u => rw [more_put]; exact hK _ _ h
    case skip => rw [more_put]; exact hK _ _ h
    case defer d => rw [more_defer, more_put]; exact hK _ _ h
    case enter f args =>
      refine ⟨hF.isSome, (hF.calls h).mono fun e w'' he => ?_⟩
      cases e with
      | returned u => dsimp only at he ⊢; rw [more_put]; exact hK _ _ he
      | panicked c => exact absurd he (hP _ _ _)
      | outgrown => obtain ⟨a', w', h'⟩ := he; exact absurd h' (hO _ _)
    case row row args => exact ⟨hF.isSome, (hF.rows h).mono fun u w'' he => by rw [more_put]; exact hK _ _ he⟩
  | halt x w' =>
    cases x <;> simp only [Oper.upon, Oper.uponIn] at h ⊢
    case panic u => exact absurd h (hP _ _ _)

include hN

theorem list_in {ops : Array Oper} : ∀ (l : List Oper) (a : Act) (w : World), (∀ o ∈ l, ∀ c, o.op ≠ .defer c) → wpList P ops Q0 l a w → wpListIn F n P ops Q l (more a ds) w
  | [], a, w, _, h => hN _ _ h
  | o :: r, a, w, hd, h => by
    unfold wpList at h
    unfold wpListIn
    have ht : (more a ds).tmps = a.tmps := rfl
    rw [ht]
    split at h
    · rename_i hw
      rw [if_pos hw]
      rcases h with h | ⟨_, a', w', h'⟩
      · exact op_in hF hP hO (hd o List.mem_cons_self) (fun a w h => list_in r a w (fun o ho => hd o (List.mem_cons_of_mem _ ho)) h) h
      · exact absurd h' (hO _ _)
    · rename_i hw
      rw [if_neg hw]
      refine ⟨fun f _ => hF.fn f, ?_⟩
      rw [more_put]
      exact list_in r _ w (fun o ho => hd o (List.mem_cons_of_mem _ ho)) h

theorem any_in {ops : Array Oper} {md : Region.Mode} (hd : ∀ (i : Nat) (o : Oper), ops[i]? = some o → ∀ c, o.op ≠ .defer c) : ∀ (fuel : Nat) (listed : Array Bool) (a : Act) (w : World), wpAny P md ops Q0 fuel listed a w → wpAnyIn F n P md ops Q fuel listed (more a ds) w
  | 0, _, a, w, h => ⟨h.1, hN _ _ h.2⟩
  | fuel + 1, listed, a, w, h => by
    refine ⟨fun h0 => hN _ _ (h.1 h0), fun i hi => ?_⟩
    have h := h.2 i hi
    unfold wpOp at h
    unfold wpOpIn
    have ht : (more a ds).tmps = a.tmps := rfl
    cases ho : ops[i]? with
    | none => rw [ho] at h; exact any_in hd fuel _ a w h
    | some o =>
      rw [ho] at h; dsimp only at h ⊢
      rw [ht]
      split at h
      · rename_i hw
        rw [if_pos hw]
        rcases h with h | ⟨_, a', w', h'⟩
        · exact op_in hF hP hO (hd i o ho) (fun a w h => any_in hd fuel _ a w h) h
        · exact absurd h' (hO _ _)
      · rename_i hw
        rw [if_neg hw]
        refine ⟨fun f _ => hF.fn f, ?_⟩
        rw [more_put]
        exact any_in hd fuel _ _ w h
end

/-- no call is put off -/
def calm (ops : List Oper) : Bool := ops.all fun o => match o.op with | .defer _ => false | _ => true
theorem calm_elim {ops : List Oper} (h : calm ops = true) : ∀ o ∈ ops, ∀ c, o.op ≠ .defer c := by
  intro o ho c hc
  have := List.all_eq_true.1 h o ho
  rw [hc] at this; cases this
def calmC : Code → Bool
  | .region _ ops _ => calm ops.toList
  | .seq a b => calmC a && calmC b
  | .cond _ a b => calmC a && calmC b
  | .block _ a => calmC a
  | .loop a => calmC a
  | _ => true

/-- how the slots stand -/
structure RelD (ds : List Deferred) (n : Nat) (e : Env) (a : Act) : Prop where
  size : a.tmps.size = n
  at_ : ∀ t, a.tmps.getD t undef = e t
  defers : a.defers = ds
theorem RelD.split {ds : List Deferred} {n : Nat} {e : Env} {a : Act} (h : RelD ds n e a) : ∃ a0, Rel n e a0 ∧ a = more a0 ds := by
  refine ⟨{ a with defers := [] }, ⟨h.size, h.at_, rfl⟩, ?_⟩
  cases a
  have := h.defers
  simp only [more, List.nil_append] at this ⊢
  rw [this]
theorem RelD.of {ds : List Deferred} {n : Nat} {e : Env} {a : Act} (h : Rel n e a) : RelD ds n e (more a ds) := ⟨h.size, h.at_, by simp [more, h.defers]⟩
theorem RelD.same {ds : List Deferred} {n : Nat} {e e' : Env} {a : Act} (h : RelD ds n e a) (he : ∀ t, e' t = e t) : RelD ds n e' a := ⟨h.size, fun t => (h.at_ t).trans (he t).symm, h.defers⟩
theorem RelD.eval {ds : List Deferred} {n : Nat} {e : Env} {a : Act} (h : RelD ds n e a) (x : Operand) : a.eval x = ev e x := by
  obtain ⟨a0, h0, rfl⟩ := h.split
  rw [more_eval, h0.eval]

variable {P : Program} {tys : Tys} {fns : Fx} {hs : Hints} {w : World}

theorem cW_wpIn (hT : AllOk P tys) (hFn : FnsOk P fns.l) (hN : ∀ c w, ¬ fns.thr c w) (hm : P.follows .mixedOrders = true) {F : Fence} (hF : Opn F) {m n : Nat} {ds : List Deferred} : ∀ (c : Code) (Q : Exit → Env → World → Prop) (e : Env) (a : Act) (w : World), codeOk tys hs n c = true → calmC c = true → RelD ds n e a →
    cW P tys fns hs c Q e w → c.wpIn F m P (fun ex a' w' => ∃ e', RelD ds n e' a' ∧ Frm (assigned hs c) e e' ∧ Q ex e' w') a w := by
  intro c
  induction c with
  | skip => exact fun Q e a w _ _ hr h => wpIn_skip ⟨e, hr, Frm.refl _ _, h⟩
  | ret => exact fun Q e a w _ _ hr h => wpIn_ret ⟨e, hr, Frm.refl _ _, h⟩
  | exit id => exact fun Q e a w _ _ hr h => wpIn_exit ⟨e, hr, Frm.refl _ _, h⟩
  | region id ops draw =>
    intro Q e a w hok hcm hr h
    simp only [cW] at h
    simp only [codeOk, Bool.and_eq_true] at hok
    simp only [calmC] at hcm
    obtain ⟨hd, hdraw⟩ := hok
    obtain ⟨a0, hr0, rfl⟩ := hr.split
    have hcm1 := calm_elim hcm
    cases draw with
    | false =>
      simp only [cond_false] at h
      have h1 := regW_wp (Q := fun ex a' w' => ex = .normal ∧ ∃ e', Rel n e' a' ∧ Frm (dstsOf ops) e e' ∧ Q .normal e' w') hT hFn (fun c _ _ _ _ _ hc => (hN _ _ hc).elim) ops.toList e a0 w (dsts_lt hd) hr0 (Frm.refl _ _) (fun e' a' w' h1 h2 h3 => ⟨rfl, e', h1, h2, h3⟩) h
      refine wpIn_region_list (list_in hF (fun a' w' h2 => ?_) (fun _ _ _ hp => by simp at hp) (fun _ _ hp => by simp at hp) ops.toList a0 w hcm1 h1)
      obtain ⟨_, e', k1, k2, k3⟩ := h2
      exact ⟨e', .of k1, k2, k3⟩
    | true =>
      simp only [cond_true] at h hdraw
      split at h
      · rename_i l hl
        rw [hl] at hdraw
        simp only [Bool.and_eq_true] at hdraw
        obtain ⟨⟨hlen, hsel⟩, hdo⟩ := hdraw
        have hlen := Nat.le_of_ble_eq_true hlen
        have hd' : ∀ (i : Nat) (o : Oper), ops[i]? = some o → ∀ d, o.dst = some d → d < n ∧ d ∈ dstsOf ops := fun i o ho => dsts_lt hd o (List.mem_of_getElem? (i := i) (by rw [Array.getElem?_toList]; exact ho))
        have key := drawW_wp (Q := fun ex a' w' => ex = .normal ∧ ∃ e', Rel n e' a' ∧ Frm (dstsOf ops) e e' ∧ Q .normal e' w') hT hFn hsel (fun c _ _ _ _ _ hc => (hN _ _ hc).elim) (fun _ _ _ _ _ _ hp => by simp at hp) hd' l ops.size (Array.replicate ops.size false) [] e a0 w.drew Closed.start hr0 (Frm.refl _ _) (fun e' a' w' h1 h2 h3 => ⟨rfl, e', h1, h2, h3⟩) h
        refine wpIn_region_any hm (any_in hF (fun a' w' h2 => ?_) (fun _ _ _ hp => by simp at hp) (fun _ _ hp => by simp at hp) (fun i o ho => hcm1 o (List.mem_of_getElem? (i := i) (by rw [Array.getElem?_toList]; exact ho))) _ _ a0 _ (wpAny_of_O _ _ _ _ (key.1 hdo hlen)))
        obtain ⟨_, e', k1, k2, k3⟩ := h2
        exact ⟨e', .of k1, k2, k3⟩
      · exact h.elim
  | seq x y ihx ihy =>
    intro Q e a w hok hcm hr h
    simp only [codeOk, Bool.and_eq_true] at hok
    simp only [calmC, Bool.and_eq_true] at hcm
    simp only [cW] at h
    refine wpIn_seq (wpIn_mono (ihx _ e a w hok.1 hcm.1 hr h) ?_)
    rintro ex a1 w1 ⟨e1, hr1, hf1, hq⟩
    have hf1' : Frm (assigned hs (.seq x y)) e e1 := fun t ht => hf1 t (fun h => ht (List.mem_append.2 (.inl h)))
    cases ex with
    | normal =>
      refine wpIn_mono (ihy _ e1 a1 w1 hok.2 hcm.2 hr1 hq) ?_
      rintro ex a2 w2 ⟨e2, hr2, hf2, hq2⟩
      exact ⟨e2, hr2, fun t ht => (hf2 t (fun h => ht (List.mem_append.2 (.inr h)))).trans (hf1' t ht), hq2⟩
    | _ => exact ⟨e1, hr1, hf1', hq⟩
  | cond c x y ihx ihy =>
    intro Q e a w hok hcm hr h
    simp only [codeOk, Bool.and_eq_true] at hok
    simp only [calmC, Bool.and_eq_true] at hcm
    simp only [cW] at h
    split at h
    · rename_i t ht
      have hev : a.eval c = .bool t := by rw [hr.eval]; exact ht
      split at h
      · rename_i s
        have ht' : e s = .bool t := ht
        cases t with
        | true =>
          refine wpIn_cond_true hev (wpIn_mono (ihx Q _ a w hok.2.1 hcm.1 (hr.same (put_same ht')) h) ?_)
          rintro ex a2 w2 ⟨e2, hr2, hf2, hq2⟩
          exact ⟨e2, hr2, fun t ht => (hf2 t (fun h => ht (by simp [assigned, h]))).trans (put_same ht' t), hq2⟩
        | false =>
          refine wpIn_cond_false hev (wpIn_mono (ihy Q _ a w hok.2.2 hcm.2 (hr.same (put_same ht')) h) ?_)
          rintro ex a2 w2 ⟨e2, hr2, hf2, hq2⟩
          exact ⟨e2, hr2, fun t ht => (hf2 t (fun h => ht (by simp [assigned, h]))).trans (put_same ht' t), hq2⟩
      · cases t with
        | true =>
          refine wpIn_cond_true hev (wpIn_mono (ihx Q _ a w hok.2.1 hcm.1 hr h) ?_)
          rintro ex a2 w2 ⟨e2, hr2, hf2, hq2⟩
          exact ⟨e2, hr2, fun t ht => hf2 t (fun h => ht (by simp [assigned, h])), hq2⟩
        | false =>
          refine wpIn_cond_false hev (wpIn_mono (ihy Q _ a w hok.2.2 hcm.2 hr h) ?_)
          rintro ex a2 w2 ⟨e2, hr2, hf2, hq2⟩
          exact ⟨e2, hr2, fun t ht => hf2 t (fun h => ht (by simp [assigned, h])), hq2⟩
    · exact h.elim
  | block id x ih =>
    intro Q e a w hok hcm hr h
    simp only [cW] at h
    refine wpIn_block (wpIn_mono (ih _ e a w hok hcm hr h) ?_)
    rintro ex a1 w1 ⟨e1, hr1, hf1, hq⟩
    cases ex with
    | exit i =>
      dsimp only at hq
      simp only [Exit.inBlock]
      split
      · rename_i hi
        subst hi
        have : Nat.beq i i = true := by simp
        rw [this] at hq
        exact ⟨e1, hr1, hf1, hq⟩
      · rename_i hi
        have : Nat.beq i id = false := by
          cases hb : Nat.beq i id with
          | false => rfl
          | true => exact absurd (Nat.eq_of_beq_eq_true hb) hi
        rw [this] at hq
        exact ⟨e1, hr1, hf1, hq⟩
    | _ => exact ⟨e1, hr1, hf1, hq⟩
  | loop x ih =>
    intro Q e a w hok hcm hr h
    simp only [cW] at h
    split at h
    · rename_i S hS
      obtain ⟨I, μ, h0, hround⟩ := h
      have hasg : assigned hs (.loop x) = assigned hs x ++ S.map (·.1) := by simp [assigned, hS]
      let vals : Act → List Value := fun a => S.map fun s => a.tmps.getD s.1 undef
      have key : (Code.loop x).wpIn F m P (fun ex a' w' => ∃ e', RelD ds n e' a' ∧ Frm (assigned hs (.loop x)) e e' ∧ Q ex e' w') a w := by
        refine wpIn_loop (fun a w => I (vals a) w ∧ a.tmps.size = n ∧ a.defers = ds ∧ ∀ t, t ∉ assigned hs (.loop x) → a.tmps.getD t undef = e t) (fun a w => μ (vals a) w) ?_ ?_
        · refine ⟨?_, hr.size, hr.defers, fun t _ => hr.at_ t⟩
          have : vals a = S.map fun s => e s.1 := List.map_congr_left fun s _ => hr.at_ s.1
          rw [this]; exact h0
        · rintro a1 w1 ⟨hI, hsz, hdf, hfr⟩
          let junk : Env := fun t => a1.tmps.getD t undef
          obtain ⟨us, _, hus, hb⟩ := exL_elim (hround junk (vals a1) w1 hI)
          have hrel : RelD ds n (mixE e S us (assigned hs x) junk) a1 := by
            refine ⟨hsz, fun t => ?_, hdf⟩
            have hmx := mixE_at e (assigned hs x) junk t (fun _ _ => trivial) S
            have : us = S.map fun s => junk s.1 := hus.symm
            rw [this, hmx]
            split
            · rfl
            · rename_i hnS
              cases hh : hasB (assigned hs x) t with
              | true => rfl
              | false =>
                refine hfr t ?_
                rw [hasg, List.mem_append]
                rintro (h | h)
                · rw [hasB_iff.2 h] at hh; cases hh
                · exact hnS h
          refine wpIn_mono (ih _ _ a1 w1 hok hcm hrel hb) ?_
          rintro ex a2 w2 ⟨e2, hr2, hf2, hq⟩
          have hfr2 : Frm (assigned hs (.loop x)) e e2 := fun t ht => by
            rw [hasg, List.mem_append, not_or] at ht
            rw [hf2 t ht.1]
            have := hrel.at_ t
            rw [← this]
            exact hfr t (by rw [hasg, List.mem_append, not_or]; exact ht)
          cases ex with
          | normal =>
            have hv : vals a2 = S.map fun s => e2 s.1 := List.map_congr_left fun s _ => hr2.at_ s.1
            simp only [Exit.then]
            refine ⟨⟨hv ▸ hq.1, hr2.size, hr2.defers, fun t ht => (hr2.at_ t).trans (hfr2 t ht)⟩, ?_⟩
            have hq2 := hq.2
            rw [← hus] at hq2
            rw [hv]; exact hq2
          | _ => exact ⟨e2, hr2, hfr2, hq⟩
      exact key
    · exact h.elim
  | _ => exact fun Q e a w _ _ _ h => h.elim

end Go.Vx
end

/- part VxS -/
section
namespace Go.Vx
open Go.RowKit

def isLD : Obj → Bool
  | .loop _ => true
  | .deferred _ => true
  | _ => false

/-- the world goes on: records of loops and blocks of calls put off may turn -/
structure Calmly (N : Nat) (w w' : World) : Prop where
  os : w'.os = w.os
  tape : w'.tape = w.tape
  output : w'.output = w.output
  size : w.heap.size ≤ w'.heap.size
  low : ∀ (b : Nat), b < N → b < w.heap.size → w'.heap[b]? = w.heap[b]?
  same : ∀ (b : Nat) (o : Obj), w.heap[b]? = some o → isLD o = false → w'.heap[b]? = some o
  ld : ∀ (b : Nat) (o : Obj), w.heap[b]? = some o → isLD o = true → ∃ o', w'.heap[b]? = some o' ∧ isLD o' = true

theorem Calmly.of_below {N : Nat} {w w' : World} (h : Below w.heap.size w w') : Calmly N w w' :=
  ⟨h.os, h.tape, h.output, h.size, fun b _ hb => h.block b hb, fun b _ ho _ => (h.block b (Array.getElem?_eq_some_iff.1 ho).1).trans ho, fun b o ho hl => ⟨o, (h.block b (Array.getElem?_eq_some_iff.1 ho).1).trans ho, hl⟩⟩
theorem Calmly.mono {N M : Nat} {w w' : World} (h : Calmly N w w') (hM : M ≤ N) : Calmly M w w' := ⟨h.os, h.tape, h.output, h.size, fun b hb => h.low b (Nat.lt_of_lt_of_le hb hM), h.same, h.ld⟩
theorem Calmly.trans {N : Nat} {a b c : World} (h : Calmly N a b) (k : Calmly N b c) : Calmly N a c :=
  ⟨k.os.trans h.os, k.tape.trans h.tape, k.output.trans h.output, Nat.le_trans h.size k.size, fun i hi hb => (k.low i hi (Nat.lt_of_lt_of_le hb h.size)).trans (h.low i hi hb), fun i o ho hl => k.same i o (h.same i o ho hl) hl, fun i o ho hl => by
    obtain ⟨o', h1, h2⟩ := h.ld i o ho hl
    exact k.ld i o' h1 h2⟩
theorem Calmly.put {N : Nat} {w : World} {l : Nat} {o o' : Obj} (h : w.heap[l]? = some o) (hN : N ≤ l) (ho : isLD o = true) (ho' : isLD o' = true) : Calmly N w (w.putObj l o') :=
  ⟨rfl, rfl, rfl, by simp, fun b hb _ => World.putObj_heap_other (by omega), fun b x hx hl => by
      have : b ≠ l := fun e => by subst e; rw [h] at hx; cases hx; rw [ho] at hl; cases hl
      exact (World.putObj_heap_other this).trans hx, fun b x hx hl => by
      by_cases e : b = l
      · subst e; exact ⟨o', World.putObj_heap_same (Array.getElem?_eq_some_iff.1 h).1, ho'⟩
      · exact ⟨x, (World.putObj_heap_other e).trans hx, hl⟩⟩
theorem Calmly.cell {N : Nat} {w w' : World} (h : Calmly N w w') {b o : Nat} (hb : b < w.heap.size) : w'.cell? ⟨b, o, none⟩ = w.cell? ⟨b, o, none⟩ := by
  have hx := Array.getElem?_eq_getElem hb
  cases hl : isLD w.heap[b] with
  | false =>
    have := h.same b _ hx hl
    simp only [World.cell?, this, hx]
  | true =>
    obtain ⟨o', h1, h2⟩ := h.ld b _ hx hl
    simp only [World.cell?, h1, hx]
    generalize w.heap[b] = x at hl
    cases x <;> simp [isLD] at hl <;> cases o' <;> simp [isLD] at h2 <;> rfl

/-- blocks from a number on lie as they lay -/
structure Kp (B : Nat) (w w' : World) : Prop where
  size : w.heap.size ≤ w'.heap.size
  same : ∀ b, B ≤ b → b < w.heap.size → w'.heap[b]? = w.heap[b]?
theorem Kp.trans {B : Nat} {a b c : World} (h : Kp B a b) (k : Kp B b c) : Kp B a c := ⟨Nat.le_trans h.size k.size, fun i hi hb => (k.same i hi (Nat.lt_of_lt_of_le hb h.size)).trans (h.same i hi hb)⟩
theorem Kp.put {B l : Nat} {w : World} (o : Obj) (h : l < B) : Kp B w (w.putObj l o) := ⟨by simp, fun b hb _ => World.putObj_heap_other (by omega)⟩

section
variable {F : Fence} {P : Program}
theorem callsIn_any (hF : Opn F) {m m' : Nat} {f : FuncId} {args : Array Value} {w : World} {R : Ending → World → Prop} (h : CallsIn F m P f args w R) : CallsIn F m' P f args w R := ⟨h.1, fun cs _ => h.2 cs (hF.room _)⟩
theorem roundIn_any (hF : Opn F) {m m' l : Nat} {f : FuncId} {tmps : Array Value} {assign body : Code} {w : World} {R : Ending → World → Prop} (h : RoundIn F m P l f tmps assign body w R) : RoundIn F m' P l f tmps assign body w R := ⟨h.1, fun c cs _ => h.2 c cs (hF.room _)⟩

/-- **An iterator's contract**: it hands on these rows, one behind the other, as long as it is told to go on. -/
def Iter (F : Fence) (P : Program) (gf : Nat) (lb : Array Value) (encs : List (Array Value)) (n0 : Nat) (w0 : World) (Pre : World → Prop) : Prop :=
  ∀ (l : Nat) (J Jx : Nat → World → Prop) (W : World), Pre W → n0 ≤ W.heap.size →
    (∀ k W', J k W' → Below n0 w0 W') → (∀ k W', Jx k W' → Below n0 w0 W') →
    (∀ k W1 W2, J k W1 → Below W1.heap.size W1 W2 → J k W2) → (∀ k W1 W2, Jx k W1 → Below W1.heap.size W1 W2 → Jx k W2) →
    (∀ k x W1, encs[k]? = some x → J k W1 → W.heap.size ≤ W1.heap.size → YieldAt F 0 P l x W1 fun e W' =>
      (e = .returned (.bool true) ∧ J (k + 1) W' ∧ Kp W.heap.size W1 W') ∨ (e = .returned (.bool false) ∧ Jx k W')) →
    J 0 W → CallsIn F 0 P gf (#[.func (.yield l) #[] #[]] ++ lb) W fun e W' => (∃ v, e = .returned v) ∧ (J encs.length W' ∨ ∃ k, k < encs.length ∧ Jx k W')

/-- how a round may be left -/
def leftBy (I : World → Prop) (Ix : Code → World → Prop) : Exit → World → Prop
  | .normal, W => I W
  | .ret, W => Ix .ret W
  | .exit id, W => Ix (.exit id) W
  | _, _ => False

end

end Go.Vx
end

/- part AvX -/
section
namespace Go.Av
open Go.Vx Go.RowKit

def envL : List (Nat × V) → AEnv
  | [], _ => .junk
  | (i, v) :: r, t => cond (Nat.beq t i) v (envL r t)

section
variable {gs : List Nat} {G : Nat → Value} {w w' : World} {F F' : Nat → Nat → Prop} {β β' : Nat → Value} {σ σ' : Store}

theorem Sim.has_obj (h : Sim gs G w F β σ) {i b : Nat} (hb : Has β i (getO σ i) b) : ∃ o, w.heap[b]? = some o ∧ isLD o = false := by
  have ho := h.obj i
  obtain ⟨h1, h2⟩ := hb
  cases hg : getO σ i with
  | dead => rw [hg] at h1; exact h1.elim
  | mp l => rw [hg] at ho; exact ho.elim
  | box l =>
    rw [hg] at ho
    obtain ⟨b', t, cs, e, hh, _⟩ := ho
    rw [e] at h2
    simp only [vblk, Option.some.injEq] at h2
    subst h2
    exact ⟨_, hh, rfl⟩
  | lst t z fz l =>
    rw [hg] at ho
    rcases ho with ⟨r, es, clock, e, hh, _⟩ | ⟨xs, ho, _⟩
    · rw [e] at h2
      simp only [vblk, Option.some.injEq] at h2
      subst h2
      exact ⟨_, hh, rfl⟩
    obtain ⟨_, ⟨e, _⟩ | ⟨g, cap, cur, e, _, hh, _⟩⟩ := ho
    · rw [e] at h2; cases h2
    · rw [e] at h2
      simp only [vblk, Option.some.injEq] at h2
      subst h2
      exact ⟨_, hh, rfl⟩

/-- what lies below stays, where a piece began without objects -/
theorem Step.below0 (h : Step w F β [] w' F' β' σ') : Below w.heap.size w w' :=
  ⟨h.os, h.tape, h.output, h.size, fun b hb => h.block b hb fun i hi => by have := hi.1; simp [getO, Live] at this⟩
theorem Step.below_same (h : Step w F β σ w' F' β' σ') (hv : ∀ i, i < σ.length → verO σ' i = verO σ i) : Below w.heap.size w w' := by
  refine ⟨h.os, h.tape, h.output, h.size, fun b hb => ?_⟩
  by_cases hh : ∃ i, Has β i (getO σ i) b
  · obtain ⟨i, hi⟩ := hh
    have hlt : i < σ.length := getO_lt fun e => by rw [e] at hi; exact no_has_dead hi
    exact ((h.ver i hlt).2 (hv i hlt)).2 b hi
  · exact h.block b hb fun i hi => hh ⟨i, hi⟩
theorem Step.ld (h : Step w F β σ w' F' β' σ') (hs : Sim gs G w F β σ) {b : Nat} {o : Go.Obj} (hb : w.heap[b]? = some o) (ho : isLD o = true) : w'.heap[b]? = some o := by
  refine (h.block b (Array.getElem?_eq_some_iff.1 hb).1 fun i hi => ?_).trans hb
  obtain ⟨o', h1, h2⟩ := hs.has_obj hi
  rw [hb] at h1; cases h1; rw [ho] at h2; cases h2
theorem Sim.calm {w0 : World} {F0 : Nat → Nat → Prop} {β0 : Nat → Value} (h : Sim gs G w F β σ) (h0 : Step w0 F0 β0 [] w F β σ) (hc : Calmly w0.heap.size w w') : Sim gs G w' F β σ ∧ Step w0 F0 β0 [] w' F β σ := by
  have hcell : ∀ b o, b < w.heap.size → w'.cell? ⟨b, o, none⟩ = w.cell? ⟨b, o, none⟩ := fun b o hlt => hc.cell hlt
  have hcar : Carry w F β σ w' F β σ := ⟨fun b o hf => ⟨hf, hcell b o (h.lt b o hf)⟩, Nat.le_refl _, fun i _ => ⟨rfl, obLe.refl _⟩⟩
  have hblk : ∀ i b, Has β i (getO σ i) b → w'.heap[b]? = w.heap[b]? := fun i b hb => by
    obtain ⟨o, h1, h2⟩ := h.has_obj hb
    rw [h1]; exact hc.same b o h1 h2
  refine ⟨⟨fun b o hf => Nat.lt_of_lt_of_le (h.lt b o hf) hc.size, fun g hg => ?_, fun i => ?_, fun g cs hg => ?_, h.sep, h.dis⟩, ?_⟩
  · obtain ⟨h1, h2, h3, t, b, h4, h5, h6, h7⟩ := h.glob g hg
    refine ⟨(hcell g 0 (h.lt g 0 h2)).trans h1, h2, h3, t, b, h4, Nat.lt_of_lt_of_le h5 hc.size, ?_, h7⟩
    obtain ⟨cs, t', e⟩ := h6
    exact ⟨cs, t', hc.same _ _ e rfl⟩
  · cases hg : getO σ i with
    | dead => trivial
    | _ => exact hg ▸ (h.obj i).keep hcar rfl fun b hv => hblk i b ⟨by rw [hg]; trivial, hv⟩
  · obtain ⟨h1, ⟨t, p, h2⟩, h3⟩ := h.tab g cs hg
    exact ⟨Nat.lt_of_lt_of_le h1 hc.size, ⟨t, p, hc.same _ _ h2 rfl⟩, h3⟩
  · have n0 : ∀ {i b : Nat}, ¬ Has β0 i (getO ([] : Store) i) b := fun hi => by have := hi.1; simp [getO, Live] at this
    have hb0 := h0.below0
    have hlow : ∀ b, b < w0.heap.size → w'.heap[b]? = w0.heap[b]? := fun b hb => (hc.low b hb (Nat.lt_of_lt_of_le hb hb0.size)).trans (hb0.block b hb)
    refine ⟨hc.os.trans h0.os, hc.tape.trans h0.tape, hc.output.trans h0.output, Nat.le_trans h0.size hc.size, fun b o hf => ?_, fun b o hb hm => ?_, fun b hb _ => hlow b hb, h0.newF, h0.newH, h0.newM, h0.len, fun i hi => by simp at hi, fun i hi => by simp at hi⟩
    · obtain ⟨k1, k2⟩ := h0.fcell b o hf
      exact ⟨k1, (hcell b o (h.lt b o k1)).trans k2⟩
    · exact (hcell b o (Nat.lt_of_lt_of_le hb h0.size)).trans (h0.cell b o hb hm)

/-- the first objects alone -/
theorem Sim.trim (h : Sim gs G w F β σ) {σ1 : Store} (hg : ∀ i, i < σ1.length → getO σ1 i = getO σ i) (hb : ∀ i l, i < σ1.length → getO σ1 i = .box l → ∀ k ∈ idsL l, k < σ1.length) :
    Sim gs G w F β σ1 ∧ ∀ {u : V} {v : Value}, RV gs G w F β σ u v → (∀ k ∈ idsV u, k < σ1.length) → RV gs G w F β σ1 u v := by
  let f : Nat → Option Nat := fun i => if i < σ1.length then some i else none
  have hf : ∀ i, i < σ1.length → f i = some i := fun i hi => if_pos hi
  obtain ⟨h1, h2⟩ := h.restrict (σ1 := σ1) (g := id) (f := f) (fun i hi => by
      have e := hg i hi
      rw [show getO σ (id i) = getO σ1 i from e.symm]
      cases ho : getO σ1 i with
      | box l =>
        simp only [renOb]
        rw [ren_idL f l fun k hk => hf k (hb i l hi ho k hk)]
      | _ => rfl) (fun i j _ _ e => e) (fun o k _ hk => by
      by_cases ho : o < σ1.length
      · rw [hf o ho] at hk; cases hk; exact ⟨ho, rfl⟩
      · simp only [f, if_neg ho] at hk; cases hk)
  refine ⟨h1, fun {u v} hv hk => ?_⟩
  have := hv.ren h2
  rwa [ren_id f u fun k hm => hf k (hk k hm)] at this

end

/-! ### states within a function -/
section
variable (ax : Ax) (G : Nat → Value) (w0 : World) (F0 : Nat → Nat → Prop) (β0 : Nat → Value) (σ0 : Store)
/-- the slots and objects stand so, and all has come of the state at the beginning -/
def St (ds : List Deferred) (n : Nat) (e : AEnv) (σ : Store) (a : Act) (w : World) : Prop :=
  ∃ ρ F β, RelD ds n ρ a ∧ RE ax.gs G w F β σ e ρ ∧ Sim ax.gs G w F β σ ∧ Step w0 F0 β0 σ0 w F β σ
/-- of objects alone -/
def Sw (σ : Store) (w : World) : Prop := ∃ F β, Sim ax.gs G w F β σ ∧ Step w0 F0 β0 σ0 w F β σ
end

section
variable {ax : Ax} {ah : AH} {G : Nat → Value} {w0 : World} {F0 : Nat → Nat → Prop} {β0 : Nat → Value} {σ0 : Store} {ds : List Deferred} {n : Nat}

theorem St.piece (hT : AllOk ax.P ax.tys) (hFn : FnsOk ax.P ax.fns) (hm : ax.P.follows .mixedOrders = true) (hQ : EqOk ax) (hN : ax.T = none) (hE : ErrOk ax.P ax.gs ax.ift ax.tabs G) {F : Fence} (hF : Opn F) {m : Nat} {c : Code} {K : Exit → AEnv → Store → Prop} {e : AEnv} {σ : Store} {a : Act} {w : World}
    (hok : codeOk ax.tys (hintsOf ah) n c = true) (hc : calmC c = true) (h : acW ax ah c K e σ) (hs : St ax G w0 F0 β0 σ0 ds n e σ a w) :
    c.wpIn F m ax.P (fun ex a' w' => ∃ e' σ', K ex e' σ' ∧ St ax G w0 F0 β0 σ0 ds n e' σ' a' w' ∧ (∃ F β F' β', Sim ax.gs G w F β σ ∧ Step w0 F0 β0 σ0 w F β σ ∧ Step w F β σ w' F' β' σ')) a w := by
  obtain ⟨ρ, F1, β1, h1, h2, h3, h4⟩ := hs
  refine wpIn_mono (cW_wpIn (fns := ax.fns) hT hFn (fun _ _ h => h) hm hF c _ _ a w hok hc h1 (acW_run (fx := ax.fns) hT hE hQ c h ⟨rfl, by rw [hN]⟩ h3 h2 fun ex ρ' w' hp => hp)) ?_
  rintro ex a' w' ⟨ρ', k1, _, e', F', β', σ', k3, k4, k5, k6, _⟩
  exact ⟨e', σ', k3, ⟨ρ', F', β', k1, k4, k5, h4.trans k6⟩, F1, β1, F', β', h3, h4, k6⟩

theorem St.env {e e' : AEnv} {σ : Store} {a : Act} {w : World} (h : St ax G w0 F0 β0 σ0 ds n e σ a w) (he : ∀ t, e' t = e t ∨ e' t = .junk) : St ax G w0 F0 β0 σ0 ds n e' σ a w := by
  obtain ⟨ρ, F, β, h1, h2, h3, h4⟩ := h
  refine ⟨ρ, F, β, h1, fun t => ?_, h3, h4⟩
  rcases he t with k | k
  · rw [k]; exact h2 t
  · rw [k]; exact .junk _
theorem envL_of (e : AEnv) : ∀ (l : List Nat) (t : Nat), envL (l.map fun s => (s, e s)) t = e t ∨ envL (l.map fun s => (s, e s)) t = .junk
  | [], _ => .inr rfl
  | s :: l, t => by
    simp only [List.map_cons, envL]
    cases hb : Nat.beq t s with
    | true => have := Nat.eq_of_beq_eq_true hb; subst this; exact .inl rfl
    | false => exact envL_of e l t
theorem St.envL {e : AEnv} {σ : Store} {a : Act} {w : World} (h : St ax G w0 F0 β0 σ0 ds n e σ a w) (l : List Nat) : St ax G w0 F0 β0 σ0 ds n (envL (l.map fun s => (s, e s))) σ a w := h.env (envL_of e l)

/-- the first objects alone, counted anew -/
theorem Step.trim0 {w : World} {F : Nat → Nat → Prop} {β : Nat → Value} {σ σ1 : Store} (h : Step w0 F0 β0 [] w F β σ) (hg : ∀ i, i < σ1.length → getO σ1 i = getO σ i) : Step w0 F0 β0 [] w F β σ1 := by
  have hh : ∀ i ob, getO σ1 i = ob → Live ob → getO σ i = ob := fun i ob e hlv => by
    rw [← hg i (getO_lt (by rw [e]; intro hd; rw [hd] at hlv; exact hlv)), e]
  refine ⟨h.os, h.tape, h.output, h.size, h.fcell, h.cell, h.block, h.newF, fun i b hb => ?_, fun i b o hb => ?_, Nat.zero_le _, fun i hi => by simp at hi, fun i hi => by simp at hi⟩
  · refine h.newH i b ?_
    rw [hh i _ rfl hb.1]; exact hb
  · refine h.newM i b o ?_
    rw [hh i _ rfl hb.1.1]; exact hb
theorem St.trim {β0 : Nat → Value} {e : AEnv} {σ σ1 : Store} {a : Act} {w : World} (h : St ax G w0 F0 β0 [] ds n e σ a w) (hg : ∀ i, i < σ1.length → getO σ1 i = getO σ i) (hb : ∀ i l, i < σ1.length → getO σ1 i = .box l → ∀ k ∈ idsL l, k < σ1.length) (he : ∀ t, ∀ k ∈ idsV (e t), k < σ1.length) : St ax G w0 F0 β0 [] ds n e σ1 a w := by
  obtain ⟨ρ, F, β, h1, h2, h3, h4⟩ := h
  obtain ⟨k1, k2⟩ := h3.trim hg hb
  exact ⟨ρ, F, β, h1, fun t => k2 (h2 t) (he t), k1, h4.trim0 hg⟩

/-- marks of loops among the calls put off -/
def Marks (n0 : Nat) (ds : List Deferred) (w : World) : Prop := ∃ Ds : List Nat, ds = Ds.map (fun D => { target := .collected D, args := #[] }) ∧ Ds.Nodup ∧ ∀ D ∈ Ds, n0 ≤ D ∧ w.heap[D]? = some (.deferred (some []))
theorem Marks.nil (n0 : Nat) (w : World) : Marks n0 [] w := ⟨[], rfl, List.nodup_nil, fun _ h => by cases h⟩
theorem Marks.keep {n0 : Nat} {w w' : World} (h : Marks n0 ds w) (hk : ∀ (b : Nat) (o : Go.Obj), w.heap[b]? = some o → isLD o = true → w'.heap[b]? = some o) : Marks n0 ds w' := by
  obtain ⟨Ds, h1, h2, h3⟩ := h
  exact ⟨Ds, h1, h2, fun D hD => ⟨(h3 D hD).1, hk _ _ (h3 D hD).2 rfl⟩⟩
theorem Marks.cons {n0 : Nat} {w : World} {D : Nat} (h : Marks n0 ds w) (hD : n0 ≤ D) (hh : w.heap[D]? = some (.deferred (some []))) (hnew : ∀ Ds : List Nat, ds = Ds.map (fun D => { target := .collected D, args := #[] }) → D ∉ Ds) : Marks n0 ({ target := .collected D, args := #[] } :: ds) w := by
  obtain ⟨Ds, h1, h2, h3⟩ := h
  refine ⟨D :: Ds, by rw [h1]; rfl, List.nodup_cons.2 ⟨hnew Ds h1, h2⟩, fun E hE => ?_⟩
  rcases List.mem_cons.1 hE with rfl | hE
  · exact ⟨hD, hh⟩
  · exact h3 E hE

theorem leave_marks {P : Program} {F : Fence} {m : Nat} {fn : Func} {tmps : Array Value} {R : Ending → World → Prop} {n0 : Nat} : ∀ (Ds : List Nat) (w : World), Ds.Nodup → (∀ D ∈ Ds, n0 ≤ D ∧ w.heap[D]? = some (.deferred (some []))) →
    (∀ w', Calmly n0 w w' → ∃ v, (results fn tmps).run P w' = .ok v w' ∧ R (.returned v) w') → LeavesInM F m P fn tmps R (Ds.map fun D => { target := .collected D, args := #[] }) .returning w
  | [], w, _, _, h => h w ⟨rfl, rfl, rfl, Nat.le_refl _, fun _ _ _ => rfl, fun _ _ h _ => h, fun _ o h hl => ⟨o, h, hl⟩⟩
  | D :: Ds, w, hn, hD, h => by
    obtain ⟨h1, h2⟩ := hD D List.mem_cons_self
    have hc : Calmly n0 w (w.putObj D (.deferred none)) := Calmly.put h2 h1 rfl rfl
    obtain ⟨n1, n2⟩ := List.nodup_cons.1 hn
    refine ⟨by simp, .inl ⟨D, _, rfl, run_takeDeferred h2, leave_marks Ds _ n2 (fun E hE => ?_) fun w' hw => h w' (hc.trans hw)⟩⟩
    obtain ⟨k1, k2⟩ := hD E (List.mem_cons_of_mem _ hE)
    exact ⟨k1, (World.putObj_heap_other (fun e => n1 (by rw [← e]; exact hE))).trans k2⟩

/-- **A function that holds ranges over functions**: what its body comes to holds of every call. -/
theorem callsM {N : Nat} {fn : Func} {c : Code} {args : List V} {K : List V → Prop} (hf : ax.P.funcs[N]? = some fn) (hb : fn.body = some c) (hT : AllOk ax.P ax.tys) (hn : Nat.ble args.length fn.ntmps = true)
    (h : ∀ (G : Nat → Value) (w0 : World) (F0 : Nat → Nat → Prop) (β0 : Nat → Value) (a : Act), ErrOk ax.P ax.gs ax.ift ax.tabs G → Sim ax.gs G w0 F0 β0 [] → St ax G w0 F0 β0 [] [] fn.ntmps (fun t => args.getD t .undef) [] a w0 →
      c.wpIn Fence.wide 0 ax.P (fun ex a' w' => (ex = .normal ∨ ex = .ret) ∧ ∃ ds e' σ', Marks w0.heap.size ds w' ∧ St ax G w0 F0 β0 [] ds fn.ntmps e' σ' a' w' ∧ aresL ax e' σ' fn.results.toList fun vs => (∀ u ∈ vs, idsV u = []) ∧ K vs) a w0) : PCalls ax N args K := by
  intro G w F β vals hE hs hr
  have hn := Nat.le_of_ble_eq_true hn
  refine callsIn_wide.1 (callsIn_of_wp_marks (n := 0) hf hb trivial ?_)
  have hrel : RelD [] fn.ntmps (fun t => vals.getD t undef) { tmps := vals.toArray ++ Array.replicate (fn.ntmps - vals.toArray.size) undef, defers := [] } := by
    have hlen := hr.1
    refine ⟨by simp; omega, fun t => ?_, rfl⟩
    simp only [Array.getD_eq_getD_getElem?, List.getD_eq_getElem?_getD]
    by_cases ht : t < vals.length
    · rw [Array.getElem?_append_left (by simpa using ht)]; simp
    · rw [Array.getElem?_append_right (by simpa using ht), List.getElem?_eq_none (by omega), Array.getElem?_replicate]
      split <;> rfl
  have he : RE ax.gs G w F β [] (fun t => args.getD t .undef) (fun t => vals.getD t undef) := fun t => by
    simp only [List.getD_eq_getElem?_getD]
    cases ha : args[t]? with
    | none =>
      have : vals[t]? = none := by rw [List.getElem?_eq_none_iff] at ha ⊢; rw [← hr.1]; exact ha
      rw [this]; exact .undef
    | some u =>
      obtain ⟨x, hx, hux⟩ := hr.get ha
      rw [hx]; exact hux
  refine wpIn_mono (h G w F β _ hE hs ⟨_, F, β, hrel, he, hs, Step.refl _ _ _ _⟩) ?_
  rintro ex a' w' ⟨hex, ds, e', σ', ⟨Ds, rfl, hD1, hD2⟩, ⟨ρ', F', β', k1, k2, k3, k4⟩, hres⟩
  have fin : LeavesInM Fence.wide 0 ax.P fn a'.tmps (fun e w' => ∃ rs obs' F' β' rvals, onlyV K rs obs' ∧ e = .returned (oneOr rvals) ∧ Rl (RV ax.gs G w' F' β' (mkS1 obs')) rs rvals ∧ Sim ax.gs G w' F' β' (mkS1 obs') ∧ Step w F β (mkS []) w' F' β' (mkS1 obs')) a'.defers .returning w' := by
    rw [k1.defers]
    refine leave_marks Ds w' hD1 hD2 fun w2 hc => ?_
    obtain ⟨c1, c2⟩ := k3.calm k4 hc
    have he2 : RE ax.gs G w2 F' β' σ' e' ρ' := k2.mono ⟨fun b o hf => ⟨hf, hc.cell (k3.lt b o hf)⟩, Nat.le_refl _, fun i _ => ⟨rfl, obLe.refl _⟩⟩
    obtain ⟨a0, r0, ea⟩ := k1.split
    have hl := aresL_run (K' := fun xs => ∃ rs obs' F' β' rvals, onlyV K rs obs' ∧ oneOr xs = oneOr rvals ∧ Rl (RV ax.gs G w2 F' β' (mkS1 obs')) rs rvals ∧ Sim ax.gs G w2 F' β' (mkS1 obs') ∧ Step w F β (mkS []) w2 F' β' (mkS1 obs')) c1 he2 _ hres fun us xs hk hrx => by
      obtain ⟨hids, hK⟩ := hk
      obtain ⟨t1, t2⟩ := c1.trim (σ1 := []) (fun i hi => by simp at hi) (fun i l hi => by simp at hi)
      refine ⟨us, [], F', β', xs, hK, rfl, ?_, t1, c2.trim0 fun i hi => absurd hi (Nat.not_lt_zero i)⟩
      exact ⟨hrx.1, fun i u v hu hv => t2 (hrx.2 i u v hu hv) fun k hk => by rw [hids u (List.mem_of_getElem? hu)] at hk; cases hk⟩
    obtain ⟨v, h1, h2⟩ := results_run (P := ax.P) (R := fun v => ∃ rs obs' F' β' rvals, onlyV K rs obs' ∧ v = oneOr rvals ∧ Rl (RV ax.gs G w2 F' β' (mkS1 obs')) rs rvals ∧ Sim ax.gs G w2 F' β' (mkS1 obs') ∧ Step w F β (mkS []) w2 F' β' (mkS1 obs')) hT r0 hl
    have et : a0.tmps = a'.tmps := by rw [ea]; rfl
    rw [et] at h1
    obtain ⟨rs, obs', F2, β2, rvals, m1, m2, m3⟩ := h2
    exact ⟨v, h1, rs, obs', F2, β2, rvals, m1, by rw [m2], m3⟩
  rcases hex with rfl | rfl
  · exact fin
  · exact fin
end

/-! ### parts of code -/
def pre : Nat → Code → Code
  | 0, .seq a _ => a
  | k + 1, .seq a b => .seq a (pre k b)
  | _, c => c
def post : Nat → Code → Code
  | 0, .seq _ b => b
  | k + 1, .seq _ b => post k b
  | _, _ => .skip
def chainB : Nat → Code → Bool
  | 0, .seq _ _ => true
  | k + 1, .seq _ b => chainB k b
  | _, _ => false
def dropR (k : Nat) : Code → Code
  | .seq (.region id ops d) b => .seq (.region id ⟨ops.toList.drop k⟩ d) b
  | c => c
/-- the first operations of a region -/
def takR (k : Nat) : Code → Code
  | .region id ops d => .region id ⟨ops.toList.take k⟩ d
  | c => c
inductive Pa where | fst | snd | inn | els | asg | bod | pre (k : Nat) | post (k : Nat) | drp (k : Nat) | tak (k : Nat)
def part1 : Pa → Code → Code
  | .fst, .seq a _ => a
  | .snd, .seq _ b => b
  | .inn, .block _ b => b
  | .inn, .loop b => b
  | .inn, .scope b => b
  | .snd, .cond _ a _ => a
  | .els, .cond _ _ b => b
  | .asg, .rangeFunc _ _ a _ => a
  | .bod, .rangeFunc _ _ _ b => b
  | .pre k, c => Av.pre k c
  | .post k, c => Av.post k c
  | .drp k, c => Av.dropR k c
  | .tak k, c => Av.takR k c
  | _, c => c
def part : List Pa → Code → Code
  | [], c => c
  | p :: r, c => part r (part1 p c)

section
variable {ax : Ax} {ah : AH} {G : Nat → Value} {w0 : World} {F0 : Nat → Nat → Prop} {β0 : Nat → Value} {σ0 : Store} {ds : List Deferred} {n : Nat}

end
end Go.Av
end

/- part AvY -/
section
namespace Go.Av
open Go.Vx Go.RowKit

theorem zip_map (e : AEnv) : ∀ l : List Nat, l.zip (l.map e) = l.map fun s => (s, e s)
  | [] => rfl
  | s :: l => by simp [zip_map e l]

section
variable {ax : Ax} {ah : AH} {G : Nat → Value} {w0 : World} {F0 : Nat → Nat → Prop} {β0 : Nat → Value} {σ0 : Store} {ds : List Deferred} {n : Nat}

theorem St.size {e : AEnv} {σ : Store} {a : Act} {w : World} (h : St ax G w0 F0 β0 σ0 ds n e σ a w) : a.tmps.size = n ∧ a.defers = ds := by
  obtain ⟨_, _, _, h1, _⟩ := h; exact ⟨h1.size, h1.defers⟩
theorem St.int {e : AEnv} {σ : Store} {a : Act} {w : World} (h : St ax G w0 F0 β0 σ0 ds n e σ a w) {t : Nat} {k : IntKind} {i : Int} (he : e t = .int k i) : a.tmps.getD t undef = .int k i := by
  obtain ⟨ρ, _, _, h1, h2, _⟩ := h
  have := h2 t; rw [he] at this; rw [h1.at_, this.int_inv]
/-- a piece: what its slots hold behind it -/
theorem St.run (hT : AllOk ax.P ax.tys) (hFn : FnsOk ax.P ax.fns) (hm : ax.P.follows .mixedOrders = true) (hQ : EqOk ax) (hN : ax.T = none) (hE : ErrOk ax.P ax.gs ax.ift ax.tabs G) {F : Fence} (hF : Opn F) {m : Nat} {c : Code} {K : Exit → List V → Store → Prop} {slots : List Nat} {sl : AEnv → List V} {e : AEnv} {σ : Store} {a : Act} {w : World}
    (hsl : ∀ e, sl e = slots.map e) (hok : codeOk ax.tys (hintsOf ah) n c = true) (hc : calmC c = true) (h : acW ax ah c (fun ex e σ => K ex (sl e) σ) e σ) (hs : St ax G w0 F0 β0 σ0 ds n e σ a w) :
    c.wpIn F m ax.P (fun ex a' w' => ∃ vs σ', K ex vs σ' ∧ St ax G w0 F0 β0 σ0 ds n (Av.envL (slots.zip vs)) σ' a' w' ∧ (∀ t, t ∉ assigned (hintsOf ah) c → a'.tmps.getD t undef = a.tmps.getD t undef) ∧
      (∃ F β F' β', Sim ax.gs G w F β σ ∧ Step w0 F0 β0 σ0 w F β σ ∧ Step w F β σ w' F' β' σ')) a w := by
  obtain ⟨ρ, F1, β1, h1, h2, h3, h4⟩ := hs
  refine wpIn_mono (cW_wpIn (fns := ax.fns) hT hFn (fun _ _ h => h) hm hF c _ _ a w hok hc h1 (acW_run (fx := ax.fns) hT hE hQ c h ⟨rfl, by rw [hN]⟩ h3 h2 fun ex ρ' w' hp => hp)) ?_
  rintro ex a' w' ⟨ρ', k1, _, e', F', β', σ', k3, k4, k5, k6, k7⟩
  have hst : St ax G w0 F0 β0 σ0 ds n e' σ' a' w' := ⟨ρ', F', β', k1, k4, k5, h4.trans k6⟩
  refine ⟨sl e', σ', k3, ?_, fun t ht => ?_, F1, β1, F', β', h3, h4, k6⟩
  · rw [hsl, zip_map]; exact hst.envL slots
  · rw [k1.at_, h1.at_]; exact k7 t ht

end

theorem St.put {ax : Ax} {G : Nat → Value} {w0 : World} {F0 : Nat → Nat → Prop} {β0 : Nat → Value} {σ0 : Store} {ds : List Deferred} {n : Nat} {e : AEnv} {σ : Store} {a : Act} {w : World} (h : St ax G w0 F0 β0 σ0 ds n e σ a w) {d : Nat} (hd : d < n) (v : Value) :
    St ax G w0 F0 β0 σ0 ds n (fun t => cond (Nat.beq t d) .junk (e t)) σ (a.put (some d) v) w ∧ (a.put (some d) v).tmps.getD d undef = v ∧ ∀ t, t ≠ d → (a.put (some d) v).tmps.getD t undef = a.tmps.getD t undef := by
  obtain ⟨ρ, F, β, h1, h2, h3, h4⟩ := h
  obtain ⟨a0, r0, ea⟩ := h1.split
  have r1 := r0.put (some d) v (fun x hx => by cases hx; exact hd)
  have kd : RelD ds n (ρ.put (some d) v) (a.put (some d) v) := by rw [ea, more_put]; exact .of r1
  refine ⟨⟨_, F, β, kd, fun t => ?_, h3, h4⟩, ?_, fun t ht => ?_⟩
  · simp only [Env.put]
    cases hb : Nat.beq t d with
    | true => exact .junk _
    | false => exact h2 t
  · rw [kd.at_]; simp [Env.put]
  · rw [kd.at_, h1.at_]; exact put_ne (fun e => ht (by cases e; rfl))
theorem envL_sub {e : AEnv} : ∀ (L : List (Nat × V)), (∀ x ∈ L, e x.1 = x.2) → ∀ t, envL L t = e t ∨ envL L t = .junk
  | [], _, _ => .inr rfl
  | x :: L, h, t => by
    simp only [envL]
    cases hb : Nat.beq t x.1 with
    | true => have := Nat.eq_of_beq_eq_true hb; subst this; exact .inl (h x List.mem_cons_self).symm
    | false => exact envL_sub L (fun y hy => h y (List.mem_cons_of_mem _ hy)) t
/-- a call of a round -/
theorem yield_op {F : Fence} (hF : Opn F) {P : Program} {o : Oper} {c : Call} {x : Operand} {l : Nat} {vs : Array Value} {a : Act} {w : World} {next : Act → World → Prop} {Q : Exit → Act → World → Prop} {R : Ending → World → Prop}
    (hop : o.op = .call c) (hx : c.callee = .value x) (hv : a.eval x = .func (.yield l) #[] #[]) (hvs : c.args.map a.eval = vs) (hy : YieldAt F 0 P l vs w R)
    (hR : ∀ e w', R e w' → ∃ v, e = .returned v ∧ next (a.put o.dst v) w') : o.wpIn F 0 P a w next Q := by
  obtain ⟨fn, tmps, assign, body, h1, h2⟩ := hy
  unfold Oper.wpIn
  refine ⟨fun f _ => hF.fn f, ?_⟩
  rw [Oper.semAt_eq _ _ _ (fun c' h => by rw [hop] at h; cases h)]
  have hrun : (execOp a.eval o).run P w = .ok (.round l fn tmps assign body) w := by
    unfold execOp
    rw [hop]
    simp only [resolve, hx, hv, hvs]
    simpa [go_sem, invoke] using h1
  rw [hrun]
  refine ⟨hF.isSome, (roundIn_any hF h2).mono fun e w' he => ?_⟩
  obtain ⟨v, rfl, hn⟩ := hR e w' he
  exact hn
end Go.Av
end

/- part AvZ -/
section
namespace Go.Av
open Go.Vx Go.RowKit

abbrev Beside := World → (Nat → Nat → Prop) → (Nat → Value) → Store → Prop
/-- what a step leaves so -/
def Shut (C : Beside) : Prop := ∀ {w : World} {F : Nat → Nat → Prop} {β : Nat → Value} {σ : Store} {w' : World} {F' : Nat → Nat → Prop} {β' : Nat → Value} {σ' : Store} {gs : List Nat} {G : Nat → Value}, C w F β σ → Sim gs G w F β σ → Step w F β σ w' F' β' σ' → C w' F' β' σ'

def StC (ax : Ax) (G : Nat → Value) (C : Beside) (ds : List Deferred) (n : Nat) (e : AEnv) (σ : Store) (a : Act) (w : World) : Prop :=
  ∃ ρ F β, RelD ds n ρ a ∧ RE ax.gs G w F β σ e ρ ∧ Sim ax.gs G w F β σ ∧ C w F β σ
def SwC (ax : Ax) (G : Nat → Value) (C : Beside) (σ : Store) (w : World) : Prop := ∃ F β, Sim ax.gs G w F β σ ∧ C w F β σ

section
variable {ax : Ax} {ah : AH} {G : Nat → Value} {C : Beside} {ds : List Deferred} {n : Nat}

theorem StC.size {e : AEnv} {σ : Store} {a : Act} {w : World} (h : StC ax G C ds n e σ a w) : a.tmps.size = n ∧ a.defers = ds := by
  obtain ⟨_, _, _, h1, _⟩ := h; exact ⟨h1.size, h1.defers⟩
theorem StC.env {e e' : AEnv} {σ : Store} {a : Act} {w : World} (h : StC ax G C ds n e σ a w) (he : ∀ t, e' t = e t ∨ e' t = .junk) : StC ax G C ds n e' σ a w := by
  obtain ⟨ρ, F, β, h1, h2, h3, h4⟩ := h
  refine ⟨ρ, F, β, h1, fun t => ?_, h3, h4⟩
  rcases he t with k | k
  · rw [k]; exact h2 t
  · rw [k]; exact .junk _
theorem StC.run (hC : Shut C) (hT : AllOk ax.P ax.tys) (hFn : FnsOk ax.P ax.fns) (hm : ax.P.follows .mixedOrders = true) (hQ : EqOk ax) (hN : ax.T = none) (hE : ErrOk ax.P ax.gs ax.ift ax.tabs G) {F : Fence} (hF : Opn F) {m : Nat} {c : Code} {K : Exit → List V → Store → Prop} {slots : List Nat} {sl : AEnv → List V} {e : AEnv} {σ : Store} {a : Act} {w : World}
    (hsl : ∀ e, sl e = slots.map e) (hok : codeOk ax.tys (hintsOf ah) n c = true) (hc : calmC c = true) (h : acW ax ah c (fun ex e σ => K ex (sl e) σ) e σ) (hs : StC ax G C ds n e σ a w) :
    c.wpIn F m ax.P (fun ex a' w' => ∃ vs σ', K ex vs σ' ∧ StC ax G C ds n (Av.envL (slots.zip vs)) σ' a' w' ∧ (∀ t, t ∉ assigned (hintsOf ah) c → a'.tmps.getD t undef = a.tmps.getD t undef) ∧
      (∃ F β F' β', Sim ax.gs G w F β σ ∧ C w F β σ ∧ Step w F β σ w' F' β' σ')) a w := by
  obtain ⟨ρ, F1, β1, h1, h2, h3, h4⟩ := hs
  refine wpIn_mono (cW_wpIn (fns := ax.fns) hT hFn (fun _ _ h => h) hm hF c _ _ a w hok hc h1 (acW_run (fx := ax.fns) hT hE hQ c h ⟨rfl, by rw [hN]⟩ h3 h2 fun ex ρ' w' hp => hp)) ?_
  rintro ex a' w' ⟨ρ', k1, _, e', F', β', σ', k3, k4, k5, k6, k7⟩
  refine ⟨sl e', σ', k3, ?_, fun t ht => ?_, F1, β1, F', β', h3, h4, k6⟩
  · rw [hsl, zip_map]; exact StC.env ⟨ρ', F', β', k1, k4, k5, hC h4 h3 k6⟩ (envL_of e' slots)
  · rw [k1.at_, h1.at_]; exact k7 t ht

/-- slots and objects of one's own -/
theorem StC.of {L : List (Nat × V)} {σ : Store} {a : Act} {w : World} {F : Nat → Nat → Prop} {β : Nat → Value} (hs : a.tmps.size = n) (hd : a.defers = ds) (hL : ∀ x ∈ L, RV ax.gs G w F β σ x.2 (a.tmps.getD x.1 undef)) (h3 : Sim ax.gs G w F β σ) (h4 : C w F β σ) : StC ax G C ds n (Av.envL L) σ a w := by
  refine ⟨fun t => a.tmps.getD t undef, F, β, ⟨hs, fun _ => rfl, hd⟩, fun t => ?_, h3, h4⟩
  induction L with
  | nil => exact .junk _
  | cons x L ih =>
    simp only [Av.envL]
    cases hb : Nat.beq t x.1 with
    | true => have := Nat.eq_of_beq_eq_true hb; subst this; exact hL x List.mem_cons_self
    | false => exact ih fun x hx => hL x (List.mem_cons_of_mem _ hx)
end

def zero (σ : Store) : Store := σ.map fun o => ⟨0, o.ob⟩
theorem zero_get (σ : Store) (i : Nat) : getO (zero σ) i = getO σ i := by
  simp only [getO, zero, List.getElem?_map]
  cases σ[i]? <;> rfl
theorem zero_length (σ : Store) : (zero σ).length = σ.length := by simp [zero]

/-- the first objects, counted anew -/
theorem take_get {σ : Store} {k i : Nat} (h : i < k) : getO ((zero σ).take k) i = getO σ i := by
  rw [← zero_get σ i]
  simp only [getO, List.getElem?_take, if_pos h]
theorem take_len {σ : Store} {k i : Nat} (h : i < ((zero σ).take k).length) : i < k := by rw [List.length_take] at h; omega

/-- no object's number from k on stands in the first k boxes -/
def closedB (k : Nat) (σ : Store) : Bool := ((zero σ).take k).all fun o => match o.ob with | .box l => (idsL l).all fun j => Nat.blt j ((zero σ).take k).length | _ => true
theorem closedB_elim {k : Nat} {σ : Store} (h : closedB k σ = true) : ∀ i l, i < ((zero σ).take k).length → getO ((zero σ).take k) i = .box l → ∀ j ∈ idsL l, j < ((zero σ).take k).length := by
  intro i l hi hl j hj
  have hm : ((zero σ).take k)[i] ∈ (zero σ).take k := List.getElem_mem hi
  have := List.all_eq_true.1 h _ hm
  have e : ((zero σ).take k)[i].ob = .box l := by
    simpa [getO, List.getElem?_eq_getElem hi] using hl
  rw [e] at this
  have := List.all_eq_true.1 this j hj
  exact Nat.le_of_ble_eq_true this

/-- what comes of a state: from the beginning, and from the loop's -/
def CC (w0 : World) (F0 : Nat → Nat → Prop) (β0 : Nat → Value) (wL : World) (FL : Nat → Nat → Prop) (βL : Nat → Value) (σL : Store) : Beside :=
  fun w F β σ => Step w0 F0 β0 [] w F β σ ∧ Carry wL FL βL σL w F β σ

section
variable {gs : List Nat} {G : Nat → Value} {w0 : World} {F0 : Nat → Nat → Prop} {β0 : Nat → Value} {wL : World} {FL : Nat → Nat → Prop} {βL : Nat → Value} {σL : Store}

theorem Carry.trans {w F β σ w1 F1 β1 σ1 w2 F2 β2 σ2} (h : Carry w F β σ w1 F1 β1 σ1) (k : Carry w1 F1 β1 σ1 w2 F2 β2 σ2) : Carry w F β σ w2 F2 β2 σ2 :=
  ⟨fun b o hf => ⟨(k.f b o (h.f b o hf).1).1, (k.f b o (h.f b o hf).1).2.trans (h.f b o hf).2⟩, Nat.le_trans h.len k.len, fun i hi => by
    have h1 := h.ext i hi
    have h2 := k.ext i (Nat.lt_of_lt_of_le hi h.len)
    exact ⟨h2.1.trans h1.1, h1.2.trans h2.2⟩⟩
theorem Carry.refl (w : World) (F : Nat → Nat → Prop) (β : Nat → Value) (σ : Store) : Carry w F β σ w F β σ := ⟨fun _ _ h => ⟨h, rfl⟩, Nat.le_refl _, fun _ _ => ⟨rfl, obLe.refl _⟩⟩

theorem Marks.step {n0 : Nat} {ds : List Deferred} {w w' : World} {F F' : Nat → Nat → Prop} {β β' : Nat → Value} {σ σ' : Store} (h : Marks n0 ds w) (hs : Sim gs G w F β σ) (hst : Step w F β σ w' F' β' σ') : Marks n0 ds w' :=
  h.keep fun _ _ hb ho => hst.ld hs hb ho
theorem Marks.low {n0 N : Nat} {ds : List Deferred} {w w' : World} (h : Marks n0 ds w) (hN : w.heap.size ≤ N ∨ ∀ Ds : List Nat, ds = Ds.map (fun D => { target := .collected D, args := #[] }) → ∀ D ∈ Ds, D < N) (hc : Calmly N w w') : Marks n0 ds w' := by
  obtain ⟨Ds, h1, h2, h3⟩ := h
  refine ⟨Ds, h1, h2, fun D hD => ⟨(h3 D hD).1, ?_⟩⟩
  have hlt := (Array.getElem?_eq_some_iff.1 (h3 D hD).2).1
  rcases hN with hN | hN
  · exact (hc.low D (by omega) hlt).trans (h3 D hD).2
  · exact (hc.low D (hN Ds h1 D hD) hlt).trans (h3 D hD).2
end

theorem Sim.zero {gs : List Nat} {G : Nat → Value} {w : World} {F : Nat → Nat → Prop} {β : Nat → Value} {σ : Store} (hs : Sim gs G w F β σ) : Sim gs G w F β (zero σ) ∧ ∀ {u : V} {v : Value}, RV gs G w F β σ u v → RV gs G w F β (zero σ) u v := by
  obtain ⟨k1, k2⟩ := hs.trim (σ1 := Av.zero σ) (fun i _ => zero_get σ i) (fun i l hi hl k hk => by
    rw [zero_length]; rw [zero_get] at hl; exact box_ids hs hl k hk)
  exact ⟨k1, fun h => k2 h fun k hk => by rw [zero_length]; exact h.ids k hk⟩
theorem CC.zero {w0 : World} {F0 : Nat → Nat → Prop} {β0 : Nat → Value} {wL : World} {FL : Nat → Nat → Prop} {βL : Nat → Value} {σL : Store} {w : World} {F : Nat → Nat → Prop} {β : Nat → Value} {σ : Store} (h : CC w0 F0 β0 wL FL βL σL w F β σ) : CC w0 F0 β0 wL FL βL σL w F β (zero σ) :=
  ⟨h.1.trim0 fun i _ => zero_get σ i, h.2.f, by rw [zero_length]; exact h.2.len, fun i hi => by rw [zero_get]; exact h.2.ext i hi⟩
theorem StC.zero {ax : Ax} {G : Nat → Value} {w0 : World} {F0 : Nat → Nat → Prop} {β0 : Nat → Value} {wL : World} {FL : Nat → Nat → Prop} {βL : Nat → Value} {σL : Store} {ds : List Deferred} {n : Nat} {e : AEnv} {σ : Store} {a : Act} {w : World} (h : StC ax G (CC w0 F0 β0 wL FL βL σL) ds n e σ a w) : StC ax G (CC w0 F0 β0 wL FL βL σL) ds n e (zero σ) a w := by
  obtain ⟨ρ, F, β, h1, h2, h3, h4⟩ := h
  obtain ⟨k1, k2⟩ := h3.zero
  exact ⟨ρ, F, β, h1, fun t => k2 (h2 t), k1, h4.zero⟩
theorem St.zero {ax : Ax} {G : Nat → Value} {w0 : World} {F0 : Nat → Nat → Prop} {β0 : Nat → Value} {ds : List Deferred} {n : Nat} {e : AEnv} {σ : Store} {a : Act} {w : World} (h : St ax G w0 F0 β0 [] ds n e σ a w) : St ax G w0 F0 β0 [] ds n e (zero σ) a w := by
  obtain ⟨ρ, F, β, h1, h2, h3, h4⟩ := h
  obtain ⟨k1, k2⟩ := h3.zero
  exact ⟨ρ, F, β, h1, fun t => k2 (h2 t), k1, h4.trim0 fun i _ => zero_get σ i⟩
theorem put_get {a : Act} {d t : Nat} {v : Value} (hd : d < a.tmps.size) : (a.put (some d) v).tmps.getD t undef = if t = d then v else a.tmps.getD t undef := by
  simp only [Act.put, Array.getD_eq_getD_getElem?]
  by_cases e : t = d
  · subst e; rw [if_pos rfl, Array.getElem?_setIfInBounds_self_of_lt hd]; rfl
  · rw [if_neg e, Array.getElem?_setIfInBounds_ne (fun h => e h.symm)]
theorem put_size (a : Act) (d : Nat) (v : Value) : (a.put (some d) v).tmps.size = a.tmps.size ∧ (a.put (some d) v).defers = a.defers := ⟨by simp [Act.put], rfl⟩
end Go.Av
end

/- part VxU -/
section
namespace Go.Vx
open Go.RowKit

/-- blocks of M alone were written; M' has new ones besides -/
structure Keep (M M' : Nat → Prop) (w w' : World) : Prop where
  os : w'.os = w.os
  tape : w'.tape = w.tape
  output : w'.output = w.output
  size : w.heap.size ≤ w'.heap.size
  block : ∀ b, b < w.heap.size → ¬ M b → w'.heap[b]? = w.heap[b]?
  new : ∀ b, M' b → M b ∨ w.heap.size ≤ b
  lt : ∀ b, M' b → b < w'.heap.size
theorem Keep.trans {M M1 M2 : Nat → Prop} {w w1 w2 : World} (h : Keep M M1 w w1) (k : Keep M1 M2 w1 w2) : Keep M M2 w w2 where
  os := k.os.trans h.os
  tape := k.tape.trans h.tape
  output := k.output.trans h.output
  size := Nat.le_trans h.size k.size
  block := fun b hb hm => (k.block b (Nat.lt_of_lt_of_le hb h.size) fun h1 => (h.new b h1).elim hm fun h2 => by omega).trans (h.block b hb hm)
  new := fun b hb => (k.new b hb).elim (fun h1 => h.new b h1) fun h1 => .inr (Nat.le_trans h.size h1)
  lt := k.lt
theorem Keep.of_below {M : Nat → Prop} {w w' : World} (h : Below w.heap.size w w') (hM : ∀ b, M b → b < w.heap.size) : Keep M M w w' :=
  ⟨h.os, h.tape, h.output, h.size, fun b hb _ => h.block b hb, fun _ h => .inl h, fun b hb => Nat.lt_of_lt_of_le (hM b hb) h.size⟩
theorem Keep.put {M : Nat → Prop} {w : World} {l : Nat} (o : Obj) (hl : M l) (hM : ∀ b, M b → b < w.heap.size) : Keep M M w (w.putObj l o) :=
  ⟨rfl, rfl, rfl, by simp, fun b _ hm => World.putObj_heap_other (fun e => hm (e ▸ hl)), fun _ h => .inl h, fun b hb => by simpa using hM b hb⟩
/-- two blocks more -/
theorem Keep.more {M M' : Nat → Prop} {w w' : World} (h : Keep M M' w w') {d l : Nat} (hd : d < w.heap.size) (hl : l < w.heap.size) : Keep (fun b => M b ∨ b = d ∨ b = l) (fun b => M' b ∨ b = d ∨ b = l) w w' where
  os := h.os
  tape := h.tape
  output := h.output
  size := h.size
  block := fun b hb hm => h.block b hb fun h1 => hm (.inl h1)
  new := fun b hb => hb.elim (fun h1 => (h.new b h1).imp .inl id) fun h1 => .inl (.inr h1)
  lt := fun b hb => hb.elim (h.lt b) fun h1 => h1.elim (fun e => by subst e; exact Nat.lt_of_lt_of_le hd h.size) fun e => by subst e; exact Nat.lt_of_lt_of_le hl h.size
theorem Keep.congr {M M' N N' : Nat → Prop} {w w' : World} (h : Keep M M' w w') (h1 : ∀ b, M b ↔ N b) (h2 : ∀ b, M' b ↔ N' b) : Keep N N' w w' :=
  ⟨h.os, h.tape, h.output, h.size, fun b hb hm => h.block b hb fun k => hm ((h1 b).1 k), fun b hb => (h.new b ((h2 b).2 hb)).imp (h1 b).1 id, fun b hb => h.lt b ((h2 b).2 hb)⟩

/-- **An iterator's contract**: it hands on n rows, made on the way. -/
def Iter2 (F : Fence) (P : Program) (gf : Nat) (lb : Array Value) (n : Nat) (E : Nat → Array Value → (Nat → Prop) → World → Prop) (Pre : (Nat → Prop) → World → Prop) : Prop :=
  ∀ (l : Nat) (J Jx : Nat → (Nat → Prop) → World → Prop) (M0 : Nat → Prop) (W : World), Pre M0 W → (∀ b, M0 b → b < W.heap.size) →
    (∀ k M W1 W2, J k M W1 → Calmly W.heap.size W1 W2 → J k M W2) → (∀ k M W1 W2, Jx k M W1 → Calmly W.heap.size W1 W2 → Jx k M W2) →
    (∀ k x M W1, k < n → E k x M W1 → J k M W1 → W.heap.size ≤ W1.heap.size → (∀ b, M b → b < W1.heap.size) → YieldAt F 0 P l x W1 fun e W' => ∃ M', Keep M M' W1 W' ∧ ((e = .returned (.bool true) ∧ J (k + 1) M' W') ∨ (e = .returned (.bool false) ∧ Jx k M' W'))) →
    J 0 M0 W → CallsIn F 0 P gf (#[.func (.yield l) #[] #[]] ++ lb) W fun e W' => (∃ v, e = .returned v) ∧ ((∃ M', J n M' W') ∨ ∃ k M', k < n ∧ Jx k M' W')

/-- **The statement 'for .. := range f { .. }'.** -/
theorem range_run2 {F : Fence} {P : Program} (hF : Opn F) (hro : F.round = none) {m : Nat} {g : Operand} {ps : Array Tmp} {assign body : Code} {gf : Nat} {lb : Array Value} {n : Nat} {E : Nat → Array Value → (Nat → Prop) → World → Prop} {Pre : (Nat → Prop) → World → Prop}
    {Q : Exit → Act → World → Prop} {a : Act} {w : World} (hg : a.eval g = .func (.func gf) #[] lb) (eg : ∀ args w, (callFunc gf args).run P w = .ok (.enter gf args) w) (hps : ∀ k x M W, E k x M W → x.size = ps.size)
    (hseq : Iter2 F P gf lb n E Pre) (I : Nat → (Nat → Prop) → World → Prop) (Ix : Code → World → Prop) (Mk : Nat → Act → (Nat → Prop) → World → Prop)
    (hI : ∀ k M W W', I k M W → Calmly w.heap.size W W' → I k M W') (hIx : ∀ c W W', Ix c W → Calmly w.heap.size W W' → Ix c W') (hM : ∀ k a M W W', Mk k a M W → Calmly w.heap.size W W' → Mk k a M W')
    {M0 : Nat → Prop} (hM0 : ∀ b, M0 b → b < w.heap.size) (hPre : ∀ W, Calmly w.heap.size w W → Pre (fun b => M0 b ∨ b = w.heap.size ∨ b = w.heap.size + 1) W) (h0 : I 0 M0 w)
    (hassign : ∀ l k x M W, k < n → E k x (fun b => M b ∨ b = w.heap.size ∨ b = w.heap.size + 1) W → (∀ b, M b → b < W.heap.size) → w.heap.size ≤ W.heap.size → I k M W →
      assign.wpIn (F.inRound l) 0 P (fun ex a1 W1 => ex = .normal ∧ ∃ M1, Mk k a1 M1 W1 ∧ Keep M M1 W W1) { tmps := (ps.zip x).foldl (fun t (p, v) => t.setIfInBounds p v) a.tmps, defers := [] } W)
    (hbody : ∀ l k a1 M W1, k < n → Mk k a1 M W1 → (∀ b, M b → b < W1.heap.size) → w.heap.size ≤ W1.heap.size → body.wpIn (F.inRound l) 0 P (fun ex _ W2 => ∃ M2, Keep M M2 W1 W2 ∧ leftBy (I (k + 1) M2) Ix ex W2) a1 W1)
    (hdone : ∀ M W, I n M W → W.heap[w.heap.size]? = some (.deferred (some [])) → Q .normal { a with defers := { target := .collected w.heap.size, args := #[] } :: a.defers } W)
    (hstop : ∀ c W, Ix c W → W.heap[w.heap.size]? = some (.deferred (some [])) → c.wpIn F m P Q { a with defers := { target := .collected w.heap.size, args := #[] } :: a.defers } W) :
    (Code.rangeFunc g ps assign body).wpIn F m P Q a w := by
  refine wpIn_rangeFunc ?_
  intro fn hfn
  rw [hro]
  obtain ⟨rec, hrec⟩ : ∃ rec : LoopState → Option Code → Loop, rec = fun st pe => { state := st, pending := pe, fn, tmps := a.tmps, params := ps, assign, body, defers := w.heap.size } := ⟨_, rfl⟩
  obtain ⟨W1, hW1⟩ : ∃ W1, (w.alloc (.deferred (some []))).alloc (.loop (rec .ready none)) = W1 := ⟨_, rfl⟩
  have hs1 : W1.heap.size = w.heap.size + 2 := by rw [← hW1]; simp
  have hL1 : W1.heap[w.heap.size + 1]? = some (.loop (rec .ready none)) := by
    rw [← hW1]; have := World.alloc_heap_new (w.alloc (.deferred (some []))) (.loop (rec .ready none)); rwa [World.size_alloc] at this
  have hK1 : W1.heap[w.heap.size]? = some (.deferred (some [])) := by
    rw [← hW1]; exact (Below.heap_alloc _ _ _ (by simp)).trans (World.alloc_heap_new w _)
  have hb1 : Below w.heap.size w W1 := by
    rw [← hW1]; exact ((Below.refl _ w).alloc (Nat.le_refl _) _).alloc (by simp) _
  have hI1 : I 0 M0 W1 := hI 0 M0 w W1 h0 (.of_below hb1)
  refine ⟨w.heap.size + 1, [{ target := .collected w.heap.size, args := #[] }], W1, { target := .fn (.func gf) lb, args := #[.func (.yield (w.heap.size + 1)) #[] #[]] }, W1, gf,
    #[.func (.yield (w.heap.size + 1)) #[] #[]] ++ lb, W1, ?_, ?_, ?_, ?_, hF.isSome, ?_⟩
  · rw [← hW1, hrec]; exact run_enterLoop_outer _ _ _ _ _
  · simp only [resolve, hg]
    simp [go_sem]
  · intro f' _; exact hF.fn f'
  · simp [invoke, go_sem, eg]
  · obtain ⟨Dl, hDl⟩ : ∃ Dl : (Nat → Prop) → Nat → Prop, Dl = fun M b => M b ∨ b = w.heap.size ∨ b = w.heap.size + 1 := ⟨_, rfl⟩
    have same : ∀ {A B : World}, Calmly W1.heap.size A B → ∀ {i : Nat} {o : Obj}, i < W1.heap.size → A.heap[i]? = some o → B.heap[i]? = some o := fun h i o hi ho => (h.low i hi (Array.getElem?_eq_some_iff.1 ho).1).trans ho
    refine callsIn_any hF ((hseq (w.heap.size + 1)
      (fun k M W => ∃ M', M = Dl M' ∧ I k M' W ∧ (∀ b, M' b → b < W.heap.size) ∧ (∀ b, M' b → b ≠ w.heap.size ∧ b ≠ w.heap.size + 1) ∧ w.heap.size ≤ W.heap.size ∧ W.heap[w.heap.size + 1]? = some (.loop (rec .ready none)) ∧ W.heap[w.heap.size]? = some (.deferred (some [])))
      (fun _ _ W => ∃ c, Ix c W ∧ W.heap[w.heap.size + 1]? = some (.loop (rec .done (some c))) ∧ W.heap[w.heap.size]? = some (.deferred (some [])))
      (Dl M0) W1 (by rw [hDl]; exact hPre _ (.of_below hb1)) (fun b hb => by
        rw [hDl] at hb
        rcases hb with h | h | h
        · have := hM0 b h; omega
        · omega
        · omega)
      (fun k M A B h hc => by
        obtain ⟨M', e, h1, h2, hn, h3, h4, h5⟩ := h
        exact ⟨M', e, hI k M' A B h1 (hc.mono (by omega)), fun b hb => Nat.lt_of_lt_of_le (h2 b hb) hc.size, hn, Nat.le_trans h3 hc.size, same hc (by omega) h4, same hc (by omega) h5⟩)
      (fun k M A B h hc => by obtain ⟨c, h1, h2, h3⟩ := h; exact ⟨c, hIx c A B h1 (hc.mono (by omega)), same hc (by omega) h2, same hc (by omega) h3⟩)
      ?_ ⟨M0, rfl, hI1, fun b hb => by have := hM0 b hb; omega, fun b hb => by have := hM0 b hb; omega, by omega, hL1, hK1⟩).mono ?_)
    · rintro k x M W hkn hE ⟨M', rfl, hi, hlt', hne, hw, hl, hk⟩ hsz _
      have hlt : w.heap.size + 1 < W.heap.size := (Array.getElem?_eq_some_iff.1 hl).1
      have hy := run_yield (P := P) (args := x) hl (by rw [hrec]; exact hps _ _ _ _ hE)
      rw [hrec] at hy
      refine ⟨fn, _, assign, body, hy, roundIn_of_wpIn hfn (wpIn_mono (hassign (w.heap.size + 1) k x M' W hkn (by rw [hDl] at hE; exact hE) hlt' hw hi) ?_)⟩
      rintro ex a1 Wa ⟨rfl, Ma, hm, hkp⟩
      have hDM : ∀ {A B : Nat → Prop} {u v : World}, w.heap.size + 1 < u.heap.size → Keep A B u v → Keep (Dl A) (Dl B) u v := fun h1 h => by rw [hDl]; exact h.more (by omega) h1
      have hst : ∀ {A B : Nat → Prop} {u v : World}, Keep A B u v → (∀ b, A b → b ≠ w.heap.size ∧ b ≠ w.heap.size + 1) → w.heap.size + 1 < u.heap.size → v.heap[w.heap.size + 1]? = u.heap[w.heap.size + 1]? ∧ v.heap[w.heap.size]? = u.heap[w.heap.size]? ∧ (∀ b, B b → b ≠ w.heap.size ∧ b ≠ w.heap.size + 1) :=
        fun h h1 h2 => ⟨h.block _ h2 fun e => (h1 _ e).2 rfl, h.block _ (by omega) fun e => (h1 _ e).1 rfl, fun b hb => (h.new b hb).elim (h1 b) fun h3 => by omega⟩
      obtain ⟨e1, e2, hneA⟩ := hst hkp hne hlt
      have hla : Wa.heap[w.heap.size + 1]? = some (.loop (rec .ready none)) := e1.trans hl
      have hka : Wa.heap[w.heap.size]? = some (.deferred (some [])) := e2.trans hk
      have hlA : w.heap.size + 1 < Wa.heap.size := (Array.getElem?_eq_some_iff.1 hla).1
      refine ⟨_, run_beginRound hla (by rw [hrec]), ?_⟩
      have hl2 : (Wa.putObj (w.heap.size + 1) (.loop { rec .ready none with state := .busy })).heap[w.heap.size + 1]? = some (.loop { rec .ready none with state := .busy }) := World.putObj_heap_same hlA
      have hk2 : (Wa.putObj (w.heap.size + 1) (.loop { rec .ready none with state := .busy })).heap[w.heap.size]? = some (.deferred (some [])) := (World.putObj_heap_other (by omega)).trans hka
      have hl2s := (Array.getElem?_eq_some_iff.1 hl2).1
      have c2 : Calmly w.heap.size Wa (Wa.putObj (w.heap.size + 1) (.loop { rec .ready none with state := .busy })) := Calmly.put hla (by omega) rfl rfl
      have dlt : ∀ {A : Nat → Prop} {u : World}, (∀ b, A b → b < u.heap.size) → w.heap.size + 1 < u.heap.size → ∀ b, Dl A b → b < u.heap.size := fun h1 h2 b hb => by
        rw [hDl] at hb
        rcases hb with h | h | h
        · exact h1 b h
        · omega
        · omega
      have dl : ∀ A : Nat → Prop, Dl A (w.heap.size + 1) := fun A => by rw [hDl]; exact .inr (.inr rfl)
      have kb : Keep (Dl Ma) (Dl Ma) Wa (Wa.putObj (w.heap.size + 1) (.loop { rec .ready none with state := .busy })) := Keep.put _ (dl _) (dlt hkp.lt hlA)
      refine wpIn_mono (hbody (w.heap.size + 1) k a1 Ma _ hkn (hM k a1 Ma _ _ hm c2) (fun b hb => by simpa using hkp.lt b hb) (Nat.le_trans hw (Nat.le_trans hkp.size (by simp)))) ?_
      rintro ex a2 W3 ⟨M2, hkp3, hleft⟩
      obtain ⟨e3, e4, hneB⟩ := hst hkp3 hneA hl2s
      have hl3 : W3.heap[w.heap.size + 1]? = some (.loop { rec .ready none with state := .busy }) := e3.trans hl2
      have hk3 : W3.heap[w.heap.size]? = some (.deferred (some [])) := e4.trans hk2
      have hlC : w.heap.size + 1 < W3.heap.size := (Array.getElem?_eq_some_iff.1 hl3).1
      have fin : ∀ (jump : Option Code), (Instr.endRound (w.heap.size + 1) jump).run P W3 = .ok (.bool jump.isNone) (W3.putObj (w.heap.size + 1) (.loop (rec (if jump.isNone then .ready else .done) jump))) ∧
          (W3.putObj (w.heap.size + 1) (.loop (rec (if jump.isNone then .ready else .done) jump))).heap[w.heap.size + 1]? = some (.loop (rec (if jump.isNone then .ready else .done) jump)) ∧
          (W3.putObj (w.heap.size + 1) (.loop (rec (if jump.isNone then .ready else .done) jump))).heap[w.heap.size]? = some (.deferred (some [])) ∧
          Calmly w.heap.size W3 (W3.putObj (w.heap.size + 1) (.loop (rec (if jump.isNone then .ready else .done) jump))) := fun jump => by
        have := run_endRound (P := P) jump hl3
        rw [hrec] at this ⊢
        exact ⟨this, World.putObj_heap_same hlC, (World.putObj_heap_other (by omega)).trans hk3, Calmly.put hl3 (by omega) rfl rfl⟩
      have kall : ∀ o, Keep (Dl M') (Dl M2) W (W3.putObj (w.heap.size + 1) o) := fun o => ((hDM hlt hkp).trans kb).trans ((hDM hl2s hkp3).trans (Keep.put o (dl _) (dlt hkp3.lt hlC)))
      have hwC : w.heap.size ≤ W3.heap.size := by omega
      cases ex with
      | normal =>
        obtain ⟨hr, h4, h5, h6⟩ := fin none
        exact ⟨_, _, hr, Dl M2, kall _, .inl ⟨rfl, M2, rfl, hI _ _ _ _ hleft h6, (fun b hb => by simpa using hkp3.lt b hb), hneB, (by simpa using hwC), h4, h5⟩⟩
      | ret =>
        obtain ⟨hr, h4, h5, h6⟩ := fin (some .ret)
        exact ⟨_, _, hr, Dl M2, kall _, .inr ⟨rfl, .ret, hIx _ _ _ hleft h6, h4, h5⟩⟩
      | exit id =>
        obtain ⟨hr, h4, h5, h6⟩ := fin (some (.exit id))
        exact ⟨_, _, hr, Dl M2, kall _, .inr ⟨rfl, .exit id, hIx _ _ _ hleft h6, h4, h5⟩⟩
      | goto t => exact hleft.elim
      | panic ch => exact hleft.elim
      | outgrown => exact hleft.elim
    · rintro e W2 ⟨⟨v, rfl⟩, (⟨M', M2, rfl, hi, _, _, _, hl, hk⟩ | ⟨k, M', hlt, c, hi, hl, hk⟩)⟩
      · refine ⟨none, _, by have := run_endLoop (P := P) hl (by rw [hrec]; simp); rw [hrec] at this; exact this, ?_⟩
        exact hdone _ _ (hI _ _ _ _ hi (Calmly.put hl (by omega) rfl rfl)) ((World.putObj_heap_other (by omega)).trans hk)
      · refine ⟨some c, _, by have := run_endLoop (P := P) hl (by rw [hrec]; simp); rw [hrec] at this; exact this, ?_⟩
        exact hstop c _ (hIx _ _ _ hi (Calmly.put hl (by omega) rfl rfl)) ((World.putObj_heap_other (by omega)).trans hk)

theorem stepR_scope {P : Program} {b : Frame} {a : Act} {k : List Item} {cs : List Frame} {w : World} {c : Code} : step P (lone (b.atR a (.code (.scope c) :: k)) cs w) = .next (lone (b.atR a (.code c :: .inScope c :: k)) cs w) :=
  step_lone_go (by simp [stepG, stepG.exec, Frame.atR])
theorem stepR_inScope {P : Program} {b : Frame} {a : Act} {k : List Item} {cs : List Frame} {w : World} {c : Code} : step P (lone (b.atR a (.inScope c :: k)) cs w) = .next (lone (b.atR a k) cs w) :=
  step_lone_go (by simp [stepG, stepG.exec, Frame.atR])

theorem wpIn_scope {F : Fence} {n : Nat} {P : Program} {Q : Exit → Act → World → Prop} {a : Act} {w : World} {c : Code} (h : c.wpIn F n P Q a w) (hQ : ∀ l a w, ¬ Q (.goto l) a w) : (Code.scope c).wpIn F n P Q a w := by
  intro b k cs hro hb hr
  have h0 : (lone (b.atR a (.code (.scope c) :: k)) cs w).fenced P F := fenced_calm hb hr rfl
  obtain ⟨e, a₁, w₁, hq, harr⟩ := h b (.inScope c :: k) cs hro hb hr
  cases e with
  | normal => exact ⟨.normal, a₁, w₁, hq, .head h0 stepR_scope (StepsIn.trans harr (.one (fenced_calm hb hr rfl) stepR_inScope))⟩
  | exit id =>
    have hx : exitTo id (.inScope c :: k) = exitTo id k := by simp [exitTo]
    exact ⟨.exit id, a₁, w₁, hq, fun k' hk => .head h0 stepR_scope (harr.1 k' (by rw [hx]; exact hk)),
      fun hr' hk => let ⟨k₁, h1, h2⟩ := harr.2 hr' (by rw [hx]; exact hk); ⟨k₁, h1, .head h0 stepR_scope h2⟩⟩
  | goto l => exact (hQ _ _ _ hq).elim
  | ret => exact ⟨_, a₁, w₁, hq, .of_steps (.one h0 stepR_scope) harr⟩
  | panic ch => exact ⟨_, a₁, w₁, hq, .of_steps (.one h0 stepR_scope) harr⟩
  | outgrown => exact ⟨_, a₁, w₁, hq, .of_steps (.one h0 stepR_scope) harr⟩

/-! ### regions cut behind some operations -/
theorem set_get (l : Array Bool) (i j : Nat) (h : i < l.size) : (l.setIfInBounds i true).getD j false = if j = i then true else l.getD j false := by
  simp only [Array.getD_eq_getD_getElem?]
  by_cases e : j = i
  · subst e; rw [if_pos rfl, Array.getElem?_setIfInBounds_self_of_lt h]; rfl
  · rw [if_neg e, Array.getElem?_setIfInBounds_ne (fun h => e h.symm)]

theorem getD_tf {l : Array Bool} {j : Nat} (h : j < l.size) (b b' : Bool) : l.getD j b = l.getD j b' := by
  simp only [Array.getD_eq_getD_getElem?, Array.getElem?_eq_getElem h, Option.getD_some]
section
variable {P : Program} {F : Fence} (hF : Opn F) {n : Nat} {ds : List Deferred} {Q0 Q : Exit → Act → World → Prop} {ops : Array Oper} {k : Nat}
variable (hP : ∀ c a w, ¬ Q0 (.panic c) a w) (hO : ∀ a w, ¬ Q0 .outgrown a w)
include hF hP hO
omit hF hP hO in
theorem ready_pre (gp : ∀ i, i < k → (⟨ops.toList.take k⟩ : Array Oper)[i]? = ops[i]?) {listed listedP : Array Bool} {i : Nat} (hi : i < k) (hs : listed.size = k + 2) (hsP : listedP.size = k) (heq : ∀ j, j < k → listed.getD j false = listedP.getD j false)
    (topo : ∀ (i : Nat) o, ops[i]? = some o → ∀ e ∈ o.after, Region.binds .any e = true → e.on < i) (hr : i ∈ Region.ready .any ops listed) : i ∈ Region.ready .any ⟨ops.toList.take k⟩ listedP := by
  obtain ⟨hl, o, ho, hall⟩ := mem_ready.1 hr
  refine mem_ready.2 ⟨?_, o, by rw [gp i hi]; exact ho, fun e he hb => ?_⟩
  · rw [getD_tf (by omega) true false] at hl ⊢
    rw [← heq i hi]; exact hl
  · have := topo i o ho e he hb
    rw [← heq _ (by omega)]; exact hall e he hb
omit hF hP hO in
theorem any_step (hsz : ops.size = k + 2) (hg : ∀ (i : Nat) o, ops[i]? = some o → o.guard = none) (aft : ∀ o, ops[k + 1]? = some o → ∃ e ∈ o.after, Region.binds .any e = true ∧ e.on = k) {o1 o2 : Oper} (ho1 : ops[k]? = some o1) (ho2 : ops[k + 1]? = some o2)
    (tail : ∀ a w, Q0 .normal a w → wpListIn F n P ops Q [o1, o2] (more a ds) w) (some_ready : ∀ (listed : Array Bool), listed.size = k + 2 → ∀ (m j : Nat), m = j → j < k + 2 → listed.getD j false = false → Region.ready .any ops listed ≠ [])
    (down : ∀ j, j < k → downB ops.toList ops.toList.length k j = true) {fuel : Nat} {listed : Array Bool} {a : Act} {w : World} (hs : listed.size = k + 2) (h1 : listed.getD k false = false) (h2 : listed.getD (k + 1) false = false) (hc : Closed ops listed)
    (hall0 : (∀ j, j < k → listed.getD j false = true) → Q0 .normal a w) (hpre : ∀ i, i < k → i ∈ Region.ready .any ops listed → wpOpIn F n P ops Q i (wpAnyIn F n P .any ops Q (fuel + 1) (listed.setIfInBounds i true)) (more a ds) w) :
    wpAnyIn F n P .any ops Q (fuel + 2) listed (more a ds) w := by
  refine ⟨fun h => absurd h (some_ready listed hs k k rfl (by omega) h1), fun i hr => ?_⟩
  obtain ⟨hl, o, ho, hall⟩ := mem_ready.1 hr
  have hik2 : i < k + 2 := by have := (Array.getElem?_eq_some_iff.1 ho).1; omega
  rcases Nat.lt_or_ge i k with hi | hi
  · exact hpre i hi hr
  by_cases hk : i = k
  · subst hk
    rw [ho1] at ho
    cases ho
    have allk : ∀ j, j < i → listed.getD j false = true := fun j hj => down_listed hc _ i (down j hj) fun o ho e he hb => by rw [ho1] at ho; cases ho; exact hall e he hb
    have ht := tail a w (hall0 allk)
    unfold wpListIn at ht
    have hg1 := hg i o1 ho1
    have hg2 := hg (i + 1) o2 ho2
    unfold wpOpIn
    rw [ho1]
    dsimp only
    simp only [Region.wanted, hg1, if_true] at ht ⊢
    have hc1 := hc.set hr
    have g1 : ∀ j, (listed.setIfInBounds i true).getD j false = if j = i then true else listed.getD j false := fun j => set_get _ _ _ (by omega)
    refine Oper.wpIn_mono (fun a' w' h' => ?_) ht
    refine ⟨fun h => absurd h (some_ready _ (by simpa using hs) (i + 1) (i + 1) rfl (by omega) (by rw [g1, if_neg (by omega)]; exact h2)), fun j hj => ?_⟩
    obtain ⟨hlj, oj, hoj, hallj⟩ := mem_ready.1 hj
    have hj2 : j < i + 2 := by have := (Array.getElem?_eq_some_iff.1 hoj).1; omega
    have hji : j = i + 1 := by
      rw [getD_tf (by simpa using by omega) true false, g1] at hlj
      split at hlj
      · cases hlj
      · rename_i hne
        rcases Nat.lt_or_ge j i with h | h
        · rw [allk j h] at hlj; cases hlj
        · omega
    subst hji
    unfold wpListIn at h'
    unfold wpOpIn
    rw [ho2]
    dsimp only
    simp only [Region.wanted, hg2, if_true] at h' ⊢
    refine Oper.wpIn_mono (fun a2 w2 h2' => ?_) h'
    have hq : Q .normal a2 w2 := h2'
    have hnil : Region.ready .any ops ((listed.setIfInBounds i true).setIfInBounds (i + 1) true) = [] := by
      apply List.eq_nil_iff_forall_not_mem.2
      intro q hq'
      obtain ⟨hlq, oq, hoq, _⟩ := mem_ready.1 hq'
      have hq2 : q < i + 2 := by have := (Array.getElem?_eq_some_iff.1 hoq).1; omega
      rw [getD_tf (by simpa using by omega) true false, set_get _ _ _ (by simpa using by omega), g1] at hlq
      split at hlq
      · cases hlq
      split at hlq
      · cases hlq
      · rw [allk q (by omega)] at hlq; cases hlq
    cases fuel with
    | zero => exact ⟨hnil, hq⟩
    | succ f => exact ⟨fun _ => hq, fun q hq' => by rw [hnil] at hq'; cases hq'⟩
  · have : i = k + 1 := by omega
    subst this
    obtain ⟨e, he, hb, hon⟩ := aft o ho
    have := hall e he hb
    rw [hon, h1] at this; cases this

theorem any_split (hsz : ops.size = k + 2) (hg : ∀ (i : Nat) o, ops[i]? = some o → o.guard = none) (topo : ∀ (i : Nat) o, ops[i]? = some o → ∀ e ∈ o.after, Region.binds .any e = true → e.on < i)
    (down : ∀ j, j < k → downB ops.toList ops.toList.length k j = true) (aft : ∀ o, ops[k + 1]? = some o → ∃ e ∈ o.after, Region.binds .any e = true ∧ e.on = k) (hd : ∀ (i : Nat) (o : Oper), i < k → ops[i]? = some o → ∀ c, o.op ≠ .defer c)
    (tail : ∀ a w, Q0 .normal a w → wpListIn F n P ops Q (ops.toList.drop k) (more a ds) w) :
    ∀ (fuel : Nat) (listed listedP : Array Bool) (a : Act) (w : World), listed.size = k + 2 → listedP.size = k → (∀ j, j < k → listed.getD j false = listedP.getD j false) → listed.getD k false = false → listed.getD (k + 1) false = false → Closed ops listed →
      wpAny P .any ⟨ops.toList.take k⟩ Q0 fuel listedP a w → wpAnyIn F n P .any ops Q (fuel + 2) listed (more a ds) w := by
  have gp : ∀ i, i < k → (⟨ops.toList.take k⟩ : Array Oper)[i]? = ops[i]? := fun i hi => by
    rw [← Array.getElem?_toList, ← Array.getElem?_toList]
    show (ops.toList.take k)[i]? = _
    rw [List.getElem?_take, if_pos hi]
  have gk : ∃ o1, ops[k]? = some o1 := ⟨_, Array.getElem?_eq_getElem (by omega)⟩
  have gk1 : ∃ o2, ops[k + 1]? = some o2 := ⟨_, Array.getElem?_eq_getElem (by omega)⟩
  obtain ⟨o1, ho1⟩ := gk
  obtain ⟨o2, ho2⟩ := gk1
  have hdrop : ops.toList.drop k = [o1, o2] := by
    apply List.ext_getElem?
    intro i
    rw [List.getElem?_drop, Array.getElem?_toList]
    match i with
    | 0 => simpa using ho1
    | 1 => simpa using ho2
    | i + 2 => rw [Array.getElem?_eq_none (by omega)]; simp
  rw [hdrop] at tail
  -- something is ready as long as something isn't listed
  have some_ready : ∀ (listed : Array Bool), listed.size = k + 2 → ∀ (m j : Nat), m = j → j < k + 2 → listed.getD j false = false → Region.ready .any ops listed ≠ [] := by
    intro listed hs m
    induction m using Nat.strongRecOn with
    | _ m ih =>
      rintro j rfl hj hl hnil
      obtain ⟨o, ho⟩ : ∃ o, ops[m]? = some o := ⟨_, Array.getElem?_eq_getElem (by omega)⟩
      by_cases hall : ∀ e ∈ o.after, Region.binds .any e = true → listed.getD e.on false = true
      · have : m ∈ Region.ready .any ops listed := mem_ready.2 ⟨by rw [getD_tf (by omega) true false]; exact hl, o, ho, hall⟩
        rw [hnil] at this; cases this
      · simp only [Classical.not_forall] at hall
        obtain ⟨e, he, hb, hn⟩ := hall
        have := topo m o ho e he hb
        exact ih e.on this e.on rfl (by omega) (by simpa using hn) hnil
  intro fuel
  induction fuel with
  | zero =>
    intro listed listedP a w hs hsP heq h1 h2 hc hw
    exact any_step hsz hg aft ho1 ho2 tail some_ready down hs h1 h2 hc (fun hall => hw.2) (fun i hi hr => by
      have : i ∈ Region.ready .any ⟨ops.toList.take k⟩ listedP := ready_pre gp hi hs hsP heq topo hr
      rw [hw.1] at this; cases this)
  | succ fuel ih =>
    intro listed listedP a w hs hsP heq h1 h2 hc hw
    refine any_step hsz hg aft ho1 ho2 tail some_ready down hs h1 h2 hc (fun hall => hw.1 ?_) (fun i hi hr => ?_)
    · apply List.eq_nil_iff_forall_not_mem.2
      intro i hi
      obtain ⟨hl, o, ho, _⟩ := mem_ready.1 hi
      have hik : i < k := by
        have := (Array.getElem?_eq_some_iff.1 ho).1
        simp only [List.size_toArray, List.length_take, Array.length_toList] at this
        omega
      rw [getD_tf (by omega) true false, ← heq i hik, hall i hik] at hl
      cases hl
    · have hp : i ∈ Region.ready .any ⟨ops.toList.take k⟩ listedP := ready_pre gp hi hs hsP heq topo hr
      have hw := hw.2 i hp
      unfold wpOp at hw
      rw [gp i hi] at hw
      unfold wpOpIn
      cases ho : ops[i]? with
      | none => have := (mem_ready.1 hr).2; obtain ⟨o, ho', _⟩ := this; rw [ho] at ho'; cases ho'
      | some o =>
        rw [ho] at hw
        dsimp only at hw ⊢
        have hgo := hg i o ho
        simp only [Region.wanted, hgo, if_true] at hw ⊢
        rcases hw with hw | ⟨_, a', w', h'⟩
        · refine op_in hF hP hO (hd i o hi ho) (fun a w h => ih _ _ a w (by simpa using hs) (by simpa using hsP) (fun j hj => ?_) ?_ ?_ (hc.set hr) h) hw
          · rw [set_get _ _ _ (by omega), set_get _ _ _ (by omega), heq j hj]
          · rw [set_get _ _ _ (by omega), if_neg (by omega)]; exact h1
          · rw [set_get _ _ _ (by omega), if_neg (by omega)]; exact h2
        · exact absurd h' (hO _ _)

theorem list_split {opsA : Array Oper} {rest : List Oper} (tail : ∀ a w, Q0 .normal a w → wpListIn F n P ops Q rest (more a ds) w) : ∀ (l : List Oper) (a : Act) (w : World), (∀ o ∈ l, ∀ c, o.op ≠ .defer c) → (∀ o ∈ l, o.guard = none) → wpList P opsA Q0 l a w → wpListIn F n P ops Q (l ++ rest) (more a ds) w
  | [], a, w, _, _, h => tail _ _ h
  | o :: r, a, w, hd, hg, h => by
    unfold wpList at h
    show wpListIn F n P ops Q (o :: (r ++ rest)) (more a ds) w
    unfold wpListIn
    have hgo := hg o List.mem_cons_self
    simp only [Region.wanted, hgo, if_true] at h ⊢
    rcases h with h | ⟨_, a', w', h'⟩
    · exact op_in hF hP hO (hd o List.mem_cons_self) (fun a w h => list_split tail r a w (fun o ho => hd o (List.mem_cons_of_mem _ ho)) (fun o ho => hg o (List.mem_cons_of_mem _ ho)) h) h
    · exact absurd h' (hO _ _)
end

/-- is a region that draws cut two operations ahead of its end, its last but one waiting for all others? -/
def splitOk (ops : Array Oper) (k : Nat) : Bool :=
  Nat.beq ops.size (k + 2) && (ops.toList.all fun o => o.guard.isNone) && ((List.range ops.size).all fun i => match ops[i]? with | some o => o.after.toList.all fun e => !(Region.binds .any e) || Nat.blt e.on i | none => true) &&
    ((List.range k).all fun j => downB ops.toList ops.toList.length k j) && (match ops[k + 1]? with | some o => o.after.toList.any fun e => Region.binds .any e && Nat.beq e.on k | none => true)
structure SplitOk (ops : Array Oper) (k : Nat) : Prop where
  size : ops.size = k + 2
  guard : ∀ (i : Nat) o, ops[i]? = some o → o.guard = none
  topo : ∀ (i : Nat) o, ops[i]? = some o → ∀ e ∈ o.after, Region.binds .any e = true → e.on < i
  down : ∀ j, j < k → downB ops.toList ops.toList.length k j = true
  aft : ∀ o, ops[k + 1]? = some o → ∃ e ∈ o.after, Region.binds .any e = true ∧ e.on = k
theorem splitOk_elim {ops : Array Oper} {k : Nat} (h : splitOk ops k = true) : SplitOk ops k := by
  unfold splitOk at h
  simp only [Bool.and_eq_true] at h
  obtain ⟨⟨⟨⟨h1, h2⟩, h3⟩, h4⟩, h5⟩ := h
  refine ⟨Nat.eq_of_beq_eq_true h1, fun i o ho => ?_, fun i o ho e he hb => ?_, fun j hj => List.all_eq_true.1 h4 j (List.mem_range.2 hj), fun o ho => ?_⟩
  · have := List.all_eq_true.1 h2 o (List.mem_of_getElem? (i := i) (by rw [Array.getElem?_toList]; exact ho))
    cases hg : o.guard with
    | none => rfl
    | some _ => rw [hg] at this; cases this
  · have := List.all_eq_true.1 h3 i (List.mem_range.2 (Array.getElem?_eq_some_iff.1 ho).1)
    rw [ho] at this
    have := List.all_eq_true.1 this e (by simpa using he)
    rw [hb] at this
    simpa [Nat.blt_eq] using this
  · rw [ho] at h5
    obtain ⟨e, he, hb⟩ := List.any_eq_true.1 h5
    simp only [Bool.and_eq_true] at hb
    exact ⟨e, by simpa using he, hb.1, Nat.eq_of_beq_eq_true hb.2⟩

section
variable {P : Program} {tys : Tys} {fns : Fx} {hs : Hints}
theorem cW_split (hT : AllOk P tys) (hFn : FnsOk P fns.l) (hN : ∀ c w, ¬ fns.thr c w) (hm : P.follows .mixedOrders = true) {F : Fence} (hF : Opn F) {m n : Nat} {ds : List Deferred} {id : Nat} {ops : Array Oper} {k : Nat} (hS : SplitOk ops k) {Q0 : Exit → Env → World → Prop} {Q : Exit → Act → World → Prop} {e : Env} {a : Act} {w : World}
    (hok : codeOk tys hs n (.region id ⟨ops.toList.take k⟩ true) = true) (hcm : calmC (.region id ⟨ops.toList.take k⟩ true) = true) (hr : RelD ds n e a) (h : cW P tys fns hs (.region id ⟨ops.toList.take k⟩ true) Q0 e w)
    (tail : ∀ e' a' w', RelD ds n e' a' → Frm (assigned hs (.region id ⟨ops.toList.take k⟩ true)) e e' → Q0 .normal e' w' → wpListIn F m P ops Q (ops.toList.drop k) a' w') : (Code.region id ops true).wpIn F m P Q a w := by
  simp only [cW] at h
  simp only [codeOk, Bool.and_eq_true] at hok
  simp only [calmC] at hcm
  obtain ⟨hd, hdraw⟩ := hok
  obtain ⟨a0, hr0, rfl⟩ := hr.split
  have hcm1 := calm_elim hcm
  simp only [cond_true] at h hdraw
  split at h
  · rename_i l hl
    rw [hl] at hdraw
    simp only [Bool.and_eq_true] at hdraw
    obtain ⟨⟨hlen, hsel⟩, hdo⟩ := hdraw
    have hlen := Nat.le_of_ble_eq_true hlen
    have hd' : ∀ (i : Nat) (o : Oper), (⟨ops.toList.take k⟩ : Array Oper)[i]? = some o → ∀ d, o.dst = some d → d < n ∧ d ∈ dstsOf ⟨ops.toList.take k⟩ := fun i o ho => dsts_lt hd o (List.mem_of_getElem? (i := i) (by rw [← Array.getElem?_toList] at ho; exact ho))
    have key := drawW_wp (Q := fun ex a' w' => ex = .normal ∧ ∃ e', Rel n e' a' ∧ Frm (dstsOf ⟨ops.toList.take k⟩) e e' ∧ Q0 .normal e' w') hT hFn hsel (fun c _ _ _ _ _ hc => (hN _ _ hc).elim) (fun _ _ _ _ _ _ hp => by simp at hp) hd' l (⟨ops.toList.take k⟩ : Array Oper).size (Array.replicate (⟨ops.toList.take k⟩ : Array Oper).size false) [] e a0 w.drew Closed.start hr0 (Frm.refl _ _) (fun e' a' w' h1 h2 h3 => ⟨rfl, e', h1, h2, h3⟩) h
    have hps : (⟨ops.toList.take k⟩ : Array Oper).size = k := by
      simp only [List.size_toArray, List.length_take, Array.length_toList]; have := hS.size; omega
    have hz : ∀ (z j : Nat), (Array.replicate z false).getD j false = false := fun z j => by rw [Array.getD_eq_getD_getElem?, Array.getElem?_replicate]; split <;> rfl
    have := any_split hF (n := m) (ds := ds) (Q := Q) (fun _ _ _ hp => by simp at hp) (fun _ _ hp => by simp at hp) hS.size hS.guard hS.topo hS.down hS.aft (fun i o hi ho => hcm1 o (List.mem_of_getElem? (i := i) (by
      show (ops.toList.take k)[i]? = _
      rw [List.getElem?_take, if_pos hi, Array.getElem?_toList]; exact ho))) (fun a' w' h2 => by
      obtain ⟨_, e', k1, k2, k3⟩ := h2
      exact tail e' _ w' (.of k1) k2 k3) _ (Array.replicate ops.size false) _ a0 _ (by rw [Array.size_replicate]; exact hS.size) (by rw [Array.size_replicate]; exact hps) (fun j _ => by rw [hz, hz]) (hz _ _) (hz _ _) Closed.start (wpAny_of_O _ _ _ _ (key.1 hdo hlen))
    rw [hps] at this
    refine wpIn_region_any hm ?_
    rw [hS.size]
    rw [hS.size] at this
    exact this
  · exact h.elim

theorem cW_cut (hT : AllOk P tys) (hFn : FnsOk P fns.l) (hN : ∀ c w, ¬ fns.thr c w) {F : Fence} (hF : Opn F) {m n : Nat} {ds : List Deferred} {id : Nat} {ops : Array Oper} {k : Nat} (hg : (ops.toList.all fun o => o.guard.isNone) = true) {Q0 : Exit → Env → World → Prop} {Q : Exit → Act → World → Prop} {e : Env} {a : Act} {w : World}
    (hok : codeOk tys hs n (.region id ⟨ops.toList.take k⟩ false) = true) (hcm : calmC (.region id ⟨ops.toList.take k⟩ false) = true) (hr : RelD ds n e a) (h : cW P tys fns hs (.region id ⟨ops.toList.take k⟩ false) Q0 e w)
    (tail : ∀ e' a' w', RelD ds n e' a' → Frm (assigned hs (.region id ⟨ops.toList.take k⟩ false)) e e' → Q0 .normal e' w' → wpListIn F m P ops Q (ops.toList.drop k) a' w') : (Code.region id ops false).wpIn F m P Q a w := by
  simp only [cW, cond_false] at h
  simp only [codeOk, Bool.and_eq_true] at hok
  simp only [calmC] at hcm
  obtain ⟨hd, _⟩ := hok
  obtain ⟨a0, hr0, rfl⟩ := hr.split
  have hcm1 := calm_elim hcm
  have h1 := regW_wp (Q := fun ex a' w' => ex = .normal ∧ ∃ e', Rel n e' a' ∧ Frm (dstsOf ⟨ops.toList.take k⟩) e e' ∧ Q0 .normal e' w') hT hFn (fun c _ _ _ _ _ hc => (hN _ _ hc).elim) (ops.toList.take k) e a0 w (dsts_lt hd) hr0 (Frm.refl _ _) (fun e' a' w' h1 h2 h3 => ⟨rfl, e', h1, h2, h3⟩) h
  refine wpIn_region_list ?_
  have := list_split hF (n := m) (ds := ds) (Q := Q) (ops := ops) (rest := ops.toList.drop k) (fun _ _ _ hp => by simp at hp) (fun _ _ hp => by simp at hp) (fun a' w' h2 => by
    obtain ⟨_, e', k1, k2, k3⟩ := h2
    exact tail e' _ w' (.of k1) k2 k3) (ops.toList.take k) a0 w hcm1 (fun o ho => by
    have := List.all_eq_true.1 hg o (List.mem_of_mem_take ho)
    cases hgo : o.guard with
    | none => rfl
    | some _ => rw [hgo] at this; cases this) h1
  rwa [List.take_append_drop] at this
end
end Go.Vx
end

/- part AwA -/
section
namespace Go.Av
open Go.Vx Go.RowKit

/-- what stands free of M; its data and objects lie in Z -/
structure CMs (gs : List Nat) (G : Nat → Value) (Z : Nat → Nat → Prop) (M : Nat → Prop) (w : World) (F : Nat → Nat → Prop) (β : Nat → Value) (σ : Store) : Prop where
  f : ∀ b o, F b o → ¬ M b
  h : ∀ i b, Has β i (getO σ i) b → ¬ M b
  lt : ∀ b, M b → b < w.heap.size
  gl : (∀ g ∈ gs, ∀ t b, G g = .iface t (.pointer (some b)) → ¬ M b.block) ∧ ∀ g cs, G g = .agg cs → ¬ M g
  z : (∀ b o, F b o → Z b o) ∧ (∀ i b, Has β i (getO σ i) b → ∀ o, Z b o) ∧ ∀ b o, w.heap.size ≤ b → Z b o

section
variable {gs : List Nat} {G : Nat → Value} {Z : Nat → Nat → Prop} {M M' : Nat → Prop} {w w' : World} {F F' : Nat → Nat → Prop} {β β' : Nat → Value} {σ σ' : Store}

theorem CMs.step (h : CMs gs G Z M w F β σ) (hst : Step w F β σ w' F' β' σ') : CMs gs G Z M w' F' β' σ' := by
  refine ⟨fun b o hf hm => ?_, fun i b hb hm => ?_, fun b hb => Nat.lt_of_lt_of_le (h.lt b hb) hst.size, h.gl, fun b o hf => ?_, fun i b hb o => ?_, fun b o hb => h.z.2.2 b o (Nat.le_trans hst.size hb)⟩
  · rcases hst.newF b o hf with k | k | ⟨i, k⟩
    · exact h.f b o k hm
    · have := h.lt b hm; omega
    · exact h.h i b k.1 hm
  · rcases hst.newH i b hb with k | ⟨j, k⟩
    · have := h.lt b hm; omega
    · exact h.h j b k hm
  · rcases hst.newF b o hf with k | k | ⟨i, k⟩
    · exact h.z.1 b o k
    · exact h.z.2.2 b o k
    · exact h.z.2.1 i b k.1 o
  · rcases hst.newH i b hb with k | ⟨j, k⟩
    · exact h.z.2.2 b o k
    · exact h.z.2.1 j b k o

/-- a world whose blocks of these objects and data are the same -/
theorem Sim.same (h : Sim gs G w F β σ) (hs : w.heap.size ≤ w'.heap.size) (hF : ∀ b o, F b o → w'.heap[b]? = w.heap[b]?) (hH : ∀ i b, Has β i (getO σ i) b → w'.heap[b]? = w.heap[b]?)
    (hg : ∀ g ∈ gs, ∀ t b, G g = .iface t (.pointer (some b)) → w'.heap[b.block]? = w.heap[b.block]?) (ht : ∀ g cs, G g = .agg cs → w'.heap[g]? = w.heap[g]?) : Sim gs G w' F β σ := by
  have hcell : ∀ b o, F b o → w'.cell? ⟨b, o, none⟩ = w.cell? ⟨b, o, none⟩ := fun b o hf => by simp only [World.cell?, hF b o hf]
  have hcar : Carry w F β σ w' F β σ := ⟨fun b o hf => ⟨hf, hcell b o hf⟩, Nat.le_refl _, fun i _ => ⟨rfl, obLe.refl _⟩⟩
  refine ⟨fun b o hf => Nat.lt_of_lt_of_le (h.lt b o hf) hs, fun g hgs => ?_, fun i => ?_, fun g cs e => ?_, h.sep, h.dis⟩
  · obtain ⟨h1, h2, h3, t, b, h4, h5, h6, h7⟩ := h.glob g hgs
    refine ⟨(hcell g 0 h2).trans h1, h2, h3, t, b, h4, Nat.lt_of_lt_of_le h5 hs, ?_, h7⟩
    obtain ⟨cs, t', e⟩ := h6
    exact ⟨cs, t', (hg g hgs t b h4).trans e⟩
  · cases hgo : getO σ i with
    | dead => trivial
    | _ => exact hgo ▸ (h.obj i).keep hcar rfl fun b hv => hH i b ⟨by rw [hgo]; trivial, hv⟩
  · obtain ⟨h1, ⟨t, p, h2⟩, h3⟩ := h.tab g cs e
    exact ⟨Nat.lt_of_lt_of_le h1 hs, ⟨t, p, (ht g cs e).trans h2⟩, h3⟩

theorem Sim.keep (h : Sim gs G w F β σ) (hc : CMs gs G Z M w F β σ) (hk : Keep M M' w w') : Sim gs G w' F β σ ∧ CMs gs G Z M' w' F β σ ∧ (∀ b o, F b o → w'.cell? ⟨b, o, none⟩ = w.cell? ⟨b, o, none⟩) := by
  have hF : ∀ b o, F b o → w'.heap[b]? = w.heap[b]? := fun b o hf => hk.block b (h.lt b o hf) (hc.f b o hf)
  have hH : ∀ i b, Has β i (getO σ i) b → w'.heap[b]? = w.heap[b]? := fun i b hb => hk.block b (h.has_lt hb) (hc.h i b hb)
  refine ⟨h.same hk.size hF hH (fun g hg t b e => ?_) (fun g cs e => hk.block g (h.tab g cs e).1 (hc.gl.2 g cs e)), ⟨fun b o hf hm => ?_, fun i b hb hm => ?_, hk.lt, ⟨fun g hg t b e hm => ?_, fun g cs e hm => ?_⟩, hc.z.1, hc.z.2.1, fun b o hb => hc.z.2.2 b o (Nat.le_trans hk.size hb)⟩, fun b o hf => by simp only [World.cell?, hF b o hf]⟩
  · obtain ⟨_, _, _, t', b', h4, h5, _⟩ := h.glob g hg
    rw [h4] at e; cases e
    exact hk.block _ h5 (hc.gl.1 g hg _ _ h4)
  · rcases hk.new b hm with k | k
    · exact hc.f b o hf k
    · have := h.lt b o hf; omega
  · rcases hk.new b hm with k | k
    · exact hc.h i b hb k
    · have := h.has_lt hb; omega
  · obtain ⟨_, _, _, t', b', h4, h5, _⟩ := h.glob g hg
    have h4' := h4
    rw [e] at h4'; cases h4'
    rcases hk.new _ hm with k | k
    · exact hc.gl.1 g hg _ _ h4 k
    · omega
  · rcases hk.new g hm with k | k
    · exact hc.gl.2 g cs e k
    · have := (h.tab g cs e).1; omega

theorem Sim.calm0 (h : Sim gs G w F β σ) {N : Nat} (hc : Calmly N w w') : Sim gs G w' F β σ ∧ (∀ b o, F b o → w'.cell? ⟨b, o, none⟩ = w.cell? ⟨b, o, none⟩) := by
  have hcell : ∀ b o, b < w.heap.size → w'.cell? ⟨b, o, none⟩ = w.cell? ⟨b, o, none⟩ := fun b o hlt => hc.cell hlt
  have hcar : Carry w F β σ w' F β σ := ⟨fun b o hf => ⟨hf, hcell b o (h.lt b o hf)⟩, Nat.le_refl _, fun i _ => ⟨rfl, obLe.refl _⟩⟩
  have hblk : ∀ i b, Has β i (getO σ i) b → w'.heap[b]? = w.heap[b]? := fun i b hb => by
    obtain ⟨o, h1, h2⟩ := h.has_obj hb
    rw [h1]; exact hc.same b o h1 h2
  refine ⟨⟨fun b o hf => Nat.lt_of_lt_of_le (h.lt b o hf) hc.size, fun g hg => ?_, fun i => ?_, fun g cs hg => ?_, h.sep, h.dis⟩, fun b o hf => hcell b o (h.lt b o hf)⟩
  · obtain ⟨h1, h2, h3, t, b, h4, h5, h6, h7⟩ := h.glob g hg
    refine ⟨(hcell g 0 (h.lt g 0 h2)).trans h1, h2, h3, t, b, h4, Nat.lt_of_lt_of_le h5 hc.size, ?_, h7⟩
    obtain ⟨cs, t', e⟩ := h6
    exact ⟨cs, t', hc.same _ _ e rfl⟩
  · cases hg : getO σ i with
    | dead => trivial
    | _ => exact hg ▸ (h.obj i).keep hcar rfl fun b hv => hblk i b ⟨by rw [hg]; trivial, hv⟩
  · obtain ⟨h1, ⟨t, p, h2⟩, h3⟩ := h.tab g cs hg
    exact ⟨Nat.lt_of_lt_of_le h1 hc.size, ⟨t, p, hc.same _ _ h2 rfl⟩, h3⟩
theorem CMs.calm (h : CMs gs G Z M w F β σ) {N : Nat} (hc : Calmly N w w') : CMs gs G Z M w' F β σ := ⟨h.f, h.h, fun b hb => Nat.lt_of_lt_of_le (h.lt b hb) hc.size, h.gl, h.z.1, h.z.2.1, fun b o hb => h.z.2.2 b o (Nat.le_trans hc.size hb)⟩

/-- more data beside -/
theorem Sim.join (h : Sim gs G w F β σ) {Fx : Nat → Nat → Prop} (hl : ∀ b o, Fx b o → b < w.heap.size) (hd : ∀ i b o, Mut β i (getO σ i) b o → ¬ Fx b o) : Sim gs G w (fun b o => F b o ∨ Fx b o) β σ := by
  have hcar : Carry w F β σ w (fun b o => F b o ∨ Fx b o) β σ := ⟨fun b o hf => ⟨.inl hf, rfl⟩, Nat.le_refl _, fun i _ => ⟨rfl, obLe.refl _⟩⟩
  refine ⟨fun b o hf => hf.elim (h.lt b o) (hl b o), fun g hg => ?_, fun i => ?_, h.tab, h.sep, fun i b o hm hf => hf.elim (h.dis i b o hm) (hd i b o hm)⟩
  · obtain ⟨h1, h2, h3⟩ := h.glob g hg
    exact ⟨h1, .inl h2, h3⟩
  · cases hgo : getO σ i with
    | dead => trivial
    | _ => exact hgo ▸ (h.obj i).keep hcar rfl fun b hv => rfl

end

section
variable {ax : Ax} {ah : AH} {G : Nat → Value} {C : Beside} {ds : List Deferred} {n : Nat}

theorem StC.split (hC : Shut C) (hT : AllOk ax.P ax.tys) (hFn : FnsOk ax.P ax.fns) (hm : ax.P.follows .mixedOrders = true) (hQ : EqOk ax) (hN : ax.T = none) (hE : ErrOk ax.P ax.gs ax.ift ax.tabs G) {F : Fence} (hF : Opn F) {m : Nat} {id : Nat} {ops : Array Oper} {k : Nat} (hS : splitOk ops k = true) {K : List V → Store → Prop} {Q : Exit → Act → World → Prop} {slots : List Nat} {sl : AEnv → List V} {e : AEnv} {σ : Store} {a : Act} {w : World}
    (hsl : ∀ e, sl e = slots.map e) (hok : codeOk ax.tys (hintsOf ah) n (.region id ⟨ops.toList.take k⟩ true) = true) (hc : calmC (.region id ⟨ops.toList.take k⟩ true) = true) (h : acW ax ah (.region id ⟨ops.toList.take k⟩ true) (fun ex e σ => ex = .normal ∧ K (sl e) σ) e σ) (hs : StC ax G C ds n e σ a w)
    (tail : ∀ vs σ' a' w', K vs σ' → StC ax G C ds n (Av.envL (slots.zip vs)) σ' a' w' → (∃ F β F' β', Sim ax.gs G w F β σ ∧ C w F β σ ∧ Step w F β σ w' F' β' σ') → wpListIn F m ax.P ops Q (ops.toList.drop k) a' w') : (Code.region id ops true).wpIn F m ax.P Q a w := by
  obtain ⟨ρ, F1, β1, h1, h2, h3, h4⟩ := hs
  refine cW_split (fns := ax.fns) hT hFn (fun _ _ h => h) hm hF (splitOk_elim hS) hok hc h1 (acW_run (fx := ax.fns) hT hE hQ _ h ⟨rfl, by rw [hN]⟩ h3 h2 fun ex ρ' w' hp => hp) ?_
  rintro ρ' a' w' k1 _ ⟨e', F', β', σ', k3, k4, k5, k6, k7⟩
  exact tail (sl e') σ' a' w' k3.2 (by rw [hsl, zip_map]; exact StC.env ⟨ρ', F', β', k1, k4, k5, hC h4 h3 k6⟩ (envL_of e' slots)) ⟨F1, β1, F', β', h3, h4, k6⟩

theorem StC.cut (hC : Shut C) (hT : AllOk ax.P ax.tys) (hFn : FnsOk ax.P ax.fns) (hQ : EqOk ax) (hN : ax.T = none) (hE : ErrOk ax.P ax.gs ax.ift ax.tabs G) {F : Fence} (hF : Opn F) {m : Nat} {id : Nat} {ops : Array Oper} {k : Nat} (hS : (ops.toList.all fun o => o.guard.isNone) = true) {K : List V → Store → Prop} {Q : Exit → Act → World → Prop} {slots : List Nat} {sl : AEnv → List V} {e : AEnv} {σ : Store} {a : Act} {w : World}
    (hsl : ∀ e, sl e = slots.map e) (hok : codeOk ax.tys (hintsOf ah) n (.region id ⟨ops.toList.take k⟩ false) = true) (hc : calmC (.region id ⟨ops.toList.take k⟩ false) = true) (h : acW ax ah (.region id ⟨ops.toList.take k⟩ false) (fun ex e σ => ex = .normal ∧ K (sl e) σ) e σ) (hs : StC ax G C ds n e σ a w)
    (tail : ∀ vs σ' a' w', K vs σ' → StC ax G C ds n (Av.envL (slots.zip vs)) σ' a' w' → (∃ F β F' β', Sim ax.gs G w F β σ ∧ C w F β σ ∧ Step w F β σ w' F' β' σ') → wpListIn F m ax.P ops Q (ops.toList.drop k) a' w') : (Code.region id ops false).wpIn F m ax.P Q a w := by
  obtain ⟨ρ, F1, β1, h1, h2, h3, h4⟩ := hs
  refine cW_cut (fns := ax.fns) hT hFn (fun _ _ h => h) hF hS hok hc h1 (acW_run (fx := ax.fns) hT hE hQ _ h ⟨rfl, by rw [hN]⟩ h3 h2 fun ex ρ' w' hp => hp) ?_
  rintro ρ' a' w' k1 _ ⟨e', F', β', σ', k3, k4, k5, k6, k7⟩
  exact tail (sl e') σ' a' w' k3.2 (by rw [hsl, zip_map]; exact StC.env ⟨ρ', F', β', k1, k4, k5, hC h4 h3 k6⟩ (envL_of e' slots)) ⟨F1, β1, F', β', h3, h4, k6⟩
end

/-- free of M, and from a loop's beginning on -/
def CR (gs : List Nat) (G : Nat → Value) (Z : Nat → Nat → Prop) (M : Nat → Prop) (wL : World) (FL : Nat → Nat → Prop) (βL : Nat → Value) (σL : Store) : Beside := fun w F β σ => CMs gs G Z M w F β σ ∧ Carry wL FL βL σL w F β σ
theorem ver_same {σ σ' : Store} (h : (σ'.map (·.ver)).take σ.length = σ.map (·.ver)) : ∀ i, i < σ.length → verO σ' i = verO σ i := by
  intro i hi
  have h1 : ((σ'.map (·.ver)).take σ.length)[i]? = (σ.map (·.ver))[i]? := by rw [h]
  rw [List.getElem?_take, if_pos hi, List.getElem?_map, List.getElem?_map, List.getElem?_eq_getElem hi] at h1
  simp only [verO]
  cases h2 : σ'[i]? with
  | none => rw [h2] at h1; simp at h1
  | some o => rw [h2] at h1; simp at h1; simp [List.getElem?_eq_getElem hi, h1]

section
variable {ax : Ax} {G : Nat → Value} {Z : Nat → Nat → Prop} {M M' : Nat → Prop} {wL : World} {FL : Nat → Nat → Prop} {βL : Nat → Value} {σL : Store} {ds : List Deferred} {n : Nat} {e : AEnv} {σ : Store} {a : Act} {w w' : World}
theorem CR.shut {gs : List Nat} : Shut (CR gs G Z M wL FL βL σL) := fun h _ hs => ⟨h.1.step hs, h.2.trans hs.carry⟩
theorem StC.keepR (h : StC ax G (CR ax.gs G Z M wL FL βL σL) ds n e σ a w) (hk : Keep M M' w w') : StC ax G (CR ax.gs G Z M' wL FL βL σL) ds n e σ a w' := by
  obtain ⟨ρ, F, β, h1, h2, h3, h4, h5⟩ := h
  obtain ⟨k1, k2, k3⟩ := h3.keep h4 hk
  have hcar : Carry w F β σ w' F β σ := ⟨fun b o hf => ⟨hf, k3 b o hf⟩, Nat.le_refl _, fun i _ => ⟨rfl, obLe.refl _⟩⟩
  exact ⟨ρ, F, β, h1, h2.mono hcar, k1, k2, h5.trans hcar⟩
theorem StC.calmR (h : StC ax G (CR ax.gs G Z M wL FL βL σL) ds n e σ a w) {N : Nat} (hc : Calmly N w w') : StC ax G (CR ax.gs G Z M wL FL βL σL) ds n e σ a w' := by
  obtain ⟨ρ, F, β, h1, h2, h3, h4, h5⟩ := h
  obtain ⟨k1, k3⟩ := h3.calm0 hc
  have hcar : Carry w F β σ w' F β σ := ⟨fun b o hf => ⟨hf, k3 b o hf⟩, Nat.le_refl _, fun i _ => ⟨rfl, obLe.refl _⟩⟩
  exact ⟨ρ, F, β, h1, h2.mono hcar, k1, h4.calm hc, h5.trans hcar⟩
theorem take_has {β : Nat → Value} {k i b : Nat} (h : Has β i (getO ((zero σ).take k) i) b) : Has β i (getO σ i) b := by
  have hi : i < ((zero σ).take k).length := getO_lt fun e => by rw [e] at h; exact no_has_dead h
  rwa [take_get (take_len hi)] at h
theorem CR.take {gs : List Nat} {F : Nat → Nat → Prop} {β : Nat → Value} (h : CR gs G Z M wL FL βL σL w F β σ) (hs : Sim gs G w F β σ) {k : Nat} (hk : closedB k σ = true) (hL : σL.length ≤ ((zero σ).take k).length) :
    Sim gs G w F β ((zero σ).take k) ∧ CR gs G Z M wL FL βL σL w F β ((zero σ).take k) ∧ ∀ {u : V} {v : Value}, RV gs G w F β σ u v → (∀ i ∈ idsV u, i < ((zero σ).take k).length) → RV gs G w F β ((zero σ).take k) u v := by
  obtain ⟨k1, k2⟩ := hs.trim (σ1 := (zero σ).take k) (fun i hi => take_get (take_len hi)) (closedB_elim hk)
  refine ⟨k1, ⟨⟨h.1.f, fun i b hb => h.1.h i b (take_has hb), h.1.lt, h.1.gl, h.1.z.1, fun i b hb => h.1.z.2.1 i b (take_has hb), h.1.z.2.2⟩, h.2.f, hL, fun i hi => ?_⟩, k2⟩
  have e := h.2.ext i hi
  rw [take_get (take_len (Nat.lt_of_lt_of_le hi hL))]
  exact e
theorem StC.takeR {L : List (Nat × V)} (h : StC ax G (CR ax.gs G Z M wL FL βL σL) ds n (envL L) σ a w) (k : Nat) (hk : closedB k σ = true) (hL : Nat.ble σL.length ((Av.zero σ).take k).length = true) (he : (L.all fun x => (idsV x.2).all fun i => Nat.blt i ((Av.zero σ).take k).length) = true) : StC ax G (CR ax.gs G Z M wL FL βL σL) ds n (envL L) ((Av.zero σ).take k) a w := by
  obtain ⟨ρ, F, β, h1, h2, h3, h4⟩ := h
  obtain ⟨k1, k2, k3⟩ := h4.take h3 hk (Nat.le_of_ble_eq_true hL)
  refine ⟨ρ, F, β, h1, fun t => k3 (h2 t) ?_, k1, k2⟩
  clear h1 h2 h3 h4 k1 k2 k3
  induction L with
  | nil => intro i hi; simp [envL, idsV] at hi
  | cons x L ih =>
    simp only [List.all_cons, Bool.and_eq_true] at he
    simp only [envL]
    cases hb : Nat.beq t x.1 with
    | true =>
      intro i hi
      have := List.all_eq_true.1 he.1 i hi
      simpa [Nat.blt_eq] using this
    | false => exact ih he.2
/-- slots and objects of one's own -/
theorem StC.sim (h : StC ax G (CR ax.gs G Z M wL FL βL σL) ds n e σ a w) : ∃ F β, Sim ax.gs G w F β σ ∧ CR ax.gs G Z M wL FL βL σL w F β σ := by
  obtain ⟨_, F, β, _, _, h3, h4⟩ := h; exact ⟨F, β, h3, h4⟩
theorem CR.calm {gs : List Nat} {F : Nat → Nat → Prop} {β : Nat → Value} (h : CR gs G Z M wL FL βL σL w F β σ) (hs : Sim gs G w F β σ) {N : Nat} (hc : Calmly N w w') : Sim gs G w' F β σ ∧ CR gs G Z M wL FL βL σL w' F β σ := by
  obtain ⟨k1, k3⟩ := hs.calm0 hc
  exact ⟨k1, h.1.calm hc, h.2.trans ⟨fun b o hf => ⟨hf, k3 b o hf⟩, Nat.le_refl _, fun i _ => ⟨rfl, obLe.refl _⟩⟩⟩

/-- a piece with one end -/
theorem StC.pc {ah : AH} (hT : AllOk ax.P ax.tys) (hFn : FnsOk ax.P ax.fns) (hm : ax.P.follows .mixedOrders = true) (hQ : EqOk ax) (hN : ax.T = none) (hE : ErrOk ax.P ax.gs ax.ift ax.tabs G) {F : Fence} (hF : Opn F) {m : Nat} {c : Code} {vs0 : List V} {σ' : Store} {Q : Exit → Act → World → Prop} {slots : List Nat} {sl : AEnv → List V}
    (hsl : ∀ e, sl e = slots.map e) (hok : codeOk ax.tys (hintsOf ah) n c = true) (hc : calmC c = true) (hs : StC ax G (CR ax.gs G Z M wL FL βL σL) ds n e σ a w) (h : acW ax ah c (fun ex e σ => ex = .normal ∧ sl e = vs0 ∧ σ = σ') e σ) (hv : (σ'.map (·.ver)).take σ.length = σ.map (·.ver))
    (hK : ∀ a' w', StC ax G (CR ax.gs G Z M wL FL βL σL) ds n (Av.envL (slots.zip vs0)) σ' a' w' → Below w.heap.size w w' → Q .normal a' w') : c.wpIn F m ax.P Q a w := by
  refine wpIn_mono (StC.run (K := fun ex vs σ => ex = .normal ∧ vs = vs0 ∧ σ = σ') CR.shut hT hFn hm hQ hN hE hF hsl hok hc h hs) ?_
  rintro ex a' w' ⟨vs, σ1, ⟨rfl, rfl, rfl⟩, s1, _, F1, β1, F2, β2, _, _, q3⟩
  exact hK a' w' s1 (q3.below_same (ver_same hv))
theorem StC.sub {C : Beside} {L L' : List (Nat × V)} (h : StC ax G C ds n (envL L) σ a w) (hs : (L'.map fun x => envL L x.1) = L'.map (·.2)) : StC ax G C ds n (envL L') σ a w := by
  refine h.env (envL_sub _ fun x hx => ?_)
  obtain ⟨i, hi, rfl⟩ := List.getElem_of_mem hx
  have := congrArg (fun l => l[i]?) hs
  simpa [List.getElem?_eq_getElem hi] using this
theorem StC.at {C : Beside} (h : StC ax G C ds n e σ a w) {t : Nat} {u : V} (he : e t = u) : ∃ F β, Sim ax.gs G w F β σ ∧ C w F β σ ∧ RV ax.gs G w F β σ u (a.tmps.getD t undef) := by
  obtain ⟨ρ, F, β, h1, h2, h3, h4⟩ := h
  exact ⟨F, β, h3, h4, by rw [h1.at_, ← he]; exact h2 t⟩
theorem StC.boolAt {C : Beside} (h : StC ax G C ds n e σ a w) {t : Nat} {b : Bool} (he : e t = .bool b) : a.eval (.tmp t) = .bool b := by
  obtain ⟨F, β, _, _, h3⟩ := h.at he
  exact h3.bool_inv
theorem StC.ylAt {C : Beside} (h : StC ax G C ds n e σ a w) {t l : Nat} (he : e t = .yl l) : a.eval (.tmp t) = .func (.yield l) #[] #[] := by
  obtain ⟨F, β, _, _, h3⟩ := h.at he
  exact h3.yl_inv
theorem StC.intAt {C : Beside} (h : StC ax G C ds n e σ a w) {t : Nat} {k : IntKind} {i : Int} (he : e t = .int k i) : a.tmps.getD t undef = .int k i := by
  obtain ⟨F, β, _, _, h3⟩ := h.at he
  exact h3.int_inv
theorem StC.putV {C : Beside} (h : StC ax G C ds n e σ a w) {d : Nat} (hd : d < n) {u : V} {v : Value} (hu : ∀ F β, RV ax.gs G w F β σ u v) : StC ax G C ds n (fun t => cond (Nat.beq t d) u (e t)) σ (a.put (some d) v) w := by
  obtain ⟨ρ, F, β, h1, h2, h3, h4⟩ := h
  obtain ⟨a0, r0, ea⟩ := h1.split
  have r1 := r0.put (some d) v (fun x hx => by cases hx; exact hd)
  have kd : RelD ds n (ρ.put (some d) v) (a.put (some d) v) := by rw [ea, more_put]; exact .of r1
  refine ⟨_, F, β, kd, fun t => ?_, h3, h4⟩
  simp only [Env.put]
  cases hb : Nat.beq t d with
  | true => exact hu F β
  | false => exact h2 t
theorem not_op {F : Fence} (hF : Opn F) {m : Nat} {P : Program} {o : Oper} {x : Operand} {b : Bool} {ty : TypeId} {next : Act → World → Prop} {Q : Exit → Act → World → Prop} (hop : o.op = .unOp .not ty x) (hx : a.eval x = .bool b) (h : next (a.put o.dst (.bool (!b))) w) : o.wpIn F m P a w next Q := by
  unfold Oper.wpIn
  refine ⟨fun f _ => hF.fn f, ?_⟩
  rw [Oper.semAt_eq _ _ _ (fun c' h => by rw [hop] at h; cases h)]
  have hrun : (execOp a.eval o).run P w = .ok (.value (.bool (!b))) w := by
    unfold execOp; rw [hop]; dsimp only; rw [hx]; rfl
  rw [hrun]
  exact h
end
end Go.Av
end

/- part AwB -/
section
namespace Go.Av
open Go.Vx Go.RowKit

/-- from a call's beginning on, with data and some objects as at a loop's beginning -/
def CB (w0 : World) (F0 : Nat → Nat → Prop) (β0 : Nat → Value) (wL : World) (FL : Nat → Nat → Prop) (βL : Nat → Value) (L : List Nat) : Beside := fun w F β σ =>
  Step w0 F0 β0 [] w F β σ ∧ (∀ b o, FL b o → F b o ∧ w.cell? ⟨b, o, none⟩ = wL.cell? ⟨b, o, none⟩) ∧ ∀ i ∈ L, i < σ.length ∧ β i = βL i

section
variable {gs : List Nat} {G : Nat → Value} {w0 wL w w' : World} {F0 FL F F' : Nat → Nat → Prop} {β0 βL β β' : Nat → Value} {L : List Nat} {σ σ' σ1 : Store}
theorem CB.shut : Shut (CB w0 F0 β0 wL FL βL L) := fun h _ hs => ⟨h.1.trans hs, fun b o hf => ⟨(hs.fcell b o (h.2.1 b o hf).1).1, ((hs.fcell b o (h.2.1 b o hf).1).2).trans (h.2.1 b o hf).2⟩, fun i hi => ⟨Nat.lt_of_lt_of_le (h.2.2 i hi).1 hs.len, ((hs.ext i (h.2.2 i hi).1).1).trans (h.2.2 i hi).2⟩⟩
theorem CB.calm (h : CB w0 F0 β0 wL FL βL L w F β σ) (hs : Sim gs G w F β σ) {N : Nat} (hc : Calmly N w w') (hN : w0.heap.size ≤ N) : Sim gs G w' F β σ ∧ CB w0 F0 β0 wL FL βL L w' F β σ := by
  obtain ⟨k1, k2⟩ := hs.calm h.1 (hc.mono hN)
  exact ⟨k1, k2, fun b o hf => ⟨(h.2.1 b o hf).1, (hc.cell (hs.lt b o (h.2.1 b o hf).1)).trans (h.2.1 b o hf).2⟩, h.2.2⟩
theorem CB.take (h : CB w0 F0 β0 wL FL βL L w F β σ) (hs : Sim gs G w F β σ) {k : Nat} (hk : closedB k σ = true) (hL : ∀ i ∈ L, i < ((zero σ).take k).length) :
    Sim gs G w F β ((zero σ).take k) ∧ CB w0 F0 β0 wL FL βL L w F β ((zero σ).take k) ∧ ∀ {u : V} {v : Value}, RV gs G w F β σ u v → (∀ i ∈ idsV u, i < ((zero σ).take k).length) → RV gs G w F β ((zero σ).take k) u v := by
  obtain ⟨k1, k2⟩ := hs.trim (σ1 := (zero σ).take k) (fun i hi => take_get (take_len hi)) (closedB_elim hk)
  exact ⟨k1, ⟨h.1.trim0 fun i hi => take_get (take_len hi), h.2.1, fun i hi => ⟨hL i hi, (h.2.2 i hi).2⟩⟩, k2⟩
/-- blocks of M alone were written -/
theorem Step.keepM (h : Step w F β σ w' F' β' σ') {M M' : Nat → Prop} (hM : ∀ i b, i < σ.length → Has β i (getO σ i) b → verO σ' i = verO σ i ∨ M b) (hn : ∀ b, M' b → M b ∨ w.heap.size ≤ b) (hl : ∀ b, M' b → b < w'.heap.size) : Keep M M' w w' := by
  refine ⟨h.os, h.tape, h.output, h.size, fun b hb hm => ?_, hn, hl⟩
  by_cases hh : ∃ i, Has β i (getO σ i) b
  · obtain ⟨i, hi⟩ := hh
    have hlt : i < σ.length := getO_lt fun e => by rw [e] at hi; exact no_has_dead hi
    rcases hM i b hlt hi with k | k
    · exact ((h.ver i hlt).2 k).2 b hi
    · exact absurd k hm
  · exact h.block b hb fun i hi => hh ⟨i, hi⟩
/-- objects in another order -/
theorem Step.ren0 (h : Step w0 F0 β0 [] w F β σ) {g : Nat → Nat} {f : Nat → Option Nat} (hget : ∀ i, i < σ1.length → getO σ1 i = renOb f (getO σ (g i))) : Step w0 F0 β0 [] w F (fun i => β (g i)) σ1 := by
  have hlt : ∀ {i ob}, getO σ1 i = ob → Live ob → i < σ1.length := fun e hlv => getO_lt (by rw [e]; intro hd; rw [hd] at hlv; exact hlv)
  refine ⟨h.os, h.tape, h.output, h.size, h.fcell, h.cell, h.block, h.newF, fun i b hb => ?_, fun i b o hb => ?_, Nat.zero_le _, fun i hi => by simp at hi, fun i hi => by simp at hi⟩
  · have hi := hlt rfl hb.1
    rw [hget i hi] at hb
    exact h.newH (g i) b ((renOb_has (β' := fun i => β (g i)) (β := β) (i := g i) rfl).1 hb)
  · have hi := hlt rfl hb.1.1
    rw [hget i hi] at hb
    exact h.newM (g i) b o ((renOb_mut (β' := fun i => β (g i)) (β := β) (i := g i) rfl).1 hb)
/-- what slots hold at a loop's beginning stays -/
def keptV (L : List Nat) : V → Bool
  | .ptr i _ => hasB L i
  | .int _ _ => true
  | .sl _ _ => true
  | _ => false
theorem CB.rv (h : CB w0 F0 β0 wL FL βL L w F β σ) {σL : Store} (hb : ∀ i ∈ L, ∃ l, getO σL i = .box l) {u : V} (hu : keptV L u = true) {v : Value} (hv : RV gs G wL FL βL σL u v) : RV gs G w F β σ u v := by
  cases u <;> simp only [keptV] at hu <;> try cases hu
  case ptr i o =>
    obtain ⟨b, o', rfl, _, hβ⟩ := hv.ptr_inv
    have hi : i ∈ L := by simpa [hasB] using hu
    obtain ⟨l, e⟩ := hb i hi
    obtain ⟨h1, h2⟩ := hβ l e
    obtain ⟨h3, h4⟩ := h.2.2 i hi
    exact .ptr i o b o' h3 fun _ _ => ⟨h4.trans h1, h2⟩
  all_goals
    cases hv with
    | fz _ _ hv => exact .fz _ _ (hv.mono h.2.1)
end

section
variable {ax : Ax} {ah : AH} {G : Nat → Value} {C : Beside} {ds : List Deferred} {n : Nat} {e : AEnv} {σ : Store} {a : Act} {w w' : World}
/-- a piece with one end, of all objects -/
theorem StC.raw (hT : AllOk ax.P ax.tys) (hFn : FnsOk ax.P ax.fns) (hm : ax.P.follows .mixedOrders = true) (hQ : EqOk ax) (hN : ax.T = none) (hE : ErrOk ax.P ax.gs ax.ift ax.tabs G) {F : Fence} (hF : Opn F) {m : Nat} {c : Code} {ex0 : Exit} {vs0 : List V} {σ' : Store} {Q : Exit → Act → World → Prop} {slots : List Nat} {sl : AEnv → List V} {ρ : Env} {F1 : Nat → Nat → Prop} {β1 : Nat → Value}
    (hsl : ∀ e, sl e = slots.map e) (hok : codeOk ax.tys (hintsOf ah) n c = true) (hc : calmC c = true) (h1 : RelD ds n ρ a) (h2 : RE ax.gs G w F1 β1 σ e ρ) (h3 : Sim ax.gs G w F1 β1 σ) (h : acW ax ah c (fun ex e σ => ex = ex0 ∧ sl e = vs0 ∧ σ = σ') e σ)
    (hK : ∀ a' w' ρ' F' β', RelD ds n ρ' a' → RE ax.gs G w' F' β' σ' (Av.envL (slots.zip vs0)) ρ' → Sim ax.gs G w' F' β' σ' → Step w F1 β1 σ w' F' β' σ' → Q ex0 a' w') : c.wpIn F m ax.P Q a w := by
  refine wpIn_mono (cW_wpIn (fns := ax.fns) hT hFn (fun _ _ h => h) hm hF c _ _ a w hok hc h1 (acW_run (fx := ax.fns) hT hE hQ c h ⟨rfl, by rw [hN]⟩ h3 h2 fun ex ρ' w' hp => hp)) ?_
  rintro ex a' w' ⟨ρ', k1, _, e', F', β', σ1, ⟨rfl, k3, rfl⟩, k4, k5, k6, k7⟩
  refine hK a' w' ρ' F' β' k1 (fun t => ?_) k5 k6
  rw [← k3, hsl, zip_map]
  rcases envL_of e' slots t with q | q
  · rw [q]; exact k4 t
  · rw [q]; exact .junk _
theorem StC.pcC (hC : Shut C) (hT : AllOk ax.P ax.tys) (hFn : FnsOk ax.P ax.fns) (hm : ax.P.follows .mixedOrders = true) (hQ : EqOk ax) (hN : ax.T = none) (hE : ErrOk ax.P ax.gs ax.ift ax.tabs G) {F : Fence} (hF : Opn F) {m : Nat} {c : Code} {ex0 : Exit} {vs0 : List V} {σ' : Store} {Q : Exit → Act → World → Prop} {slots : List Nat} {sl : AEnv → List V}
    (hsl : ∀ e, sl e = slots.map e) (hok : codeOk ax.tys (hintsOf ah) n c = true) (hc : calmC c = true) (hs : StC ax G C ds n e σ a w) (h : acW ax ah c (fun ex e σ => ex = ex0 ∧ sl e = vs0 ∧ σ = σ') e σ) (hv : (σ'.map (·.ver)).take σ.length = σ.map (·.ver))
    (hK : ∀ a' w', StC ax G C ds n (Av.envL (slots.zip vs0)) σ' a' w' → Below w.heap.size w w' → Q ex0 a' w') : c.wpIn F m ax.P Q a w := by
  obtain ⟨ρ, F1, β1, h1, h2, h3, h4⟩ := hs
  exact StC.raw hT hFn hm hQ hN hE hF hsl hok hc h1 h2 h3 h fun a' w' ρ' F' β' k1 k2 k3 k4 => hK a' w' ⟨ρ', F', β', k1, k2, k3, hC h4 h3 k4⟩ (k4.below_same (ver_same hv))
variable {w0 wL : World} {F0 FL : Nat → Nat → Prop} {β0 βL : Nat → Value} {L : List Nat}
theorem ids_ok {L : List (Nat × V)} {m : Nat} (he : (L.all fun x => (idsV x.2).all fun i => Nat.blt i m) = true) (t : Nat) : ∀ i ∈ idsV (envL L t), i < m := by
  induction L with
  | nil => intro i hi; simp [envL, idsV] at hi
  | cons x L ih =>
    simp only [List.all_cons, Bool.and_eq_true] at he
    simp only [envL]
    cases hb : Nat.beq t x.1 with
    | true =>
      intro i hi
      have := List.all_eq_true.1 he.1 i hi
      simpa [Nat.blt_eq] using this
    | false => exact ih he.2
theorem StC.takeB {Ls : List (Nat × V)} (h : StC ax G (CB w0 F0 β0 wL FL βL L) ds n (envL Ls) σ a w) (k : Nat) (hk : closedB k σ = true) (hL : (L.all fun i => Nat.blt i ((Av.zero σ).take k).length) = true) (he : (Ls.all fun x => (idsV x.2).all fun i => Nat.blt i ((Av.zero σ).take k).length) = true) : StC ax G (CB w0 F0 β0 wL FL βL L) ds n (envL Ls) ((Av.zero σ).take k) a w := by
  obtain ⟨ρ, F, β, h1, h2, h3, h4⟩ := h
  obtain ⟨k1, k2, k3⟩ := h4.take h3 hk fun i hi => by
    have := List.all_eq_true.1 hL i hi
    simpa [Nat.blt_eq] using this
  exact ⟨ρ, F, β, h1, fun t => k3 (h2 t) (ids_ok he t), k1, k2⟩
/-- a nil list in a variable becomes a list of one's own; a list of one's own moves -/
theorem StC.normB (hC : Shut C) {Ls : List (Nat × V)} (h : StC ax G C ds n (envL Ls) σ a w) {bx : List (Nat × List Cp)} {ps : List V} {σ' : Store} (hn : Av.normB σ.length σ bx = some (ps, σ')) (hb : ∀ i l, i ∈ bx.map (·.1) → getO σ i = .box l → ∀ v ∈ l, ∀ k ∈ idsV v, k < σ.length) : StC ax G C ds n (envL Ls) σ' a w := by
  obtain ⟨ρ, F, β, h1, h2, h3, h4⟩ := h
  obtain ⟨F', β', os, k1, k2, _⟩ := normB_run (n0 := σ.length) (n3 := σ.length) (Nat.le_refl _) h3 (Nat.le_refl _) hn hb
  exact ⟨ρ, F', β', h1, h2.mono k2.carry, k1, hC h4 h3 k2⟩
end
end Go.Av
end
