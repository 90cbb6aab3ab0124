/- An executor over the model's code: code, and functions. -/
import Derived.Test.YtfenhbjamohdgaaDoorVxF
namespace Go.Vx

variable {P : Program} {tys : Tys} {fns : Fns} {hs : Hints} {w : World}

theorem dst_mem {ops : Array Oper} {o : Oper} {d : Nat} (ho : o ∈ ops.toList) (hd : o.dst = some d) : d ∈ dstsOf ops := by
  unfold dstsOf
  exact List.mem_flatMap.2 ⟨o, ho, by simp [hd]⟩

theorem dsts_lt {ops : Array Oper} {n : Nat} (h : ((dstsOf ops).all fun d => Nat.ble (d + 1) n) = true) : ∀ o ∈ ops.toList, ∀ d, o.dst = some d → d < n ∧ d ∈ dstsOf ops := by
  intro o ho d hd
  have hm := dst_mem ho hd
  exact ⟨Nat.le_of_ble_eq_true (List.all_eq_true.1 h d hm), hm⟩

theorem mixE_at (e : Env) (asg : List Nat) (g : Nat → Value) (t : Nat) (hg : hasB asg t = false → (∀ s ∈ ([] : List (Nat × Sh)), s.1 ≠ t) → True) : ∀ (S : List (Nat × Sh)),
    mixE e S (S.map fun s => g s.1) asg g t = if t ∈ S.map (·.1) then g t else cond (hasB asg t) (g t) (e t)
  | [] => by simp [mixE]
  | (s, x) :: r => by
    have ih := mixE_at e asg g t hg r
    simp only [List.map_cons, mixE, Env.put]
    cases hb : Nat.beq t s with
    | true =>
      have := Nat.eq_of_beq_eq_true hb
      subst this
      simp
    | false =>
      have hne : t ≠ s := fun h => by rw [h] at hb; simp at hb
      simp only [cond_false, ih, List.mem_cons, hne, false_or]

theorem hasB_iff {l : List Nat} {t : Nat} : hasB l t = true ↔ t ∈ l := by
  unfold hasB
  rw [List.any_eq_true]
  constructor
  · rintro ⟨x, hx, hb⟩
    exact Nat.eq_of_beq_eq_true hb ▸ hx
  · exact fun h => ⟨t, h, by simp⟩

theorem cW_wp (hT : AllOk P tys) (hF : FnsOk P fns) (hm : P.follows .mixedOrders = true) {n : Nat} : ∀ (c : Code) (Q : Exit → Env → World → Prop) (e : Env) (a : Act) (w : World), codeOk tys hs n c = true → Rel n e a →
    cW P tys fns hs c Q e w → c.wp P (fun ex a' w' => ∃ e', Rel n e' a' ∧ Frm (assigned hs c) e e' ∧ Q ex e' w') a w := by
  intro c
  induction c with
  | skip => exact fun Q e a w _ hr h => wp_skip ⟨e, hr, Frm.refl _ _, h⟩
  | ret => exact fun Q e a w _ hr h => wp_ret ⟨e, hr, Frm.refl _ _, h⟩
  | exit id => exact fun Q e a w _ hr h => wp_exit ⟨e, hr, Frm.refl _ _, h⟩
  | region id ops draw =>
    intro Q e a w hok hr h
    simp only [cW] at h
    simp only [codeOk, Bool.and_eq_true] at hok
    obtain ⟨hd, hdraw⟩ := hok
    cases draw with
    | false =>
      simp only [cond_false] at h
      exact wp_region_list (regW_wp hT hF ops.toList e a w (dsts_lt hd) hr (fun e' a' w' h1 h2 h3 => ⟨e', h1, h2, h3⟩) h)
    | true =>
      simp only [cond_true] at h hdraw
      split at h
      · rename_i l hl
        rw [hl] at hdraw
        simp only [Bool.and_eq_true] at hdraw
        obtain ⟨⟨hlen, hsel⟩, hdo⟩ := hdraw
        have hlen := Nat.le_of_ble_eq_true hlen
        obtain ⟨m, hm'⟩ := Nat.le.dest hlen
        have hd' : ∀ (i : Nat) (o : Oper), ops[i]? = some o → ∀ d, o.dst = some d → d < n ∧ d ∈ dstsOf ops := fun i o ho => dsts_lt hd o (List.mem_of_getElem? (i := i) (by rw [Array.getElem?_toList]; exact ho))
        have key := drawW_wp (Q := fun ex a' w' => ex = .normal ∧ ∃ e', Rel n e' a' ∧ Frm (dstsOf ops) e e' ∧ Q .normal e' w') hT hF hsel (fun _ _ _ hp => by simp at hp) l m (Array.replicate ops.size false) [] e a w.drew hdo Closed.start hd' hr (fun e' a' w' h1 h2 h3 => ⟨rfl, e', h1, h2, h3⟩) h
        rw [hm'] at key
        refine wp_mono (wp_region_any hm (wpAny_of_O _ _ _ _ key)) ?_
        rintro ex a' w' ⟨rfl, h⟩
        exact h
      · exact h.elim
  | seq x y ihx ihy =>
    intro Q e a w hok hr h
    simp only [codeOk, Bool.and_eq_true] at hok
    simp only [cW] at h
    refine wp_seq (wp_mono (ihx _ e a w hok.1 hr h) ?_)
    rintro ex a1 w1 ⟨e1, hr1, hf1, hq⟩
    have hf1' : Frm (assigned hs (.seq x y)) e e1 := fun t ht => hf1 t (fun h => ht (List.mem_append.2 (.inl h)))
    cases ex with
    | normal =>
      refine wp_mono (ihy _ e1 a1 w1 hok.2 hr1 hq) ?_
      rintro ex a2 w2 ⟨e2, hr2, hf2, hq2⟩
      exact ⟨e2, hr2, fun t ht => (hf2 t (fun h => ht (List.mem_append.2 (.inr h)))).trans (hf1' t ht), hq2⟩
    | _ => exact ⟨e1, hr1, hf1', hq⟩
  | cond c x y ihx ihy =>
    intro Q e a w hok hr h
    simp only [codeOk, Bool.and_eq_true] at hok
    simp only [cW] at h
    split at h
    · rename_i t ht
      have hev : a.eval c = .bool t := by rw [hr.eval]; exact ht
      split at h
      · rename_i s
        have ht' : e s = .bool t := ht
        cases t with
        | true =>
          refine wp_cond_true hev (wp_mono (ihx Q _ a w hok.2.1 (hr.same (put_same ht')) h) ?_)
          rintro ex a2 w2 ⟨e2, hr2, hf2, hq2⟩
          exact ⟨e2, hr2, fun t ht => (hf2 t (fun h => ht (by simp [assigned, h]))).trans (put_same ht' t), hq2⟩
        | false =>
          refine wp_cond_false hev (wp_mono (ihy Q _ a w hok.2.2 (hr.same (put_same ht')) h) ?_)
          rintro ex a2 w2 ⟨e2, hr2, hf2, hq2⟩
          exact ⟨e2, hr2, fun t ht => (hf2 t (fun h => ht (by simp [assigned, h]))).trans (put_same ht' t), hq2⟩
      · cases t with
        | true =>
          refine wp_cond_true hev (wp_mono (ihx Q _ a w hok.2.1 hr h) ?_)
          rintro ex a2 w2 ⟨e2, hr2, hf2, hq2⟩
          exact ⟨e2, hr2, fun t ht => hf2 t (fun h => ht (by simp [assigned, h])), hq2⟩
        | false =>
          refine wp_cond_false hev (wp_mono (ihy Q _ a w hok.2.2 hr h) ?_)
          rintro ex a2 w2 ⟨e2, hr2, hf2, hq2⟩
          exact ⟨e2, hr2, fun t ht => hf2 t (fun h => ht (by simp [assigned, h])), hq2⟩
    · exact h.elim
  | block id x ih =>
    intro Q e a w hok hr h
    simp only [cW] at h
    refine wp_block (wp_mono (ih _ e a w hok hr h) ?_)
    rintro ex a1 w1 ⟨e1, hr1, hf1, hq⟩
    cases ex with
    | exit i =>
      dsimp only at hq
      simp only [Exit.inBlock]
      split
      · rename_i hi
        subst hi
        have : Nat.beq i i = true := by simp
        rw [this] at hq
        exact ⟨e1, hr1, hf1, hq⟩
      · rename_i hi
        have : Nat.beq i id = false := by
          cases hb : Nat.beq i id with
          | false => rfl
          | true => exact absurd (Nat.eq_of_beq_eq_true hb) hi
        rw [this] at hq
        exact ⟨e1, hr1, hf1, hq⟩
    | _ => exact ⟨e1, hr1, hf1, hq⟩
  | loop x ih =>
    intro Q e a w hok hr h
    simp only [cW] at h
    split at h
    · rename_i S hS
      obtain ⟨I, μ, h0, hround⟩ := h
      have hasg : assigned hs (.loop x) = assigned hs x ++ S.map (·.1) := by simp [assigned, hS]
      let vals : Act → List Value := fun a => S.map fun s => a.tmps.getD s.1 undef
      have key : (Code.loop x).wp P (fun ex a' w' => ∃ e', Rel n e' a' ∧ Frm (assigned hs (.loop x)) e e' ∧ Q ex e' w') a w := by
        refine wp_loop (fun a w => I (vals a) w ∧ a.tmps.size = n ∧ a.defers = [] ∧ ∀ t, t ∉ assigned hs (.loop x) → a.tmps.getD t undef = e t) (fun a w => μ (vals a) w) ?_ ?_
        · refine ⟨?_, hr.size, hr.defers, fun t _ => hr.at_ t⟩
          have : vals a = S.map fun s => e s.1 := List.map_congr_left fun s _ => hr.at_ s.1
          rw [this]; exact h0
        · rintro a1 w1 ⟨hI, hsz, hdf, hfr⟩
          let junk : Env := fun t => a1.tmps.getD t undef
          obtain ⟨us, _, hus, hb⟩ := exL_elim (hround junk (vals a1) w1 hI)
          have hrel : Rel n (mixE e S us (assigned hs x) junk) a1 := by
            refine ⟨hsz, fun t => ?_, hdf⟩
            have hmx := mixE_at e (assigned hs x) junk t (fun _ _ => trivial) S
            have : us = S.map fun s => junk s.1 := hus.symm
            rw [this, hmx]
            split
            · rfl
            · rename_i hnS
              cases hh : hasB (assigned hs x) t with
              | true => rfl
              | false =>
                refine hfr t ?_
                rw [hasg, List.mem_append]
                rintro (h | h)
                · rw [hasB_iff.2 h] at hh; cases hh
                · exact hnS h
          refine wp_mono (ih _ _ a1 w1 hok hrel hb) ?_
          rintro ex a2 w2 ⟨e2, hr2, hf2, hq⟩
          have hfr2 : Frm (assigned hs (.loop x)) e e2 := fun t ht => by
            rw [hasg, List.mem_append, not_or] at ht
            rw [hf2 t ht.1]
            have := hrel.at_ t
            rw [← this]
            exact hfr t (by rw [hasg, List.mem_append, not_or]; exact ht)
          cases ex with
          | normal =>
            have hv : vals a2 = S.map fun s => e2 s.1 := List.map_congr_left fun s _ => hr2.at_ s.1
            simp only [Exit.then]
            refine ⟨⟨hv ▸ hq.1, hr2.size, hr2.defers, fun t ht => (hr2.at_ t).trans (hfr2 t ht)⟩, ?_⟩
            have hq2 := hq.2
            rw [← hus] at hq2
            rw [hv]; exact hq2
          | _ => exact ⟨e2, hr2, hfr2, hq⟩
      exact key
    · exact h.elim
  | _ => exact fun Q e a w _ _ h => h.elim

def resRow (tmps : Array Value) : ResultVar → Sem Value
  | .tmp t => pure (tmps.getD t undef)
  | .cell x t => do loadVar t (← asAddr (tmps.getD x undef))

theorem resRow_tmp (tmps : Array Value) (t : Nat) (v : Value) (h : tmps.getD t undef = v) : (resRow tmps (.tmp t)).run P w = .ok v w := by
  simp only [resRow, h, Sem.run_pure]
theorem resRow_cell (tmps : Array Value) (x t : Nat) (ad : Addr) (v : Value) (h : tmps.getD x undef = .pointer (some ad)) (hl : (loadVar t ad).run P w = .ok v w) : (resRow tmps (.cell x t)).run P w = .ok v w := by
  simp only [resRow, h, asAddr, Sem.run_bind, Sem.run_pure, Result.andThen_ok, hl]

theorem resL_run (hT : AllOk P tys) {n : Nat} {e : Env} {a : Act} (hr : Rel n e a) : ∀ (l : List ResultVar) (K : List Value → Prop), resL tys e w l K →
    ∃ vs, (l.mapM (resRow a.tmps)).run P w = .ok vs w ∧ K vs
  | [], K, h => ⟨[], by simp, h⟩
  | .tmp t :: r, K, h => by
    obtain ⟨vs, h1, h2⟩ := resL_run hT hr r _ h
    refine ⟨e t :: vs, ?_, h2⟩
    simp only [List.mapM_cons, Sem.run_bind, resRow_tmp _ _ _ (hr.at_ t), Sem.run_pure, Result.andThen_ok, h1]
  | .cell x ty :: r, K, h => by
    simp only [resL] at h
    split at h
    · rename_i b f hx
      obtain ⟨us, v, hc, hK, hrun⟩ := loadW_run (P := P) hT h
      obtain ⟨vs, h1, h2⟩ := resL_run hT hr r _ hK
      refine ⟨v :: vs, ?_, h2⟩
      have := hrun w hc
      simp only [Instr.loadAt, Instr.sureAddr, Sem.run_bind, Sem.run_pure, Result.andThen_ok] at this
      simp only [List.mapM_cons, Sem.run_bind, resRow_cell _ _ _ _ _ ((hr.at_ x).trans hx) this, Sem.run_pure, Result.andThen_ok, h1]
    · exact h.elim

theorem results_eq (fn : Func) (tmps : Array Value) : results fn tmps = (do let vs ← fn.results.mapM (resRow tmps); pure (if h : vs.size = 1 then vs[0] else .tuple vs)) := by
  unfold results
  have : (fun | .tmp t => pure (tmps.getD t undef) | .cell a t => do loadVar t (← asAddr (tmps.getD a undef)) : ResultVar → Sem Value) = resRow tmps := by
    funext r; cases r <;> rfl
  rw [← this]
  rfl

theorem results_run (hT : AllOk P tys) {n : Nat} {e : Env} {a : Act} {fn : Func} {R : Value → Prop} (hr : Rel n e a) (h : resL tys e w fn.results.toList fun vs => R (oneOr vs)) :
    ∃ v, (results fn a.tmps).run P w = .ok v w ∧ R v := by
  obtain ⟨vs, h1, h2⟩ := resL_run (P := P) hT hr _ _ h
  refine ⟨_, ?_, h2⟩
  rw [results_eq, Array.mapM_eq_mapM_toList]
  simp only [Sem.run_bind, Sem.run_map, h1, Result.andThen_ok, Sem.run_pure]
  rcases vs with _ | ⟨v, _ | ⟨u, vs⟩⟩ <;> simp [oneOr]

/-- **A function's run**: what the executor shows of its body holds of every call. -/
theorem fnW_calls (hT : AllOk P tys) (hF : FnsOk P fns) (hm : P.follows .mixedOrders = true) {f : FuncId} {fn : Func} {c : Code} {args : List Value} {R : Value → World → Prop} (hf : P.funcs[f]? = some fn) (hb : fn.body = some c)
    (hok : codeOk tys hs fn.ntmps c = true) (hn : Nat.ble args.length fn.ntmps = true) (h : fnW P tys fns hs fn args w R) : Calls P f args.toArray w fun e w' => ∃ v, e = .returned v ∧ R v w' := by
  have hn := Nat.le_of_ble_eq_true hn
  unfold fnW at h
  rw [hb] at h
  dsimp only at h
  refine calls_of_wp hf hb ?_
  have hrel : Rel fn.ntmps (fun t => args.getD t undef) { tmps := args.toArray ++ Array.replicate (fn.ntmps - args.toArray.size) undef, defers := [] } := by
    refine ⟨by simp; omega, fun t => ?_, rfl⟩
    simp only [Array.getD_eq_getD_getElem?, List.getD_eq_getElem?_getD]
    by_cases ht : t < args.length
    · rw [Array.getElem?_append_left (by simpa using ht)]; simp
    · rw [Array.getElem?_append_right (by simpa using ht), List.getElem?_eq_none (by omega), Array.getElem?_replicate]
      split <;> rfl
  refine wp_mono (cW_wp hT hF hm c _ _ _ w hok hrel h) ?_
  rintro ex a' w' ⟨e', hr', _, hq⟩
  cases ex with
  | normal =>
    obtain ⟨v, h1, h2⟩ := results_run (P := P) (R := fun v => R v w') hT hr' hq
    exact ⟨hr'.defers, v, h1, v, rfl, h2⟩
  | ret =>
    obtain ⟨v, h1, h2⟩ := results_run (P := P) (R := fun v => R v w') hT hr' hq
    exact ⟨hr'.defers, v, h1, v, rfl, h2⟩
  | _ => exact hq.elim

end Go.Vx
