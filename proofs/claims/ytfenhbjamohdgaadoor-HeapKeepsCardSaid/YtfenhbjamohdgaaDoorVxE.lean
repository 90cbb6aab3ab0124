/- An executor over the model's code: what each step comes to. -/
import Derived.Test.YtfenhbjamohdgaaDoorVxD
namespace Go.Vx

variable {P : Program} {tys : Tys} {fns : Fns} {w : World}

/-- what an operation comes to -/
def OpRes (P : Program) (o : Oper) (ρ : Operand → Value) (w : World) (K : Value → World → Prop) : Prop :=
  (∃ v w', (execOp ρ o).run P w = .ok (.value v) w' ∧ K v w') ∨ (∃ w', (execOp ρ o).run P w = .ok .skip w' ∧ K undef w') ∨
  (∃ f args, (execOp ρ o).run P w = .ok (.enter f args) w ∧ Calls P f args w fun e w' => ∃ v, e = .returned v ∧ K v w')

theorem OpRes.mono {o : Oper} {ρ : Operand → Value} {K K' : Value → World → Prop} (h : ∀ v w', K v w' → K' v w') (hr : OpRes P o ρ w K) : OpRes P o ρ w K' := by
  rcases hr with ⟨v, w', h1, h2⟩ | ⟨w', h1, h2⟩ | ⟨f, args, h1, h2⟩
  · exact .inl ⟨v, w', h1, h _ _ h2⟩
  · exact .inr (.inl ⟨w', h1, h _ _ h2⟩)
  · exact .inr (.inr ⟨f, args, h1, h2.mono fun e w' ⟨v, h3, h4⟩ => ⟨v, h3, h _ _ h4⟩⟩)

theorem OpRes.wp {o : Oper} {a : Act} {K : Value → World → Prop} {next : Act → World → Prop} {Q : Exit → Act → World → Prop} (h : ∀ v w', K v w' → next (a.put o.dst v) w') (hr : OpRes P o a.eval w K) : o.wp P a w next Q := by
  unfold Oper.wp
  rcases hr with ⟨v, w', h1, h2⟩ | ⟨w', h1, h2⟩ | ⟨f, args, h1, h2⟩ <;> rw [h1]
  · exact h _ _ h2
  · exact h _ _ h2
  · refine h2.mono fun e w' ⟨v, h3, h4⟩ => ?_
    subst h3
    exact h _ _ h4

theorem map_ops {ρ : Operand → Value} (l : Array Operand) : (l.toList.map ρ).toArray = l.map ρ := by
  apply Array.ext'
  simp

theorem map_snd {ρ : Operand → Value} (parts : Array (Nat × Operand)) : (parts.map fun (i, x) => (i, ρ x)).toList = parts.toList.map fun (i, x) => (i, ρ x) := by simp

theorem pureW_run {o : Oper} {ρ : Operand → Value} {K : Value → Prop} (hT : AllOk P tys) (hρ : ∀ v, ρ (.const v) = v) (h : pureW P tys o ρ K) : ∃ v, K v ∧ ∀ w, (execOp ρ o).run P w = .ok (.value v) w := by
  obtain ⟨dst, op, type, pos, after, guard⟩ := o
  cases op <;> simp only [pureW] at h
  case move x => exact ⟨_, h, fun w => by simp [execOp]⟩
  case assign x => exact ⟨_, h, fun w => by simp [execOp]⟩
  case pick c x y =>
    split at h
    · rename_i b hb
      refine ⟨if b then ρ x else ρ y, by cases b <;> simpa using h, fun w => ?_⟩
      cases b <;> simp [execOp, hb, asBool]
    · exact h.elim
  case build t parts =>
    split at h
    · rename_i y hl
      split at h
      · rename_i fs hk
        split at h
        · rename_i cs hf
          obtain ⟨hall, h⟩ := cond_false_elim h
          refine ⟨_, h, fun w => val_next (run_build (w := w) hT (ok_of_look hT hl) hk (by rw [map_snd]; exact hf) ?_)⟩
          intro i o u hi
          have := List.all_eq_true.1 hall (o, u) (List.mem_of_getElem? hi)
          exact Option.isSome_iff_exists.1 this
        · exact h.elim
      · exact h.elim
    · exact h.elim
  case nilCheck x =>
    split at h
    · rename_i a ha
      obtain ⟨b, f, rfl, h⟩ := h
      exact ⟨_, h, fun w => by simp [execOp, ha]⟩
    · rename_i ha
      exact ⟨_, h, fun w => by simp [execOp, ha]⟩
    · exact h.elim
  case binOp op t x y yt =>
    obtain ⟨v, h1, h2⟩ := binP_run (P := P) (xo := x) hT rfl hρ h
    exact ⟨v, h1, fun w => val_next (h2 w)⟩
  case unOp op t x =>
    cases op
    all_goals dsimp only at h
    case not =>
      split at h
      · rename_i b hb; exact ⟨_, h, fun w => val_next (by simp [Op.unary, hb])⟩
      · exact h.elim
    case neg =>
      split at h
      · rename_i k n hb; exact ⟨_, h, fun w => val_next (by simp [Op.unary, hb, Op.intArith])⟩
      · exact h.elim
    all_goals exact h.elim
  case convert s d x =>
    obtain ⟨v, h1, h2⟩ := convP_run hT h
    exact ⟨v, h1, fun w => val_next (h2 w)⟩
  case makeInterface t x =>
    split at h
    · rename_i y hl
      have hy := ok_of_look hT hl
      have htk := hy.tk
      refine ⟨.iface t (ρ x), by split at h <;> first | exact h | exact False.elim h, fun w => val_next ?_⟩
      cases hk : y.tk <;> rw [hk] at h htk <;> first | exact False.elim h | skip
      case agg => obtain ⟨f, hf, _⟩ := htk; simp [Instr.makeInterface, run_under hf]
      case map => simp [Instr.makeInterface, run_under (show P.underlying t = _ from htk)]
      case fn => obtain ⟨_, _, _, hf⟩ := htk; simp [Instr.makeInterface, run_under hf]
      all_goals simp [Instr.makeInterface, run_under (show P.underlying t = _ from htk)]
    · exact h.elim
  case makeFunc fn first captured =>
    rw [map_ops, map_ops] at h
    exact ⟨_, h, fun w => val_next rfl⟩
  case slice t x lo hi mx =>
    obtain ⟨v, h1, h2⟩ := sliceW_run (P := P) hT h
    exact ⟨v, h1, fun w => val_next (h2 w)⟩
  case fieldAddr s x i =>
    split at h
    · rename_i b f hx
      split at h
      · rename_i y hl
        split at h
        · rename_i fs hk
          split at h
          · rename_i off ft hi
            split at h
            · rename_i yf hf
              cases hb : Nat.beq yf.size 0 with
              | true => rw [hb] at h; exact h.elim
              | false =>
                rw [hb] at h
                exact ⟨_, h, fun w => val_next (by rw [hx]; exact run_fieldAddr (ok_of_look hT hl) hk hi (ok_of_look hT hf) hb)⟩
            · exact h.elim
          · exact h.elim
        · exact h.elim
      · exact h.elim
    · exact h.elim
  case field s x i =>
    split at h
    · rename_i cs hx
      split at h
      · rename_i y hl
        split at h
        · rename_i fs hk
          split at h
          · rename_i off ft hi
            obtain ⟨v, h1, h2⟩ := partW_run (P := P) hT h
            refine ⟨v, h1, fun w => val_next ?_⟩
            have htk := (ok_of_look hT hl).tk
            rw [hk] at htk
            obtain ⟨fl, hfl, hfs⟩ := htk
            rw [← hfs, List.getElem?_map] at hi
            have hi' : fl[i]? = fl.toList[i]? := by simp
            cases hx' : fl.toList[i]? with
            | none => rw [hx'] at hi; cases hi
            | some z =>
              rw [hx'] at hi hi'
              simp only [Option.map_some, Option.some.injEq, Prod.mk.injEq] at hi
              obtain ⟨rfl, rfl⟩ := hi
              simp [Instr.field, run_under hfl, hi', hx, asAgg, h2]
          · exact h.elim
        · exact h.elim
      · exact h.elim
    · exact h.elim
  case indexAddr t x i =>
    split at h
    · rename_i k j hj
      split at h
      · rename_i y hl
        have htk := (ok_of_look hT hl).tk
        split at h
        · rename_i el hk
          rw [hk] at htk
          split at h
          · rename_i ye he
            split at h
            · rename_i a n c hx
              obtain ⟨b, f, rfl, h0, h1, h⟩ := h
              exact ⟨_, h, fun w => val_next (by rw [hx, hj]; exact run_indexAddr htk (ok_of_look hT he) h0 h1)⟩
            · exact h.elim
          · exact h.elim
        · rename_i n el hk
          rw [hk] at htk
          split at h
          · rename_i ye he
            split at h
            · rename_i b f hx
              obtain ⟨h0, h1, h⟩ := h
              exact ⟨_, h, fun w => val_next (by rw [hx, hj]; exact run_indexAddr_arr htk (ok_of_look hT he) h0 h1)⟩
            · exact h.elim
          · exact h.elim
        · exact h.elim
      · exact h.elim
    · exact h.elim
  case index t x i =>
    split at h
    · rename_i k j hj
      split at h
      · rename_i y hl
        have htk := (ok_of_look hT hl).tk
        split at h
        · rename_i hk
          rw [hk] at htk
          split at h
          · rename_i s hx
            obtain ⟨h0, c, hc, h⟩ := h
            exact ⟨_, h, fun w => val_next (by rw [hx, hj]; exact run_index_str htk h0 hc)⟩
          · exact h.elim
        · rename_i n el hk
          rw [hk] at htk
          split at h
          · rename_i ye he
            split at h
            · rename_i cs hx
              obtain ⟨h0, h1, v, hv, h⟩ := h
              exact ⟨_, h, fun w => val_next (by rw [hx, hj]; exact run_index_arr htk (ok_of_look hT he) h0 h1 (hv w))⟩
            · exact h.elim
          · exact h.elim
        · exact h.elim
      · exact h.elim
    · exact h.elim
  case extract x i =>
    split at h
    · rename_i vs hx
      split at h
      · rename_i v hv
        refine ⟨v, h, fun w => val_next ?_⟩
        have hv' : vs[i]? = some v := by simpa using hv
        simp [Instr.extract, hx, hv']
      · exact h.elim
    · exact h.elim
  case call c =>
    split at h
    · rename_i b hb
      obtain ⟨v, h1, h2⟩ := builtP_run (P := P) (rt := type) (cs := c.args.map fun | .const _ => true | _ => false) hT h
      refine ⟨v, h1, fun w => ?_⟩
      have := h2 w
      rw [map_ops] at this
      simp only [execOp, resolve, hb, invoke, Sem.run_bind, Sem.run_pure, Result.andThen_ok]
      exact this
    · exact h.elim
  all_goals exact h.elim

theorem exT1_elim {t : Nat} {K : Value → Prop} (h : exT1 tys t K) : ∃ v, K v := by
  unfold exT1 at h
  split at h
  · split at h
    · obtain ⟨vs, _, h⟩ := exL_elim h; exact ⟨_, h⟩
    · obtain ⟨vs, _, h⟩ := exL_elim h; exact ⟨_, h⟩
    · split at h
      · exact Sh.ex_elim h
      · exact h.elim
  · exact h.elim

theorem exTs_elim : ∀ {ts : List Nat} {K : List Value → Prop}, exTs tys ts K → ∃ vs, K vs
  | [], _, h => ⟨[], h⟩
  | t :: r, K, h => by
    obtain ⟨v, h⟩ := exT1_elim h
    obtain ⟨vs, h⟩ := exTs_elim h
    exact ⟨v :: vs, h⟩

theorem exT_elim {t : Nat} {K : Value → Prop} (h : exT tys t K) : ∃ v, K v := by
  unfold exT at h
  split at h
  · obtain ⟨vs, h⟩ := exTs_elim h; exact ⟨_, h⟩
  · exact exT1_elim h

theorem retW_elim {rs : List Nat} {K : Value → World → Prop} {e : Ending} {w : World} (h : retW tys rs K e w) : ∃ v, e = .returned v ∧ K v w := by
  unfold retW at h
  split at h
  · exact ⟨_, h.1, h.2⟩
  · obtain ⟨v, h1, h2⟩ := exT1_elim h; exact ⟨v, h1, h2⟩
  · obtain ⟨vs, h1, h2⟩ := exTs_elim h; exact ⟨_, h1, h2⟩

theorem unit_next {s : Sem Unit} {w w' : World} (h : s.run P w = .ok () w') : (do s; pure .skip : Sem Next).run P w = .ok .skip w' := by
  simp [h]

theorem eventW_run {o : Oper} {ρ : Operand → Value} {K : Value → World → Prop} (hT : AllOk P tys) (hF : FnsOk P fns) (h : eventW P tys fns o ρ w K) : OpRes P o ρ w K := by
  obtain ⟨dst, op, type, pos, after, guard⟩ := o
  have V : ∀ {s : Sem Value} {v : Value} {w' : World}, execOp ρ ⟨dst, op, type, pos, after, guard⟩ = (do pure (.value (← s)) : Sem Next) → s.run P w = .ok v w' → K v w' → OpRes P ⟨dst, op, type, pos, after, guard⟩ ρ w K :=
    fun he h1 h2 => .inl ⟨_, _, by rw [he]; exact val_next h1, h2⟩
  have U : ∀ {s : Sem Unit} {w' : World}, execOp ρ ⟨dst, op, type, pos, after, guard⟩ = (do s; pure .skip : Sem Next) → s.run P w = .ok () w' → K undef w' → OpRes P ⟨dst, op, type, pos, after, guard⟩ ρ w K :=
    fun he h1 h2 => .inr (.inl ⟨_, by rw [he]; exact unit_next h1, h2⟩)
  cases op <;> simp only [eventW] at h
  case alloc t =>
    split at h
    · rename_i y hl
      obtain ⟨z, hz, hzl⟩ := run_zero (w := w) (ok_of_look hT hl)
      refine V rfl (s := Instr.alloc t true (.tuple #[])) ?_ h
      have e : y.zero.toArray = z.cells := by rw [← hzl]
      simp only [Instr.alloc, Sem.run_bind, hz, Result.andThen_ok, newVar, newRow, newP, e]; rfl
    · exact h.elim
  case box t x =>
    refine V rfl (s := Instr.box t (ρ x)) ?_ h
    simp only [Instr.box, newVar, newRow, newP, Array.toArray_toList]; rfl
  case buildSlice t len parts =>
    split at h
    · rename_i el _ _ _ _ hl
      split at h
      · rename_i ye he
        obtain ⟨hb, h⟩ := cond_false_elim h
        split at h
        · rename_i cs hf
          exact V rfl (run_buildSlice (ok_of_look hT hl).tk (ok_of_look hT he) (Nat.le_of_ble_eq_true hb) (by rw [map_snd]; exact hf)) h
        · exact h.elim
      · exact h.elim
    · exact h.elim
  case store t x v =>
    split at h
    · rename_i b f hx
      split at h
      · rename_i y hl
        obtain ⟨hb, hc, h⟩ := cond_false_elim h
        exact U rfl (by rw [hx]; exact run_storeAt (ok_of_look hT hl) (Nat.eq_of_beq_eq_true hb) hc) h
      · exact h.elim
    · exact h.elim
  case convert s d x =>
    obtain ⟨v, w', h1, h2⟩ := convW_run h
    exact V rfl h1 h2
  case makeMap t r =>
    cases r with
    | none => exact V rfl (s := Instr.makeMap t none) (by simp only [Instr.makeMap]; rfl) h
    | some r => exact h.elim
  case makeSlice t l c =>
    split at h
    · rename_i el _ _ _ _ hl
      split at h
      · rename_i ye he
        split at h
        · rename_i n hn
          split at h
          · rename_i m hm
            obtain ⟨h0, h1, h2, h3, h⟩ := h
            exact V rfl (by rw [hn, hm]; exact run_makeSlice (ok_of_look hT hl).tk (ok_of_look hT he) h0 h1 h2 h3) h
          · exact h.elim
        · exact h.elim
      · exact h.elim
    · exact h.elim
  case mapUpdate t m k x => obtain ⟨w', h1, h2⟩ := h; exact U rfl h1 h2
  case insert t m k x => obtain ⟨w', h1, h2⟩ := h; exact U rfl h1 h2
  case mapEntry t m k => obtain ⟨v, w', h1, h2⟩ := h; exact V rfl h1 h2
  case entryStore t m s x => obtain ⟨w', h1, h2⟩ := h; exact U rfl h1 h2
  case range t x => obtain ⟨v, w', h1, h2⟩ := h; exact V rfl h1 h2
  case next it s => obtain ⟨w', h⟩ := h; obtain ⟨v, h1, h2⟩ := exT_elim h; exact V rfl h1 h2
  case entry it => obtain ⟨v, w', h1, h2⟩ := h; exact V rfl h1 h2
  case call c =>
    split at h
    · rename_i f hf
      unfold callW at h
      split at h
      · rename_i g first captured hv
        split at h
        · rename_i rs hr
          obtain ⟨fn, h1, h2, h3⟩ := fn_of_look hF hr
          refine .inr (.inr ⟨g, first ++ (c.args.toList.map ρ).toArray ++ captured, ?_, h.mono fun e w' => retW_elim⟩)
          rw [map_ops]
          simp only [execOp, resolve, hf, hv, Deferred.ofValue, invoke, callFunc, Sem.run_bind, Sem.run_pure, Result.andThen_ok, run_program, h1, h2, h3, Bool.false_eq_true, if_false]
        · exact h.elim
      · exact h.elim
    · rename_i b hb
      have B : ∀ {s : Sem Value} {v : Value} {w' : World}, (∀ cs, builtin b c.argTypes type cs (c.args.map ρ) = (do pure (.value (← s)) : Sem Next)) → s.run P w = .ok v w' → K v w' → OpRes P ⟨dst, .call c, type, pos, after, guard⟩ ρ w K := by
        intro s v w' he h1 h2
        refine .inl ⟨v, w', ?_, h2⟩
        simp only [execOp, resolve, hb, invoke, Sem.run_bind, Sem.run_pure, Result.andThen_ok]
        rw [he]; exact val_next h1
      have ea := map_ops (ρ := ρ) c.args
      unfold builtW at h
      split at h
      · obtain ⟨x, n, m, w', h1, h2⟩ := h; rw [ea] at h1; exact B (fun _ => rfl) h1 h2
      · obtain ⟨n, w', h1, h2⟩ := h; rw [ea] at h1; exact B (fun _ => rfl) h1 h2
      · obtain ⟨v, w', h1, h2⟩ := h; rw [ea] at h1; exact B (fun _ => rfl) h1 h2
      · exact h.elim
    · exact h.elim
  all_goals exact h.elim

theorem ldW_run {o : Oper} {ρ : Operand → Value} {K : (World → Prop) → Value → Prop} (hT : AllOk P tys) (h : ldW P tys o ρ w K) :
    ∃ (c : World → Prop) (v : Value), c w ∧ K c v ∧ ∀ w', c w' → (execOp ρ o).run P w' = .ok (.value v) w' := by
  obtain ⟨dst, op, type, pos, after, guard⟩ := o
  cases op <;> simp only [ldW] at h
  case load t x =>
    split at h
    · rename_i b f hx
      obtain ⟨vs, v, h1, h2, h3⟩ := loadW_run (P := P) hT h
      exact ⟨_, v, h1, h2, fun w' hc => val_next (by rw [hx]; exact h3 w' hc)⟩
    · exact h.elim
  case binOp op t x y yt =>
    obtain ⟨r, h1, h2⟩ := h
    refine ⟨_, _, ?_, h2, ?_⟩
    · exact h1
    · intro w' hc; exact val_next hc
  case convert s d x =>
    obtain ⟨r, h1, h2⟩ := h
    refine ⟨_, _, ?_, h2, ?_⟩
    · exact h1
    · intro w' hc; exact val_next hc
  case lookup t x i ok =>
    obtain ⟨v, h1, h2⟩ := exT_elim h
    refine ⟨_, _, ?_, h2, ?_⟩
    · exact h1
    · intro w' hc; exact val_next hc
  case typeAssert x xt t ok =>
    obtain ⟨v, h1, h2⟩ := exT_elim h
    refine ⟨_, _, ?_, h2, ?_⟩
    · exact h1
    · intro w' hc; exact val_next hc
  case call c =>
    split at h
    · rename_i hb
      obtain ⟨n, h1, h2⟩ := h
      refine ⟨_, _, ?_, h2, ?_⟩
      · exact h1
      intro w' hc
      simp only [execOp, resolve, hb, invoke, Sem.run_bind, Sem.run_pure, Result.andThen_ok]
      rw [map_ops] at hc
      exact val_next hc
    · exact h.elim
  all_goals exact h.elim

theorem opW_run {o : Oper} {ρ : Operand → Value} {K : Value → World → Prop} (hT : AllOk P tys) (hF : FnsOk P fns) (hρ : ∀ v, ρ (.const v) = v) (h : opW P tys fns o ρ w K) : OpRes P o ρ w K := by
  unfold opW at h
  split at h
  · obtain ⟨v, h1, h2⟩ := pureW_run hT hρ h
    exact .inl ⟨v, w, h2 w, h1⟩
  · obtain ⟨c, v, h1, h2, h3⟩ := ldW_run (P := P) hT h
    exact .inl ⟨v, w, h3 w h1, h2⟩
  · exact eventW_run hT hF h

end Go.Vx
