/- An executor over the model's code: the other operations, and the step of each. -/
import Derived.Test.YtfenhbjamohdgaaDoorVxC
namespace Go.Vx

variable {P : Program} {tys : Tys} {fns : Fns} {w : World}

/-! ### built values -/
theorem setAt_length (vs : List Value) : ∀ (cs : List Value) (i : Nat), (setAt cs i vs).length = cs.length := by
  induction vs with
  | nil => intro cs i; rfl
  | cons v vs ih => intro cs i; simp [setAt, ih]

theorem fold_setAt (vs : List Value) : ∀ (cs : Array Value) (off k : Nat), ((vs.zipIdx k).foldl (fun (cs : Array Value) (p : Value × Nat) => cs.setIfInBounds (off + p.2) p.1) cs).toList = setAt cs.toList (off + k) vs := by
  induction vs with
  | nil => intro cs off k; rfl
  | cons v vs ih =>
    intro cs off k
    simp only [List.zipIdx_cons, List.foldl_cons, setAt]
    rw [ih]
    simp [Nat.add_assoc]

theorem fill_of {place place' : Nat → Option (Nat × Nat)} (hp : ∀ i x, place' i = some x → place i = some x) : ∀ (rest : List (Nat × Value)) (cs : Array Value) (out : List Value), fillL place' cs.toList rest = some out → Instr.fill place cs rest = some out.toArray
  | [], cs, out, h => by simp only [fillL, Option.some.injEq] at h; subst h; simp [Instr.fill]
  | (i, v) :: rest, cs, out, h => by
    simp only [fillL] at h
    cases hi : place' i with
    | none => rw [hi] at h; cases h
    | some x =>
      obtain ⟨off, size⟩ := x
      rw [hi] at h
      dsimp only at h
      cases hb : (Nat.beq v.cells.toList.length size && Nat.ble (off + v.cells.toList.length) cs.toList.length) with
      | false => rw [hb] at h; cases h
      | true =>
        rw [hb] at h
        rw [Bool.and_eq_true] at hb
        have h1 := Nat.eq_of_beq_eq_true hb.1
        have h2 := Nat.le_of_ble_eq_true hb.2
        simp only [Instr.fill, hp _ _ hi]
        have e : (v.cells.size ≠ size || off + v.cells.size > cs.size) = false := by
          simp only [Array.length_toList] at h1 h2
          simp [h1]; omega
        rw [if_neg (by simpa using e)]
        refine fill_of hp rest _ out ?_
        have := fold_setAt v.cells.toList cs off 0
        rw [← Array.foldl_toList, Array.toList_zipIdx, this]
        exact h

theorem repL_get (z : List Value) (n : Nat) : (repL n z).length = n * z.length := by
  induction n with
  | zero => simp [repL]
  | succ n ih => simp [repL, ih, Nat.add_mul, Nat.add_comm]

theorem repL_at (z : List Value) : ∀ (n i : Nat), i < n * z.length → (repL n z)[i]? = z[i % z.length]? := by
  intro n
  induction n with
  | zero => intro i hi; simp at hi
  | succ n ih =>
    intro i hi
    simp only [repL]
    by_cases h : i < z.length
    · rw [List.getElem?_append_left h, Nat.mod_eq_of_lt h]
    · rw [List.getElem?_append_right (by omega), ih _ (by rw [Nat.add_mul] at hi; omega), ← Nat.mod_eq_sub_mod (by omega)]

theorem range_map_list (n : Nat) (f : Nat → Value) : ((Array.range n).map f).toList = (List.range n).map f := by simp

theorem zeros_eq (z : List Value) (n : Nat) (hz : n * z.length ≠ 0) (za : Array Value) (hza : za.toList = z) : ((Array.range (n * z.length)).map fun i => za[i % za.size]!).toList = repL n z := by
  have hl : za.size = z.length := by rw [← hza]; simp
  refine List.ext_getElem? fun i => ?_
  by_cases hi : i < n * z.length
  · rw [repL_at z n i hi]
    have hpos : 0 < z.length := Nat.pos_of_ne_zero fun h => hz (by rw [h, Nat.mul_zero])
    have hlt : i % z.length < z.length := Nat.mod_lt _ hpos
    simp only [Array.toList_map, Array.toList_range, List.getElem?_map, List.getElem?_range hi, Option.map_some, hl]
    rw [List.getElem?_eq_getElem hlt, getElem!_pos za (i % z.length) (by omega)]
    simp [← hza]
  · rw [List.getElem?_eq_none (by simp; omega), List.getElem?_eq_none (by rw [repL_get]; omega)]

theorem run_build {t : Nat} {y : Ty} {fs : List (Nat × Nat)} {parts : Array (Nat × Value)} {out : List Value} (hT : AllOk P tys) (hy : y.Ok P t) (hk : y.tk = .agg fs)
    (h : fillL (fun i => (placesOf tys fs)[i]?) y.zero parts.toList = some out) (hsz : ∀ (i o u : Nat), fs[i]? = some (o, u) → ∃ yu, look tys u = some yu) : (Instr.build t parts).run P w = .ok (.agg out.toArray) w := by
  obtain ⟨z, hz, hzl⟩ := run_zero (w := w) hy
  have htk := hy.tk
  rw [hk] at htk
  obtain ⟨f, hf, hfs⟩ := htk
  have hmap : (f.mapM (fun x => do pure (x.offset, ← sizeOf x.type) : Field → Sem (Nat × Nat))).run P w = .ok (placesOf tys fs).toArray w := by
    have hl : ∀ (l : List Field) (acc : List (Nat × Nat)), (∀ x ∈ l, ∃ yu, look tys x.type = some yu) →
        (l.mapM (fun x => do pure (x.offset, ← sizeOf x.type) : Field → Sem (Nat × Nat))).run P w = .ok (placesOf tys (l.map fun x => (x.offset, x.type))) w := by
      intro l _
      induction l with
      | nil => intro _; simp [placesOf]
      | cons x l ih =>
        intro hx
        obtain ⟨yu, hu⟩ := hx x (by simp)
        have ih' := ih (fun x hx' => hx x (by simp [hx']))
        simp only [List.mapM_cons, Sem.run_bind, run_sizeOf (ok_of_look hT hu), Result.andThen_ok, Sem.run_pure, ih']
        simp [placesOf, hu]
    have := hl f.toList [] (fun x hx => by
      obtain ⟨i, hi⟩ := List.getElem?_of_mem hx
      exact hsz i x.offset x.type (by rw [← hfs, List.getElem?_map, hi]; rfl))
    rw [Array.mapM_eq_mapM_toList, Sem.run_map, this, hfs]
    simp
  have hfill := fill_of (place := fun i => (placesOf tys fs).toArray[i]?) (place' := fun i => (placesOf tys fs)[i]?) (fun i x hx => by simpa using hx) parts.toList z.cells out (by rw [hzl]; exact h)
  have he : (((placesOf tys fs).toArray[·]?) : Nat → Option (Nat × Nat)) = fun i => (placesOf tys fs).toArray[i]? := rfl
  simp only [Instr.build, Sem.run_bind, hz, Result.andThen_ok, run_under hf, hmap]
  rw [hfill]
  simp

theorem run_buildSlice {t el len : Nat} {ye : Ty} {parts : Array (Nat × Value)} {out : List Value} (ht : P.underlying t = some (.slice el)) (he : ye.Ok P el) (hb : len * ye.size ≤ 4096)
    (h : fillL (fun i => some (i * ye.size, ye.size)) (repL len ye.zero) parts.toList = some out) :
    (Instr.buildSlice t len parts).run P w = .ok (.slice (some ⟨w.heap.size, 0, none⟩) len len) (w.alloc (.cells out.toArray el)) := by
  obtain ⟨z, hz, hzl⟩ := run_zero (w := w) he
  have hzs : ye.zero.length = ye.size := he.zs
  have hb' : ¬ len * ye.size > 2 ^ 24 := by omega
  simp only [Instr.buildSlice, Sem.run_bind, run_under ht, Result.andThen_ok, run_sizeOf he, Sem.run_ite, if_neg hb', Sem.run_pure]
  by_cases hn : len * ye.size = 0
  · have e0 : repL len ye.zero = [] := List.eq_nil_of_length_eq_zero (by rw [repL_get, hzs]; exact hn)
    have := fill_of (place := fun i => some (i * ye.size, ye.size)) (place' := fun i => some (i * ye.size, ye.size)) (fun i x hx => hx) parts.toList #[] out (by rw [← e0]; exact h)
    have e1 : ∀ (g : Nat → Value), Array.map g (Array.range 0) = #[] := fun g => by simp
    simp only [hn, if_true, e1, this]
    rfl
  · rw [if_neg hn]
    simp only [hz, Result.andThen_ok]
    have e0 := zeros_eq ye.zero len (by rw [hzs]; exact hn) z.cells hzl
    rw [hzs] at e0
    have := fill_of (place := fun i => some (i * ye.size, ye.size)) (place' := fun i => some (i * ye.size, ye.size)) (fun i x hx => hx) parts.toList ((Array.range (len * ye.size)).map fun i => z.cells[i % z.cells.size]!) out (by rw [e0]; exact h)
    rw [this]
    rfl

theorem run_makeSlice {t el : Nat} {ye : Ty} {n m : Int} (ht : P.underlying t = some (.slice el)) (he : ye.Ok P el) (h0 : 0 ≤ n) (h1 : n ≤ m) (h2 : m ≤ 140737488355328) (h3 : ye.bytes * m ≤ 140737488355328) :
    (Instr.makeSlice t (.int .i64 n) (.int .i64 m)).run P w = .ok (.slice (some ⟨w.heap.size, 0, none⟩) n.toNat m.toNat) (w.alloc (.cells (zerosA ye.zero m.toNat) el)) := by
  obtain ⟨i, hi, hi1, hi2⟩ := run_typeInfo (w := w) he
  obtain ⟨z, hz, hzl⟩ := run_zero (w := w) he
  have w1 : IntKind.i64.wrap n = n := by unfold IntKind.wrap; simp [IntKind.signed, IntKind.bits]; omega
  have w2 : IntKind.i64.wrap m = m := by unfold IntKind.wrap; simp [IntKind.signed, IntKind.bits]; omega
  have hzs : z.cells = ye.zero.toArray := by rw [← hzl]
  have c : (decide (m < 0) || decide ((i.bytes : Int) * m > 2 ^ 48) || decide (n < 0) || decide (n > m)) = false := by
    rw [hi2]; simp; omega
  simp only [Instr.makeSlice, Sem.run_bind, run_under ht, Result.andThen_ok, asInt, asIntOf, Sem.run_pure, hi, w1, w2, Sem.run_ite]
  rw [if_neg (by simpa using c)]
  simp only [Result.andThen_ok, run_askRoom, run_sizeOf he, hz]
  by_cases hn : m.toNat * ye.size = 0
  · have e : zerosA ye.zero m.toNat = #[] := by simp [zerosA, he.zs, hn]
    have e1 : ∀ (g : Nat → Value), Array.map g (Array.range 0) = #[] := fun g => by simp
    rw [e]
    simp only [hn, if_true, e1]
    rfl
  · have e : zerosA ye.zero m.toNat = (Array.range (m.toNat * ye.size)).map fun i => z.cells[i % z.cells.size]! := by simp [zerosA, he.zs, hzs]
    rw [e, if_neg hn]
    rfl

theorem run_fieldAddr {s b f i off ft : Nat} {y yf : Ty} {fs : List (Nat × Nat)} (hy : y.Ok P s) (hk : y.tk = .agg fs) (hi : fs[i]? = some (off, ft)) (hf : yf.Ok P ft) (h0 : Nat.beq yf.size 0 = false) :
    (Instr.fieldAt s (.pointer (some ⟨b, f, none⟩)) i).run P w = .ok (.pointer (some ⟨b, f + off, none⟩)) w := by
  have htk := hy.tk
  rw [hk] at htk
  obtain ⟨fl, hfl, hfs⟩ := htk
  rw [← hfs, List.getElem?_map] at hi
  have hi' : fl[i]? = fl.toList[i]? := by simp
  cases hx : fl.toList[i]? with
  | none => rw [hx] at hi; cases hi
  | some x =>
    rw [hx] at hi hi'
    simp only [Option.map_some, Option.some.injEq, Prod.mk.injEq] at hi
    obtain ⟨rfl, rfl⟩ := hi
    have hne : yf.size ≠ 0 := fun e => by rw [e] at h0; cases h0
    simp [Instr.fieldAt, run_under hfl, hi', Instr.sureAddr, fieldPlace, run_sizeOf hf, hne, add_none]

theorem partW_run {ft off : Nat} {cs : Array Value} {K : Value → Prop} (hT : AllOk P tys) (h : partW tys ft cs.toList off K) : ∃ v, K v ∧ ∀ w, (part ft cs off).run P w = .ok v w := by
  unfold partW at h
  split at h
  · rename_i y hl
    have hy := ok_of_look hT hl
    have htk := hy.tk
    have ext : ((cs.toList.drop off).take y.size).toArray = cs.extract off (off + y.size) := by
      apply Array.ext'
      simp [List.take_drop]
    rw [ext] at h
    cases hk : y.tk with
    | agg fs => rw [hk] at h htk; exact ⟨.agg (cs.extract off (off + y.size)), h, fun w => by simp [part, run_isAgg_yes htk, run_sizeOf hy]⟩
    | arr n e => rw [hk] at h htk; exact ⟨.agg (cs.extract off (off + y.size)), h, fun w => by simp [part, run_isAgg_arr htk, run_sizeOf hy]⟩
    | tuple ts => rw [hk] at h; exact h.elim
    | other => rw [hk] at h; exact h.elim
    | _ =>
      rw [hk] at h htk
      dsimp only at h
      split at h
      · rename_i v hv
        have hv' : cs[off]? = some v := by simpa using hv
        exact ⟨v, h, fun w => by simp [part, run_isAgg_no htk rfl, hv']⟩
      · exact h.elim
  · exact h.elim

theorem run_indexAddr {t el n c b f : Nat} {k : IntKind} {j : Int} {ye : Ty} (ht : P.underlying t = some (.slice el)) (he : ye.Ok P el) (h0 : 0 ≤ j) (h1 : j < n) :
    (Instr.indexAt t (.slice (some ⟨b, f, none⟩) n c) (.int k j)).run P w = .ok (.pointer (some ⟨b, f + j.toNat * ye.size, none⟩)) w := by
  simp [Instr.indexAt, asIntOf, run_under ht, h0, h1, run_sizeOf he, add_none]

theorem run_indexAddr_arr {t el n b f : Nat} {k : IntKind} {j : Int} {ye : Ty} (ht : P.underlying t = some (.array n el)) (he : ye.Ok P el) (h0 : 0 ≤ j) (h1 : j < n) :
    (Instr.indexAt t (.pointer (some ⟨b, f, none⟩)) (.int k j)).run P w = .ok (.pointer (some ⟨b, f + j.toNat * ye.size, none⟩)) w := by
  simp [Instr.indexAt, Instr.sureAddr, asIntOf, run_under ht, h0, h1, run_sizeOf he, add_none]

theorem run_index_str {t : Nat} {s : ByteArray} {k : IntKind} {j : Int} {c : UInt8} (ht : P.underlying t = some .string) (h0 : 0 ≤ j) (hc : s[j.toNat]? = some c) :
    (Instr.index t (.string s) (.int k j)).run P w = .ok (.int .u8 c.toNat) w := by
  simp [Instr.index, asIntOf, run_under ht, h0, hc]

theorem run_index_arr {t el n : Nat} {cs : Array Value} {k : IntKind} {j : Int} {ye : Ty} {v : Value} (ht : P.underlying t = some (.array n el)) (he : ye.Ok P el) (h0 : 0 ≤ j) (h1 : j < n) (hv : (part el cs (j.toNat * ye.size)).run P w = .ok v w) :
    (Instr.index t (.agg cs) (.int k j)).run P w = .ok v w := by
  simp [Instr.index, asIntOf, run_under ht, h0, h1, run_sizeOf he, hv]

theorem val_next {s : Sem Value} {v : Value} {w w' : World} (h : s.run P w = .ok v w') : (do pure (.value (← s)) : Sem Next).run P w = .ok (.value v) w' := by
  simp [h]

theorem builtP_run {b : Builtin} {ts : Array TypeId} {rt : Nat} {cs : Array Bool} {args : List Value} {K : Value → Prop} (hT : AllOk P tys) (h : builtP tys b ts args K) :
    ∃ v, K v ∧ ∀ w, (builtin b ts rt cs args.toArray).run P w = .ok (.value v) w := by
  have h0 : ∀ {y : Ty}, look tys (ts.toList.headD 0) = some y → Nat.beq ts.size 1 = true → ∃ t, ts[0]? = some t ∧ y.tk.ok P t := by
    intro y hl hn
    have hn := Nat.eq_of_beq_eq_true hn
    have : 0 < ts.size := by omega
    refine ⟨ts[0], by simp, ?_⟩
    have e : ts.toList.headD 0 = ts[0] := by
      have : ts.toList[0]? = some ts[0] := by simp
      cases hx : ts.toList with
      | nil => rw [hx] at this; cases this
      | cons a r => rw [hx] at this; simpa using this
    exact e ▸ (ok_of_look hT hl).tk
  unfold builtP at h
  split at h
  · split at h
    · split at h
      · rename_i hl
        obtain ⟨hn, h⟩ := cond_false_elim h
        obtain ⟨t, ht, hk⟩ := h0 hl hn
        exact ⟨_, h, fun w => by simp [builtin, Builtin.len_, ht, run_under (show P.underlying t = _ from hk), goInt]⟩
      · exact h.elim
    · split at h
      · rename_i hl
        obtain ⟨hn, h⟩ := cond_false_elim h
        obtain ⟨t, ht, hk⟩ := h0 hl hn
        exact ⟨_, h, fun w => by simp [builtin, Builtin.len_, ht, run_under (show P.underlying t = _ from hk), goInt]⟩
      · exact h.elim
    · exact h.elim
  · split at h
    · split at h
      · rename_i hl
        obtain ⟨hn, h⟩ := cond_false_elim h
        obtain ⟨t, ht, hk⟩ := h0 hl hn
        exact ⟨_, h, fun w => by simp [builtin, Builtin.cap_, ht, run_under (show P.underlying t = _ from hk), goInt]⟩
      · exact h.elim
    · exact h.elim
  · split at h
    · exact ⟨_, h, fun w => by simp [builtin, Builtin.min_, Builtin.min2]⟩
    · exact h.elim
  · split at h
    · exact ⟨_, h, fun w => by simp [builtin, Builtin.max_, Builtin.max2]⟩
    · exact h.elim
  · exact h.elim

end Go.Vx
