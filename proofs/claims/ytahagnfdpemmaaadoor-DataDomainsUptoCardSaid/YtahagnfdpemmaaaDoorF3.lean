/- Data that came in, as trees. -/
import Derived.Test.YtahagnfdpemmaaaDoorF2
import Derived.Lib.AtoiErrMem
import Derived.Laws.StructEq
import Derived.LaidMore
import Derived.Stop.LaidErr
import Derived.ChangeArms
import Derived.OpenShut
/- part AvM -/
section
namespace Go.Av
open Go.Vx Go.RowKit

theorem idx_get : ∀ {ps : List Nat} {i k : Nat}, idx ps i = some k → ps[k]? = some i
  | [], i, k, h => by cases h
  | p :: ps, i, k, h => by
    simp only [idx] at h
    cases hb : Nat.beq p i with
    | true => rw [hb] at h; cases h; simp [beq_elim hb]
    | false =>
      rw [hb] at h; dsimp only [cond] at h
      cases hr : idx ps i with
      | none => rw [hr] at h; cases h
      | some k' => rw [hr] at h; cases h; simpa using idx_get hr
theorem renL_map (f : Nat → Option Nat) : ∀ l : List V, renL f l = l.map (renV f)
  | [] => rfl
  | v :: l => by simp only [renL, List.map_cons, renL_map f l]
theorem hasB_false {l : List Nat} {i : Nat} (h : (!hasB l i) = true) : i ∉ l := fun hm => by
  have : hasB l i = true := List.any_eq_true.2 ⟨i, hm, Nat.beq_refl i⟩
  rw [this] at h; cases h
theorem idsOk_elim {n : Nat} : ∀ {ps : List Nat}, idsOk n ps = true → ps.Nodup ∧ ∀ i ∈ ps, i < n
  | [], _ => ⟨List.nodup_nil, fun i h => by cases h⟩
  | p :: ps, h => by
    obtain ⟨h1, h2⟩ := and_elim h
    obtain ⟨h3, h4⟩ := and_elim h2
    obtain ⟨k1, k2⟩ := idsOk_elim h4
    refine ⟨List.nodup_cons.2 ⟨hasB_false h3, k1⟩, fun i hi => ?_⟩
    rcases List.mem_cons.1 hi with e | hi
    · subst e; exact ble_elim h1
    · exact k2 i hi

section
variable {ax : Ax} {ah : AH} {gs : List Nat} {G : Nat → Value} {w w' : World} {F F' : Nat → Nat → Prop} {β β' : Nat → Value} {σ σ' : Store} {v : Value}

/-- numbers changed -/
structure Ren (f : Nat → Option Nat) (β : Nat → Value) (σ : Store) (β' : Nat → Value) (σ' : Store) : Prop where
  lt : ∀ i k, i < σ.length → f i = some k → k < σ'.length
  same : ∀ i k, i < σ.length → f i = some k → β' k = β i
  kind : ∀ i k, i < σ.length → f i = some k → obLe (getO σ i) (getO σ' k)

theorem RV.ren {f : Nat → Option Nat} (hf : Ren f β σ β' σ') {u : V} {v : Value} (h : RV gs G w F β σ u v) : RV gs G w F β' σ' (renV f u) v := by
  induction h with
  | fz u v h => cases h <;> exact .fz _ _ (by first | exact .int _ _ | exact .bool _ | exact .str _ | exact .sl _ _ _ _ _ ‹_› ‹_› ‹_› ‹_› ‹_› | exact .ptn | exact .pts _ _ _ _ ‹_› ‹_› | exact .errn | exact .errs _ ‹_› _ _ ‹_›)
  | nls => exact .nls
  | nilf => exact .nilf
  | nilm => exact .nilm
  | slc z l a hv => exact .slc z l a hv
  | yl l => exact .yl l
  | own i a n c hi hl =>
    simp only [renV]
    cases hk : f i with
    | none => exact .junk _
    | some k =>
      refine .own k a n c (hf.lt i k hi hk) fun t z fz l e => ?_
      have h2 := hf.kind i k hi hk
      rw [e] at h2
      rw [hf.same i k hi hk]
      cases ho : getO σ i <;> rw [ho] at h2 <;> simp [obLe] at h2
      exact hl _ _ _ _ ho
  | ptr i o b o' hi hl =>
    simp only [renV]
    cases hk : f i with
    | none => exact .junk _
    | some k =>
      refine .ptr k o b o' (hf.lt i k hi hk) fun l e => ?_
      have h2 := hf.kind i k hi hk
      rw [e] at h2
      rw [hf.same i k hi hk]
      cases ho : getO σ i <;> rw [ho] at h2 <;> simp [obLe] at h2
      exact hl _ ho
  | eptr i j o b o' hi hl =>
    simp only [renV]
    cases hk : f i with
    | none => exact .junk _
    | some k =>
      refine .eptr k j o b o' (hf.lt i k hi hk) fun t z fz l e => ?_
      have h2 := hf.kind i k hi hk
      rw [e] at h2
      rw [hf.same i k hi hk]
      cases ho : getO σ i <;> rw [ho] at h2 <;> simp [obLe] at h2
      obtain ⟨rfl, rfl⟩ := h2
      exact hl _ _ _ _ ho
  | gl g => exact .gl g
  | fn g f' c vf vc h1 h2 h3 h4 ih1 ih2 =>
    simp only [renV, renL_map]
    refine .fn g _ _ vf vc (by simpa using h1) (fun i u v hu hv => ?_) (by simpa using h3) (fun i u v hu hv => ?_)
    · rw [List.getElem?_map] at hu
      cases hx : f'[i]? with
      | none => rw [hx] at hu; cases hu
      | some x => rw [hx] at hu; cases hu; exact ih1 i x v hx hv
    · rw [List.getElem?_map] at hu
      cases hx : c[i]? with
      | none => rw [hx] at hu; cases hu
      | some x => rw [hx] at hu; cases hu; exact ih2 i x v hx hv
  | map i b hi hl =>
    simp only [renV]
    cases hk : f i with
    | none => exact .junk _
    | some k =>
      refine .map k b (hf.lt i k hi hk) fun t z fz l e => ?_
      have h2 := hf.kind i k hi hk
      rw [e] at h2
      rw [hf.same i k hi hk]
      cases ho : getO σ i <;> rw [ho] at h2 <;> simp [obLe] at h2
      obtain ⟨rfl, rfl⟩ := h2
      exact hl _ _ _ _ ho
  | agg l vs h1 h2 ih =>
    simp only [renV, renL_map]
    refine .agg _ vs (by simpa using h1) fun i u v hu hv => ?_
    rw [List.getElem?_map] at hu
    cases hx : l[i]? with
    | none => rw [hx] at hu; cases hu
    | some x => rw [hx] at hu; cases hu; exact ih i x v hx hv
  | tup l vs h1 h2 ih =>
    simp only [renV, renL_map]
    refine .tup _ vs (by simpa using h1) fun i u v hu hv => ?_
    rw [List.getElem?_map] at hu
    cases hx : l[i]? with
    | none => rw [hx] at hu; cases hu
    | some x => rw [hx] at hu; cases hu; exact ih i x v hx hv
  | ifc t l vs h1 h2 => exact .ifc t l vs h1 h2
  | undef => exact .undef
  | junk v => exact .junk v

theorem Rl.ren {f : Nat → Option Nat} (hf : Ren f β σ β' σ') {us : List V} {vs : List Value} (h : Rl (RV gs G w F β σ) us vs) : Rl (RV gs G w F β' σ') (renL f us) vs := by
  rw [renL_map]
  refine ⟨by simpa using h.1, fun i u v hu hv => ?_⟩
  rw [List.getElem?_map] at hu
  cases hx : us[i]? with
  | none => rw [hx] at hu; cases hu
  | some x => rw [hx] at hu; cases hu; exact (h.2 i x v hx hv).ren hf

theorem renOb_le (f : Nat → Option Nat) (o : Ob) : obLe o (renOb f o) := by
  cases o <;> simp [renOb, obLe, renL_map]
theorem renOb_live {f : Nat → Option Nat} {o : Ob} : Live (renOb f o) ↔ Live o := by cases o <;> simp [renOb, Live]
theorem renOb_has {f : Nat → Option Nat} {o : Ob} {i j b : Nat} (hβ : β' j = β i) : Has β' j (renOb f o) b ↔ Has β i o b := by
  unfold Has; rw [renOb_live, hβ]
theorem renOb_mut {f : Nat → Option Nat} {o : Ob} {i j b k : Nat} (hβ : β' j = β i) : Mut β' j (renOb f o) b k ↔ Mut β i o b k := by
  unfold Mut; rw [renOb_has hβ]; cases o <;> simp [renOb]
theorem ObjR.ren {f : Nat → Option Nat} (hf : Ren f β σ β' σ') {i j : Nat} (hβ : β' j = β i) {o : Ob} (h : ObjR gs G w F β σ i o) : ObjR gs G w F β' σ' j (renOb f o) := by
  cases o with
  | dead => trivial
  | mp l => exact h
  | box l =>
    obtain ⟨b, t, cs, e, hh, hr, h1⟩ := h
    exact ⟨b, t, cs, hβ.trans e, hh, hr.ren hf, h1⟩
  | lst t z fz l =>
    rcases h with ⟨r, es, clock, e, hh, k⟩ | ⟨xs, k1, k2, k3, k4, k5⟩
    · exact .inl ⟨r, es, clock, hβ.trans e, hh, k⟩
    exact .inr ⟨xs, by rw [hβ]; exact k1, k2, k3, k4, by rw [hβ]; exact k5⟩

theorem getO_mkS {obs : List Ob} {k : Nat} {o : Ob} (h : obs[k]? = some o) : getO (mkS obs) k = o := by simp [getO, mkS, h]
theorem getO_mkS1 {obs : List Ob} {k : Nat} {o : Ob} (h : obs[k]? = some o) : getO (mkS1 obs) k = o := by simp [getO, mkS1, h]
theorem getO_mkS_ge {obs : List Ob} {k : Nat} (h : obs.length ≤ k) : getO (mkS obs) k = .dead := getO_ge (by simpa [mkS] using h)
/-- the objects that a call is handed -/
def subOb (σ : Store) (ps : List Nat) : List Ob := ps.map fun i => renOb (idx ps) (getO σ i)
def subB (β : Nat → Value) (ps : List Nat) : Nat → Value := fun k => match ps[k]? with | some i => β i | none => .nilIface

theorem sub_get {ps : List Nat} {k i : Nat} (h : ps[k]? = some i) : getO (mkS (subOb σ ps)) k = renOb (idx ps) (getO σ i) ∧ subB β ps k = β i := by
  refine ⟨getO_mkS ?_, by simp [subB, h]⟩
  unfold subOb
  rw [List.getElem?_map, h]; rfl
theorem sub_ren (ps : List Nat) : Ren (idx ps) β σ (subB β ps) (mkS (subOb σ ps)) := by
  refine ⟨fun i k _ h => ?_, fun i k _ h => (sub_get (σ := σ) (idx_get h)).2, fun i k _ h => ?_⟩
  · have := (List.getElem?_eq_some_iff.1 (idx_get h)).1
    simpa [mkS, subOb] using this
  · rw [(sub_get (β := β) (idx_get h)).1]; exact renOb_le _ _
theorem sub_has {ps : List Nat} {k b : Nat} (h : Has (subB β ps) k (getO (mkS (subOb σ ps)) k) b) : ∃ i, ps[k]? = some i ∧ Has β i (getO σ i) b := by
  rcases Nat.lt_or_ge k ps.length with hk | hk
  · obtain ⟨e1, e2⟩ := sub_get (σ := σ) (β := β) (List.getElem?_eq_getElem hk)
    rw [e1, renOb_has e2] at h
    exact ⟨_, List.getElem?_eq_getElem hk, h⟩
  · rw [getO_mkS_ge (by simpa [subOb] using hk)] at h
    exact (no_has_dead h).elim
theorem sub_mut {ps : List Nat} {k b o : Nat} (h : Mut (subB β ps) k (getO (mkS (subOb σ ps)) k) b o) : ∃ i, ps[k]? = some i ∧ Mut β i (getO σ i) b o := by
  rcases Nat.lt_or_ge k ps.length with hk | hk
  · obtain ⟨e1, e2⟩ := sub_get (σ := σ) (β := β) (List.getElem?_eq_getElem hk)
    rw [e1, renOb_mut e2] at h
    exact ⟨_, List.getElem?_eq_getElem hk, h⟩
  · rw [getO_mkS_ge (by simpa [subOb] using hk)] at h
    exact (no_has_dead h.has).elim

theorem sub_sim (h : Sim gs G w F β σ) {ps : List Nat} (hnd : ps.Nodup) : Sim gs G w F (subB β ps) (mkS (subOb σ ps)) := by
  refine ⟨h.lt, fun g hg => ?_, fun k => ?_, fun g cs hg => ?_, fun i j b hij hi hj => ?_, fun k b o hm => ?_⟩
  · obtain ⟨h1, h2, h3, t, b, h4, h5, h6, h7⟩ := h.glob g hg
    exact ⟨h1, h2, fun k hk => by obtain ⟨i, _, hi⟩ := sub_has hk; exact h3 i hi, t, b, h4, h5, h6, fun k hk => by obtain ⟨i, _, hi⟩ := sub_has hk; exact h7 i hi⟩
  · rcases Nat.lt_or_ge k ps.length with hk | hk
    · obtain ⟨e1, e2⟩ := sub_get (σ := σ) (β := β) (List.getElem?_eq_getElem hk)
      rw [e1]
      exact (h.obj _).ren (sub_ren ps) e2
    · rw [getO_mkS_ge (by simpa [subOb] using hk)]; trivial
  · obtain ⟨h1, h2, h3⟩ := h.tab g cs hg
    exact ⟨h1, h2, fun k hk => by obtain ⟨i, _, hi⟩ := sub_has hk; exact h3 i hi⟩
  · obtain ⟨i', h1, h2⟩ := sub_has hi
    obtain ⟨j', h3, h4⟩ := sub_has hj
    refine h.sep i' j' b (fun e => hij ?_) h2 h4
    subst e
    exact (List.getElem?_inj (List.getElem?_eq_some_iff.1 h1).1 hnd).1 (h1.trans h3.symm)
  · obtain ⟨i, _, hi⟩ := sub_mut hm
    exact h.dis i b o hi

/-! ### what comes back -/
theorem merge_spec : ∀ (ps : List Nat) (os : List Ob) (σ : Store), ps.Nodup → (∀ i ∈ ps, i < σ.length) → ps.length ≤ os.length →
    (merge σ ps os).length = σ.length + (os.length - ps.length) ∧
    (∀ (k p : Nat) o, ps[k]? = some p → os[k]? = some o → getO (merge σ ps os) p = o ∧ verO (merge σ ps os) p = verO σ p + 1) ∧
    (∀ i, i < σ.length → i ∉ ps → getO (merge σ ps os) i = getO σ i ∧ verO (merge σ ps os) i = verO σ i) ∧
    (∀ (j : Nat) o, os[ps.length + j]? = some o → getO (merge σ ps os) (σ.length + j) = o)
  | [], os, σ, _, _, _ => by
    simp only [merge]
    refine ⟨by simp, fun k p o h => by simp at h, fun i hi _ => ⟨getO_left hi, verO_left hi⟩, fun j o h => ?_⟩
    rw [List.length_nil, Nat.zero_add] at h
    simp [getO, List.getElem?_append_right, h]
  | p :: ps, [], σ, _, _, h => by simp at h
  | p :: ps, o :: os, σ, hnd, hlt, hle => by
    rw [List.nodup_cons] at hnd
    simp only [merge]
    obtain ⟨h1, h2, h3, h4⟩ := merge_spec ps os (putO σ p o) hnd.2 (fun i hi => by rw [putO_length]; exact hlt i (List.mem_cons_of_mem _ hi)) (by simpa using hle)
    have hp := hlt p List.mem_cons_self
    refine ⟨by rw [h1, putO_length]; simp, fun k q o' hk ho => ?_, fun i hi hm => ?_, fun j o' hj => ?_⟩
    · cases k with
      | zero =>
        simp at hk ho; subst hk ho
        obtain ⟨e1, e2⟩ := h3 p (by rw [putO_length]; exact hp) hnd.1
        exact ⟨e1.trans (getO_put hp _), e2.trans (verO_put hp _)⟩
      | succ k =>
        simp at hk ho
        obtain ⟨e1, e2⟩ := h2 k q o' hk ho
        have hne : q ≠ p := fun e => hnd.1 (e ▸ List.mem_of_getElem? hk)
        exact ⟨e1, by rw [e2, verO_put_ne hne]⟩
    · have hne : i ≠ p := fun e => hm (by rw [e]; exact List.mem_cons_self)
      obtain ⟨e1, e2⟩ := h3 i (by rw [putO_length]; exact hi) (fun h => hm (List.mem_cons_of_mem _ h))
      exact ⟨e1.trans (getO_put_ne hne _), e2.trans (verO_put_ne hne _)⟩
    · have := h4 j o' (by simpa [Nat.add_right_comm] using hj)
      rwa [putO_length] at this

/-- behind a call: the caller's objects -/
theorem call_back (hs : Sim gs G w F β σ) {ps : List Nat} (hnd : ps.Nodup) (hlt : ∀ i ∈ ps, i < σ.length) {os : List Ob} {β'' : Nat → Value} (hs' : Sim gs G w' F' β'' (mkS1 os)) (hst : Step w F (subB β ps) (mkS (subOb σ ps)) w' F' β'' (mkS1 os)) :
    ∃ βn, Sim gs G w' F' βn (merge σ ps (os.map (renOb (backF ps σ.length)))) ∧ Step w F β σ w' F' βn (merge σ ps (os.map (renOb (backF ps σ.length)))) ∧ Ren (backF ps σ.length) β'' (mkS1 os) βn (merge σ ps (os.map (renOb (backF ps σ.length)))) := by
  have hlen : ps.length ≤ os.length := by have := hst.len; simpa [mkS, mkS1, subOb] using this
  obtain ⟨m1, m2, m3, m4⟩ := merge_spec ps (os.map (renOb (backF ps σ.length))) σ hnd hlt (by simpa using hlen)
  rw [List.length_map] at m1
  generalize hσn : merge σ ps (os.map (renOb (backF ps σ.length))) = σn at m1 m2 m3 m4 ⊢
  let βn : Nat → Value := fun i => if i < σ.length then β i else β'' (ps.length + (i - σ.length))
  have bOld : ∀ i, i < σ.length → βn i = β i := fun i hi => if_pos hi
  have bNew : ∀ j, βn (σ.length + j) = β'' (ps.length + j) := fun j => by show (if _ then _ else _) = _; rw [if_neg (by omega)]; congr 1; omega
  have bSub : ∀ (k : Nat) p, ps[k]? = some p → β'' k = β p := fun k p hk => by
    have hkl : k < ps.length := (List.getElem?_eq_some_iff.1 hk).1
    rw [(hst.ext k (by simpa [mkS, subOb] using hkl)).1, (sub_get (σ := σ) hk).2]
  -- each number of the callee's: what it is in the caller's
  have back : ∀ (k : Nat) o, os[k]? = some o → ∃ i, backF ps σ.length k = some i ∧ i < σn.length ∧ βn i = β'' k ∧ getO σn i = renOb (backF ps σ.length) o := fun k o hk => by
    have hko : k < os.length := (List.getElem?_eq_some_iff.1 hk).1
    have hmap : (os.map (renOb (backF ps σ.length)))[k]? = some (renOb (backF ps σ.length) o) := by rw [List.getElem?_map, hk]; rfl
    rcases Nat.lt_or_ge k ps.length with h | h
    · have hp := List.getElem?_eq_getElem h
      have hplt := hlt _ (List.getElem_mem h)
      refine ⟨ps[k], by simp [backF, hp], by omega, by rw [bOld _ hplt, bSub k _ hp], (m2 k _ _ hp hmap).1⟩
    · refine ⟨σ.length + (k - ps.length), by simp [backF, List.getElem?_eq_none h], by omega, by rw [bNew, show ps.length + (k - ps.length) = k by omega], m4 _ _ (by rw [show ps.length + (k - ps.length) = k by omega]; exact hmap)⟩
  have hren : Ren (backF ps σ.length) β'' (mkS1 os) βn σn := by
    have key : ∀ k i, k < (mkS1 os).length → backF ps σ.length k = some i → i < σn.length ∧ βn i = β'' k ∧ obLe (getO (mkS1 os) k) (getO σn i) := fun k i hk h => by
      have hk' : k < os.length := by simpa [mkS1] using hk
      obtain ⟨i', e1, e2, e3, e4⟩ := back k _ (List.getElem?_eq_getElem hk')
      rw [h] at e1; cases e1
      refine ⟨e2, e3, ?_⟩
      rw [e4, getO_mkS1 (List.getElem?_eq_getElem hk')]; exact renOb_le _ _
    exact ⟨fun k i hk h => (key k i hk h).1, fun k i hk h => (key k i hk h).2.1, fun k i hk h => (key k i hk h).2.2⟩
  -- what the caller's numbers are
  have cls : ∀ i, (i < σ.length ∧ i ∉ ps ∧ getO σn i = getO σ i ∧ βn i = β i ∧ verO σn i = verO σ i) ∨ (∃ (k : Nat) (o : Ob), os[k]? = some o ∧ βn i = β'' k ∧ getO σn i = renOb (backF ps σ.length) o ∧ backF ps σ.length k = some i ∧ (i < σ.length → ps[k]? = some i ∧ verO σn i = verO σ i + 1)) ∨ getO σn i = .dead := fun i => by
    rcases Nat.lt_or_ge i σ.length with hi | hi
    · by_cases hm : i ∈ ps
      · obtain ⟨k, hk, rfl⟩ := List.getElem_of_mem hm
        have hko : k < os.length := by omega
        have hp := List.getElem?_eq_getElem hk
        have hmap : (os.map (renOb (backF ps σ.length)))[k]? = some (renOb (backF ps σ.length) os[k]) := by rw [List.getElem?_map, List.getElem?_eq_getElem hko]; rfl
        refine .inr (.inl ⟨k, os[k], List.getElem?_eq_getElem hko, by rw [bOld _ hi, bSub k _ hp], (m2 k _ _ hp hmap).1, by simp [backF, hp], fun _ => ⟨hp, (m2 k _ _ hp hmap).2⟩⟩)
      · exact .inl ⟨hi, hm, (m3 i hi hm).1, bOld i hi, (m3 i hi hm).2⟩
    · rcases Nat.lt_or_ge (ps.length + (i - σ.length)) os.length with h | h
      · obtain ⟨i', e1, e2, e3, e4⟩ := back _ _ (List.getElem?_eq_getElem h)
        have e5 : backF ps σ.length (ps.length + (i - σ.length)) = some i := by
          simp only [backF]
          rw [List.getElem?_eq_none (by omega)]
          simp only [Option.some.injEq]; omega
        rw [e5] at e1; cases e1
        exact .inr (.inl ⟨_, _, List.getElem?_eq_getElem h, e3, e4, e5, fun hlt' => by omega⟩)
      · exact .inr (.inr (getO_ge (by omega)))
  have subH : ∀ k b, Has (subB β ps) k (getO (mkS (subOb σ ps)) k) b → ∃ i, i ∈ ps ∧ Has β i (getO σ i) b := fun k b h => by
    obtain ⟨i, h1, h2⟩ := sub_has h
    exact ⟨i, List.mem_of_getElem? h1, h2⟩
  have subM : ∀ k b o, Mut (subB β ps) k (getO (mkS (subOb σ ps)) k) b o → ∃ i, i ∈ ps ∧ Mut β i (getO σ i) b o := fun k b o h => by
    obtain ⟨i, h1, h2⟩ := sub_mut h
    exact ⟨i, List.mem_of_getElem? h1, h2⟩
  have otherB : ∀ i, i ∉ ps → ∀ b, Has β i (getO σ i) b → w'.heap[b]? = w.heap[b]? := fun i hi b hb =>
    hst.block b (hs.has_lt hb) fun k hk => by
      obtain ⟨j, hj, hh⟩ := subH k b hk
      exact hs.sep i j b (fun e => hi (e ▸ hj)) hb hh
  have hstep : Step w F β σ w' F' βn σn := by
    refine ⟨hst.os, hst.tape, hst.output, hst.size, hst.fcell, fun b o hb hm => hst.cell b o hb fun k hk => ?_, fun b hb hm => hst.block b hb fun k hk => ?_, fun b o hf => ?_, fun i b hh => ?_, fun i b o hh => ?_, by omega, fun i hi => ?_, fun i hi => ?_⟩
    · obtain ⟨i, _, hi⟩ := subM k b o hk; exact hm i hi
    · obtain ⟨i, _, hi⟩ := subH k b hk; exact hm i hi
    · rcases hst.newF b o hf with h | h | ⟨k, h⟩
      · exact .inl h
      · exact .inr (.inl h)
      · obtain ⟨i, _, hi⟩ := subM k b o h; exact .inr (.inr ⟨i, hi⟩)
    · rcases cls i with ⟨h1, h2, h3, h4, _⟩ | ⟨k, o, h1, h2, h3, _⟩ | h1
      · rw [h3] at hh
        exact .inr ⟨i, hh.1, by rw [← h4]; exact hh.2⟩
      · rw [h3, renOb_has h2] at hh
        rw [← getO_mkS1 h1] at hh
        rcases hst.newH k b hh with h | ⟨j, h⟩
        · exact .inl h
        · obtain ⟨q, _, hq⟩ := subH j b h; exact .inr ⟨q, hq⟩
      · rw [h1] at hh; exact (no_has_dead hh).elim
    · rcases cls i with ⟨h1, h2, h3, h4, _⟩ | ⟨k, o', h1, h2, h3, _⟩ | h1
      · rw [h3] at hh
        refine .inr ⟨i, ?_⟩
        unfold Mut Has at hh ⊢; rw [h4] at hh; exact hh
      · rw [h3, renOb_mut h2] at hh
        rw [← getO_mkS1 h1] at hh
        rcases hst.newM k b o hh with h | ⟨j, h⟩
        · exact .inl h
        · obtain ⟨q, _, hq⟩ := subM j b o h; exact .inr ⟨q, hq⟩
      · rw [h1] at hh; exact (no_has_dead hh.has).elim
    · refine ⟨bOld i hi, ?_⟩
      rcases cls i with ⟨h1, h2, h3, h4, _⟩ | ⟨k, o', h1, h2, h3, _, h5⟩ | h1
      · rw [h3]; exact obLe.refl _
      · obtain ⟨hp, _⟩ := h5 hi
        rw [h3]
        have hkl : k < ps.length := (List.getElem?_eq_some_iff.1 hp).1
        have e := (hst.ext k (by simpa [mkS, subOb] using hkl)).2
        rw [(sub_get (β := β) hp).1, getO_mkS1 h1] at e
        exact ((renOb_le (idx ps) _).trans e).trans (renOb_le _ _)
      · rw [h1]; cases getO σ i <;> trivial
    · rcases cls i with ⟨h1, h2, h3, h4, h5⟩ | ⟨k, o', h1, h2, h3, _, h5⟩ | h1
      · exact ⟨Nat.le_of_eq h5.symm, fun _ => ⟨h3, otherB i h2⟩⟩
      · obtain ⟨_, e⟩ := h5 hi
        exact ⟨by omega, fun h => by omega⟩
      · by_cases hm : i ∈ ps
        · obtain ⟨k, hk, rfl⟩ := List.getElem_of_mem hm
          have hko : k < os.length := by omega
          have hp := List.getElem?_eq_getElem hk
          have hmap : (os.map (renOb (backF ps σ.length)))[k]? = some (renOb (backF ps σ.length) os[k]) := by rw [List.getElem?_map, List.getElem?_eq_getElem hko]; rfl
          have e := (m2 k _ _ hp hmap).2
          exact ⟨by omega, fun h => by omega⟩
        · obtain ⟨e1, e2⟩ := m3 i hi hm
          exact ⟨Nat.le_of_eq e2.symm, fun _ => ⟨e1, otherB i hm⟩⟩
  refine ⟨βn, ⟨hs'.lt, hs.glob_step hstep, fun i => ?_, hs.tab_step hstep, fun i j b hij hi hj => ?_, fun i b o hm hf => ?_⟩, hstep, hren⟩
  · rcases cls i with ⟨h1, h2, h3, h4, _⟩ | ⟨k, o', h1, h2, h3, _⟩ | h1
    · rw [h3]
      cases hg : getO σ i with
      | dead => trivial
      | _ => exact hg ▸ (hs.obj i).keep hstep.carry h4 fun b hv => otherB i h2 b ⟨by rw [hg]; trivial, hv⟩
    · rw [h3, ← getO_mkS1 h1]
      exact (hs'.obj k).ren hren h2
    · rw [h1]; trivial
  · have cross : ∀ (i : Nat) (k : Nat) (o : Ob), i ∉ ps → os[k]? = some o → Has β i (getO σ i) b → Has β'' k (getO (mkS1 os) k) b → False := fun i k o hi _ h1 h2 => by
      rcases hst.newH k b h2 with h | ⟨j, h⟩
      · have := hs.has_lt h1; omega
      · obtain ⟨q, hq, hh⟩ := subH j b h
        exact hs.sep i q b (fun e => hi (e ▸ hq)) h1 hh
    rcases cls i with ⟨i1, i2, i3, i4, _⟩ | ⟨k, o, i1, i2, i3, i4, _⟩ | i1 <;> rcases cls j with ⟨j1, j2, j3, j4, _⟩ | ⟨k', o', j1, j2, j3, j4, _⟩ | j1
    · rw [i3] at hi; rw [j3] at hj
      exact hs.sep i j b hij ⟨hi.1, by rw [← i4]; exact hi.2⟩ ⟨hj.1, by rw [← j4]; exact hj.2⟩
    · rw [i3] at hi; rw [j3, renOb_has j2, ← getO_mkS1 j1] at hj
      exact cross i k' o' i2 j1 ⟨hi.1, by rw [← i4]; exact hi.2⟩ hj
    · rw [j1] at hj; exact no_has_dead hj
    · rw [j3] at hj; rw [i3, renOb_has i2, ← getO_mkS1 i1] at hi
      exact cross j k o j2 i1 ⟨hj.1, by rw [← j4]; exact hj.2⟩ hi
    · rw [i3, renOb_has i2, ← getO_mkS1 i1] at hi
      rw [j3, renOb_has j2, ← getO_mkS1 j1] at hj
      refine hs'.sep k k' b (fun e => hij ?_) hi hj
      subst e
      rw [i4] at j4; cases j4; rfl
    · rw [j1] at hj; exact no_has_dead hj
    · rw [i1] at hi; exact no_has_dead hi
    · rw [i1] at hi; exact no_has_dead hi
    · rw [i1] at hi; exact no_has_dead hi
  · rcases cls i with ⟨i1, i2, i3, i4, _⟩ | ⟨k, o', i1, i2, i3, _⟩ | i1
    · rw [i3] at hm
      have hm' : Mut β i (getO σ i) b o := by unfold Mut Has at hm ⊢; rw [i4] at hm; exact hm
      rcases hst.newF b o hf with h | h | ⟨k, h⟩
      · exact hs.dis i b o hm' h
      · have := hs.has_lt hm'.has; omega
      · obtain ⟨q, hq, hh⟩ := subM k b o h
        exact hs.sep i q b (fun e => i2 (e ▸ hq)) hm'.has hh.has
    · rw [i3, renOb_mut i2, ← getO_mkS1 i1] at hm
      exact hs'.dis k b o hm hf
    · rw [i1] at hm; exact no_has_dead hm.has
end
end Go.Av
end

/- part AvN -/
section
namespace Go.Av
open Go.Vx Go.RowKit

theorem exC_elim : ∀ {cs : List Cs} {K : List V → Prop}, exC cs K → ∃ vs, K vs
  | [], _, h => ⟨[], h⟩
  | c :: cs, K, h => by
    have key : ∃ v, exC cs fun vs => K (v :: vs) := by
      cases c with
      | d a => cases a <;> exact ⟨_, h.choose_spec⟩
      | l v => exact ⟨v, h⟩
    obtain ⟨v, hv⟩ := key
    obtain ⟨vs, h2⟩ := exC_elim hv
    exact ⟨v :: vs, h2⟩
theorem exR_elim : ∀ {rs : List Rs} {K : List V → Prop}, exR rs K → ∃ vs, K vs
  | [], _, h => ⟨[], h⟩
  | c :: cs, K, h => by
    have key : ∃ v, exR cs fun vs => K (v :: vs) := by
      cases c with
      | c a => cases a <;> exact ⟨_, h.choose_spec⟩
      | ag as => obtain ⟨vs, _, h⟩ := exA_elim h; exact ⟨_, h⟩
      | lit v => exact ⟨v, h⟩
    obtain ⟨v, hv⟩ := key
    obtain ⟨vs, h2⟩ := exR_elim hv
    exact ⟨v :: vs, h2⟩
theorem exO_elim : ∀ {os : List Os} {K : List Ob → Prop}, exO os K → ∃ vs, K vs
  | [], _, h => ⟨[], h⟩
  | c :: cs, K, h => by
    have key : ∃ v, exO cs fun vs => K (v :: vs) := by
      cases c with
      | box c => obtain ⟨vs, h⟩ := exC_elim h; exact ⟨_, h⟩
      | lst e z fz => exact ⟨_, h.choose_spec⟩
      | dead => exact ⟨_, h⟩
    obtain ⟨v, hv⟩ := key
    obtain ⟨vs, h2⟩ := exO_elim hv
    exact ⟨v :: vs, h2⟩

theorem exT1_mono {tys : Tys} {t : Nat} {K' K'' : Value → Prop} (hm : ∀ v, K' v → K'' v) (h : exT1 tys t K') : exT1 tys t K'' := by
  unfold exT1 at h ⊢
  split at h
  · split at h
    · exact exL_mono (fun vs hv => hm _ hv) h
    · exact exL_mono (fun vs hv => hm _ hv) h
    · split at h
      · exact Sh.ex_mono (fun v hv => hm _ hv) h
      · exact h
  · exact h
theorem exTs_mono {tys : Tys} : ∀ (ts : List Nat) {K' K'' : List Value → Prop}, (∀ vs, K' vs → K'' vs) → exTs tys ts K' → exTs tys ts K''
  | [], _, _, hm, h => hm _ h
  | _ :: ts, _, _, hm, h => exT1_mono (fun _ hv => exTs_mono ts (fun _ => hm _) hv) h

theorem retW_mono {tys : Tys} {rts : List Nat} {K K' : Value → World → Prop} (hm : ∀ v w', K v w' → K' v w') {e : Ending} {w' : World} (h : retW tys rts K e w') : retW tys rts K' e w' := by
  unfold retW at h ⊢
  split at h
  · exact ⟨h.1, hm _ _ h.2⟩
  · exact exT1_mono (fun v hv => ⟨hv.1, hm _ _ hv.2⟩) h
  · exact exTs_mono _ (fun vs hv => ⟨hv.1, hm _ _ hv.2⟩) h

section
variable {ax : Ax} {ah : AH} {gs : List Nat} {G : Nat → Value} {w w' : World} {F F' : Nat → Nat → Prop} {β β' : Nat → Value} {σ σ' : Store} {v : Value}

theorem fitT_ex {tys : Tys} {t : Nat} {u : V} {x : Value} {K : Value → Prop} (h : fitT tys t u = true) (hv : RV gs G w F β σ u x) (hk : K x) : exT1 tys t K := by
  unfold fitT at h
  unfold exT1
  cases hy : Vx.look tys t with
  | none => rw [hy] at h; cases h
  | some y =>
    rw [hy] at h; dsimp only at h ⊢
    have agg : aggFits y.sh u = true → exL y.sh fun vs => K (.agg vs.toArray) := fun h => by
      cases u <;> simp only [aggFits] at h <;> try cases h
      obtain ⟨vs, rfl, hr⟩ := hv.agg_inv
      exact fits_exL h hr hk
    have one : (match y.sh with | [s] => fits s u | _ => false) = true → (match y.sh with | [s] => s.ex K | _ => False) := fun h => by
      split at h
      · rename_i s e; exact fits_ex h hv hk
      · cases h
    cases hk' : y.tk <;> rw [hk'] at h <;> dsimp only at h ⊢ <;> first | exact agg h | exact one h

theorem fitTs_ex {tys : Tys} : ∀ {ts : List Nat} {us : List V} {xs : List Value} {K : List Value → Prop}, fitTs tys ts us = true → Rl (RV gs G w F β σ) us xs → K xs → exTs tys ts K
  | [], [], xs, K, _, hv, hk => by rw [hv.nil_inv] at hk; exact hk
  | [], _ :: _, _, _, h, _, _ => by cases h
  | _ :: _, [], _, _, h, _, _ => by cases h
  | t :: ts, u :: us, xs, K, h, hv, hk => by
    obtain ⟨x, xs', rfl, h1, h2⟩ := hv.cons_inv
    obtain ⟨k1, k2⟩ := and_elim h
    exact fitT_ex k1 h1 (fitTs_ex k2 h2 hk)

theorem retW_intro {tys : Tys} {rts : List Nat} {us : List V} {xs : List Value} {K : Value → World → Prop} (h : fitTs tys rts us = true) (hv : Rl (RV gs G w F β σ) us xs) (hk : K (oneOr xs) w') : retW tys rts K (.returned (oneOr xs)) w' := by
  match rts, us, h with
  | [], [], h => rw [hv.nil_inv] at hk ⊢; exact ⟨rfl, hk⟩
  | [t], [u], h =>
    obtain ⟨x, xs', rfl, h1, h2⟩ := hv.cons_inv
    cases h2.nil_inv
    exact fitT_ex (K := fun v => (Ending.returned (oneOr [x])) = .returned v ∧ K v w') (and_elim h).1 h1 ⟨rfl, hk⟩
  | t :: t' :: ts, u :: u' :: us, h =>
    obtain ⟨x, xs', rfl, h1, h2⟩ := hv.cons_inv
    obtain ⟨x', xs'', rfl, h3, h4⟩ := h2.cons_inv
    exact fitTs_ex (K := fun vs => (Ending.returned (oneOr (x :: x' :: xs''))) = .returned (.tuple vs.toArray) ∧ K (.tuple vs.toArray) w') h hv ⟨rfl, hk⟩
  | [], _ :: _, h => cases h
  | _ :: _, [], h => cases h
  | [_], _ :: _ :: _, h => exact absurd (and_elim h).2 (by simp [fitTs])
  | _ :: _ :: _, [_], h => exact absurd (and_elim h).2 (by simp [fitTs])

theorem packT_rel {us : List V} {xs : List Value} (h : Rl (RV gs G w F β σ) us xs) : RV gs G w F β σ (packT us) (oneOr xs) := by
  match us, h with
  | [], h => rw [h.nil_inv]; exact .mk_tup .nil
  | [u], h =>
    obtain ⟨x, xs', rfl, h1, h2⟩ := h.cons_inv
    cases h2.nil_inv
    exact h1
  | u :: u' :: us, h =>
    obtain ⟨x, xs', rfl, h1, h2⟩ := h.cons_inv
    obtain ⟨x', xs'', rfl, h3, h4⟩ := h2.cons_inv
    exact .mk_tup h

theorem scalls_run (hE : ErrOk ax.P ax.gs ax.ift ax.tabs G) (hs : Sim ax.gs G w F β σ) {g : Nat} {as : List V} {vals : List Value} {ps : List Nat} {rts : List Nat} {Kc : List V → List Ob → Prop} {K : V → Store → Prop} (hv : Rl (RV ax.gs G w F β σ) as vals) (hnd : ps.Nodup) (hlt : ∀ i ∈ ps, i < σ.length)
    (h : SCalls ax g (renL (idx ps) as) (subOb σ ps) Kc) (hK : ∀ us os, Kc us os → fitTs ax.tys rts us = true ∧ K (packT (renL (backF ps σ.length) us)) (merge σ ps (os.map (renOb (backF ps σ.length))))) :
    Calls ax.P g vals.toArray w (retW ax.tys rts fun v w' => Out ax.gs G w F β σ K v w') := by
  refine (h G w F (subB β ps) vals hE (sub_sim hs hnd) (hv.ren (sub_ren ps))).mono ?_
  rintro e w' ⟨us, os, F', β', rvals, k, rfl, hr, hs', hst⟩
  obtain ⟨k1, k2⟩ := hK us os k
  obtain ⟨βn, n1, n2, n3⟩ := call_back hs hnd hlt hs' hst
  exact retW_intro k1 hr ⟨_, F', βn, _, k2, packT_rel (hr.ren n3), n1, n2⟩

/-- what is asked where something is thrown, as the first executor asks it -/
def ThrOk (ax : Ax) (fx : Fx) (G : Nat → Value) (w : World) (F : Nat → Nat → Prop) (β : Nat → Value) (σ : Store) : Prop := fx.l = ax.fns ∧ match ax.T with
  | none => fx.T = none
  | some T => ∃ X, fx.T = some X ∧ ∀ t us xs w' F' β' σ', T t us σ' → Rl (FV ax.gs G w' F') us xs → Sim ax.gs G w' F' β' σ' → Step w F β σ w' F' β' σ' → X [{ v := .iface t (.agg xs.toArray), recovered := false }] w'
theorem ThrOk.step {fx : Fx} (h : ThrOk ax fx G w F β σ) {w1 : World} {F1 : Nat → Nat → Prop} {β1 : Nat → Value} {σ1 : Store} (hst : Step w F β σ w1 F1 β1 σ1) : ThrOk ax fx G w1 F1 β1 σ1 := by
  refine ⟨h.1, ?_⟩
  have h2 := h.2
  cases hT : ax.T with
  | none => rw [hT] at h2; exact h2
  | some T =>
    rw [hT] at h2
    obtain ⟨X, e, h2⟩ := h2
    exact ⟨X, e, fun t us xs w' F' β' σ' k1 k2 k3 k4 => h2 t us xs w' F' β' σ' k1 k2 k3 (hst.trans k4)⟩

theorem acall_run {fx : Fx} (hX : ThrOk ax fx G w F β σ) (hE : ErrOk ax.P ax.gs ax.ift ax.tabs G) (hs : Sim ax.gs G w F β σ) {g : Nat} {args : List V} {vals : List Value} {K : V → Store → Prop} (h : acall ax ah g args σ K) (hv : Rl (RV ax.gs G w F β σ) args vals) :
    ∃ rts, lookF ax.fns g = some rts ∧ match fx.T with
      | none => Calls ax.P g vals.toArray w (retW ax.tys rts fun v w' => Out ax.gs G w F β σ K v w')
      | some X => Calls ax.P g vals.toArray w fun e w' => retW ax.tys rts (fun v w' => Out ax.gs G w F β σ K v w') e w' ∨ ∃ c, e = .panicked c ∧ X c w' := by
  unfold acall at h
  split at h
  · exact h.elim
  · rename_i rts hf
    refine ⟨rts, hf, ?_⟩
    split at h
    · exact h.elim
    · rename_i s hsig
      split at h
      · exact h.elim
      · rename_i as σ1 hco
        obtain ⟨F1, k1, k2, k3⟩ := coP_run hs hco hv
        have lift : ∀ v w', Out ax.gs G w F1 β σ1 K v w' → Out ax.gs G w F β σ K v w' := fun v w' ⟨u, F', β', σ', q1, q2, q3, q4⟩ => ⟨u, F', β', σ', q1, q2, q3, k2.trans q4⟩
        have liftR : ∀ e w', retW ax.tys rts (fun v w' => Out ax.gs G w F1 β σ1 K v w') e w' → retW ax.tys rts (fun v w' => Out ax.gs G w F β σ K v w') e w' := fun e w' h => by
          unfold retW at h ⊢
          split at h
          · exact ⟨h.1, lift _ _ h.2⟩
          · exact exT1_mono (fun v hv => ⟨hv.1, lift _ _ hv.2⟩) h
          · exact exTs_mono _ (fun vs hv => ⟨hv.1, lift _ _ hv.2⟩) h
        have plain : Calls ax.P g vals.toArray w (retW ax.tys rts fun v w' => Out ax.gs G w F β σ K v w') → (match fx.T with
            | none => Calls ax.P g vals.toArray w (retW ax.tys rts fun v w' => Out ax.gs G w F β σ K v w')
            | some X => Calls ax.P g vals.toArray w fun e w' => retW ax.tys rts (fun v w' => Out ax.gs G w F β σ K v w') e w' ∨ ∃ c, e = .panicked c ∧ X c w') := fun hc => by
          cases fx.T with
          | none => exact hc
          | some X => exact hc.mono fun e w' h => .inl h
        cases hth : hasB ax.thrs g with
        | true =>
          rw [hth] at h
          simp only [cond_true] at h
          obtain ⟨ids, hids⟩ : ∃ ids, reach σ1 1000 (idsL as) [] = ids := ⟨_, rfl⟩
          rw [hids] at h
          obtain ⟨h0, h⟩ := condF h
          obtain ⟨n1, n2⟩ := idsOk_elim h0
          have hX2 := hX.2
          cases hT : ax.T with
          | none => rw [hT] at h; exact h.elim
          | some T =>
            rw [hT] at h hX2
            obtain ⟨X, e, hX2⟩ := hX2
            rw [e]
            dsimp only
            refine (h G w F1 (subB β ids) vals hE (sub_sim k1 n1) (k3.ren (sub_ren ids))).mono ?_
            rintro e w' (⟨us, os, F', β', rvals, k, rfl, hr, hs', hst⟩ | ⟨t, us, xs, os, F', β', k, rfl, hr, hs', hst⟩)
            · obtain ⟨us', hk⟩ := exR_elim k
              obtain ⟨os', e1, e2, hk⟩ := exO_elim hk
              subst e1 e2
              obtain ⟨q1, q2⟩ := condF hk
              obtain ⟨βn, n1, n2, n3⟩ := call_back k1 n1 n2 hs' hst
              exact .inl (retW_intro q1 hr ⟨_, F', βn, _, q2, packT_rel (hr.ren n3), n1, k2.trans n2⟩)
            · obtain ⟨os', e1, hk⟩ := exO_elim k
              subst e1
              obtain ⟨βn, n1, n2, n3⟩ := call_back k1 n1 n2 hs' hst
              exact .inr ⟨_, rfl, hX2 t us xs w' F' βn _ hk hr n1 (k2.trans n2)⟩
        | false =>
        rw [hth] at h
        simp only [cond_false] at h
        refine plain (Calls.mono ?_ liftR)
        split at h
        · cases hz : s.os.isEmpty with
          | true =>
            rw [hz] at h
            refine scalls_run (ps := []) hE k1 k3 List.nodup_nil (fun i hi => by cases hi) h fun us os hk => ?_
            cases os with
            | cons => exact hk.elim
            | nil =>
            obtain ⟨us', e, hk⟩ := exR_elim hk
            subst e
            obtain ⟨q1, q2⟩ := condF hk
            exact ⟨q1, by simpa [merge] using q2⟩
          | false =>
            rw [hz] at h
            refine scalls_run (ps := []) hE k1 k3 List.nodup_nil (fun i hi => by cases hi) h fun us os hk => ?_
            obtain ⟨us', hk⟩ := exR_elim hk
            obtain ⟨os', e1, e2, hk⟩ := exO_elim hk
            subst e1 e2
            exact condF hk
        · rename_i p ps hps
          obtain ⟨h0, h⟩ := condF h
          obtain ⟨n1, n2⟩ := idsOk_elim h0
          refine scalls_run (ps := p :: ps) hE k1 k3 n1 n2 h fun us os hk => ?_
          obtain ⟨us', hk⟩ := exR_elim hk
          obtain ⟨os', e1, e2, hk⟩ := exO_elim hk
          subst e1 e2
          exact condF hk

theorem aop_event {fx : Fx} (hX : ThrOk ax fx G w F β σ) {o : Oper} {e : AEnv} {ρ : Env} {K : V → Store → Prop} {K' : Value → World → Prop} (hK : ∀ v w', Out ax.gs G w F β σ K v w' → K' v w') (hT : AllOk ax.P ax.tys) (hE : ErrOk ax.P ax.gs ax.ift ax.tabs G) (hQ : EqOk ax) (hk : kindOf ax.tys o.op = .event) (h : aop ax ah o (aev e) σ K) (hs : Sim ax.gs G w F β σ) (he : RE ax.gs G w F β σ e ρ) :
    eventW ax.P ax.tys fx o (Vx.ev ρ) w K' := by
  have hρ := he.ev
  have hρl : ∀ l : List Operand, Rl (RV ax.gs G w F β σ) (l.map (aev e)) (l.map (Vx.ev ρ)) := fun l => by
    induction l with
    | nil => exact .nil
    | cons x l ih => exact .cons (hρ x) ih
  obtain ⟨dst, op, ty, pos, aft, gd⟩ := o
  unfold aop at h
  unfold eventW
  cases op with
  | alloc t =>
    dsimp only at h ⊢
    split at h
    · rename_i y hy
      obtain ⟨h1, h2⟩ := condF h
      rw [hy]
      have hr := ofCells_rel (gs := ax.gs) (G := G) (w := w) (F := F) (β := β) (σ := σ) y.zero
      refine hK _ _ (new_box hs hr (fun x hx => ?_) h2)
      obtain ⟨q, hq, rfl⟩ := List.getElem_of_mem hx
      have hq' : q < (y.zero.map ofCell).length := by simpa using hq
      exact (hr.2 q _ _ (List.getElem?_eq_getElem hq') (List.getElem?_eq_getElem hq)).one (List.all_eq_true.1 h1 _ (List.getElem_mem hq'))
    · exact h.elim
  | box t x =>
    dsimp only at h ⊢
    obtain ⟨h1, h2⟩ := condF h
    obtain ⟨k1, k2⟩ := (hρ x).cells h1
    exact hK _ _ (new_box hs k1 k2 h2)
  | buildSlice t len parts =>
    dsimp only at h ⊢
    split at h
    · rename_i el ye hse
      obtain ⟨y, hy, ht, hye⟩ := slElem_elim hse
      split at h
      · rename_i as has
        split at h
        · rename_i zr σz hzr
          split at h
          · rename_i rows σ1 hfill
            obtain ⟨h1, h2⟩ := condF h
            obtain ⟨h1, h6⟩ := and_elim h1
            obtain ⟨h1, h5⟩ := and_elim h1
            obtain ⟨h3, h4⟩ := and_elim h1
            have hz0 := ble_elim h4
            have hasz := beq_elim h5
            obtain ⟨z1, z2⟩ := coL_const (fun u hu i => by obtain ⟨x, _, rfl⟩ := List.mem_map.1 hu; exact ofCell_not_own x i) hzr (ofCells_rel (gs := ax.gs) (G := G) (w := w) (F := F) (β := β) (σ := σ) ye.zero)
            obtain ⟨F1, xs, k1, k2, k3, k4, k5, k6⟩ := fillR_run hasz parts.toList hρ hs (fun r hr => by rw [List.eq_of_mem_replicate hr, z2, hasz]) (repl_rel z1 len) hfill
            obtain ⟨tk, s1, s2, s3, s4⟩ := y
            simp only at ht
            subst ht
            rw [hy]; dsimp only
            rw [hye]; dsimp only
            rw [h3, cond_true]
            have hrl : rows.length = len := by rw [k6]; simp
            have key : Out ax.gs G w F1 β σ1 K (.slice (some ⟨w.heap.size, 0, none⟩) len len) (w.alloc (.cells xs.toArray el)) :=
              new_lst k1 hrl.symm k4 k5 hz0 (Nat.le_refl _) (by have := ble_elim h3; simp only [maxLen]; have : len ≤ len * ye.size := Nat.le_mul_of_pos_right _ hz0; omega) (by rw [List.size_toArray, ← k4.1, flatten_len k5, hrl]) (by rw [List.toList_toArray, List.take_of_length_le]; rw [← k4.1, flatten_len k5, hrl]; exact Nat.le_refl _) h2
            obtain ⟨u, F', β', σ', q1, q2, q3, q4⟩ := key
            cases hif : (isIf ye.tk && Nat.beq ye.size 1) with
            | true =>
              rw [cond_true]
              obtain ⟨hif1, hif2⟩ := and_elim hif
              rw [hif1] at h6
              rw [beq_elim hif2] at k3
              have ho : allOne ((parts.toList.map fun (p : Nat × Operand) => (p.1, Vx.ev ρ p.2)).map (·.2)) := by
                have : ∀ ps : List (Nat × Operand), (ps.all fun p => isCellV (aev e p.2)) = true → allOne ((ps.map fun (p : Nat × Operand) => (p.1, Vx.ev ρ p.2)).map (·.2)) := by
                  intro ps
                  induction ps with
                  | nil => intro _; trivial
                  | cons p ps ih =>
                    intro hp
                    rw [List.all_cons] at hp
                    obtain ⟨p1, p2⟩ := and_elim hp
                    exact ⟨cells_one ((hρ p.2).one p1), ih p2⟩
                exact this _ (by simpa using h6)
              refine ⟨ho, ?_⟩
              rw [fillL_fill1 ho k3]
              exact hK _ _ ⟨u, F', β', σ', q1, q2, q3, k2.trans q4⟩
            | false =>
              rw [cond_false, k3]
              exact hK _ _ ⟨u, F', β', σ', q1, q2, q3, k2.trans q4⟩
          · exact h.elim
        · exact h.elim
      · exact h.elim
    · exact h.elim
  | store t x y =>
    dsimp only at h ⊢
    obtain ⟨b, f, yt, e1, e2, e3, e4, F', σ', q1, q2, q3⟩ := astore_run h hs (hρ x) (hρ y)
    rw [e1]; dsimp only
    rw [e2]; dsimp only
    have : Nat.beq (Vx.ev ρ y).cells.toList.length yt.size = true := by rw [e3]; exact Nat.beq_refl _
    rw [this]
    exact ⟨e4, hK _ _ ⟨.undef, F', β, σ', q1, .undef, q2, q3⟩⟩
  | makeMap t r =>
    dsimp only at h ⊢
    cases r with
    | some r => exact h.elim
    | none =>
      dsimp only at h ⊢
      obtain ⟨k1, k2⟩ := hs.new (w' := w.alloc (.map #[] 0)) (below_alloc w _) (by rw [alloc_size]; omega) (.map (some w.heap.size)) (.lst t 0 (mapT ax t) []) (fun b hb => by simp [vblk] at hb; exact hb.symm)
        (fun hc => .inl ⟨w.heap.size, #[], 0, extB_new _ _ _, alloc_block w _, rfl, trivial⟩)
      exact hK _ _ ⟨_, _, _, _, h, .map σ.length w.heap.size (by simp) fun _ _ _ _ _ => extB_new _ _ _, k1, k2⟩
  | mapUpdate t m k x =>
    dsimp only at h ⊢
    unfold aput at h
    split at h
    · rename_i j em
      split at h
      · rename_i e' z fz l hg
        have hm := hρ m
        rw [em] at hm
        have hk' := hρ k
        obtain ⟨b, eb, hj, hb⟩ := map_inv hm
        have hβ := hb _ _ _ _ hg
        have ho := hs.obj j
        rw [hg] at ho
        obtain ⟨es, clock, hh, hz0, hrl⟩ := ho.lst_map hβ
        have put : ∀ (kv : V) (key : Value), keyR fz kv key → isDatA (aev e x) = true → K .undef (putO σ j (.lst e' z fz (l ++ [[kv, aev e x]]))) →
            (∃ w' bo, Runs ax.P (Instr.mapUpdate t (.map (some b)) key (Vx.ev ρ x)) w () w' ∧ w'.heap[b]? = some (.map (es.push { key := key, val := Vx.ev ρ x, born := bo }) (clock + 1)) ∧ w'.heap.size = w.heap.size ∧ (∀ i, i ≠ b → w'.heap[i]? = w.heap[i]?) ∧ Chg (fun i => i = b) w w') →
            ∃ w', Runs ax.P (Instr.mapUpdate t (.map (some b)) key (Vx.ev ρ x)) w () w' ∧ K' Go.undef w' := fun kv key hkr hd hk ⟨w', bo, hrun, hh', hsz, hsame, hch⟩ => by
          have hnb : ∀ b' o, ¬ Mut β j (getO σ j) b' o → b' ≠ b := fun b' o hm e => hm (by rw [hg, e]; exact ⟨⟨trivial, by rw [hβ]; rfl⟩, by cases fz <;> simp [hz0]⟩)
          have hcell : ∀ b' o, b' ≠ b → w'.cell? ⟨b', o, none⟩ = w.cell? ⟨b', o, none⟩ := fun b' o hne => by simp only [World.cell?, hsame b' hne]
          have hFb : ∀ b' o, F b' o → b' ≠ b := fun b' o hf e => hs.dis j b' o (by rw [hg, e]; exact ⟨⟨trivial, by rw [hβ]; rfl⟩, by cases fz <;> simp [hz0]⟩) hf
          have fm : ∀ u v, FV ax.gs G w F u v → FV ax.gs G w' (fun b o => F b o ∨ False) u v := fun u v hv => hv.mono fun b' o hf => ⟨.inl hf, hcell b' o (hFb b' o hf)⟩
          obtain ⟨k1, k2⟩ := hs.setObj (w' := w') j (.lst e' z fz (l ++ [[kv, aev e x]])) (fun _ _ => False) hj (by rw [hg]; exact ⟨rfl, rfl⟩) hch.os hch.tape hch.output hch.size
            (fun b' o _ hm => hcell b' o (hnb b' o hm)) (fun b' _ hm => hsame b' fun e => hm (by rw [hg, e]; exact ⟨trivial, by rw [hβ]; rfl⟩)) (fun _ _ hx => hx.elim) (fun _ _ _ hx => hx)
            (fun b' o hm => by rw [hg]; exact ⟨⟨trivial, hm.1.2⟩, by cases fz <;> simp [hz0]⟩)
            (.inl ⟨b, _, _, hβ, hh', hz0, by
              rw [Array.toList_push]
              exact (hrl.map fm).append (show Rows _ _ _ _ _ [_] [_] from ⟨⟨_, _, rfl, hkr, (fva_of hd (hρ x)).elim (fun h => .inl (fm _ _ h)) fun ⟨us, vs, e1, e2, h⟩ => .inr ⟨us, vs, e1, e2, h.mono fm⟩⟩, trivial⟩)⟩)
          exact ⟨w', hrun, hK _ _ ⟨.undef, _, _, _, hk, .undef, k1, k2⟩⟩
        rw [eb]
        split at h
        · rename_i vt hmi
          obtain ⟨kt, t1, t2⟩ := mapI_elim hT hmi
          split at h
          · rename_i q ek
            rw [ek] at hk'
            obtain ⟨h1, h2, h3⟩ := condF h
            obtain ⟨h1, hd⟩ := and_elim h1
            obtain ⟨_, hfz⟩ := and_elim h1
            have hfz : fz = false := by simpa using hfz
            subst hfz
            obtain ⟨pl, p1, p2, p3⟩ := rows_mm l es.toList hrl
            rw [hk'.int_inv]
            exact put _ _ ⟨q, rfl, rfl⟩ hd h3 (update_mm (P := ax.P) t1 t2 (v := Vx.ev ρ x) hh p1 ((p3 q).2 h2))
          · exact h.elim
        · split at h
          · rename_i vt hms
            obtain ⟨kt, t1, t2⟩ := mapS_elim hT hms
            split at h
            · rename_i q ek
              rw [ek] at hk'
              obtain ⟨h1, h2, h3⟩ := condF h
              obtain ⟨h1, hd⟩ := and_elim h1
              obtain ⟨_, hfz⟩ := and_elim h1
              subst hfz
              obtain ⟨pl, p1, p2, p3⟩ := rows_mt l es.toList hrl
              rw [hk'.str_inv]
              exact put _ _ ⟨q, rfl, rfl⟩ hd h3 (update_mt (P := ax.P) t1 t2 (v := Vx.ev ρ x) hh p1 ((p3 q).2 h2))
            · exact h.elim
          · exact h.elim
      · exact h.elim
    · exact h.elim
  | makeSlice t l c =>
    dsimp only at h ⊢
    split at h
    · rename_i el ye hse
      obtain ⟨y, hy, ht, hye⟩ := slElem_elim hse
      split at h
      · rename_i as has
        split at h
        · rename_i zr σz hzr
          split at h
          · rename_i n en
            split at h
            · rename_i m em
              obtain ⟨h1, g0, g1, g2, g3, h2⟩ := condF h
              obtain ⟨h4, h5⟩ := and_elim h1
              have hz0 := ble_elim h4
              have hasz := beq_elim h5
              obtain ⟨z1, z2⟩ := coL_const (fun u hu i => by obtain ⟨x, _, rfl⟩ := List.mem_map.1 hu; exact ofCell_not_own x i) hzr (ofCells_rel (gs := ax.gs) (G := G) (w := w) (F := F) (β := β) (σ := σ) ye.zero)
              obtain ⟨tk, s1, s2, s3, s4⟩ := y
              simp only at ht
              subst ht
              rw [hy]; dsimp only
              rw [hye]; dsimp only
              have hl := hρ l
              have hc := hρ c
              rw [en] at hl
              rw [em] at hc
              rw [hl.int_inv, hc.int_inv]
              refine ⟨g0, g1, g2, g3, ?_⟩
              have hzs := (ok_of_look hT hye).zs
              have hrl : (List.replicate n.toNat zr).length = n.toNat := by simp
              refine hK _ _ (new_lst hs (l := List.replicate n.toNat zr) (xs := repL n.toNat ye.zero) hrl.symm (repl_rel z1 _) (fun r hr => by rw [List.eq_of_mem_replicate hr, z2, hasz]) hz0 (by omega) (by simp only [maxLen]; omega) ?_ ?_ h2)
              · rw [← Array.length_toList, zeros_list, repL_get, hzs]
              · rw [zeros_list, ← hzs]; exact repL_take _ _ _ (by omega)
            · exact h.elim
          · exact h.elim
        · exact h.elim
      · exact h.elim
    · exact h.elim
  | call c =>
    dsimp only at h ⊢
    split at h
    · rename_i f hf
      rw [hf]; dsimp only
      have hfv := hρ f
      split at h
      · rename_i g first caps e1
        rw [e1] at hfv
        obtain ⟨vf, vc, e2, r1, r2⟩ := hfv.fn_inv
        rw [e2]
        unfold callW
        dsimp only
        obtain ⟨rts, k1, k2⟩ := acall_run hX hE hs h ((r1.append (hρl c.args.toList)).append r2)
        rw [hX.1, k1]
        have e3 : (vf ++ c.args.toList.map (Vx.ev ρ) ++ vc).toArray = vf.toArray ++ (c.args.toList.map (Vx.ev ρ)).toArray ++ vc.toArray := by simp
        rw [e3] at k2
        cases hT : fx.T with
        | none => rw [hT] at k2; exact k2.mono fun e w' h => retW_mono (fun v w' => hK v w') h
        | some X => rw [hT] at k2; exact k2.mono fun e w' h => h.imp (retW_mono (fun v w' => hK v w')) id
      · exact h.elim
    · rename_i b hb
      rw [hb]; dsimp only
      unfold kindOf at hk
      dsimp only at hk
      rw [hb] at hk
      dsimp only at hk
      unfold abuilt at h
      have lenNo : ∀ bb, (bif bb then QK.pure else QK.load) = QK.event → False := fun bb h => by cases bb <;> cases h
      split at h
      · exact (lenNo _ hk).elim
      · unfold builtPure at hk; cases hk
      · unfold builtPure at hk; cases hk
      · split at h
        · rename_i x y e1
          have hargs := hρl c.args.toList
          rw [e1] at hargs
          obtain ⟨xv, xs, e2, r1, r2⟩ := hargs.cons_inv
          obtain ⟨yv, ys, e3, r3, r4⟩ := r2.cons_inv
          cases r4.nil_inv
          rw [e2, e3]
          unfold builtW
          dsimp only
          obtain ⟨a, n, c', w', k1, k2⟩ := aappend_run (rt := ty) hT hQ.1 h hs r1 r3
          exact ⟨a, n, c', w', k1, hK _ _ k2⟩
        · exact h.elim
      · exact h.elim
    · exact h.elim
  | panic x =>
    dsimp only at h ⊢
    have hx := hρ x
    split at h
    · rename_i t us e1
      rw [e1] at hx
      have hX2 := hX.2
      cases hT : ax.T with
      | none => rw [hT] at h; exact h.elim
      | some T =>
        rw [hT] at h hX2
        obtain ⟨X, e, hX2⟩ := hX2
        generalize Vx.ev ρ x = xv at hx
        cases hx with
        | fz _ _ h => cases h
        | ifc _ _ vs hl hr =>
          dsimp only
          unfold Fx.thr
          rw [e]
          exact hX2 t us vs w F β σ h ⟨hl, hr⟩ hs (Step.refl _ _ _ _)
    · exact h.elim
  | convert s d x =>
    dsimp only at h ⊢
    unfold kindOf at hk
    dsimp only at hk
    unfold aconv at h
    cases h1 : convPure ax.tys s d with
    | true => rw [h1] at hk; cases hk
    | false =>
      rw [h1] at hk h
      dsimp only [cond] at hk h
      cases h2 : toStr ax.tys d with
      | true => rw [h2] at hk; cases hk
      | false =>
        rw [h2] at h
        dsimp only [cond] at h
        split at h
        · rename_i bs e1
          split at h
          · rename_i el ye hse
            obtain ⟨y, hy, ht, hye⟩ := slElem_elim hse
            split at h
            · rename_i hyk
              split at h
              · rename_i ys hys
                split at h
                · rename_i hsk
                  obtain ⟨g1, g2⟩ := h
                  have oks := (ok_of_look hT hys).tk
                  rw [hsk] at oks
                  have okd := (ok_of_look hT hy).tk
                  rw [ht] at okd
                  have oke := (ok_of_look hT hye).tk
                  rw [hyk] at oke
                  have hx := hρ x
                  rw [e1] at hx
                  unfold convW
                  rw [hy]; dsimp only
                  rw [ht]; dsimp only
                  rw [hx.str_inv]
                  have hge := grownCap_ge w bs.size 0 el
                  have hle := grownCap_le_maxLen w bs.size 0 el (by unfold maxLen; omega)
                  have hsz := Lib.bytesWorld_size w el bs
                  obtain ⟨k1, k2⟩ := hs.belowX (X := fun b o => b = w.heap.size ∧ o < bs.size) (Lib.bytesWorld_below w el bs) (fun b o ⟨hb, _⟩ => by omega)
                  refine ⟨some ⟨w.heap.size, 0, none⟩, bs.size, grownCap w bs.size 0 el, Lib.bytesWorld w el bs, Lib.run_convert_string_bytes w s d el bs oks okd oke, hK _ _ ⟨_, _, β, σ, g2, ?_, k1, k2⟩⟩
                  have hlen : (rowsOf bs).length = bs.size := by rw [rowsOf_length]; simp
                  have hrow : ∀ (i : Nat) e (j : Nat) u, (rowsOf bs)[i]? = some e → e[j]? = some u → i < bs.size ∧ j = 0 ∧ u = .int .u8 ((bs.data.toList.getD i 0).toNat : Int) := fun i e j u hi hj => by
                    have hlt : i < bs.size := by rw [← hlen]; exact (List.getElem?_eq_some_iff.1 hi).1
                    unfold rowsOf at hi
                    rw [List.getElem?_map, List.getElem?_eq_getElem (by simpa using hlt)] at hi
                    simp only [Option.map_some, Option.some.injEq] at hi
                    subst hi
                    cases j with
                    | zero =>
                      simp only [List.getElem?_cons_zero, Option.some.injEq] at hj
                      refine ⟨hlt, rfl, ?_⟩
                      rw [← hj, List.getD_eq_getElem?_getD, List.getElem?_eq_getElem (by simpa using hlt)]; rfl
                    | succ j => simp at hj
                  have := FV.sl (gs := ax.gs) (G := G) (w := Lib.bytesWorld w el bs) (F := fun b o => F b o ∨ (b = w.heap.size ∧ o < bs.size)) 1 (rowsOf bs) (some ⟨w.heap.size, 0, none⟩) (grownCap w bs.size 0 el) (fun i _ => .int .u8 ((bs.data.toList.getD i 0).toNat : Int)) (by omega) hle
                    (fun r hr => by unfold rowsOf at hr; obtain ⟨b, _, rfl⟩ := List.mem_map.1 hr; rfl)
                    (fun _ => ⟨w.heap.size, 0, rfl, fun i e j u hi hj => by
                      obtain ⟨h1, rfl, _⟩ := hrow i e j u hi hj
                      have e0 : 0 + (i * 1 + 0) = i := by omega
                      rw [e0]
                      exact ⟨Lib.bytesWorld_cell w el bs i h1, .inr ⟨rfl, h1⟩⟩⟩)
                    (fun i e j u hi hj => by
                      obtain ⟨_, _, rfl⟩ := hrow i e j u hi hj
                      exact .int _ _)
                  rw [hlen] at this
                  exact .fz _ _ this
                · exact h.elim
              · exact h.elim
            · exact h.elim
          · exact h.elim
        · rename_i i e1
          split at h
          · rename_i el ye hse
            obtain ⟨y, hy, ht, hye⟩ := slElem_elim hse
            split at h
            · rename_i hyk
              split at h
              · rename_i et z fz l hg
                obtain ⟨g0, g1, g2⟩ := condF h
                obtain ⟨g3, g4⟩ := and_elim g0
                obtain ⟨g5, g6⟩ := and_elim g3
                have es := beq_elim g5
                have ez := beq_elim g6
                subst es
                subst ez
                have ef : fz = false := by cases fz <;> simp at g4 ⊢
                subst ef
                have okd := (ok_of_look hT hy).tk
                rw [ht] at okd
                have oke := (ok_of_look hT hye).tk
                rw [hyk] at oke
                have hx := hρ x
                rw [e1] at hx
                obtain ⟨a, n, c, ev, hi, hb⟩ := hx.own_inv
                have hβ := hb _ _ _ _ hg
                have ho := hs.obj i
                rw [hg] at ho
                obtain ⟨xs, how, hxs, hz, hz0, _⟩ := ho.lst_own hβ
                have how' := how
                rw [hβ] at how'
                obtain ⟨_, ⟨e2, h0⟩ | ⟨g, cap, cur, e2, _, hh, q1, q2, q3, q4⟩⟩ := how'
                · omega
                cases e2
                obtain ⟨F1, k1, k2, k3⟩ := hs.freeze hg hz0
                rw [hβ] at k3
                dsimp only [cond] at k1 k2
                unfold convW
                rw [hy]; dsimp only
                rw [ht]; dsimp only
                rw [ev]
                have hfz : ∀ k, k ≠ g → (w.freeze ⟨g, cur.size, none⟩ 1).heap[k]? = w.heap[k]? := fun k hk => by
                  simp [World.freeze, Array.getElem?_modify, Ne.symm hk]
                have hfc : ∀ b o, (w.freeze ⟨g, cur.size, none⟩ 1).cell? ⟨b, o, none⟩ = w.cell? ⟨b, o, none⟩ := fun b o => by
                  by_cases hb : b = g
                  · subst hb
                    simp [World.cell?, World.freeze, Array.getElem?_modify, hh]
                  · simp only [World.cell?, hfz b hb]
                have hrun : Runs ax.P (convert s s (.slice (some ⟨g, 0, none⟩) l.length c)) w (.slice (some ⟨g, 0, none⟩) l.length c) (w.freeze ⟨g, cur.size, none⟩ 1) := by
                  have hsh : w.shape? g = some (et, cur.size) := by simp [World.shape?, hh]
                  unfold Runs
                  simp [convert, run_underlying okd, run_underlying oke, markStringish, hsh]
                have hget : getO (putO σ i (.lst et 1 true l)) i = .lst et 1 true l := getO_put hi _
                have hhas1 : Has β i (.lst et 1 true l) g := ⟨trivial, by rw [hβ]; rfl⟩
                obtain ⟨m1, m2⟩ := k1.setObj (w' := w.freeze ⟨g, cur.size, none⟩ 1) i .dead (fun _ _ => False) (by rw [putO_length]; exact hi) (by rw [hget]; trivial) rfl rfl rfl (by simp [World.freeze]) (fun b o _ _ => hfc b o)
                  (fun b _ hnb => hfz b (fun e => hnb (by rw [hget, e]; exact hhas1))) (fun _ _ h => h.elim) (fun _ _ _ h => h.elim) (fun _ _ h => h.1.1.elim) trivial
                exact ⟨_, _, _, _, hrun, hK _ _ ⟨_, _, β, _, g2, .fz _ _ (k3.mono m2.fcell), m1, k2.trans m2⟩⟩
              · exact h.elim
            · exact h.elim
          · exact h.elim
        · exact h.elim
  | binOp op t x y _ =>
    unfold kindOf at hk
    dsimp only at hk
    cases h1 : eqNeeds ax.tys op t y <;> rw [h1] at hk <;> cases hk
  | makeInterface t x => cases hk
  | move x => cases hk
  | assign x => cases hk
  | pick c x y => cases hk
  | build t p => cases hk
  | nilCheck x => cases hk
  | unOp op t x => cases hk
  | makeFunc f a b => cases hk
  | slice t x a b c => cases hk
  | fieldAddr s x i => cases hk
  | field s x i => cases hk
  | indexAddr s x i => cases hk
  | index s x i => cases hk
  | extract x i => cases hk
  | load t x => cases hk
  | lookup t x i ok => cases hk
  | _ => exact h.elim

end
end Go.Av
end

/- part AvO -/
section
namespace Go.Av
open Go.Vx Go.RowKit

section
variable {ax : Ax} {ah : AH} {gs : List Nat} {G : Nat → Value}

/-- what is so behind a piece of code -/
def Post (gs : List Nat) (G : Nat → Value) (L : List Nat) (ρ : Env) (w : World) (F : Nat → Nat → Prop) (β : Nat → Value) (σ : Store) (K : AEnv → Store → Prop) (ρ' : Env) (w' : World) : Prop :=
  ∃ e' F' β' σ', K e' σ' ∧ RE gs G w' F' β' σ' e' ρ' ∧ Sim gs G w' F' β' σ' ∧ Step w F β σ w' F' β' σ' ∧ Frm L ρ ρ'
theorem Post.from {w : World} {F : Nat → Nat → Prop} {β : Nat → Value} {σ : Store} {w1 : World} {F1 : Nat → Nat → Prop} {β1 : Nat → Value} {σ1 : Store} {K : AEnv → Store → Prop} {L : List Nat} {ρ ρ1 ρ' : Env} {w' : World} (hst : Step w F β σ w1 F1 β1 σ1) (hf : Frm L ρ ρ1) (h : Post gs G L ρ1 w1 F1 β1 σ1 K ρ' w') : Post gs G L ρ w F β σ K ρ' w' := by
  obtain ⟨e', F', β', σ', h1, h2, h3, h4, h5⟩ := h
  exact ⟨e', F', β', σ', h1, h2, h3, hst.trans h4, fun t ht => (h5 t ht).trans (hf t ht)⟩

theorem undef_not_bool (b : Bool) : Go.undef ≠ .bool b := fun h => by unfold Go.undef at h; cases h

theorem aguard_run {w : World} {F : Nat → Nat → Prop} {β : Nat → Value} {σ : Store} {ops : Array Oper} {o : Oper} {e : AEnv} {ρ : Env} {yes no : AEnv → Prop} {yes' no' : Env → Prop} (h : aguard ops o e yes no) (he : RE gs G w F β σ e ρ)
    (hy : ∀ e' ρ', (∀ t, ρ' t = ρ t) → RE gs G w F β σ e' ρ' → yes e' → yes' ρ') (hn : ∀ e' ρ', (∀ t, ρ' t = ρ t) → RE gs G w F β σ e' ρ' → no e' → no' ρ') : guardW ops o ρ yes' no' := by
  unfold aguard at h
  unfold guardW
  cases hg : o.guard with
  | none => rw [hg] at h; exact hy e ρ (fun _ => rfl) he h
  | some jw =>
    obtain ⟨j, want⟩ := jw
    rw [hg] at h
    dsimp only at h ⊢
    cases hs : slotOf ops j with
    | none => rw [hs] at h; exact h.elim
    | some s =>
      rw [hs] at h
      dsimp only at h ⊢
      have hr := he s
      split at h
      · rename_i b eb
        rw [eb] at hr
        have e1 := hr.bool_inv
        rw [e1]
        dsimp only
        have hp : RE gs G w F β σ (e.put (some s) (.bool b)) (ρ.put (some s) (.bool b)) := he.put (some s) (.mk_bool b)
        have hq := put_same (e := ρ) e1
        cases b <;> cases want <;> dsimp only [cond] at h ⊢ <;> first | exact hy _ _ hq hp h | exact hn _ _ hq hp h
      · rename_i eb
        rw [eb] at hr
        have := hr.undef_inv
        split
        · rename_i b e2; rw [this] at e2; exact absurd e2 (undef_not_bool b)
        · exact hn e ρ (fun _ => rfl) he h
      · exact h.elim

variable (hT : AllOk ax.P ax.tys) (hE : ErrOk ax.P ax.gs ax.ift ax.tabs G) (hQ : EqOk ax)
include hT hE hQ

theorem areg_run {fx : Fx} {ops : Array Oper} {L : List Nat} : ∀ (l : List Oper) {e : AEnv} {ρ : Env} {w : World} {F : Nat → Nat → Prop} {β : Nat → Value} {σ : Store} {K : AEnv → Store → Prop} {K' : Env → World → Prop}, (∀ o ∈ l, ∀ d, o.dst = some d → d ∈ L) → areg ax ah ops l e σ K → ThrOk ax fx G w F β σ → Sim ax.gs G w F β σ → RE ax.gs G w F β σ e ρ →
    (∀ ρ' w', Post ax.gs G L ρ w F β σ K ρ' w' → K' ρ' w') → regW ax.P ax.tys fx ops l ρ w K'
  | [], e, ρ, w, F, β, σ, K, K', _, h, _, hs, he, hK => hK ρ w ⟨e, F, β, σ, h, he, hs, Step.refl _ _ _ _, Frm.refl _ _⟩
  | o :: l, e, ρ, w, F, β, σ, K, K', hL, h, hX, hs, he, hK => by
    have hL' : ∀ o ∈ l, ∀ d, o.dst = some d → d ∈ L := fun o ho => hL o (List.mem_cons_of_mem _ ho)
    have frm : ∀ (ρ' : Env) v, (∀ t, ρ' t = ρ t) → Frm L ρ (ρ'.put o.dst v) := fun ρ' v hq t ht => by
      rw [put_ne fun e => ht (hL o List.mem_cons_self t e), hq t]
    refine aguard_run h he (fun e' ρ' hq he' h => ?_) (fun e' ρ' hq he' h => areg_run l hL' h hX hs (he'.put o.dst .undef) fun ρ'' w'' hp => hK ρ'' w'' (hp.from (Step.refl _ _ _ _) (frm ρ' _ hq)))
    have next : ∀ v w', Out ax.gs G w F β σ (fun v σ' => areg ax ah ops l (e'.put o.dst v) σ' K) v w' → regW ax.P ax.tys fx ops l (ρ'.put o.dst v) w' K' := fun v w' ⟨u, F', β', σ', k1, k2, k3, k4⟩ =>
      areg_run l hL' k1 (hX.step k4) k3 ((he'.mono k4.carry).put o.dst k2) fun ρ'' w'' hp => hK ρ'' w'' (hp.from k4 (frm ρ' v hq))
    unfold opW
    cases hk : kindOf ax.tys o.op with
    | pure => exact aop_pure (fun v ho => next v w ho) hk h hs he'
    | load => exact aop_load (fun c v ho => next v w ho.1) hT hE hQ rfl hk h hs he'
    | event => exact aop_event hX next hT hE hQ hk h hs he'

/-- what was looked at earlier still stands -/
def PR (gs : List Nat) (G : Nat → Value) (w : World) (F : Nat → Nat → Prop) (β : Nat → Value) (σ : Store) : APend → Pend → Prop
  | [], [] => True
  | (i, l, a) :: r, (i', c) :: r' => i = i' ∧ (∀ w2 F2 β2 σ2, Step w F β σ w2 F2 β2 σ2 → Sim gs G w2 F2 β2 σ2 → depsOk σ2 l = true ∨ altOk σ2 a → c w2) ∧ PR gs G w F β σ r r'
  | _, _ => False
omit hT hE hQ in
theorem PR.from {w : World} {F : Nat → Nat → Prop} {β : Nat → Value} {σ : Store} {w1 : World} {F1 : Nat → Nat → Prop} {β1 : Nat → Value} {σ1 : Store} (hst : Step w F β σ w1 F1 β1 σ1) : ∀ {a : APend} {p : Pend}, PR gs G w F β σ a p → PR gs G w1 F1 β1 σ1 a p
  | [], [], _ => trivial
  | [], _ :: _, h => h.elim
  | _ :: _, [], h => h.elim
  | (_, _, _) :: _r, (_, _) :: _r', ⟨h1, h2, h3⟩ => ⟨h1, fun w2 F2 β2 σ2 hst' hs' hd => h2 w2 F2 β2 σ2 (hst.trans hst') hs' hd, PR.from hst h3⟩
omit hT hE hQ in
theorem akeep_run {ops : List Oper} {j : Nat} {w : World} {F : Nat → Nat → Prop} {β : Nat → Value} {σ : Store} {p p' : Prop} (hs : Sim gs G w F β σ) (hp : p → p') : ∀ {a : APend} {q : Pend}, PR gs G w F β σ a q → akeep ops j σ p a → keepW ops j w p' q
  | [], [], _, h => hp h
  | [], _ :: _, h, _ => h.elim
  | _ :: _, [], h, _ => h.elim
  | (i, l, al) :: r, (i', c) :: r', ⟨h1, h2, h3⟩, h => by
    subst h1
    unfold akeep at h
    unfold keepW
    cases hd : downB ops ops.length j i with
    | true => rw [hd] at h; exact akeep_run hs hp h3 h
    | false =>
      rw [hd] at h
      cases hk : depsOk σ l with
      | true => rw [hk] at h; exact ⟨h2 w F β σ (Step.refl _ _ _ _) hs (.inl hk), akeep_run hs hp h3 h⟩
      | false => rw [hk] at h; exact ⟨h2 w F β σ (Step.refl _ _ _ _) hs (.inr h.1), akeep_run hs hp h3 h.2⟩

theorem adraw_run {fx : Fx} {ops : Array Oper} {L : List Nat} (hL : ∀ o ∈ ops.toList, ∀ d, o.dst = some d → d ∈ L) : ∀ (l : DOrd) {a : APend} {q : Pend} {e : AEnv} {ρ : Env} {w : World} {F : Nat → Nat → Prop} {β : Nat → Value} {σ : Store} {K : AEnv → Store → Prop} {K' : Env → World → Prop}, adraw ax ah ops l a e σ K → PR ax.gs G w F β σ a q → ThrOk ax fx G w F β σ → Sim ax.gs G w F β σ → RE ax.gs G w F β σ e ρ →
    (∀ ρ' w', Post ax.gs G L ρ w F β σ K ρ' w' → K' ρ' w') → drawW ax.P ax.tys fx ops l q ρ w K'
  | .nil, a, q, e, ρ, w, F, β, σ, K, K', h, hp, hX, hs, he, hK => hK ρ w ⟨e, F, β, σ, h, he, hs, Step.refl _ _ _ _, Frm.refl _ _⟩
  | .alt x y, a, q, e, ρ, w, F, β, σ, K, K', h, hp, hX, hs, he, hK => ⟨adraw_run hL x h.1 hp hX hs he hK, adraw_run hL y h.2 hp hX hs he hK⟩
  | .one i l, a, q, e, ρ, w, F, β, σ, K, K', h, hp, hX, hs, he, hK => by
    unfold adraw at h
    unfold drawW
    cases ho : ops.toList[i]? with
    | none => rw [ho] at h; exact h.elim
    | some o =>
      rw [ho] at h
      dsimp only at h ⊢
      have frm : ∀ (ρ' : Env) v, (∀ t, ρ' t = ρ t) → Frm L ρ (ρ'.put o.dst v) := fun ρ' v hq t ht => by
        rw [put_ne fun e => ht (hL o (List.mem_of_getElem? ho) t e), hq t]
      refine aguard_run h he (fun e' ρ' hq he' h => ?_) (fun e' ρ' hq he' h => adraw_run hL l h hp hX hs (he'.put o.dst .undef) fun ρ'' w'' hp' => hK ρ'' w'' (hp'.from (Step.refl _ _ _ _) (frm ρ' _ hq)))
      cases hk : kindOf ax.tys o.op with
      | pure =>
        rw [hk] at h
        exact aop_pure (fun v ⟨u, F', β', σ', k1, k2, k3, k4⟩ => adraw_run hL l k1 (hp.from k4) (hX.step k4) k3 ((he'.mono k4.carry).put o.dst k2) fun ρ'' w'' hp' => hK ρ'' w'' (hp'.from k4 (frm ρ' v hq))) hk h hs he'
      | load =>
        rw [hk] at h
        exact aop_load (fun c v ⟨⟨u, F', β', σ', k1, k2, k3, k4⟩, hc, ha⟩ => adraw_run hL l k1 ⟨rfl, fun w2 F2 β2 σ2 hst hs2 hd => hd.elim (hc w2 F2 β2 σ2 (k4.trans hst)) (ha w2 F2 β2 σ2 (k4.trans hst) hs2), hp.from k4⟩ (hX.step k4) k3 ((he'.mono k4.carry).put o.dst k2) fun ρ'' w'' hp' => hK ρ'' w'' (hp'.from k4 (frm ρ' v hq))) hT hE hQ rfl hk h hs he'
      | event =>
        rw [hk] at h
        exact aop_event hX (fun v w' ⟨u, F', β', σ', k1, k2, k3, k4⟩ => akeep_run k3 (fun k1 => adraw_run hL l k1 (hp.from k4) (hX.step k4) k3 ((he'.mono k4.carry).put o.dst k2) fun ρ'' w'' hp' => hK ρ'' w'' (hp'.from k4 (frm ρ' v hq))) (hp.from k4) k1) hT hE hQ hk h hs he'

end
end Go.Av
end

/- part AvP -/
section
namespace Go.Av
open Go.Vx Go.RowKit

mutual
theorem ren_id (f : Nat → Option Nat) : ∀ (u : V), (∀ i ∈ idsV u, f i = some i) → renV f u = u
  | .own i, h => by simp only [renV]; rw [h i (by simp [idsV])]
  | .ptr i o, h => by simp only [renV]; rw [h i (by simp [idsV])]
  | .eptr i j o, h => by simp only [renV]; rw [h i (by simp [idsV])]
  | .map i, h => by simp only [renV]; rw [h i (by simp [idsV])]
  | .fn g a c, h => by
    simp only [renV]
    rw [ren_idL f a fun i hi => h i (by simp [idsV, hi]), ren_idL f c fun i hi => h i (by simp [idsV, hi])]
  | .agg l, h => by simp only [renV]; rw [ren_idL f l fun i hi => h i (by simpa [idsV] using hi)]
  | .tup l, h => by simp only [renV]; rw [ren_idL f l fun i hi => h i (by simpa [idsV] using hi)]
  | .int _ _, _ => rfl
  | .bool _, _ => rfl
  | .str _, _ => rfl
  | .nls, _ => rfl
  | .sl _ _, _ => rfl
  | .pt _, _ => rfl
  | .gl _, _ => rfl
  | .err _, _ => rfl
  | .nilf, _ => rfl
  | .nilm, _ => rfl
  | .slc _ _, _ => rfl
  | .yl _, _ => rfl
  | .ifc _ _, _ => rfl
  | .undef, _ => rfl
  | .junk, _ => rfl
theorem ren_idL (f : Nat → Option Nat) : ∀ (l : List V), (∀ i ∈ idsL l, f i = some i) → renL f l = l
  | [], _ => rfl
  | v :: l, h => by
    simp only [renL]
    rw [ren_id f v fun i hi => h i (by simp [idsL, hi]), ren_idL f l fun i hi => h i (by simp [idsL, hi])]
end
theorem data_ren (f : Nat → Option Nat) {a : As} {u : V} (h : a.is u = true) : renV f u = u := by
  cases a <;> cases u <;> simp only [As.is] at h <;> first | rfl | cases h

section
variable {gs : List Nat} {G : Nat → Value}

theorem idsL_mem {l : List V} {i : Nat} (h : i ∈ idsL l) : ∃ v ∈ l, i ∈ idsV v := by
  induction l with
  | nil => simp [idsL] at h
  | cons v l ih =>
    simp only [idsL, List.mem_append] at h
    rcases h with h | h
    · exact ⟨v, List.mem_cons_self, h⟩
    · obtain ⟨u, hu, hi⟩ := ih h; exact ⟨u, List.mem_cons_of_mem _ hu, hi⟩
theorem mem_idsL {l : List V} {v : V} (hv : v ∈ l) {i : Nat} (h : i ∈ idsV v) : i ∈ idsL l := by
  induction l with
  | nil => cases hv
  | cons u l ih =>
    simp only [idsL, List.mem_append]
    rcases List.mem_cons.1 hv with e | hv
    · subst e; exact .inl h
    · exact .inr (ih hv)

theorem RV.ids {w : World} {F : Nat → Nat → Prop} {β : Nat → Value} {σ : Store} {u : V} {x : Value} (h : RV gs G w F β σ u x) : ∀ i ∈ idsV u, i < σ.length := by
  have lst : ∀ (l : List V) (vs : List Value), l.length = vs.length → (∀ (i : Nat) u v, l[i]? = some u → vs[i]? = some v → ∀ k ∈ idsV u, k < σ.length) → ∀ k ∈ idsL l, k < σ.length := fun l vs hl ih k hk => by
    obtain ⟨v, hv, hk⟩ := idsL_mem hk
    obtain ⟨i, hi, rfl⟩ := List.getElem_of_mem hv
    exact ih i _ vs[i] (List.getElem?_eq_getElem hi) (List.getElem?_eq_getElem (by omega)) k hk
  induction h with
  | fz u v h => cases h <;> intro i hi <;> simp [idsV] at hi
  | own i a n c hi h => intro k hk; simp [idsV] at hk; subst hk; exact hi
  | ptr i o b o' hi h => intro k hk; simp [idsV] at hk; subst hk; exact hi
  | eptr i j o b o' hi h => intro k hk; simp [idsV] at hk; subst hk; exact hi
  | map i b hi h => intro k hk; simp [idsV] at hk; subst hk; exact hi
  | fn g f c vf vc h1 h2 h3 h4 ih1 ih2 =>
    intro k hk
    simp only [idsV, List.mem_append] at hk
    rcases hk with hk | hk
    · exact lst _ _ h1 ih1 k hk
    · exact lst _ _ h3 ih2 k hk
  | agg l vs h1 h2 ih => intro k hk; exact lst _ _ h1 ih k (by simpa [idsV] using hk)
  | tup l vs h1 h2 ih => intro k hk; exact lst _ _ h1 ih k (by simpa [idsV] using hk)
  | _ => intro i hi; simp [idsV] at hi

mutual
theorem litEq_rel {w : World} {F : Nat → Nat → Prop} {β : Nat → Value} {σ : Store} : ∀ (u : V) {v : V} {x : Value}, litEq u v = true → RV gs G w F β σ v x → RV gs G w F β σ u x
  | .junk, _, _, _, _ => .junk _
  | .fn g a c, v, x, h, hv => by
    cases v <;> simp only [litEq] at h <;> try cases h
    obtain ⟨h1, h2⟩ := and_elim h
    obtain ⟨h2, h3⟩ := and_elim h2
    have := beq_elim h1
    subst this
    obtain ⟨vf, vc, rfl, r1, r2⟩ := hv.fn_inv
    have k1 := litEqL_rel a h2 r1
    have k2 := litEqL_rel c h3 r2
    exact .fn _ _ _ _ _ k1.1 k1.2 k2.1 k2.2
  | .own i, v, x, h, hv => by
    cases v <;> simp only [litEq] at h <;> try cases h
    rw [beq_elim h]; exact hv
  | .ptr i o, v, x, h, hv => by
    cases v <;> simp only [litEq] at h <;> try cases h
    obtain ⟨h1, h2⟩ := and_elim h
    rw [beq_elim h1, beq_elim h2]; exact hv
  | .gl i, v, x, h, hv => by
    cases v <;> simp only [litEq] at h <;> try cases h
    rw [beq_elim h]; exact hv
  | .map i, v, x, h, hv => by
    cases v <;> simp only [litEq] at h <;> try cases h
    rw [beq_elim h]; exact hv
  | .nls, v, x, h, hv => by
    cases v <;> simp only [litEq] at h <;> try cases h
    exact hv
  | .nilf, v, x, h, hv => by
    cases v <;> simp only [litEq] at h <;> try cases h
    exact hv
  | .nilm, v, x, h, hv => by
    cases v <;> simp only [litEq] at h <;> try cases h
    exact hv
  | .slc _ _, v, x, h, hv => by cases v <;> simp only [litEq] at h <;> cases h
  | .yl _, v, x, h, hv => by cases v <;> simp only [litEq] at h <;> cases h
  | .pt _, v, x, h, hv => by cases v <;> simp only [litEq] at h <;> cases h
  | .int _ _, v, x, h, hv => by cases v <;> simp only [litEq] at h <;> cases h
  | .bool _, v, x, h, hv => by cases v <;> simp only [litEq] at h <;> cases h
  | .str _, v, x, h, hv => by cases v <;> simp only [litEq] at h <;> cases h
  | .sl _ _, v, x, h, hv => by cases v <;> simp only [litEq] at h <;> cases h
  | .eptr _ _ _, v, x, h, hv => by cases v <;> simp only [litEq] at h <;> cases h
  | .err _, v, x, h, hv => by cases v <;> simp only [litEq] at h <;> cases h
  | .agg _, v, x, h, hv => by cases v <;> simp only [litEq] at h <;> cases h
  | .tup _, v, x, h, hv => by cases v <;> simp only [litEq] at h <;> cases h
  | .undef, v, x, h, hv => by cases v <;> simp only [litEq] at h <;> cases h
theorem litEqL_rel {w : World} {F : Nat → Nat → Prop} {β : Nat → Value} {σ : Store} : ∀ (us : List V) {vs : List V} {xs : List Value}, litEqL us vs = true → Rl (RV gs G w F β σ) vs xs → Rl (RV gs G w F β σ) us xs
  | [], [], xs, _, hv => hv
  | [], _ :: _, _, h, _ => by cases h
  | _ :: _, [], _, h, _ => by cases h
  | u :: us, v :: vs, xs, h, hv => by
    obtain ⟨h1, h2⟩ := and_elim h
    obtain ⟨x, xs', rfl, r1, r2⟩ := hv.cons_inv
    exact .cons (litEq_rel u h1 r1) (litEqL_rel us h2 r2)
end

theorem isA_append : ∀ {as bs : List As} {us vs : List V}, isA as us = true → isA bs vs = true → isA (as ++ bs) (us ++ vs) = true
  | [], bs, [], vs, _, h => h
  | [], _, _ :: _, _, h, _ => by cases h
  | _ :: _, _, [], _, h, _ => by cases h
  | a :: as, bs, u :: us, vs, h, h' => by
    obtain ⟨h1, h2⟩ := and_elim h
    simp only [List.cons_append, isA, h1, Bool.true_and]
    exact isA_append h2 h'
theorem allA_elim : ∀ {as : List As} {us : List V} {K : List V → Prop}, allA as K → isA as us = true → K us
  | [], [], _, h, _ => h
  | [], _ :: _, _, _, h => by cases h
  | _ :: _, [], _, _, h => by cases h
  | a :: as, u :: us, K, h, hi => by
    obtain ⟨h1, h2⟩ := and_elim hi
    have : allA as fun vs => K (u :: vs) := by
      cases a <;> cases u <;> simp only [As.is] at h1 <;> try cases h1
      · have := of_decide_eq_true h1; subst this; exact h _
      · exact h _
      · exact h _
      · have := beq_elim h1; subst this; exact h _
      · exact h _
      · exact h _
    exact allA_elim (K := fun vs => K (u :: vs)) this h2

/-- the new numbers -/
def fN (n0 n3 : Nat) : Nat → Option Nat := fun i => if i < n0 then some i else if n3 ≤ i then some (n0 + (i - n3)) else none

/-- what a step of 'norm' keeps -/
structure Kept (n3 : Nat) (σ σ' : Store) : Prop where
  len : σ.length ≤ σ'.length
  big : ∀ i, n3 ≤ i → i < σ.length → getO σ' i = getO σ i
  box : ∀ i l, getO σ i = .box l → getO σ' i = .box l
theorem Kept.refl (n3 : Nat) (σ : Store) : Kept n3 σ σ := ⟨Nat.le_refl _, fun _ _ _ => rfl, fun _ _ h => h⟩
theorem Kept.trans {n3 : Nat} {a b c : Store} (h : Kept n3 a b) (k : Kept n3 b c) : Kept n3 a c :=
  ⟨Nat.le_trans h.len k.len, fun i h1 h2 => (k.big i h1 (Nat.lt_of_lt_of_le h2 h.len)).trans (h.big i h1 h2), fun i l hb => k.box i l (h.box i l hb)⟩

theorem Kept.put {n3 : Nat} {σ : Store} {j : Nat} {o : Ob} (hj : j < n3) (hb : ∀ l, getO σ j ≠ .box l) : Kept n3 σ (putO σ j o) :=
  ⟨by rw [putO_length]; exact Nat.le_refl _, fun i h1 _ => getO_put_ne (by omega) _, fun i l h => by rw [getO_put_ne (fun e => hb l (by rw [← e]; exact h))]; exact h⟩
theorem Kept.push {n3 : Nat} {σ τ : Store} : Kept n3 σ (σ ++ τ) :=
  ⟨by simp, fun i _ h => getO_left h, fun i l h => by rw [getO_left (getO_lt (by rw [h]; exact fun h => by cases h))]; exact h⟩

theorem co_kept {n3 : Nat} {σ σ' : Store} {a : As} {u u' : V} (h : co σ a u = some (u', σ')) (hid : ∀ i ∈ idsV u, i < n3) : Kept n3 σ σ' ∧ σ'.length = σ.length := by
  have gen : cond (a.is u) (some (u, σ)) none = some (u', σ') → Kept n3 σ σ' ∧ σ'.length = σ.length := fun h => by
    cases hi : a.is u with
    | false => rw [hi] at h; cases h
    | true => rw [hi] at h; cases h; exact ⟨Kept.refl _ _, rfl⟩
  cases a with
  | sl z =>
    cases u with
    | nls => simp only [co] at h; cases h; exact ⟨Kept.refl _ _, rfl⟩
    | own i =>
      simp only [co] at h
      cases hg : getO σ i <;> rw [hg] at h <;> dsimp only at h <;> try cases h
      rename_i t z' fz l
      cases hz : Nat.beq z z' with
      | false => rw [hz] at h; cases h
      | true =>
        rw [hz] at h
        cases h
        cases fz with
        | true => exact ⟨Kept.refl _ _, rfl⟩
        | false => exact ⟨Kept.put (hid i (by simp [idsV])) (fun l h => by rw [hg] at h; cases h), putO_length _ _ _⟩
    | _ => exact gen h
  | _ => cases u <;> exact gen h

variable {w : World}

/-- the rebuilding of one place -/
def BldC (n0 n3 : Nat) (σ σ' : Store) (c : Cp) (ps : List V) (u : V) : Prop := ∃ os : List Ob, (∀ (cs : List Cp) (rest : List V), bldF (n0 + (σ.length - n3)) (c :: cs) (ps ++ rest) = match bldF (n0 + (σ.length - n3) + os.length) cs rest with | (vs, os', qs) => (renV (fN n0 n3) u :: vs, os ++ os', qs)) ∧
  σ'.length = σ.length + os.length ∧ (∀ (k : Nat) o, os[k]? = some o → getO σ' (σ.length + k) = o) ∧ ∀ o ∈ os, ∀ l, o ≠ .box l

theorem normC_run {n0 n3 : Nat} {F : Nat → Nat → Prop} {β : Nat → Value} {σ σ' : Store} (hs : Sim gs G w F β σ) (hn : n0 ≤ n3) (h3 : n3 ≤ σ.length) {c : Cp} {v u : V} {x : Value} {ps : List V} (h : normC n0 σ c v = some (ps, u, σ')) (hv : RV gs G w F β σ v x) (hid : ∀ i ∈ idsV v, i < n3) :
    ∃ F' β', Sim gs G w F' β' σ' ∧ Step w F β σ w F' β' σ' ∧ RV gs G w F' β' σ' u x ∧ isA c.sh ps = true ∧ Kept n3 σ σ' ∧ BldC n0 n3 σ σ' c ps u := by
  have fnew : fN n0 n3 σ.length = some (n0 + (σ.length - n3)) := by unfold fN; rw [if_neg (by omega), if_pos h3]
  unfold normC at h
  cases c with
  | d a =>
    dsimp only at h
    cases hc : co σ a v with
    | none => rw [hc] at h; cases h
    | some r =>
      obtain ⟨u', σ1⟩ := r
      rw [hc] at h; cases h
      obtain ⟨F1, k1, k2, k3, k4⟩ := co_run hs hc hv
      obtain ⟨q1, q2⟩ := co_kept hc hid
      refine ⟨F1, β, k1, k2, .fz _ _ k3, by simp [Cp.sh, isA, k4], q1, [], fun cs rest => ?_, by simp [q2], (fun k o h => by simp at h), fun o ho => (by cases ho)⟩
      simp only [bldF, List.cons_append, List.nil_append, List.tail_cons, List.headD_cons, List.length_nil, Nat.add_zero, data_ren _ k4]
  | l u0 =>
    dsimp only at h
    cases hc : litEq u0 v && litOk n0 u0 with
    | false => rw [hc] at h; cases h
    | true =>
      rw [hc] at h; cases h
      obtain ⟨h1, h2⟩ := and_elim hc
      refine ⟨F, β, hs, Step.refl _ _ _ _, litEq_rel _ h1 hv, rfl, Kept.refl _ _, [], fun cs rest => ?_, by simp, (fun k o h => by simp at h), fun o ho => (by cases ho)⟩
      have hr : renV (fN n0 n3) u = u := ren_id _ _ fun i hi => by
        have := List.all_eq_true.1 h2 i hi
        unfold fN; rw [if_pos (show i < n0 from ble_elim this)]
      simp only [bldF, List.nil_append, List.length_nil, Nat.add_zero, hr]
  | nw e z fz =>
    dsimp only at h
    cases v with
    | nls =>
      dsimp only at h
      cases hc : Nat.ble 1 z with
      | false => rw [hc] at h; cases h
      | true =>
        rw [hc] at h; cases h
        have hz0 := ble_elim hc
        have key := hs.repl (w' := w) none (.slice none 0 0) (.lst e z fz []) (fun _ _ => False) (fun i hi => by cases hi) rfl rfl rfl (Nat.le_refl _) (fun _ _ _ _ => rfl) (fun _ _ _ => rfl) (fun _ _ hx => hx.elim) (fun _ _ _ hx => hx.elim)
          (.inr ⟨[], by rw [extB_new]; exact World.ownsRow_nil _ _ _ _, .nil, fun r hr => (by cases hr), hz0, fun _ b hb => by rw [extB_new] at hb; cases hb⟩) (fun b _ hb => by cases hb) (fun b o hm => by have := hm.1.2; rw [extB_new] at this; cases this)
        refine ⟨_, _, key.1, key.2, ?_, by simp [Cp.sh, isA, As.is], Kept.push, [.lst e z fz []], fun cs rest => ?_, by simp, fun k o h => ?_, fun o ho l h => by rw [List.mem_singleton] at ho; rw [ho] at h; cases h⟩
        · rw [hv.nls_inv]
          exact .own σ.length none 0 0 (by simp) fun _ _ _ _ _ => extB_new _ _ _
        · simp only [bldF, List.cons_append, List.nil_append, List.tail_cons, List.headD_cons, rowsV, renV, fnew, List.length_cons, List.length_nil]
        · cases k with
          | zero => simp at h; subst h; rw [Nat.add_zero]; exact getO_new
          | succ k => simp at h
    | own j =>
      dsimp only at h
      cases hg : getO σ j with
      | lst e' z' fz' l =>
        rw [hg] at h; dsimp only at h
        cases hc : (Nat.beq e e' && Nat.beq z z' && (!fz' || fz)) with
        | false => rw [hc] at h; cases h
        | true =>
          rw [hc] at h; cases h
          obtain ⟨h1, h2⟩ := and_elim hc
          obtain ⟨h4, h5⟩ := and_elim h1
          have := beq_elim h4
          subst this
          have := beq_elim h5
          subst this
          obtain ⟨a, n, c, rfl, hj, hb⟩ := hv.own_inv
          have hβ := hb _ _ _ _ hg
          have ho := hs.obj j
          rw [hg] at ho
          obtain ⟨xs, how, hxs, hzs, hz0, hfz⟩ := ho.lst_own hβ
          clear ho
          have hj3 : j < n3 := hid j (by simp [idsV])
          -- its cells are data from here on, if this is asked
          have key := hs.repl (w' := w) (some j) (β j) (.lst e z fz l) (fun b o => fz = true ∧ fz' = false ∧ vblk (β j) = some b ∧ o < l.length * z) (fun i hi => by cases hi; exact hj) rfl rfl rfl (Nat.le_refl _) (fun _ _ _ _ => rfl) (fun _ _ _ => rfl)
            (fun b o hx => by
              obtain ⟨x1, x2, x3, x4⟩ := hx
              have hm : Mut β j (getO σ j) b o := by rw [hg]; subst x2; exact ⟨⟨trivial, x3⟩, trivial⟩
              exact ⟨hs.has_lt hm.has, .inr ⟨j, rfl, hm⟩⟩)
            (fun b o hm hx => by
              obtain ⟨x1, x2, x3, x4⟩ := hx
              subst x1
              have := hm.2
              simp only at this
              omega)
            (.inr ⟨xs, by rw [extB_new]; exact how, hxs.mono fun _ _ hf => hf.mono fun b o hf => ⟨.inl hf, rfl⟩, hzs, hz0, fun hf b hb o ho => by
              rw [extB_new] at hb
              cases fz' with
              | true => exact .inl (hfz rfl b hb o ho)
              | false => exact .inr ⟨hf, rfl, hb, ho⟩⟩)
            (fun b _ hb => .inr ⟨j, rfl, by rw [hg]; exact ⟨trivial, hb⟩⟩)
            (fun b o hm => .inr ⟨j, rfl, by
              rw [hg]
              refine ⟨⟨trivial, by have := hm.1.2; rwa [extB_new] at this⟩, ?_⟩
              cases fz' with
              | false => trivial
              | true =>
                have hf : fz = true := by simpa using h2
                subst hf
                exact hm.2⟩)
          refine ⟨_, _, key.1, key.2, ?_, by simp [Cp.sh, isA, As.is], ?_, [.lst e z fz l], fun cs rest => ?_, by simp [putO_length], fun k o h => ?_, fun o ho l h => by rw [List.mem_singleton] at ho; rw [ho] at h; cases h⟩
          · exact .own σ.length a n c (by simp [putO_length]) fun _ _ _ _ _ => by rw [extB_new]; exact hβ
          · exact (Kept.put hj3 fun l h => by rw [hg] at h; cases h).trans Kept.push
          · simp only [bldF, List.cons_append, List.nil_append, List.tail_cons, List.headD_cons, rowsV, renV, fnew, List.length_cons, List.length_nil]
          · cases k with
            | zero =>
              simp at h; subst h
              have := getO_new (σ := putO σ j .dead) (v := 0) (o := Ob.lst e z fz l)
              rw [putO_length] at this
              rw [Nat.add_zero]; exact this
            | succ k => simp at h
      | _ => rw [hg] at h; cases h
    | _ => cases h

end
end Go.Av
end

/- part AvQ -/
section
namespace Go.Av
open Go.Vx Go.RowKit

section
variable {gs : List Nat} {G : Nat → Value} {w : World}

/-- the rebuilding of places in a row -/
def News (σ σ' : Store) (os : List Ob) : Prop := σ'.length = σ.length + os.length ∧ (∀ (k : Nat) o, os[k]? = some o → getO σ' (σ.length + k) = o) ∧ ∀ o ∈ os, ∀ l, o ≠ .box l
theorem News.nil (σ : Store) : News σ σ [] := ⟨by simp, (fun k o h => by simp at h), fun o ho => (by cases ho)⟩
theorem News.app {n3 : Nat} {σ σ1 σ2 : Store} {os os' : List Ob} (h3 : n3 ≤ σ.length) (h : News σ σ1 os) (k : News σ1 σ2 os') (hk : Kept n3 σ1 σ2) : News σ σ2 (os ++ os') := by
  refine ⟨by rw [k.1, h.1, List.length_append]; omega, fun i o hi => ?_, fun o ho => by
    rcases List.mem_append.1 ho with ho | ho
    · exact h.2.2 o ho
    · exact k.2.2 o ho⟩
  rcases Nat.lt_or_ge i os.length with hl | hl
  · rw [List.getElem?_append_left hl] at hi
    rw [hk.big _ (by omega) (by rw [h.1]; omega)]
    exact h.2.1 i o hi
  · rw [List.getElem?_append_right hl] at hi
    have := k.2.1 _ o hi
    rw [h.1] at this
    rw [show σ.length + i = σ.length + os.length + (i - os.length) by omega]; exact this

theorem normF_run {n0 n3 : Nat} (hn : n0 ≤ n3) : ∀ {cs : List Cp} {vs us : List V} {xs : List Value} {ps : List V} {F : Nat → Nat → Prop} {β : Nat → Value} {σ σ' : Store}, Sim gs G w F β σ → n3 ≤ σ.length → normF n0 σ cs vs = some (ps, us, σ') → Rl (RV gs G w F β σ) vs xs → (∀ v ∈ vs, ∀ i ∈ idsV v, i < n3) →
    ∃ F' β' os, Sim gs G w F' β' σ' ∧ Step w F β σ w F' β' σ' ∧ Rl (RV gs G w F' β' σ') us xs ∧ isA (cs.flatMap Cp.sh) ps = true ∧ Kept n3 σ σ' ∧ (∀ rest, bldF (n0 + (σ.length - n3)) cs (ps ++ rest) = (renL (fN n0 n3) us, os, rest)) ∧ News σ σ' os
  | [], [], us, xs, ps, F, β, σ, σ', hs, h3, h, hv, hid => by
    simp only [normF] at h; cases h
    rw [hv.nil_inv]
    exact ⟨F, β, [], hs, Step.refl _ _ _ _, .nil, rfl, Kept.refl _ _, fun rest => rfl, News.nil _⟩
  | [], _ :: _, _, _, _, _, _, _, _, _, _, h, _, _ => by simp only [normF] at h; cases h
  | _ :: _, [], _, _, _, _, _, _, _, _, _, h, _, _ => by simp only [normF] at h; cases h
  | c :: cs, v :: vs, us, xs, ps, F, β, σ, σ', hs, h3, h, hv, hid => by
    obtain ⟨x, xs', rfl, r1, r2⟩ := hv.cons_inv
    simp only [normF] at h
    cases hc : normC n0 σ c v with
    | none => rw [hc] at h; cases h
    | some r =>
      obtain ⟨p1, u, σ1⟩ := r
      rw [hc] at h; dsimp only at h
      cases hc2 : normF n0 σ1 cs vs with
      | none => rw [hc2] at h; cases h
      | some r =>
        obtain ⟨p2, us2, σ2⟩ := r
        rw [hc2] at h; cases h
        obtain ⟨F1, β1, k1, k2, k3, k4, k5, os, k6, k7, k8⟩ := normC_run hs hn h3 hc r1 (hid v List.mem_cons_self)
        obtain ⟨F2, β2, os2, l1, l2, l3, l4, l5, l6, l7⟩ := normF_run hn k1 (Nat.le_trans h3 k5.len) hc2 (r2.mono fun _ _ => RV.mono k2.carry) (fun v hv => hid v (List.mem_cons_of_mem _ hv))
        refine ⟨F2, β2, os ++ os2, l1, k2.trans l2, .cons (k3.mono l2.carry) l3, by rw [List.flatMap_cons]; exact isA_append k4 l4, k5.trans l5, fun rest => ?_, News.app h3 ⟨k7, k8⟩ l7 l5⟩
        rw [List.append_assoc, k6 cs (p2 ++ rest)]
        have e : n0 + (σ.length - n3) + os.length = n0 + (σ1.length - n3) := by rw [k7]; omega
        rw [e, l6 rest]
        rfl

theorem aggL_some {v : V} {l : List V} (h : aggL v = some l) : v = .agg l := by
  cases v <;> simp only [aggL] at h <;> cases h; rfl

theorem normS_run {n0 n3 : Nat} (hn : n0 ≤ n3) {e : AEnv} {ρ : Env} : ∀ {sl : List (Nat × List Cp × Bool)} {ts : List (Nat × V)} {ps : List V} {F : Nat → Nat → Prop} {β : Nat → Value} {σ σ' : Store}, Sim gs G w F β σ → n3 ≤ σ.length → normS n0 e σ sl = some (ps, ts, σ') → RE gs G w F β σ e ρ → (∀ t, ∀ i ∈ idsV (e t), i < n3) →
    ∃ F' β' os, Sim gs G w F' β' σ' ∧ Step w F β σ w F' β' σ' ∧ (∀ t v, lookP ts t = some v → RV gs G w F' β' σ' v (ρ t)) ∧ (∀ t, lookP ts t = none ↔ t ∉ sl.map (·.1)) ∧ isA (sl.flatMap fun s => s.2.1.flatMap Cp.sh) ps = true ∧ Kept n3 σ σ' ∧ (∀ rest, bldS (n0 + (σ.length - n3)) sl (ps ++ rest) = (ts.map fun p => (p.1, renV (fN n0 n3) p.2), os, rest)) ∧ News σ σ' os
  | [], ts, ps, F, β, σ, σ', hs, h3, h, he, hid => by
    simp only [normS] at h; cases h
    exact ⟨F, β, [], hs, Step.refl _ _ _ _, (fun t v h => nomatch h), (fun t => by simp [lookP]), rfl, Kept.refl _ _, fun rest => rfl, News.nil _⟩
  | (t, cs, true) :: sl, ts, ps, F, β, σ, σ', hs, h3, h, he, hid => by
    simp only [normS] at h
    cases ha : aggL (e t) with
    | none => rw [ha] at h; cases h
    | some l =>
      rw [ha] at h; dsimp only at h
      have hl := aggL_some ha
      cases hc : normF n0 σ cs l with
      | none => rw [hc] at h; cases h
      | some r =>
        obtain ⟨p1, us, σ1⟩ := r
        rw [hc] at h; dsimp only at h
        cases hc2 : normS n0 e σ1 sl with
        | none => rw [hc2] at h; cases h
        | some r =>
          obtain ⟨p2, ts2, σ2⟩ := r
          rw [hc2] at h; cases h
          have hr := he t
          rw [hl] at hr
          obtain ⟨xs, ex, hr⟩ := hr.agg_inv
          obtain ⟨F1, β1, os, k1, k2, k3, k4, k5, k6, k7⟩ := normF_run hn hs h3 hc hr (fun v hv i hi => hid t i (by rw [hl]; simpa [idsV] using mem_idsL hv hi))
          obtain ⟨F2, β2, os2, l1, l2, l3, l4, l5, l6, l7, l8⟩ := normS_run hn k1 (Nat.le_trans h3 k5.len) hc2 (he.mono k2.carry) hid
          refine ⟨F2, β2, os ++ os2, l1, k2.trans l2, fun t' v' h' => ?_, fun t' => ?_, by rw [List.flatMap_cons]; exact isA_append k4 l5, k5.trans l6, fun rest => ?_, News.app h3 k7 l8 l6⟩
          · simp only [lookP] at h'
            cases hb : Nat.beq t t' with
            | true =>
              rw [hb] at h'; cases h'
              have := beq_elim hb
              subst this
              rw [ex]; exact (RV.mk_agg k3).mono l2.carry
            | false => rw [hb] at h'; exact l3 t' v' h'
          · simp only [lookP, List.map_cons, List.mem_cons]
            cases hb : Nat.beq t t' with
            | true => have := beq_elim hb; subst this; simp
            | false =>
              have hne : t' ≠ t := fun e => by rw [e] at hb; simp at hb
              simp only [cond_false, hne, false_or]; exact l4 t'
          · rw [List.append_assoc]
            simp only [bldS]
            rw [k6 (p2 ++ rest)]
            dsimp only
            have e1 : n0 + (σ.length - n3) + os.length = n0 + (σ1.length - n3) := by rw [k7.1]; omega
            rw [e1, l7 rest]
            simp [renV]
  | (t, cs, false) :: sl, ts, ps, F, β, σ, σ', hs, h3, h, he, hid => by
    simp only [normS] at h
    match cs, h with
    | [c], h =>
      dsimp only at h
      cases hc : normC n0 σ c (e t) with
      | none => rw [hc] at h; cases h
      | some r =>
        obtain ⟨p1, u, σ1⟩ := r
        rw [hc] at h; dsimp only at h
        cases hc2 : normS n0 e σ1 sl with
        | none => rw [hc2] at h; cases h
        | some r =>
          obtain ⟨p2, ts2, σ2⟩ := r
          rw [hc2] at h; cases h
          obtain ⟨F1, β1, k1, k2, k3, k4, k5, os, k6, k7, k8⟩ := normC_run hs hn h3 hc (he t) (hid t)
          obtain ⟨F2, β2, os2, l1, l2, l3, l4, l5, l6, l7, l8⟩ := normS_run hn k1 (Nat.le_trans h3 k5.len) hc2 (he.mono k2.carry) hid
          refine ⟨F2, β2, os ++ os2, l1, k2.trans l2, fun t' v' h' => ?_, fun t' => ?_, by simp only [List.flatMap_cons, List.flatMap_nil, List.append_nil]; exact isA_append k4 l5, k5.trans l6, fun rest => ?_, News.app h3 ⟨k7, k8⟩ l8 l6⟩
          · simp only [lookP] at h'
            cases hb : Nat.beq t t' with
            | true =>
              rw [hb] at h'; cases h'
              have := beq_elim hb
              subst this
              exact k3.mono l2.carry
            | false => rw [hb] at h'; exact l3 t' v' h'
          · simp only [lookP, List.map_cons, List.mem_cons]
            cases hb : Nat.beq t t' with
            | true => have := beq_elim hb; subst this; simp
            | false =>
              have hne : t' ≠ t := fun e => by rw [e] at hb; simp at hb
              simp only [cond_false, hne, false_or]; exact l4 t'
          · rw [List.append_assoc]
            simp only [bldS]
            rw [k6 [] (p2 ++ rest)]
            simp only [bldF, List.append_nil]
            have e1 : n0 + (σ.length - n3) + os.length = n0 + (σ1.length - n3) := by rw [k7]; omega
            rw [e1, l7 rest]
            simp
    | [], h => cases h
    | _ :: _ :: _, h => cases h

theorem normB_run {n0 n3 : Nat} (hn : n0 ≤ n3) : ∀ {bx : List (Nat × List Cp)} {ps : List V} {F : Nat → Nat → Prop} {β : Nat → Value} {σ σ' : Store}, Sim gs G w F β σ → n3 ≤ σ.length → normB n0 σ bx = some (ps, σ') → (∀ i l, i ∈ bx.map (·.1) → getO σ i = .box l → ∀ v ∈ l, ∀ k ∈ idsV v, k < n3) →
    ∃ F' β' os, Sim gs G w F' β' σ' ∧ Step w F β σ w F' β' σ' ∧ isA (bx.flatMap fun s => s.2.flatMap Cp.sh) ps = true ∧ (∀ i, n3 ≤ i → i < σ.length → getO σ' i = getO σ i) ∧ (∀ i l, i ∉ bx.map (·.1) → getO σ i = .box l → getO σ' i = .box l) ∧
      (∀ rest, bldB (n0 + (σ.length - n3)) bx (ps ++ rest) = (bx.map fun b => (b.1, renOb (fN n0 n3) (getO σ' b.1)), os, rest)) ∧ News σ σ' os ∧ ∀ i ∈ bx.map (·.1), i < n0 ∧ ∃ l, getO σ' i = .box l
  | [], ps, F, β, σ, σ', hs, h3, h, hid => by
    simp only [normB] at h; cases h
    exact ⟨F, β, [], hs, Step.refl _ _ _ _, rfl, fun _ _ _ => rfl, fun _ _ _ h => h, fun rest => rfl, News.nil _, fun i hi => by simp at hi⟩
  | (i, cs) :: bx, ps, F, β, σ, σ', hs, h3, h, hid => by
    simp only [normB] at h
    cases hb : (!hasB (bx.map (·.1)) i && Nat.ble (i + 1) n0) with
    | false => rw [hb] at h; cases h
    | true =>
      rw [hb] at h; dsimp only [cond] at h
      obtain ⟨hnm, hlt⟩ := and_elim hb
      have hi0 : i < n0 := ble_elim hlt
      have hnm' := hasB_false hnm
      cases hg : getO σ i with
      | box l =>
        rw [hg] at h; dsimp only at h
        cases hc : normF n0 σ cs l with
        | none => rw [hc] at h; cases h
        | some r =>
          obtain ⟨p1, us, σ1⟩ := r
          rw [hc] at h; dsimp only at h
          cases hc2 : normB n0 (putO σ1 i (.box us)) bx with
          | none => rw [hc2] at h; cases h
          | some r =>
            obtain ⟨p2, σ2⟩ := r
            rw [hc2] at h; cases h
            have ho := hs.obj i
            rw [hg] at ho
            obtain ⟨b, t, xs, e1, hh, hr, hone⟩ := ho
            obtain ⟨F1, β1, os, k1, k2, k3, k4, k5, k6, k7⟩ := normF_run hn hs h3 hc hr (fun v hv k hk => hid i l (by simp) hg v hv k hk)
            have hg1 := k5.box i l hg
            have hi1 : i < σ1.length := by have := k5.len; omega
            have hβ1 : β1 i = .pointer (some ⟨b, 0, none⟩) := ((k2.ext i (by omega)).1).trans e1
            have hob' : obLe (getO σ1 i) (.box us) := by
              rw [hg1]
              show l.length = us.length
              rw [hr.1, k3.1]
            have hcar := set_carry k1 (w' := w) hob' hi1 (fun _ _ _ _ => rfl) (fun _ _ => False)
            have key := k1.setObj (w' := w) i (.box us) (fun _ _ => False) hi1 hob' rfl rfl rfl (Nat.le_refl _) (fun _ _ _ _ => rfl) (fun _ _ _ => rfl) (fun _ _ hx => hx.elim) (fun _ _ _ hx => hx.elim) (fun b' o'' hm => by rw [hg1]; exact ⟨⟨trivial, hm.1.2⟩, trivial⟩)
              ⟨b, t, xs, hβ1, hh, k3.mono fun _ _ => RV.mono hcar, hone⟩
            have hlen1 : (putO σ1 i (.box us)).length = σ1.length := putO_length _ _ _
            obtain ⟨F2, β2, os2, l1, l2, l4, l5, l6, l7, l8, l9⟩ := normB_run hn key.1 (by rw [hlen1]; exact Nat.le_trans h3 k5.len) hc2 (fun j l' hj hgj v hv k hk => by
              have hne : j ≠ i := fun e => hnm' (e ▸ hj)
              rw [getO_put_ne hne] at hgj
              cases hgo : getO σ j with
              | box l0 =>
                have := k5.box j l0 hgo
                rw [hgj] at this; cases this
                exact hid j l' (List.mem_cons_of_mem _ hj) hgo v hv k hk
              | _ =>
                -- a box that was none: it would be a new object
                have hle := (k2.ext j (by
                  rcases Nat.lt_or_ge j σ.length with h | h
                  · exact h
                  · exfalso
                    have hj1 : j < σ1.length := getO_lt (by rw [hgj]; exact fun h => by cases h)
                    have hk : j - σ.length < os.length := by have := k7.1; omega
                    have := k7.2.1 (j - σ.length) _ (List.getElem?_eq_getElem hk)
                    rw [show σ.length + (j - σ.length) = j by omega, hgj] at this
                    -- new objects are lists
                    exact absurd this.symm (k7.2.2 _ (List.getElem_mem hk) l'))).2
                rw [hgo, hgj] at hle
                simp [obLe] at hle)
            have kb : Kept n3 σ1 (putO σ1 i (.box us)) → True := fun _ => trivial
            have hput : ∀ j, j ≠ i → getO (putO σ1 i (.box us)) j = getO σ1 j := fun j hj => getO_put_ne hj _
            have hgi : getO σ' i = .box us := l6 i us hnm' (getO_put hi1 _)
            refine ⟨F2, β2, os ++ os2, l1, (k2.trans key.2).trans l2, by rw [List.flatMap_cons]; exact isA_append k4 l4, fun j hj1 hj2 => ?_, fun j l' hj hgj => ?_, fun rest => ?_, ?_, fun j hj => ?_⟩
            · rw [l5 j hj1 (by rw [hlen1]; have := k5.len; omega), hput j (by omega)]; exact k5.big j hj1 hj2
            · have hne : j ≠ i := fun e => hj (by rw [e]; simp)
              exact l6 j l' (fun h => hj (List.mem_cons_of_mem _ h)) (by rw [hput j hne]; exact k5.box j l' hgj)
            · rw [List.append_assoc]
              simp only [bldB]
              rw [k6 (p2 ++ rest)]
              dsimp only
              have e1 : n0 + (σ.length - n3) + os.length = n0 + ((putO σ1 i (.box us)).length - n3) := by rw [hlen1, k7.1]; omega
              rw [e1, l7 rest]
              simp only [List.map_cons, hgi, renOb]
            · refine ⟨by rw [l8.1, hlen1, k7.1, List.length_append]; omega, fun k o hk => ?_, fun o ho => by
                rcases List.mem_append.1 ho with ho | ho
                · exact k7.2.2 o ho
                · exact l8.2.2 o ho⟩
              rcases Nat.lt_or_ge k os.length with hl | hl
              · rw [List.getElem?_append_left hl] at hk
                have hlt' : σ.length + k < σ1.length := by rw [k7.1]; omega
                rw [l5 _ (by omega) (by rw [hlen1]; exact hlt'), hput _ (by omega)]
                exact k7.2.1 k o hk
              · rw [List.getElem?_append_right hl] at hk
                have := l8.2.1 _ o hk
                rw [hlen1, k7.1] at this
                rw [show σ.length + k = σ.length + os.length + (k - os.length) by omega]; exact this
            · simp only [List.map_cons, List.mem_cons] at hj
              rcases hj with e | hj
              · subst e; exact ⟨hi0, us, hgi⟩
              · exact l9 j hj
      | _ => rw [hg] at h; cases h

theorem normL_run {n0 : Nat} : ∀ {ls : List (Nat × Nat × Nat × Bool)} {ps : List V} {F : Nat → Nat → Prop} {β : Nat → Value} {σ σ' : Store}, Sim gs G w F β σ → normL n0 σ ls = some (ps, σ') →
    ∃ F', Sim gs G w F' β σ' ∧ Step w F β σ w F' β σ' ∧ isA (ls.map fun s => As.sl s.2.2.1) ps = true ∧ σ'.length = σ.length ∧ (∀ i, i ∉ ls.map (·.1) → getO σ' i = getO σ i) ∧
      (∀ f : Nat → Option Nat, bldL ls ps = ls.map fun b => (b.1, renOb f (getO σ' b.1))) ∧ ∀ i ∈ ls.map (·.1), i < n0 ∧ ∃ e z fz l, getO σ i = .lst e z fz l
  | [], ps, F, β, σ, σ', hs, h => by
    simp only [normL] at h; cases h
    exact ⟨F, hs, Step.refl _ _ _ _, rfl, rfl, fun _ _ => rfl, fun f => rfl, fun i hi => by simp at hi⟩
  | (i, e, z, fz) :: ls, ps, F, β, σ, σ', hs, h => by
    simp only [normL] at h
    cases hg : getO σ i with
    | lst e' z' fz' l =>
      rw [hg] at h; dsimp only at h
      cases hb : (Nat.beq e e' && Nat.beq z z' && (!fz' || fz) && !hasB (ls.map (·.1)) i && Nat.ble (i + 1) n0 && (!fz || fz' || Nat.ble 1 z)) with
      | false => rw [hb] at h; cases h
      | true =>
        rw [hb] at h; simp only [cond_true] at h
        obtain ⟨h1, hfz1⟩ := and_elim hb
        obtain ⟨h1, hlt⟩ := and_elim h1
        obtain ⟨h1, hnm⟩ := and_elim h1
        obtain ⟨h1, h2⟩ := and_elim h1
        obtain ⟨h4, h5⟩ := and_elim h1
        have := beq_elim h4
        subst this
        have := beq_elim h5
        subst this
        have hnm' := hasB_false hnm
        have hi : i < σ.length := getO_lt (by rw [hg]; exact fun h => by cases h)
        cases hc : normL n0 (cond (!fz' && fz) (putO σ i (.lst e z true l)) σ) ls with
        | none => rw [hc] at h; cases h
        | some r =>
          obtain ⟨p2, σ2⟩ := r
          rw [hc] at h; cases h
          -- the list made data, if this is asked
          have step1 : ∃ F1, Sim gs G w F1 β (cond (!fz' && fz) (putO σ i (.lst e z true l)) σ) ∧ Step w F β σ w F1 β (cond (!fz' && fz) (putO σ i (.lst e z true l)) σ) := by
            cases fz' with
            | true => exact ⟨F, hs, Step.refl _ _ _ _⟩
            | false =>
              cases fz with
              | false => exact ⟨F, hs, Step.refl _ _ _ _⟩
              | true => obtain ⟨F1, k1, k2, _⟩ := hs.freeze hg (ble_elim (by simpa using hfz1)); exact ⟨F1, k1, k2⟩
          have hlen : (cond (!fz' && fz) (putO σ i (.lst e z true l)) σ).length = σ.length := by cases (!fz' && fz) <;> simp [putO_length]
          have hsame : ∀ j, j ≠ i → getO (cond (!fz' && fz) (putO σ i (.lst e z true l)) σ) j = getO σ j := fun j hj => by
            cases (!fz' && fz)
            · rfl
            · exact getO_put_ne hj _
          have hself : getO (cond (!fz' && fz) (putO σ i (.lst e z true l)) σ) i = .lst e z fz l := by
            cases fz' <;> cases fz <;> first | exact hg | exact getO_put hi _ | (simp at h2)
          obtain ⟨F1, k1, k2⟩ := step1
          obtain ⟨F2, l1, l2, l3, l4, l5, l6, l7⟩ := normL_run k1 hc
          refine ⟨F2, l1, k2.trans l2, by simp [isA, As.is, l3], l4.trans hlen, fun j hj => ?_, fun f => ?_, fun j hj => ?_⟩
          · have hne : j ≠ i := fun e => hj (by rw [e]; simp)
            rw [l5 j (fun h => hj (List.mem_cons_of_mem _ h)), hsame j hne]
          · simp only [bldL, List.headD_cons, List.tail_cons, rowsV, List.map_cons, l6 f]
            rw [l5 i hnm', hself]
            rfl
          · simp only [List.map_cons, List.mem_cons] at hj
            rcases hj with e' | hj
            · subst e'; exact ⟨ble_elim hlt, _, _, _, _, hg⟩
            · obtain ⟨q1, e2, z2, f2, l2', q2⟩ := l7 j hj
              exact ⟨q1, e2, z2, f2, l2', by rw [← hsame j (fun e => hnm' (e ▸ hj))]; exact q2⟩
    | _ => rw [hg] at h; cases h

end
end Go.Av
end

/- part AvR -/
section
namespace Go.Av
open Go.Vx Go.RowKit

theorem putOs_length : ∀ (L : List (Nat × Ob)) (σ : Store), (putOs σ L).length = σ.length
  | [], _ => rfl
  | (i, o) :: L, σ => by simp only [putOs]; rw [putOs_length L, putO_length]
theorem putOs_get : ∀ (L : List (Nat × Ob)) (σ : Store) (val : Nat → Ob), (∀ x ∈ L, x.2 = val x.1) → ∀ i, i < σ.length →
    (i ∈ L.map (·.1) → getO (putOs σ L) i = val i ∧ verO σ i < verO (putOs σ L) i) ∧ (i ∉ L.map (·.1) → getO (putOs σ L) i = getO σ i ∧ verO (putOs σ L) i = verO σ i)
  | [], σ, val, h, i, hi => ⟨fun h => by simp at h, fun _ => ⟨rfl, rfl⟩⟩
  | (j, o) :: L, σ, val, h, i, hi => by
    have ho : o = val j := h (j, o) List.mem_cons_self
    obtain ⟨h1, h2⟩ := putOs_get L (putO σ j o) val (fun x hx => h x (List.mem_cons_of_mem _ hx)) i (by rw [putO_length]; exact hi)
    simp only [putOs, List.map_cons, List.mem_cons]
    refine ⟨fun hm => ?_, fun hm => ?_⟩
    · by_cases hl : i ∈ L.map (·.1)
      · obtain ⟨e1, e2⟩ := h1 hl
        refine ⟨e1, ?_⟩
        by_cases e : i = j
        · subst e; rw [verO_put hi] at e2; omega
        · rw [verO_put_ne e] at e2; exact e2
      · have e : i = j := by
          rcases hm with e | hm
          · exact e
          · exact absurd hm hl
        subst e
        obtain ⟨e1, e2⟩ := h2 hl
        exact ⟨by rw [e1, getO_put hi, ho], by rw [e2, verO_put hi]; omega⟩
    · have hne : i ≠ j := fun e => hm (.inl e)
      obtain ⟨e1, e2⟩ := h2 fun h => hm (.inr h)
      exact ⟨e1.trans (getO_put_ne hne _), e2.trans (verO_put_ne hne _)⟩

section
variable {gs : List Nat} {G : Nat → Value} {w : World}

theorem Sim.restrict {F : Nat → Nat → Prop} {β : Nat → Value} {τ σ1 : Store} (h : Sim gs G w F β τ) {g : Nat → Nat} {f : Nat → Option Nat} (hget : ∀ i, i < σ1.length → getO σ1 i = renOb f (getO τ (g i)))
    (hinj : ∀ i j, i < σ1.length → j < σ1.length → g i = g j → i = j) (hf : ∀ o k, o < τ.length → f o = some k → k < σ1.length ∧ g k = o) :
    Sim gs G w F (fun i => β (g i)) σ1 ∧ Ren f β τ (fun i => β (g i)) σ1 := by
  have hren : Ren f β τ (fun i => β (g i)) σ1 := by
    refine ⟨fun i k hi hk => (hf i k hi hk).1, fun i k hi hk => by show β (g k) = β i; rw [(hf i k hi hk).2], fun i k hi hk => ?_⟩
    obtain ⟨h1, h2⟩ := hf i k hi hk
    rw [hget k h1, h2]; exact renOb_le _ _
  have hlt : ∀ i, getO σ1 i ≠ .dead → i < σ1.length := fun i hi => getO_lt hi
  have hHas : ∀ i b, Has (fun i => β (g i)) i (getO σ1 i) b → i < σ1.length ∧ Has β (g i) (getO τ (g i)) b := fun i b hb => by
    have hi : i < σ1.length := hlt i fun e => by rw [e] at hb; exact no_has_dead hb
    rw [hget i hi] at hb
    exact ⟨hi, (renOb_has (β' := fun i => β (g i)) (β := β) (i := g i) rfl).1 hb⟩
  have hMut : ∀ i b o, Mut (fun i => β (g i)) i (getO σ1 i) b o → i < σ1.length ∧ Mut β (g i) (getO τ (g i)) b o := fun i b o hb => by
    have hi : i < σ1.length := hlt i fun e => by rw [e] at hb; exact no_has_dead hb.has
    rw [hget i hi] at hb
    exact ⟨hi, (renOb_mut (β' := fun i => β (g i)) (β := β) (i := g i) rfl).1 hb⟩
  refine ⟨⟨h.lt, fun x hx => ?_, fun i => ?_, fun x cs hx => ?_, fun i j b hij hi hj => ?_, fun i b o hm => ?_⟩, hren⟩
  · obtain ⟨h1, h2, h3, t, b, h4, h5, h6, h7⟩ := h.glob x hx
    exact ⟨h1, h2, fun i hi => h3 _ (hHas i x hi).2, t, b, h4, h5, h6, fun i hi => h7 _ (hHas i b.block hi).2⟩
  · rcases Nat.lt_or_ge i σ1.length with hi | hi
    · rw [hget i hi]; exact (h.obj (g i)).ren hren rfl
    · rw [getO_ge hi]; trivial
  · obtain ⟨h1, h2, h3⟩ := h.tab x cs hx
    exact ⟨h1, h2, fun i hi => h3 _ (hHas i x hi).2⟩
  · obtain ⟨i1, i2⟩ := hHas i b hi
    obtain ⟨j1, j2⟩ := hHas j b hj
    exact h.sep _ _ b (fun e => hij (hinj i j i1 j1 e)) i2 j2
  · exact h.dis _ b o (hMut i b o hm).2

theorem isDead_elim {o : Ob} (h : isDead o = true) : o = .dead := by cases o <;> simp only [isDead] at h <;> first | rfl | cases h

/-- a state arrives at a cut -/
theorem cut_run {p : Pat} {n : Nat} {w0 : World} {F0 : Nat → Nat → Prop} {β0 : Nat → Value} {σ0 : Store} {F : Nat → Nat → Prop} {β : Nat → Value} {σ τ σb : Store} {e e0 : AEnv} {ρ ρ0 : Env} {ps : List V} {asg : List Nat}
    (hst : Step w0 F0 β0 σ0 w F β σ) (hs : Sim gs G w F β σ) (he : RE gs G w F β σ e ρ) (hn : σ0.length = n) (hg : grab p n e σ = some (ps, τ)) (hbl : σb.length = n) (hsame : ∀ i, i < n → i ∉ p.ids → getO σb i = getO τ i ∧ verO σb i = verO τ i)
    (hver : ∀ i, i < n → verO σ0 i ≤ verO σb i) (hidb : ∀ i, i < n → i ∉ p.ids → ∀ l, getO σb i = .box l → ∀ k ∈ idsL l, k < n) (he0 : RE gs G w0 F0 β0 σ0 e0 ρ0) :
    isA p.shapes ps = true ∧ ∃ e1 F1 β1 σ1, (∀ K, head p e0 σb asg ps K → K e1 σ1) ∧ (∀ ρ1 : Env, (∀ t, t ∈ p.slots.map (·.1) → ρ1 t = ρ t) → (∀ t, t ∉ p.slots.map (·.1) → t ∉ asg → ρ1 t = ρ0 t) → RE gs G w F1 β1 σ1 e1 ρ1) ∧
      Sim gs G w F1 β1 σ1 ∧ Step w0 F0 β0 σ0 w F1 β1 σ1 ∧ ∀ i, i < n → i ∉ p.ids → getO σ1 i = getO σb i ∧ verO σ1 i = verO σb i := by
  have hnl : n ≤ σ.length := by rw [← hn]; exact hst.len
  unfold grab at hg
  cases h1 : normS n e σ p.slots with
  | none => rw [h1] at hg; cases hg
  | some r =>
    obtain ⟨p1, ts, σ1⟩ := r
    rw [h1] at hg; dsimp only at hg
    cases h2 : normB n σ1 p.boxes with
    | none => rw [h2] at hg; cases hg
    | some r =>
      obtain ⟨p2, σ2⟩ := r
      rw [h2] at hg; dsimp only at hg
      cases h3 : normL n σ2 p.lsts with
      | none => rw [h3] at hg; cases hg
      | some r =>
        obtain ⟨p3, σ3⟩ := r
        rw [h3] at hg; dsimp only at hg
        cases hd : p.deads.all fun i => isDead (getO σ3 i) with
        | false => rw [hd] at hg; cases hg
        | true =>
          rw [hd] at hg; cases hg
          obtain ⟨F1, β1, os1, a1, a2, a3, a4, a5, a6, a7, a8⟩ := normS_run (n3 := σ.length) hnl hs (Nat.le_refl _) h1 he (fun t i hi => (he t).ids i hi)
          have hbx : ∀ i l, i ∈ p.boxes.map (·.1) → getO σ1 i = .box l → ∀ v ∈ l, ∀ k ∈ idsV v, k < σ.length := fun i l _ hgi v hv k hk => by
            have hi1 : i < σ1.length := getO_lt (by rw [hgi]; exact fun h => by cases h)
            rcases Nat.lt_or_ge i σ.length with hi | hi
            · have hle := (a2.ext i hi).2
              rw [hgi] at hle
              cases hgo : getO σ i <;> rw [hgo] at hle <;> simp [obLe] at hle
              rename_i l0
              have := a6.box i l0 hgo
              rw [hgi] at this; cases this
              have ho := hs.obj i
              rw [hgo] at ho
              obtain ⟨b, t, cs, _, _, hr, _⟩ := ho
              obtain ⟨q, hq, rfl⟩ := List.getElem_of_mem hv
              have hq' : q < cs.toList.length := by rw [← hr.1]; exact hq
              exact (hr.2 q _ cs.toList[q] (List.getElem?_eq_getElem hq) (List.getElem?_eq_getElem hq')).ids k hk
            · exfalso
              have hk' : i - σ.length < os1.length := by have := a8.1; omega
              have := a8.2.1 (i - σ.length) _ (List.getElem?_eq_getElem hk')
              rw [show σ.length + (i - σ.length) = i by omega, hgi] at this
              exact a8.2.2 _ (List.getElem_mem hk') l this.symm
          obtain ⟨F2, β2, os2, b1, b2, b3, b4, b5, b6, b7, b8⟩ := normB_run (n3 := σ.length) hnl a1 a6.len h2 hbx
          obtain ⟨F3, c1, c2, c3, c4, c5, c6, c7⟩ := normL_run b1 h3
          have hshape : isA p.shapes (p1 ++ (p2 ++ p3)) = true := isA_append a5 (isA_append b3 c3)
          refine ⟨hshape, ?_⟩
          -- what the head is
          have f1 : σ1.length = σ.length + os1.length := a8.1
          have f2 : σ2.length = σ1.length + os2.length := b7.1
          have e1 : n + (σ.length - σ.length) = n := by omega
          have e2 : n + (σ1.length - σ.length) = n + os1.length := by omega
          obtain ⟨L, hL⟩ : ∃ L, (p.boxes.map fun b => (b.1, renOb (fN n σ.length) (getO σ2 b.1))) ++ ((p.lsts.map fun b => (b.1, renOb (fN n σ.length) (getO τ b.1))) ++ p.deads.map fun i => (i, Ob.dead)) = L := ⟨_, rfl⟩
          obtain ⟨σn, hσn⟩ : ∃ σn, putOs σb L ++ (os1 ++ os2).map (fun o => (⟨0, o⟩ : Obj)) = σn := ⟨_, rfl⟩
          have hhead : ∀ K, head p e0 σb asg (p1 ++ (p2 ++ p3)) K → K (patEnv e0 (ts.map fun p => (p.1, renV (fN n σ.length) p.2)) asg) σn := fun K hh => by
            unfold head at hh
            rw [hbl] at hh
            have q1 := a7 (p2 ++ p3)
            rw [e1] at q1
            rw [q1] at hh
            dsimp only at hh
            have q2 := b6 p3
            rw [e2] at q2
            rw [q2] at hh
            dsimp only at hh
            rw [c6 (fN n σ.length), hL, hσn] at hh
            exact hh
          -- the new objects
          have hnews : ∀ (k : Nat) o, (os1 ++ os2)[k]? = some o → getO τ (σ.length + k) = o := fun k o hk => by
            have hk2 : σ.length + k < σ2.length := by
              have := (List.getElem?_eq_some_iff.1 hk).1
              rw [List.length_append] at this; omega
            have hnot : σ.length + k ∉ p.lsts.map (·.1) := fun hm => by have := (c7 _ hm).1; omega
            rw [c5 _ hnot]
            rcases Nat.lt_or_ge k os1.length with hl | hl
            · rw [List.getElem?_append_left hl] at hk
              rw [b4 _ (by omega) (by omega)]
              exact a8.2.1 k o hk
            · rw [List.getElem?_append_right hl] at hk
              have := b7.2.1 _ o hk
              rw [f1] at this
              rw [show σ.length + k = σ.length + os1.length + (k - os1.length) by omega]; exact this
          have hnobox : ∀ o ∈ os1 ++ os2, ∀ l, o ≠ .box l := fun o ho => by
            rcases List.mem_append.1 ho with ho | ho
            · exact a8.2.2 o ho
            · exact b7.2.2 o ho
          have hτ : τ.length = σ.length + (os1 ++ os2).length := by rw [c4, f2, f1, List.length_append]; omega
          have hLval : ∀ x ∈ L, x.2 = renOb (fN n σ.length) (getO τ x.1) := fun x hx => by
            rw [← hL] at hx
            rcases List.mem_append.1 hx with hx | hx
            · obtain ⟨b, hb, rfl⟩ := List.mem_map.1 hx
              simp only
              obtain ⟨_, l, hl⟩ := b8 b.1 (List.mem_map.2 ⟨b, hb, rfl⟩)
              have hnot : b.1 ∉ p.lsts.map (·.1) := fun hm => by obtain ⟨_, _, _, _, _, e⟩ := c7 _ hm; rw [hl] at e; cases e
              rw [c5 _ hnot]
            · rcases List.mem_append.1 hx with hx | hx
              · obtain ⟨b, hb, rfl⟩ := List.mem_map.1 hx; rfl
              · obtain ⟨i, hi, rfl⟩ := List.mem_map.1 hx
                simp only
                rw [isDead_elim (List.all_eq_true.1 hd i hi)]; rfl
          have hLkeys : L.map (·.1) = p.ids := by
            rw [← hL]; simp [Pat.ids, Function.comp_def]
          have hlenb : (putOs σb L).length = n := by rw [putOs_length, hbl]
          have hlen : σn.length = n + (os1 ++ os2).length := by rw [← hσn, List.length_append, hlenb, List.length_map]
          have getOld : ∀ i, i < n → getO σn i = renOb (fN n σ.length) (getO τ i) ∧ (i ∈ p.ids → verO σb i < verO σn i) ∧ (i ∉ p.ids → getO σn i = getO τ i ∧ verO σn i = verO τ i) := fun i hi => by
            have hi' : i < (putOs σb L).length := by rw [hlenb]; exact hi
            obtain ⟨g1, g2⟩ := putOs_get L σb (fun j => renOb (fN n σ.length) (getO τ j)) hLval i (by rw [hbl]; exact hi)
            rw [← hσn, getO_left hi', verO_left hi']
            rw [hLkeys] at g1 g2
            by_cases hm : i ∈ p.ids
            · exact ⟨(g1 hm).1, fun _ => (g1 hm).2, fun h => absurd hm h⟩
            · obtain ⟨s1, s2⟩ := hsame i hi hm
              obtain ⟨k1, k2⟩ := g2 hm
              refine ⟨?_, fun h => absurd h hm, fun _ => ⟨k1.trans s1, k2.trans s2⟩⟩
              rw [k1, s1]
              cases hgt : getO τ i with
              | box l =>
                have hid := hidb i hi hm l (by rw [s1]; exact hgt)
                simp only [renOb]
                rw [ren_idL _ l fun k hk => by unfold fN; rw [if_pos (hid k hk)]]
              | _ => rfl
          have getNew : ∀ k, k < (os1 ++ os2).length → getO σn (n + k) = renOb (fN n σ.length) (getO τ (σ.length + k)) := fun k hk => by
            have hk' := List.getElem?_eq_getElem hk
            rw [hnews k _ hk', ← hσn]
            have : getO (putOs σb L ++ (os1 ++ os2).map (fun o => (⟨0, o⟩ : Obj))) (n + k) = (os1 ++ os2)[k] := by
              unfold getO
              rw [List.getElem?_append_right (by rw [hlenb]; omega), hlenb, Nat.add_sub_cancel_left, List.getElem?_map, hk']; rfl
            rw [this]
            have hnb := hnobox _ (List.getElem_mem hk)
            cases ho : (os1 ++ os2)[k] with
            | box l => exact absurd ho (hnb l)
            | _ => rfl
          let g : Nat → Nat := fun i => if i < n then i else σ.length + (i - n)
          have gOld : ∀ i, i < n → g i = i := fun i hi => if_pos hi
          have gNew : ∀ k, g (n + k) = σ.length + k := fun k => by show (if _ then _ else _) = _; rw [if_neg (by omega), Nat.add_sub_cancel_left]
          obtain ⟨r1, r2⟩ := c1.restrict (σ1 := σn) (g := g) (f := fN n σ.length) (fun i hi => by
              rcases Nat.lt_or_ge i n with h | h
              · rw [gOld i h]; exact (getOld i h).1
              · have := getNew (i - n) (by omega)
                rw [show n + (i - n) = i by omega] at this
                rw [this]
                have e := gNew (i - n)
                rw [show n + (i - n) = i by omega] at e
                rw [e])
            (fun i j hi hj hij => by
              rcases Nat.lt_or_ge i n with h | h <;> rcases Nat.lt_or_ge j n with h' | h'
              · rw [gOld i h, gOld j h'] at hij; exact hij
              · have e := gNew (j - n)
                rw [show n + (j - n) = j by omega] at e
                rw [gOld i h, e] at hij; omega
              · have e := gNew (i - n)
                rw [show n + (i - n) = i by omega] at e
                rw [gOld j h', e] at hij; omega
              · have e := gNew (i - n)
                rw [show n + (i - n) = i by omega] at e
                have e' := gNew (j - n)
                rw [show n + (j - n) = j by omega] at e'
                rw [e, e'] at hij; omega)
            (fun o k ho hk => by
              unfold fN at hk
              split at hk
              · rename_i h; cases hk; exact ⟨by omega, gOld _ h⟩
              · split at hk
                · rename_i h h'
                  cases hk
                  exact ⟨by omega, by rw [gNew]; omega⟩
                · cases hk)
          have hstep : Step w0 F0 β0 σ0 w F3 β2 τ := hst.trans (a2.trans (b2.trans c2))
          have hHas : ∀ i b, Has (fun i => β2 (g i)) i (getO σn i) b → Has β2 (g i) (getO τ (g i)) b := fun i b hb => by
            have hi : i < σn.length := getO_lt fun e => by rw [e] at hb; exact no_has_dead hb
            have e : getO σn i = renOb (fN n σ.length) (getO τ (g i)) := by
              rcases Nat.lt_or_ge i n with h | h
              · rw [gOld i h]; exact (getOld i h).1
              · have := getNew (i - n) (by omega)
                have e := gNew (i - n)
                rw [show n + (i - n) = i by omega] at this e
                rw [this, e]
            rw [e] at hb
            exact (renOb_has (β' := fun i => β2 (g i)) (β := β2) (i := g i) rfl).1 hb
          have hMut : ∀ i b o, Mut (fun i => β2 (g i)) i (getO σn i) b o → Mut β2 (g i) (getO τ (g i)) b o := fun i b o hb => by
            have hi : i < σn.length := getO_lt fun e => by rw [e] at hb; exact no_has_dead hb.has
            have e : getO σn i = renOb (fN n σ.length) (getO τ (g i)) := by
              rcases Nat.lt_or_ge i n with h | h
              · rw [gOld i h]; exact (getOld i h).1
              · have := getNew (i - n) (by omega)
                have e := gNew (i - n)
                rw [show n + (i - n) = i by omega] at this e
                rw [this, e]
            rw [e] at hb
            exact (renOb_mut (β' := fun i => β2 (g i)) (β := β2) (i := g i) rfl).1 hb
          have hfin : Step w0 F0 β0 σ0 w F3 (fun i => β2 (g i)) σn := by
            refine ⟨hstep.os, hstep.tape, hstep.output, hstep.size, hstep.fcell, hstep.cell, hstep.block, hstep.newF, fun i b hb => hstep.newH _ b (hHas i b hb), fun i b o hb => hstep.newM _ b o (hMut i b o hb), by omega, fun i hi => ?_, fun i hi => ?_⟩
            · rw [hn] at hi
              obtain ⟨k1, k2⟩ := hstep.ext i (by rw [hn]; exact hi)
              refine ⟨by show β2 (g i) = _; rw [gOld i hi]; exact k1, ?_⟩
              rw [(getOld i hi).1]
              exact k2.trans (renOb_le _ _)
            · rw [hn] at hi
              obtain ⟨g1, g2, g3⟩ := getOld i hi
              have hv := hver i hi
              by_cases hm : i ∈ p.ids
              · have := g2 hm
                exact ⟨by omega, fun h => by omega⟩
              · obtain ⟨k1, k2⟩ := g3 hm
                rw [k1, k2]
                exact hstep.ver i (by rw [hn]; exact hi)
          refine ⟨_, F3, _, σn, hhead, fun ρ1 hρ1 hρ2 t => ?_, r1, hfin, fun i hi hm => ?_⟩
          rotate_left
          · obtain ⟨s1, s2⟩ := hsame i hi hm
            obtain ⟨k1, k2⟩ := (getOld i hi).2.2 hm
            exact ⟨k1.trans s1.symm, k2.trans s2.symm⟩
          -- the slots
          have hlook : ∀ (l : List (Nat × V)) (t : Nat), lookP (l.map fun p => (p.1, renV (fN n σ.length) p.2)) t = (lookP l t).map (renV (fN n σ.length)) := by
            intro l t
            induction l with
            | nil => rfl
            | cons x l ih =>
              simp only [List.map_cons, lookP]
              cases Nat.beq x.1 t
              · exact ih
              · rfl
          unfold patEnv
          rw [hlook]
          cases hl : lookP ts t with
          | some v =>
            simp only [Option.map_some]
            have ht : t ∈ p.slots.map (·.1) := by
              by_cases hm : t ∈ p.slots.map (·.1)
              · exact hm
              · have := (a4 t).2 hm; rw [hl] at this; cases this
            rw [hρ1 t ht]
            exact ((a3 t v hl).mono (b2.trans c2).carry).ren r2
          | none =>
            simp only [Option.map_none]
            have ht := (a4 t).1 hl
            cases ha : hasB asg t with
            | true => exact .junk _
            | false =>
              have hta : t ∉ asg := fun hm => by rw [hasB_iff.2 hm] at ha; cases ha
              rw [hρ2 t ht hta]
              exact (he0 t).mono hfin.carry


theorem grab_facts {p : Pat} {n : Nat} {F : Nat → Nat → Prop} {β : Nat → Value} {σ τ : Store} {e : AEnv} {ρ : Env} {ps : List V} (hs : Sim gs G w F β σ) (he : RE gs G w F β σ e ρ) (hnl : n ≤ σ.length) (hg : grab p n e σ = some (ps, τ)) :
    (∃ F' β', Step w F β σ w F' β' τ) ∧ ∀ i l, i ∉ p.ids → getO σ i = .box l → getO τ i = .box l := by
  unfold grab at hg
  cases h1 : normS n e σ p.slots with
  | none => rw [h1] at hg; cases hg
  | some r =>
    obtain ⟨p1, ts, σ1⟩ := r
    rw [h1] at hg; dsimp only at hg
    cases h2 : normB n σ1 p.boxes with
    | none => rw [h2] at hg; cases hg
    | some r =>
      obtain ⟨p2, σ2⟩ := r
      rw [h2] at hg; dsimp only at hg
      cases h3 : normL n σ2 p.lsts with
      | none => rw [h3] at hg; cases hg
      | some r =>
        obtain ⟨p3, σ3⟩ := r
        rw [h3] at hg; dsimp only at hg
        cases hd : p.deads.all fun i => isDead (getO σ3 i) with
        | false => rw [hd] at hg; cases hg
        | true =>
          rw [hd] at hg; cases hg
          obtain ⟨F1, β1, os1, a1, a2, a3, a4, a5, a6, a7, a8⟩ := normS_run (n3 := σ.length) hnl hs (Nat.le_refl _) h1 he (fun t i hi => (he t).ids i hi)
          have hbx : ∀ i l, i ∈ p.boxes.map (·.1) → getO σ1 i = .box l → ∀ v ∈ l, ∀ k ∈ idsV v, k < σ.length := fun i l _ hgi v hv k hk => by
            have hi1 : i < σ1.length := getO_lt (by rw [hgi]; exact fun h => by cases h)
            rcases Nat.lt_or_ge i σ.length with hi | hi
            · have hle := (a2.ext i hi).2
              rw [hgi] at hle
              cases hgo : getO σ i <;> rw [hgo] at hle <;> simp [obLe] at hle
              rename_i l0
              have := a6.box i l0 hgo
              rw [hgi] at this; cases this
              have ho := hs.obj i
              rw [hgo] at ho
              obtain ⟨b, t, cs, _, _, hr, _⟩ := ho
              obtain ⟨q, hq, rfl⟩ := List.getElem_of_mem hv
              have hq' : q < cs.toList.length := by rw [← hr.1]; exact hq
              exact (hr.2 q _ cs.toList[q] (List.getElem?_eq_getElem hq) (List.getElem?_eq_getElem hq')).ids k hk
            · exfalso
              have hk' : i - σ.length < os1.length := by have := a8.1; omega
              have := a8.2.1 (i - σ.length) _ (List.getElem?_eq_getElem hk')
              rw [show σ.length + (i - σ.length) = i by omega, hgi] at this
              exact a8.2.2 _ (List.getElem_mem hk') l this.symm
          obtain ⟨F2, β2, os2, b1, b2, b3, b4, b5, b6, b7, b8⟩ := normB_run (n3 := σ.length) hnl a1 a6.len h2 hbx
          obtain ⟨F3, c1, c2, c3, c4, c5, c6, c7⟩ := normL_run b1 h3
          refine ⟨⟨F3, β2, a2.trans (b2.trans c2)⟩, fun i l hi hb => ?_⟩
          simp only [Pat.ids, List.mem_append, not_or] at hi
          rw [c5 i hi.2.1]
          exact b5 i l hi.1 (a6.box i l hb)

theorem sameB_elim {σ τ : Store} {ids : List Nat} : ∀ {n : Nat}, sameB σ τ ids n = true → ∀ i, i < n → i ∉ ids → verO σ i = verO τ i
  | 0, _, i, hi, _ => by omega
  | n + 1, h, i, hi, hm => by
    obtain ⟨h1, h2⟩ := and_elim h
    rcases Nat.lt_succ_iff_lt_or_eq.1 hi with hi | rfl
    · exact sameB_elim h2 i hi hm
    · rw [Bool.or_eq_true] at h1
      rcases h1 with h1 | h1
      · exact absurd (hasB_iff.1 h1) hm
      · exact beq_elim h1

theorem getO_take {σ : Store} {n i : Nat} (h : i < n) : getO (σ.take n) i = getO σ i ∧ verO (σ.take n) i = verO σ i := by
  unfold getO verO
  rw [List.getElem?_take, if_pos h]
  exact ⟨rfl, rfl⟩
theorem box_ids {F : Nat → Nat → Prop} {β : Nat → Value} {σ : Store} (hs : Sim gs G w F β σ) {i : Nat} {l : List V} (h : getO σ i = .box l) : ∀ k ∈ idsL l, k < σ.length := fun k hk => by
  obtain ⟨v, hv, hk⟩ := idsL_mem hk
  have ho := hs.obj i
  rw [h] at ho
  obtain ⟨b, t, cs, _, _, hr, _⟩ := ho
  obtain ⟨q, hq, rfl⟩ := List.getElem_of_mem hv
  have hq' : q < cs.toList.length := by rw [← hr.1]; exact hq
  exact (hr.2 q _ cs.toList[q] (List.getElem?_eq_getElem hq) (List.getElem?_eq_getElem hq')).ids k hk

end
end Go.Av
end

/- part AvS -/
section
namespace Go.Av
open Go.Vx Go.RowKit

theorem exists_least {p : Nat → Prop} (h : ∃ n, p n) : ∃ n, p n ∧ ∀ m, p m → n ≤ m := by
  obtain ⟨n, hn⟩ := h
  induction n using Nat.strongRecOn with
  | _ n ih =>
    by_cases hc : ∃ m, m < n ∧ p m
    · obtain ⟨m, h1, h2⟩ := hc; exact ih m h1 h2
    · exact ⟨n, hn, fun m hm => by
        rcases Nat.lt_or_ge m n with h | h
        · exact absurd ⟨m, h, hm⟩ hc
        · exact h⟩
open Classical in
noncomputable def least (p : Nat → Prop) : Nat := if h : ∃ n, p n then (exists_least h).choose else 0
theorem least_mem {p : Nat → Prop} (h : ∃ n, p n) : p (least p) := by unfold least; rw [dif_pos h]; exact (exists_least h).choose_spec.1
theorem least_le {p : Nat → Prop} {n : Nat} (h : p n) : least p ≤ n := by unfold least; rw [dif_pos ⟨n, h⟩]; exact (exists_least ⟨n, h⟩).choose_spec.2 n h

theorem exL_any : ∀ (S : List (Nat × List Cp × Bool)) (vs : List Value) {K : List Value → Prop}, vs.length = S.length → K vs → exL (S.map fun _ => Sh.any) K
  | [], [], _, _, h => h
  | [], _ :: _, _, hl, _ => by simp at hl
  | _ :: _, [], _, hl, _ => by simp at hl
  | _ :: S, v :: vs, _, hl, h => ⟨v, exL_any S vs (by simpa using hl) h⟩

theorem mixE_gen (e : Env) (asg : List Nat) (g : Nat → Value) (junk : Env) (t : Nat) : ∀ (S : List (Nat × Sh)),
    mixE e S (S.map fun s => g s.1) asg junk t = if t ∈ S.map (·.1) then g t else cond (hasB asg t) (junk t) (e t)
  | [] => by simp [mixE]
  | (s, x) :: r => by
    have ih := mixE_gen e asg g junk t r
    simp only [List.map_cons, mixE, Env.put]
    cases hb : Nat.beq t s with
    | true =>
      have := Nat.eq_of_beq_eq_true hb
      subst this
      simp
    | false =>
      have hne : t ≠ s := fun h => by rw [h] at hb; simp at hb
      simp only [cond_false, ih, List.mem_cons, hne, false_or]

theorem lookO_map {α β : Type} (f : α → β) (k : Nat) : ∀ l : List (Nat × α), lookO (l.map fun c => (c.1, f c.2)) k = (lookO l k).map f
  | [] => rfl
  | (i, y) :: r => by
    simp only [List.map_cons, lookO]
    cases Nat.beq i k
    · exact lookO_map f k r
    · rfl

section
variable {ax : Ax} {ah : AH} {G : Nat → Value}
variable (hT : AllOk ax.P ax.tys) (hE : ErrOk ax.P ax.gs ax.ift ax.tabs G) (hQ : EqOk ax)
include hT hE hQ

theorem acW_run {fx : Fx} : ∀ (c : Code) {Q : Exit → AEnv → Store → Prop} {e : AEnv} {ρ : Env} {w : World} {F : Nat → Nat → Prop} {β : Nat → Value} {σ : Store} {Q' : Exit → Env → World → Prop}, acW ax ah c Q e σ → ThrOk ax fx G w F β σ → Sim ax.gs G w F β σ → RE ax.gs G w F β σ e ρ →
    (∀ ex ρ' w', Post ax.gs G (assigned (hintsOf ah) c) ρ w F β σ (Q ex) ρ' w' → Q' ex ρ' w') → cW ax.P ax.tys fx (hintsOf ah) c Q' ρ w := by
  intro c
  induction c with
  | skip => exact fun {Q e ρ w F β σ Q'} h _ hs he hK => hK _ _ _ ⟨e, F, β, σ, h, he, hs, Step.refl _ _ _ _, Frm.refl _ _⟩
  | ret => exact fun {Q e ρ w F β σ Q'} h _ hs he hK => hK _ _ _ ⟨e, F, β, σ, h, he, hs, Step.refl _ _ _ _, Frm.refl _ _⟩
  | exit id => exact fun {Q e ρ w F β σ Q'} h _ hs he hK => hK _ _ _ ⟨e, F, β, σ, h, he, hs, Step.refl _ _ _ _, Frm.refl _ _⟩
  | region id ops draw =>
    intro Q e ρ w F β σ Q' h hX hs he hK
    simp only [acW] at h
    simp only [cW]
    have hL : ∀ o ∈ ops.toList, ∀ d, o.dst = some d → d ∈ assigned (hintsOf ah) (.region id ops draw) := fun o ho d hd => dst_mem ho hd
    cases draw with
    | false =>
      simp only [cond_false] at h ⊢
      exact areg_run hT hE hQ ops.toList hL h hX hs he fun ρ' w' hp => hK _ _ _ hp
    | true =>
      simp only [cond_true] at h ⊢
      cases hl : lookO ah.orders id with
      | none => rw [hl] at h; exact h.elim
      | some l =>
        rw [hl] at h
        have hl' : lookO (hintsOf ah).orders id = some l := hl
        rw [hl']
        dsimp only at h ⊢
        obtain ⟨s1, s2⟩ := hs.below (below_drew w)
        exact adraw_run hT hE hQ hL l h (show PR ax.gs G w.drew F β σ [] [] from trivial) (hX.step s2) s1 (he.mono s2.carry) fun ρ' w' hp => hK _ _ _ (hp.from s2 (Frm.refl _ _))
  | seq a b iha ihb =>
    intro Q e ρ w F β σ Q' h hX hs he hK
    simp only [acW] at h
    simp only [cW]
    have fa : ∀ {ρ ρ' : Env}, Frm (assigned (hintsOf ah) a) ρ ρ' → Frm (assigned (hintsOf ah) (.seq a b)) ρ ρ' := fun hf t ht => hf t fun hm => ht (List.mem_append_left _ hm)
    have fb : ∀ {ρ ρ' : Env}, Frm (assigned (hintsOf ah) b) ρ ρ' → Frm (assigned (hintsOf ah) (.seq a b)) ρ ρ' := fun hf t ht => hf t fun hm => ht (List.mem_append_right _ hm)
    cases hj : lookO ah.joins (firstReg b) with
    | none =>
      rw [hj] at h
      dsimp only at h
      refine iha h hX hs he fun ex ρ' w' hp => ?_
      obtain ⟨e', F', β', σ', h1, h2, h3, h4, h5⟩ := hp
      cases ex with
      | normal =>
        exact ihb h1 (hX.step h4) h3 h2 fun ex ρ'' w'' ⟨e'', F'', β'', σ'', k1, k2, k3, k4, k5⟩ => hK _ _ _ ⟨e'', F'', β'', σ'', k1, k2, k3, h4.trans k4, fun t ht => (fb k5 t ht).trans (fa h5 t ht)⟩
      | _ => exact hK _ _ _ ⟨e', F', β', σ', h1, h2, h3, h4, fa h5⟩
    | some p =>
      rw [hj] at h
      obtain ⟨J, ha, hb⟩ := h
      refine iha ha hX hs he fun ex ρ' w' hp => ?_
      obtain ⟨e', F', β', σ', h1, h2, h3, h4, h5⟩ := hp
      cases ex with
      | normal =>
        dsimp only at h1
        cases hg : grab p σ.length e' σ' with
        | none => rw [hg] at h1; exact h1.elim
        | some r =>
          obtain ⟨ps, τ⟩ := r
          rw [hg] at h1; dsimp only at h1
          obtain ⟨hsm, hJ⟩ := condF h1
          obtain ⟨⟨F2, β2, st2⟩, _⟩ := grab_facts h3 h2 h4.len hg
          have hstτ := h4.trans st2
          have hv := sameB_elim hsm
          obtain ⟨hsh, e1, F1, β1, σ1, q1, q2, q3, q4, q5⟩ := cut_run (σb := σ) (asg := assigned (hintsOf ah) a) h4 h3 h2 rfl hg rfl (fun i hi hm => ⟨((hstτ.ver i hi).2 (hv i hi hm).symm).1.symm, hv i hi hm⟩) (fun i _ => Nat.le_refl _) (fun i _ _ l hl => box_ids hs hl) he
          have hb' := q1 _ (allA_elim hb hsh hJ)
          exact ihb hb' (hX.step q4) q3 (q2 ρ' (fun _ _ => rfl) (fun t _ ht => h5 t ht)) fun ex ρ'' w'' ⟨e'', F'', β'', σ'', k1, k2, k3, k4, k5⟩ => hK _ _ _ ⟨e'', F'', β'', σ'', k1, k2, k3, q4.trans k4, fun t ht => (fb k5 t ht).trans (fa h5 t ht)⟩
      | _ => exact hK _ _ _ ⟨e', F', β', σ', h1, h2, h3, h4, fa h5⟩
  | cond c a b iha ihb =>
    intro Q e ρ w F β σ Q' h hX hs he hK
    simp only [acW] at h
    simp only [cW]
    split at h
    · rename_i t ht
      have hc := he.ev c
      rw [ht] at hc
      have ec := hc.bool_inv
      rw [ec]
      dsimp only
      cases c with
      | tmp s =>
        dsimp only at h ⊢
        have key : ∀ bb : Bool, t = bb → RE ax.gs G w F β σ (e.put (some s) (.bool bb)) (ρ.put (some s) (.bool bb)) ∧ ∀ {ρ' : Env} {L : List Nat}, (∀ x ∈ L, x ∈ assigned (hintsOf ah) (.cond (.tmp s) a b)) → Frm L (ρ.put (some s) (.bool bb)) ρ' → Frm (assigned (hintsOf ah) (.cond (.tmp s) a b)) ρ ρ' := fun bb e1 => by
          refine ⟨he.put (some s) (.mk_bool bb), fun {ρ' L} hL hf x hx => (hf x fun hm => hx (hL x hm)).trans ?_⟩
          refine put_same ?_ x
          rw [← e1]; exact ec
        cases t with
        | true =>
          obtain ⟨k1, k2⟩ := key true rfl
          exact iha h hX hs k1 fun ex ρ' w' ⟨e', F', β', σ', h1, h2, h3, h4, h5⟩ => hK _ _ _ ⟨e', F', β', σ', h1, h2, h3, h4, k2 (fun x hx => by simp only [assigned, List.mem_append]; exact .inr (.inl hx)) h5⟩
        | false =>
          obtain ⟨k1, k2⟩ := key false rfl
          exact ihb h hX hs k1 fun ex ρ' w' ⟨e', F', β', σ', h1, h2, h3, h4, h5⟩ => hK _ _ _ ⟨e', F', β', σ', h1, h2, h3, h4, k2 (fun x hx => by simp only [assigned, List.mem_append]; exact .inr (.inr hx)) h5⟩
      | _ =>
        dsimp only at h ⊢
        cases t with
        | true => exact iha h hX hs he fun ex ρ' w' ⟨e', F', β', σ', h1, h2, h3, h4, h5⟩ => hK _ _ _ ⟨e', F', β', σ', h1, h2, h3, h4, fun t ht => h5 t fun hm => ht (by simp only [assigned, List.mem_append]; exact .inr (.inl hm))⟩
        | false => exact ihb h hX hs he fun ex ρ' w' ⟨e', F', β', σ', h1, h2, h3, h4, h5⟩ => hK _ _ _ ⟨e', F', β', σ', h1, h2, h3, h4, fun t ht => h5 t fun hm => ht (by simp only [assigned, List.mem_append]; exact .inr (.inr hm))⟩
    · exact h.elim
  | block id a iha =>
    intro Q e ρ w F β σ Q' h hX hs he hK
    simp only [acW] at h
    simp only [cW]
    refine iha h hX hs he fun ex ρ' w' hp => ?_
    obtain ⟨e', F', β', σ', h1, h2, h3, h4, h5⟩ := hp
    cases ex with
    | exit i =>
      dsimp only at h1 ⊢
      cases hb : Nat.beq i id with
      | true => rw [hb] at h1; exact hK _ _ _ ⟨e', F', β', σ', h1, h2, h3, h4, h5⟩
      | false => rw [hb] at h1; exact hK _ _ _ ⟨e', F', β', σ', h1, h2, h3, h4, h5⟩
    | _ => exact hK _ _ _ ⟨e', F', β', σ', h1, h2, h3, h4, h5⟩
  | loop a iha =>
    intro Q e ρ w F β σ Q' h hX hs he hK
    simp only [acW] at h
    simp only [cW]
    cases hp : lookO ah.cuts (firstReg a) with
    | none => rw [hp] at h; exact h.elim
    | some p =>
      rw [hp] at h; dsimp only at h
      have hS : lookO (hintsOf ah).loops (firstReg a) = some (p.slots.map fun s => (s.1, Sh.any)) := by
        show lookO (ah.cuts.map fun c => (c.1, c.2.slots.map fun s => (s.1, Sh.any))) (firstReg a) = _
        rw [lookO_map (fun p : Pat => p.slots.map fun s => (s.1, Sh.any)), hp]; rfl
      rw [hS]
      dsimp only
      cases hg : grab p σ.length e σ with
      | none => rw [hg] at h; exact h.elim
      | some r =>
        obtain ⟨ps, σ0⟩ := r
        rw [hg] at h; dsimp only at h
        obtain ⟨I, μ, hI, hall⟩ := h
        have keys : (p.slots.map fun s => (s.1, Sh.any)).map (·.1) = p.slots.map (·.1) := by simp [Function.comp_def]
        have asgL : assigned (hintsOf ah) (.loop a) = assigned (hintsOf ah) a ++ p.slots.map (·.1) := by
          simp only [assigned, hS]; rw [keys]
        obtain ⟨⟨F0, β0, st0⟩, hbox0⟩ := grab_facts hs he (Nat.le_refl _) hg
        have hlen0 : σ.length ≤ σ0.length := st0.len
        have hbl : (σ0.take σ.length).length = σ.length := by rw [List.length_take]; omega
        have hverb : ∀ i, i < σ.length → verO σ i ≤ verO (σ0.take σ.length) i := fun i hi => by rw [(getO_take hi).2]; exact (st0.ver i hi).1
        have hidb : ∀ i, i < σ.length → i ∉ p.ids → ∀ l, getO (σ0.take σ.length) i = .box l → ∀ k ∈ idsL l, k < σ.length := fun i hi hm l hl => by
          rw [(getO_take hi).1] at hl
          have hle := (st0.ext i hi).2
          rw [hl] at hle
          cases hgo : getO σ i <;> rw [hgo] at hle <;> simp [obLe] at hle
          rename_i l0
          have := hbox0 i l0 hm hgo
          rw [hl] at this; cases this
          exact box_ids hs hgo
        -- what is so at the loop's head
        let Pq : List V → List Value → World → Prop := fun us vs w1 => ∃ ρv : Env, vs = (p.slots.map fun s => (s.1, Sh.any)).map (fun s => ρv s.1) ∧ isA p.shapes us = true ∧ I us ∧ ∃ e1 F1 β1 σ1, (∀ K, head p e (σ0.take σ.length) (assigned (hintsOf ah) (.loop a)) us K → K e1 σ1) ∧
          (∀ ρ1 : Env, (∀ t, t ∈ p.slots.map (·.1) → ρ1 t = ρv t) → (∀ t, t ∉ p.slots.map (·.1) → t ∉ assigned (hintsOf ah) (.loop a) → ρ1 t = ρ t) → RE ax.gs G w1 F1 β1 σ1 e1 ρ1) ∧
          Sim ax.gs G w1 F1 β1 σ1 ∧ Step w F β σ w1 F1 β1 σ1 ∧ ∀ i, i < σ.length → i ∉ p.ids → getO σ1 i = getO (σ0.take σ.length) i ∧ verO σ1 i = verO (σ0.take σ.length) i
        refine ⟨fun vs w1 => ∃ us, Pq us vs w1, fun vs w1 => least fun m => ∃ us, Pq us vs w1 ∧ μ us = m, ?_, ?_⟩
        · obtain ⟨hsh, e1, F1, β1, σ1, q1, q2, q3, q4, q5⟩ := cut_run (σb := σ0.take σ.length) (asg := assigned (hintsOf ah) (.loop a)) (Step.refl w F β σ) hs he rfl hg hbl (fun i hi _ => getO_take hi) hverb hidb he
          exact ⟨ps, ρ, rfl, hsh, hI, e1, F1, β1, σ1, q1, q2, q3, q4, q5⟩
        · intro junk vs w1 hI1
          obtain ⟨us0, hus0⟩ := hI1
          obtain ⟨us, hus, hmin⟩ := least_mem (p := fun m => ∃ us, Pq us vs w1 ∧ μ us = m) ⟨_, us0, hus0, rfl⟩
          obtain ⟨ρv, hvs, hsh, hIu, e1, F1, β1, σ1, q1, q2, q3, q4, q5⟩ := hus
          have hlen : vs.length = p.slots.length := by rw [hvs]; simp
          have hmap : (p.slots.map fun s => (s.1, Sh.any)).map (·.2) = p.slots.map fun _ => Sh.any := by simp [Function.comp_def]
          rw [hmap]
          refine exL_any p.slots vs hlen ⟨rfl, ?_⟩
          have hbody := q1 _ (allA_elim hall hsh hIu)
          have hmix : ∀ t, mixE ρ (p.slots.map fun s => (s.1, Sh.any)) vs (assigned (hintsOf ah) a) junk t = if t ∈ p.slots.map (·.1) then ρv t else cond (hasB (assigned (hintsOf ah) a) t) (junk t) (ρ t) := fun t => by
            rw [hvs, mixE_gen, keys]
          have hre := q2 (mixE ρ (p.slots.map fun s => (s.1, Sh.any)) vs (assigned (hintsOf ah) a) junk) (fun t ht => by rw [hmix, if_pos ht]) (fun t ht ha => by
            rw [hmix, if_neg ht]
            cases hb : hasB (assigned (hintsOf ah) a) t with
            | false => rfl
            | true => exact absurd (by rw [asgL]; exact List.mem_append_left _ (hasB_iff.1 hb)) ha)
          have hfrm : Frm (assigned (hintsOf ah) (.loop a)) ρ (mixE ρ (p.slots.map fun s => (s.1, Sh.any)) vs (assigned (hintsOf ah) a) junk) := fun t ht => by
            rw [asgL, List.mem_append, not_or] at ht
            rw [hmix, if_neg ht.2]
            cases hb : hasB (assigned (hintsOf ah) a) t with
            | false => rfl
            | true => exact absurd (hasB_iff.1 hb) ht.1
          have fa : ∀ {ρ ρ' : Env}, Frm (assigned (hintsOf ah) a) ρ ρ' → Frm (assigned (hintsOf ah) (.loop a)) ρ ρ' := fun hf t ht => hf t fun hm => ht (by rw [asgL]; exact List.mem_append_left _ hm)
          refine iha hbody (hX.step q4) q3 hre fun ex ρ' w' hpost => ?_
          obtain ⟨e', F', β', σ', h1, h2, h3, h4, h5⟩ := hpost
          have hst' := q4.trans h4
          cases ex with
          | normal =>
            dsimp only at h1 ⊢
            cases hg' : grab p σ.length e' σ' with
            | none => rw [hg'] at h1; exact h1.elim
            | some r =>
              obtain ⟨ps', τ⟩ := r
              rw [hg'] at h1; dsimp only at h1
              obtain ⟨hsm, hI', hμ⟩ := condF h1
              obtain ⟨⟨F2, β2, st2⟩, _⟩ := grab_facts h3 h2 hst'.len hg'
              have hstτ := h4.trans st2
              have hv := sameB_elim hsm
              obtain ⟨hsh', e2, F3, β3, σ3, r1, r2, r3, r4, r5⟩ := cut_run (σb := σ0.take σ.length) (asg := assigned (hintsOf ah) (.loop a)) hst' h3 h2 rfl hg' hbl (fun i hi hm => by
                  obtain ⟨k1, k2⟩ := q5 i hi hm
                  have hi1 : i < σ1.length := Nat.lt_of_lt_of_le hi q4.len
                  have e3 := hv i hi hm
                  have := ((hstτ.ver i hi1).2 (by rw [k2, e3])).1
                  exact ⟨k1.symm.trans this.symm, e3⟩) hverb hidb he
              have hnext : Pq ps' ((p.slots.map fun s => (s.1, Sh.any)).map fun s => ρ' s.1) w' := ⟨ρ', rfl, hsh', hI', e2, F3, β3, σ3, r1, r2, r3, r4, r5⟩
              refine ⟨⟨ps', hnext⟩, ?_⟩
              have hle := least_le (p := fun m => ∃ us, Pq us ((p.slots.map fun s => (s.1, Sh.any)).map fun s => ρ' s.1) w' ∧ μ us = m) (n := μ ps') ⟨ps', hnext, rfl⟩
              calc _ ≤ μ ps' := hle
                _ < μ us := hμ
                _ = _ := hmin
          | _ => exact hK _ _ _ ⟨e', F', β', σ', h1, h2, h3, hst', fun t ht => (fa h5 t ht).trans (hfrm t ht)⟩
  | _ => intro Q e ρ w F β σ Q' h; exact h.elim

end
end Go.Av
end

/- part AvT -/
section
namespace Go.Av
open Go.Vx Go.RowKit

theorem reach_spec (σ : Store) : ∀ (n : Nat) (todo acc : List Nat), acc.Nodup → (reach σ n todo acc).Nodup ∧ ∃ r, reach σ n todo acc = acc ++ r
  | 0, _, acc, h => ⟨h, [], by simp [reach]⟩
  | _ + 1, [], acc, h => ⟨h, [], by simp [reach]⟩
  | n + 1, i :: todo, acc, h => by
    simp only [reach]
    cases hb : hasB acc i with
    | true => simp only [cond_true]; exact reach_spec σ n todo acc h
    | false =>
      simp only [cond_false]
      have hi : i ∉ acc := fun hm => by rw [hasB_iff.2 hm] at hb; cases hb
      have hnd : (acc ++ [i]).Nodup := by
        rw [List.nodup_append]
        exact ⟨h, by simp, fun a ha b hb' e => by rw [List.mem_singleton] at hb'; subst hb'; exact hi (e ▸ ha)⟩
      have key : ∀ td, (reach σ n td (acc ++ [i])).Nodup ∧ ∃ r, reach σ n td (acc ++ [i]) = acc ++ r := fun td => by
        obtain ⟨h1, r, h2⟩ := reach_spec σ n td (acc ++ [i]) hnd
        exact ⟨h1, [i] ++ r, by rw [h2, List.append_assoc]⟩
      split <;> exact key _

theorem loadW_mono {tys : Tys} {t b f : Nat} {w : World} {K' K'' : List Value → Value → Prop} (h : loadW tys t b f w K') (hm : ∀ xs v, K' xs v → K'' xs v) : loadW tys t b f w K'' := by
  unfold loadW at h ⊢
  split at h
  · split at h
    · obtain ⟨k1, k2⟩ := condF h
      rw [k1]; exact exL_mono (fun vs hv => ⟨hv.1, hm _ _ hv.2⟩) k2
    · obtain ⟨k1, k2⟩ := condF h
      rw [k1]; exact exL_mono (fun vs hv => ⟨hv.1, hm _ _ hv.2⟩) k2
    · exact h
    · exact h
    · split at h
      · exact Sh.ex_mono (fun v hv => ⟨hv.1, hm _ _ hv.2⟩) h
      · exact h
  · exact h

section
variable {ax : Ax} {ah : AH} {G : Nat → Value}

theorem aresL_run {e : AEnv} {ρ : Env} {w : World} {F : Nat → Nat → Prop} {β : Nat → Value} {σ : Store} (hs : Sim ax.gs G w F β σ) (he : RE ax.gs G w F β σ e ρ) : ∀ (l : List ResultVar) {K : List V → Prop} {K' : List Value → Prop}, aresL ax e σ l K → (∀ us xs, K us → Rl (RV ax.gs G w F β σ) us xs → K' xs) → resL ax.tys ρ w l K'
  | [], K, K', h, hK => hK _ _ h .nil
  | .tmp t :: l, K, K', h, hK => aresL_run hs he l h fun us xs hk hr => hK _ _ hk (.cons (he t) hr)
  | .cell t ty :: l, K, K', h, hK => by
    simp only [aresL] at h
    simp only [resL]
    obtain ⟨b, f, e1, h1⟩ := aload_run h hs rfl (he t) _ rfl
    rw [e1]; dsimp only
    exact loadW_mono h1 fun xs v ⟨⟨u, k1, k2⟩, _⟩ => aresL_run hs he l k1 fun us ys hk hr => hK _ _ hk (.cons k2 hr)

theorem killL_run {w : World} {β : Nat → Value} : ∀ (l : List Nat) {F : Nat → Nat → Prop} {σ : Store}, Sim ax.gs G w F β σ → ∃ F', Sim ax.gs G w F' β (killL σ l) ∧ Step w F β σ w F' β (killL σ l)
  | [], F, σ, h => ⟨F, h, Step.refl _ _ _ _⟩
  | i :: r, F, σ, h => by
    rcases Nat.lt_or_ge i σ.length with hi | hi
    · obtain ⟨h1, h2⟩ := h.setObj (w' := w) i .dead (fun _ _ => False) hi (by cases getO σ i <;> trivial) rfl rfl rfl (Nat.le_refl _) (fun _ _ _ _ => rfl) (fun _ _ _ => rfl) (fun _ _ h => h.elim) (fun _ _ _ h => h.elim) (fun _ _ h => h.1.1.elim) trivial
      obtain ⟨F2, h3, h4⟩ := killL_run r h1
      exact ⟨F2, h3, h2.trans h4⟩
    · have : putO σ i .dead = σ := by unfold putO; exact List.set_eq_of_length_le hi
      unfold killL
      rw [this]
      exact killL_run (F := F) r h

theorem retP_run {w : World} {F : Nat → Nat → Prop} {β : Nat → Value} {σ σ' : Store} {us us' : List V} {xs : List Value} (hs : Sim ax.gs G w F β σ) (h : retP ah σ us = some (us', σ')) (hv : Rl (RV ax.gs G w F β σ) us xs) :
    ∃ F' β', Sim ax.gs G w F' β' σ' ∧ Step w F β σ w F' β' σ' ∧ Rl (RV ax.gs G w F' β' σ') us' xs := by
  unfold retP at h
  split at h
  · obtain ⟨F1, k1, k2, k3⟩ := coP_run hs h hv
    exact ⟨F1, β, k1, k2, k3⟩
  · split at h
    · rename_i ps vs σ1 hn
      cases h
      obtain ⟨F', β', _, k1, k2, k3, _⟩ := normF_run (n3 := σ.length) (Nat.le_refl _) hs (Nat.le_refl _) hn hv (fun v hm i hi => by
        obtain ⟨j, hj⟩ := List.mem_iff_getElem?.1 hm
        obtain ⟨y, _, hy⟩ := hv.get hj
        exact hy.ids i hi)
      exact ⟨F', β', k1, k2, k3⟩
    · cases h
/-- the objects that go back to the caller, numbered anew -/
theorem ret_back {w w' : World} {F F1 : Nat → Nat → Prop} {β β0 : Nat → Value} {obs : List Ob} {σ1 : Store} (k1 : Sim ax.gs G w' F1 β0 σ1) (hst : Step w F β (mkS obs) w' F1 β0 σ1) {ids r : List Nat} (hnd : ids.Nodup) (hids : ids = List.range obs.length ++ r) :
    ∃ β', Ren (idx ids) β0 σ1 β' (mkS1 (ids.map fun i => renOb (idx ids) (getO σ1 i))) ∧ Sim ax.gs G w' F1 β' (mkS1 (ids.map fun i => renOb (idx ids) (getO σ1 i))) ∧ Step w F β (mkS obs) w' F1 β' (mkS1 (ids.map fun i => renOb (idx ids) (getO σ1 i))) := by
  have hpre : ∀ i, i < obs.length → ids[i]? = some i := fun i h => by
    rw [hids, List.getElem?_append_left (by simpa using h)]; simp [h]
  let g : Nat → Nat := fun k => ids.getD k 0
  have hg : ∀ k, k < ids.length → ids[k]? = some (g k) := fun k hk => by
    show ids[k]? = some (ids.getD k 0)
    rw [List.getD_eq_getElem?_getD, List.getElem?_eq_getElem hk]; rfl
  have hlen : (mkS1 (ids.map fun i => renOb (idx ids) (getO σ1 i))).length = ids.length := by simp [mkS1]
  have hget : ∀ k, k < ids.length → getO (mkS1 (ids.map fun i => renOb (idx ids) (getO σ1 i))) k = renOb (idx ids) (getO σ1 (g k)) := fun k hk => getO_mkS1 (by rw [List.getElem?_map, hg k hk]; rfl)
  obtain ⟨r1, r2⟩ := k1.restrict (σ1 := mkS1 (ids.map fun i => renOb (idx ids) (getO σ1 i))) (g := g) (f := idx ids) (fun k hk => hget k (by rw [← hlen]; exact hk))
    (fun i j hi hj hij => by
      rw [hlen] at hi hj
      have e1 := hg i hi
      have e2 := hg j hj
      rw [hij] at e1
      exact (List.getElem?_inj hi hnd).1 (e1.trans e2.symm))
    (fun o k _ hk => by
      have e := idx_get hk
      have hkl : k < ids.length := (List.getElem?_eq_some_iff.1 e).1
      refine ⟨by rw [hlen]; exact hkl, ?_⟩
      have := hg k hkl
      rw [e] at this; exact (Option.some.inj this).symm)
  have hHas : ∀ k b, Has (fun i => β0 (g i)) k (getO (mkS1 (ids.map fun i => renOb (idx ids) (getO σ1 i))) k) b → Has β0 (g k) (getO σ1 (g k)) b := fun k b hb => by
    have hkl : k < ids.length := by rw [← hlen]; exact getO_lt fun e => by rw [e] at hb; exact no_has_dead hb
    rw [hget k hkl] at hb
    exact (renOb_has (β' := fun i => β0 (g i)) (β := β0) (i := g k) rfl).1 hb
  have hMut : ∀ k b o, Mut (fun i => β0 (g i)) k (getO (mkS1 (ids.map fun i => renOb (idx ids) (getO σ1 i))) k) b o → Mut β0 (g k) (getO σ1 (g k)) b o := fun k b o hb => by
    have hkl : k < ids.length := by rw [← hlen]; exact getO_lt fun e => by rw [e] at hb; exact no_has_dead hb.has
    rw [hget k hkl] at hb
    exact (renOb_mut (β' := fun i => β0 (g i)) (β := β0) (i := g k) rfl).1 hb
  have hin : obs.length ≤ ids.length := by rw [hids]; simp
  have hgi : ∀ i, i < obs.length → g i = i := fun i h => by
    have := hg i (by omega)
    rw [hpre i h] at this; exact (Option.some.inj this).symm
  refine ⟨_, r2, r1, ?_⟩
  have hml : (mkS obs).length = obs.length := by simp [mkS]
  refine ⟨hst.os, hst.tape, hst.output, hst.size, hst.fcell, hst.cell, hst.block, hst.newF, fun i b hb => hst.newH _ b (hHas i b hb), fun i b o hb => hst.newM _ b o (hMut i b o hb), by rw [hlen, hml]; exact hin, fun i hi => ?_, fun i hi => ?_⟩
  · rw [hml] at hi
    obtain ⟨e1, e2⟩ := hst.ext i (by rw [hml]; exact hi)
    refine ⟨by show β0 (g i) = _; rw [hgi i hi]; exact e1, ?_⟩
    rw [hget i (by omega), hgi i hi]
    exact e2.trans (renOb_le _ _)
  · rw [hml] at hi
    have v0 : verO (mkS obs) i = 0 := by simp [verO, mkS, hi]
    have v1 : verO (mkS1 (ids.map fun i => renOb (idx ids) (getO σ1 i))) i = 1 := by
      have : i < ids.length := by omega
      simp [verO, mkS1, this]
    rw [v0, v1]
    exact ⟨by omega, fun h => by omega⟩

/-- **A function's run**: what the second executor shows of its body holds of every call. -/
theorem afn_run (hT : AllOk ax.P ax.tys) (hF : FnsOk ax.P ax.fns) (hm : ax.P.follows .mixedOrders = true) (hQ : EqOk ax) {N : Nat} {fn : Func} {c : Code} {args : List V} {obs : List Ob} {K : List V → List Ob → Prop} (hf : ax.P.funcs[N]? = some fn) (hb : fn.body = some c)
    (hok : codeOk ax.tys (hintsOf ah) fn.ntmps c = true) (hn : Nat.ble args.length fn.ntmps = true) (h : afn ax ah fn args obs K) (hN : ax.T = none := by rfl) : SCalls ax N args obs K := by
  intro G w F β vals hE hs hr
  refine (fnW_calls hT hF hm (hs := hintsOf ah) hf hb hok (by rw [← hr.1]; exact hn) (R := fun v w' => ∃ rs obs' F' β' rvals, K rs obs' ∧ v = oneOr rvals ∧ Rl (RV ax.gs G w' F' β' (mkS1 obs')) rs rvals ∧ Sim ax.gs G w' F' β' (mkS1 obs') ∧ Step w F β (mkS obs) w' F' β' (mkS1 obs')) ?_).mono ?_
  · unfold fnW
    unfold afn at h
    rw [hb] at h ⊢
    dsimp only at h ⊢
    have he : RE ax.gs G w F β (mkS obs) (fun t => args.getD t .undef) (fun t => vals.getD t undef) := fun t => by
      simp only [List.getD_eq_getElem?_getD]
      cases ha : args[t]? with
      | none =>
        have : vals[t]? = none := by rw [List.getElem?_eq_none_iff] at ha ⊢; rw [← hr.1]; exact ha
        rw [this]; exact .undef
      | some u =>
        obtain ⟨x, hx, hux⟩ := hr.get ha
        rw [hx]; exact hux
    have fin : ∀ ρ' w', Post ax.gs G (assigned (hintsOf ah) c) (fun t => vals.getD t undef) w F β (mkS obs) (aret ax ah obs.length fn K) ρ' w' → resL ax.tys ρ' w' fn.results.toList fun vs => ∃ rs obs' F' β' rvals, K rs obs' ∧ oneOr vs = oneOr rvals ∧ Rl (RV ax.gs G w' F' β' (mkS1 obs')) rs rvals ∧ Sim ax.gs G w' F' β' (mkS1 obs') ∧ Step w F β (mkS obs) w' F' β' (mkS1 obs') := by
      rintro ρ' w' ⟨e', F', β', σ', h1, h2, h3, h4, _⟩
      unfold aret at h1
      refine aresL_run h3 h2 _ h1 fun us xs hk hrx => ?_
      cases hnb : normB obs.length σ' ah.fin with
      | none => rw [hnb] at hk; exact hk.elim
      | some r0 =>
       obtain ⟨ps0, σ0⟩ := r0
       rw [hnb] at hk; dsimp only at hk
       have hle0 : obs.length ≤ σ'.length := by have := h4.len; simpa [mkS] using this
       obtain ⟨F0, β0, _, m1, m2, _⟩ := normB_run (n3 := σ'.length) hle0 h3 (Nat.le_refl _) hnb (fun i l _ hgi v hv k hk => by
         have ho := h3.obj i
         rw [hgi] at ho
         obtain ⟨_, _, _, _, _, hrl, _⟩ := ho
         obtain ⟨j, hj⟩ := List.mem_iff_getElem?.1 hv
         obtain ⟨y, _, hy⟩ := hrl.get hj
         exact hy.ids k hk)
       obtain ⟨Fk, m3, m4⟩ := killL_run (F := F0) ah.kill m1
       have hrx := hrx.mono (fun u v h => h.mono (m2.trans m4).carry)
       cases hc : retP ah (killL σ0 ah.kill) us with
       | none => rw [hc] at hk; exact hk.elim
       | some r =>
        obtain ⟨us', σ1⟩ := r
        rw [hc] at hk; dsimp only at hk
        obtain ⟨F1, βr, k1, k2, k3⟩ := retP_run m3 hc hrx
        have hst := (h4.trans (m2.trans m4)).trans k2
        obtain ⟨hnd, r, hids⟩ := reach_spec σ1 1000 (idsL us' ++ boxIds σ1 obs.length) (List.range obs.length) List.nodup_range
        obtain ⟨ids, hi⟩ : ∃ ids, reach σ1 1000 (idsL us' ++ boxIds σ1 obs.length) (List.range obs.length) = ids := ⟨_, rfl⟩
        rw [hi] at hk hnd hids
        obtain ⟨_, r2, r1, r3⟩ := ret_back k1 hst hnd hids
        exact ⟨_, _, F1, _, xs, hk, rfl, k3.ren r2, r1, r3⟩
    refine acW_run (fx := ax.fns) hT hE hQ c h ⟨rfl, by rw [hN]⟩ hs he fun ex ρ' w' hp => ?_
    cases ex with
    | normal => exact fin ρ' w' hp
    | ret => exact fin ρ' w' hp
    | _ => obtain ⟨_, _, _, _, h1, _⟩ := hp; exact h1.elim
  · rintro e w' ⟨v, rfl, rs, obs', F', β', rvals, k1, rfl, k2, k3, k4⟩
    exact ⟨rs, obs', F', β', rvals, k1, rfl, k2, k3, k4⟩


end
end Go.Av
end

/- part AvV -/
section
namespace Go.Av
theorem isA_cons {a : As} {az : List As} {us : List V} (h : isA (a :: az) us = true) : ∃ u r, us = u :: r ∧ a.is u = true ∧ isA az r = true := by
  cases us with
  | nil => cases h
  | cons u r => obtain ⟨h1, h2⟩ := and_elim h; exact ⟨u, r, rfl, h1, h2⟩
theorem isA_nil {us : List V} (h : isA [] us = true) : us = [] := by cases us with
  | nil => rfl
  | cons => cases h
theorem is_int {k : IntKind} {u : V} (h : As.is (.int k) u = true) : ∃ x, u = .int k x := by
  cases u <;> simp only [As.is] at h <;> first | cases h | skip
  have := of_decide_eq_true h
  subst this
  exact ⟨_, rfl⟩
theorem is_str {u : V} (h : As.is .str u = true) : ∃ x, u = .str x := by
  cases u <;> simp only [As.is] at h <;> first | exact ⟨_, rfl⟩ | cases h
end Go.Av
end

/- part AvU -/
section
namespace Go.Av
open Go.Vx Go.RowKit

theorem find_tab : ∀ tb : List (Nat × Array Value), (tb.map (·.1)).Nodup → ∀ p ∈ tb, tb.find? (fun q => q.1 == p.1) = some p
  | [], _, p, hp => by simp at hp
  | q :: r, hnb, p, hp => by
    simp only [List.map_cons, List.nodup_cons] at hnb
    rw [List.find?_cons]
    rcases List.mem_cons.1 hp with rfl | hp'
    · simp
    · have hne : q.1 ≠ p.1 := fun e => hnb.1 (e ▸ List.mem_map_of_mem (f := (·.1)) hp')
      rw [show (q.1 == p.1) = false by simpa using hne]
      exact find_tab r hnb.2 p hp'
theorem semEq_of {P : Program} {w : World} {t : Nat} {op : BinOp} {xo yo : Operand} {va vb : Value} {b : Bool} (ho : isEq op = true) (hg : ∀ op, eqGuard op t xo yo va vb = pure ()) (h1 : binOp .eql t va vb = Value.bool <$> Op.equal t va vb) (h2 : binOp .neq t va vb = (fun a => Value.bool !a) <$> Op.equal t va vb) (he : (Op.equal t va vb).run P w = .ok b w) :
    Runs P (semEq op t xo yo va vb) w (.bool (Vx.flip op b)) w := by
  unfold Runs semEq
  rw [hg]
  cases op <;> first | (simp [isEq] at ho; done) | skip
  · rw [h1]; simp [he, Vx.flip]
  · rw [h2]; simp [he, Vx.flip]

theorem eq_nil_l {P : Program} {w : World} {ti tp : TypeId} {v : Value} {ms : Array (String × TypeId)} (hi : P.underlying ti = some (.interface ms)) : (Op.equal ti .nilIface (.iface tp v)).run P w = .ok false w := by
  have h : ∀ d : Nat, (Op.equalIn (d + 1) ti .nilIface (.iface tp v)).run P w = .ok false w := fun d => by simp [Op.equalIn, run_underlying hi]
  simp [Op.equal, Op.maxDepth, h 9999]
theorem eq_nil_r {P : Program} {w : World} {ti tp : TypeId} {v : Value} {ms : Array (String × TypeId)} (hi : P.underlying ti = some (.interface ms)) : (Op.equal ti (.iface tp v) .nilIface).run P w = .ok false w := by
  have h : ∀ d : Nat, (Op.equalIn (d + 1) ti (.iface tp v) .nilIface).run P w = .ok false w := fun d => by simp [Op.equalIn, run_underlying hi]
  simp [Op.equal, Op.maxDepth, h 9999]

/-- of one laid error: its row -/
def errRow (nm : String) (e : String × Nat × List UInt8) : String × DataW Unit := (e.1, .iface nm (.ptr (.agg [.lit (.string e.2.2)])))

structure ErrTab (P : Program) (nm : String) (ti tp te ts : TypeId) (ms : Array (String × TypeId)) (f : Field) (i j : TypeInfo) : Prop where
  hi : P.underlying ti = some (.interface ms)
  hrow : ∀ u, P.typeName? 3 u = some nm → u = tp
  hp : P.underlying tp = some (.pointer te)
  he : P.underlying te = some (.struct #[f])
  hft : f.type = ts
  hfo : f.offset = 0
  hs : P.underlying ts = some .string
  hc : P.cellsOf te = 1
  hcs : P.cellsOf ts = 1
  hinfo : P.info? tp = some i
  hcomp : i.comparable = true
  hte : P.info? te = some j
  hsz : j.size ≠ 0

section
variable {P : Program} {W : World} {nm : String} {ti tp te ts : TypeId} {ms : Array (String × TypeId)} {f : Field} {i j : TypeInfo}

theorem laid_errs (T : ErrTab P nm ti tp te ts ms f i j) {r : List (String × DataW Unit)} : ∀ (es : List (String × Nat × List UInt8)) {ps : List MemPlace}, DataW.LaidVars P W (es.map (errRow nm) ++ r) ps → ps.Nodup →
    (∀ b off, MemPlace.cell b off ∈ ps → (∃ c t, W.heap[b]? = some (.cells c t (0, 0))) ∧ ∀ u v, W.cell? ⟨b, off, none⟩ = some (.iface u v) → Value.okWide P W .any 0 u v) →
    (∀ e ∈ es, P.globalNamed e.1 = some e.2.1 ∧ (P.globals[e.2.1]?).map (·.type) = some ti) →
    ∃ ad : Nat → Addr, (∀ k e, es[k]? = some e → W.cell? ⟨e.2.1, 0, none⟩ = some (.iface tp (.pointer (some (ad k)))) ∧ Plain W (ad k) ∧ e.2.1 < W.heap.size ∧ MemPlace.cell (ad k).block (ad k).off ∈ ps) ∧ ∀ k k', k < k' → k' < es.length → ad k ≠ ad k'
  | [], ps, _, _, _, _ => ⟨fun _ => default, fun k e h => by simp at h, fun k k' _ h => by simp at h⟩
  | e :: es, ps, h, hnd, hrows, hg => by
    obtain ⟨g0', t0', cs0, f0, p0, q0, hg0', ht0', hv0, hd0, hrest, e0⟩ := h
    obtain ⟨hg1, ht1⟩ := hg e List.mem_cons_self
    obtain rfl := Option.some.inj (hg1.symm.trans hg0')
    obtain rfl := Option.some.inj (ht1.symm.trans ht0')
    subst e0
    obtain ⟨l0⟩ := cs0
    have ok0 : ∀ u v, l0 = [.iface u v] → Value.okWide P W .any 0 u v := fun u v e1 => by
      subst e1
      exact (hrows e.2.1 0 (by simp [MemPlace.row])).2 u v (by simpa using World.var?_cell hg0' hv0 0)
    obtain ⟨a0, s0, rfl, hc0, hs0, hz0, rfl⟩ := errorString_of_trod T.hi T.hrow T.hp T.he T.hft T.hfo T.hs T.hc T.hcs hd0 ok0
    obtain ⟨c0, t0, hb0⟩ := (hrows a0.block a0.off (by simp [MemPlace.row])).1
    obtain ⟨c1, t1, hb1⟩ := (hrows e.2.1 0 (by simp [MemPlace.row])).1
    rw [List.append_assoc] at hnd
    have hnd' := (List.nodup_append.1 hnd).2.1
    have hndq := (List.nodup_append.1 hnd').2.1
    obtain ⟨ad, h1, h2⟩ := laid_errs T es hrest hndq (fun b off hm => hrows b off (List.mem_append.2 (.inr hm))) (fun x hx => hg x (List.mem_cons_of_mem _ hx))
    refine ⟨fun k => match k with | 0 => a0 | k + 1 => ad k, fun k x hx => ?_, fun k k' hk hk' => ?_⟩
    · cases k with
      | zero =>
        simp only [List.getElem?_cons_zero, Option.some.injEq] at hx
        subst hx
        refine ⟨by have := World.var?_cell hg0' hv0 0; simpa using this, ⟨c0, t0, hb0⟩, ?_, by simp [MemPlace.row]⟩
        rcases Nat.lt_or_ge e.2.1 W.heap.size with h | h
        · exact h
        · rw [Array.getElem?_eq_none h] at hb1; cases hb1
      | succ k =>
        obtain ⟨k1, k2, k3, k4⟩ := h1 k x (by simpa using hx)
        exact ⟨k1, k2, k3, List.mem_append.2 (.inr k4)⟩
    · cases k' with
      | zero => omega
      | succ k' =>
        cases k with
        | zero =>
          intro heq
          dsimp only at heq
          have hk2 : k' < es.length := by simpa using hk'
          obtain ⟨_, _, _, hm⟩ := h1 k' es[k'] (List.getElem?_eq_getElem hk2)
          have := (List.nodup_append.1 hnd').2.2 (MemPlace.cell a0.block a0.off) (by simp [MemPlace.row]) (MemPlace.cell (ad k').block (ad k').off) hm
          rw [heq] at this
          exact this rfl
        | succ k => exact h2 k k' (by omega) (by simpa using hk')

/-- **the errors of a world that holds what the program's text lays** -/
theorem errs_tabs {ax : Ax} (T : ErrTab ax.P nm ti tp te ts ms f i j) {es : List (String × Nat × List UInt8)} {r : List (String × DataW Unit)} (h : laidMet ax.P (es.map (errRow nm) ++ r) W)
    (hg : ∀ e ∈ es, ax.P.globalNamed e.1 = some e.2.1 ∧ (ax.P.globals[e.2.1]?).map (·.type) = some ti) (hgs : ∀ g ∈ ax.gs, ∃ e, e ∈ es ∧ e.2.1 = g) (_hnd : (es.map fun e => e.2.1).Nodup) (hift : ∀ t ∈ ax.ift, t = ti)
    (htb : ∀ p ∈ ax.tabs, p.1 ∉ (es.map fun e => e.2.1) ∧ p.1 < W.heap.size ∧ ∃ t q, W.heap[p.1]? = some (.cells p.2 t q)) (hnb : (ax.tabs.map (·.1)).Nodup) :
    ∃ G, ErrOk ax.P ax.gs ax.ift ax.tabs G ∧ ∀ β, Sim ax.gs G W (fun b _ => b < W.heap.size) β (mkS []) := by
  obtain ⟨ps, hl, hnd1, hrows⟩ := h
  obtain ⟨ad, h1, h2⟩ := laid_errs T es hl hnd1 hrows hg
  have inj : ∀ k k' e e', es[k]? = some e → es[k']? = some e' → ad k = ad k' → k = k' := fun k k' e e' hk hk' heq => by
    have l1 := (List.getElem?_eq_some_iff.1 hk).1
    have l2 := (List.getElem?_eq_some_iff.1 hk').1
    rcases Nat.lt_trichotomy k k' with h | h | h
    · exact absurd heq (h2 k k' h l2)
    · exact h
    · exact absurd heq.symm (h2 k' k h l1)
  let G : Nat → Value := fun g => if g ∈ (es.map fun e => e.2.1) then (W.cell? ⟨g, 0, none⟩).getD .nilIface else match ax.tabs.find? (fun p => p.1 == g) with | some p => .agg p.2 | none => .nilIface
  have hG : ∀ k e, es[k]? = some e → G e.2.1 = .iface tp (.pointer (some (ad k))) := fun k e he => by
    show (if _ then (W.cell? _).getD _ else _) = _
    rw [if_pos (List.mem_map_of_mem (f := fun e => e.2.1) (List.mem_of_getElem? he)), (h1 k e he).1]; rfl
  have hGt : ∀ p ∈ ax.tabs, G p.1 = .agg p.2 := fun p hp => by
    show (if _ then _ else _) = _
    rw [if_neg (htb p hp).1]
    have : ax.tabs.find? (fun q => q.1 == p.1) = some p := find_tab ax.tabs hnb p hp
    rw [this]
  have htab : ∀ g cs, G g = .agg cs → g < W.heap.size ∧ (∃ t p, W.heap[g]? = some (.cells cs t p)) := fun g cs hg => by
    by_cases hm : g ∈ (es.map fun e => e.2.1)
    · obtain ⟨e, he, rfl⟩ := List.mem_map.1 hm
      obtain ⟨k, hk⟩ := List.mem_iff_getElem?.1 he
      rw [hG k e hk] at hg
      cases hg
    · have hg' : (match ax.tabs.find? (fun p => p.1 == g) with | some p => Value.agg p.2 | none => .nilIface) = .agg cs := by
        have := hg
        show _ = _
        rw [← this]
        show _ = (if _ then _ else _)
        rw [if_neg hm]
      cases hf : ax.tabs.find? (fun p => p.1 == g) with
      | none => rw [hf] at hg'; cases hg'
      | some p =>
        rw [hf] at hg'
        dsimp only at hg'
        have hp := List.mem_of_find?_eq_some hf
        have hpg := List.find?_some hf
        simp only [beq_iff_eq] at hpg
        injection hg' with hg'
        rw [← hpg, ← hg']
        exact (htb p hp).2
  have pick : ∀ g ∈ ax.gs, ∃ (k : Nat) (e : String × Nat × List UInt8), es[k]? = some e ∧ e.2.1 = g := fun g hg' => by
    obtain ⟨e, he, rfl⟩ := hgs g hg'
    obtain ⟨k, hk⟩ := List.mem_iff_getElem?.1 he
    exact ⟨k, e, hk, rfl⟩
  refine ⟨G, ⟨hGt, fun t ht op xo yo w a b va vb ho hnn ha hb hva hvb => ?_⟩, fun β => ⟨fun b _ h => h, fun g hgm => ?_, fun i => by show ObjR _ _ _ _ _ _ _ (getO [] i); simp [getO, ObjR], fun g cs hg => ⟨(htab g cs hg).1, (htab g cs hg).2, fun i hi => by simp [mkS, getO, Has, Live] at hi⟩, fun i j b _ hi => by simp [mkS, getO, Has, Live] at hi, fun i b o hm => by have := hm.1.1; simp [mkS, getO, Live] at this⟩⟩
  · rw [hift t ht]
    cases a with
    | none =>
      cases b with
      | none =>
        simp at hnn
      | some g' =>
        dsimp only at hva hvb
        obtain ⟨hgm, u, p, hu, hpl⟩ := hb g' rfl
        rw [hu] at hvb
        subst hva hvb
        exact semEq_of (b := false) ho (fun op => by cases op <;> rfl) rfl rfl (eq_nil_l T.hi)
    | some g =>
      obtain ⟨hgm, u, p, hu, hpl⟩ := ha g rfl
      cases b with
      | none =>
        dsimp only at hva hvb
        rw [hu] at hva
        subst hva hvb
        exact semEq_of (b := false) ho (fun op => by cases op <;> rfl) rfl rfl (eq_nil_r T.hi)
      | some g' =>
        obtain ⟨hgm', u', p', hu', hpl'⟩ := hb g' rfl
        dsimp only at hva hvb
        obtain ⟨k, e, hk, hkg⟩ := pick g hgm
        obtain ⟨k', e', hk', hkg'⟩ := pick g' hgm'
        have e1 := hG k e hk
        have e2 := hG k' e' hk'
        rw [hkg] at e1
        rw [hkg'] at e2
        rw [hu] at e1
        rw [hu'] at e2
        cases e1
        cases e2
        rw [hu] at hva
        rw [hu'] at hvb
        subst hva hvb
        by_cases hgg : g = g'
        · subst hgg
          rw [hu] at hu'
          have had : ad k = ad k' := by
            injection hu' with _ h
            injection h with h
            injection h
          rw [← had]
          have : errEq (some g) (some g) = true := by simp [errEq]
          rw [this]
          exact semEq_of (b := true) ho (fun op => by cases op <;> rfl) rfl rfl (by simp [Op.equal, Op.maxDepth, run_equalIn_iface_ptr_same w 9998 _ T.hi T.hp T.hinfo T.hcomp T.hte])
        · have hne : ad k ≠ ad k' := fun h => by
            have := inj k k' e e' hk hk' h
            subst this
            rw [hk] at hk'
            cases hk'
            exact hgg (hkg.symm.trans hkg')
          have : errEq (some g) (some g') = false := by simp [errEq, hgg]
          rw [this]
          obtain ⟨ca, ta, hpa⟩ := hpl
          obtain ⟨cb, tb, hpb⟩ := hpl'
          exact semEq_of (b := false) ho (fun op => by cases op <;> rfl) rfl rfl (by simp [Op.equal, Op.maxDepth, run_equalIn_iface_ptr_other w 9998 T.hi T.hp T.hinfo T.hcomp T.hte T.hsz hne hpa hpb])
  · obtain ⟨k, e, hk, rfl⟩ := pick g hgm
    obtain ⟨k1, k2, k3, k4⟩ := h1 k e hk
    refine ⟨by rw [hG k e hk]; exact k1, k3, fun i hi => by simp [mkS, getO, Has, Live] at hi, tp, ad k, hG k e hk, ?_, k2, fun i hi => by simp [mkS, getO, Has, Live] at hi⟩
    obtain ⟨c, t, hb⟩ := k2
    rcases Nat.lt_or_ge (ad k).block W.heap.size with h | h
    · exact h
    · rw [Array.getElem?_eq_none h] at hb; cases hb

theorem errs_of_laid {ax : Ax} (T : ErrTab ax.P nm ti tp te ts ms f i j) {es : List (String × Nat × List UInt8)} {r : List (String × DataW Unit)} (h : laidMet ax.P (es.map (errRow nm) ++ r) W)
    (hg : ∀ e ∈ es, ax.P.globalNamed e.1 = some e.2.1 ∧ (ax.P.globals[e.2.1]?).map (·.type) = some ti) (hgs : ∀ g ∈ ax.gs, ∃ e, e ∈ es ∧ e.2.1 = g) (hnd : (es.map fun e => e.2.1).Nodup) (hift : ∀ t ∈ ax.ift, t = ti) (htb : ax.tabs = []) :
    ∃ G, ErrOk ax.P ax.gs ax.ift ax.tabs G ∧ ∀ β, Sim ax.gs G W (fun b _ => b < W.heap.size) β (mkS []) :=
  errs_tabs T h hg hgs hnd hift (fun p hp => by rw [htb] at hp; simp at hp) (by rw [htb]; simp)
end
end Go.Av
end

/- part AvW -/
section
namespace Go.Av
open Go.Vx Go.RowKit

def okF (R : TypeId → List V → Nat → Prop) : List Field → List V → Nat → Prop
  | [], us, _ => us = []
  | f :: fs, us, s => ∃ a b m k, us = a ++ b ∧ R f.type a m ∧ okF R fs b k ∧ m + k ≤ s
/-- trees of a type, of a size at most so much -/
def okV (P : Program) : Nat → TypeId → List V → Nat → Prop
  | 0, _, _, _ => False
  | n + 1, t, us, s => match P.underlying t with
    | some (.int k) => ∃ i, us = [.int k i] ∧ (Lit.int k i).wf = true ∧ 1 ≤ s
    | some .bool => ∃ b, us = [.bool b] ∧ 1 ≤ s
    | some .string => ∃ x : ByteArray, us = [.str x] ∧ x.size ≤ maxLen ∧ x.size + 1 ≤ s
    | some (.slice e) => ∃ (l : List (List V)) (ss : List Nat), us = [.sl (P.cellsOf e) l] ∧ l.length ≤ maxLen ∧ ss.length = l.length ∧ ss.sum + 1 ≤ s ∧ ∀ (i : Nat) r m, l[i]? = some r → ss[i]? = some m → okV P n e r m
    | some (.pointer e) => (us = [.pt none] ∧ 1 ≤ s) ∨ ∃ cs m, us = [.pt (some cs)] ∧ okV P n e cs m ∧ m + 1 ≤ s
    | some (.struct fs) => ∃ m, okF (okV P n) fs.toList us m ∧ m + 1 ≤ s
    | _ => False

/-- what counts values and letters -/
structure Bulk {H : Type} (B : DataW H → Nat) : Prop where
  one : ∀ d, 1 ≤ B d
  str : ∀ s, s.length + 1 ≤ B (.lit (.string s))
  ptr : ∀ d, B d + 1 ≤ B (.ptr d)
  slice : ∀ l r, (l.map B).sum + 1 ≤ B (.slice l r)
  agg : ∀ l, (l.map B).sum + 1 ≤ B (.agg l)

def contig (P : Program) : Nat → List Field → Nat → Prop
  | off, [], tot => off = tot
  | off, f :: fs, tot => f.offset = off ∧ contig P (off + P.cellsOf f.type) fs tot
/-- types of data -/
def Dat (P : Program) (D : List TypeId) (t : TypeId) : Prop := match P.underlying t with
  | some (.int _) => True
  | some .bool => True
  | some .string => True
  | some (.slice e) => e ∈ D ∧ 0 < P.cellsOf e
  | some (.pointer e) => e ∈ D ∧ 0 < P.cellsOf e
  | some (.struct fs) => (∀ f ∈ fs.toList, f.type ∈ D) ∧ contig P 0 fs.toList (P.cellsOf t)
  | _ => False

theorem cellsAt_of_cells {W : World} {a : Addr} {n : Nat} {cs : List Value} (h : W.cells? 0 a n = some cs) (hn : 0 < n) : ∃ b o, a = ⟨b, o, none⟩ ∧ cs.length = n ∧ b < W.heap.size ∧ ∀ i, i < cs.length → W.cell? ⟨b, o + i, none⟩ = cs[i]? := by
  have hblt := World.cells?_block h hn
  obtain ⟨_, hl, hc⟩ := World.cells?_some h
  obtain ⟨b, o, s⟩ := a
  have h0 := hc 0 hn
  have hs : s = none := by
    cases s with
    | none => rfl
    | some k =>
      rw [List.getElem?_eq_getElem (by omega)] at h0
      simp only [Addr.add, if_true, World.cell?] at h0
      split at h0 <;> simp at h0
  subst hs
  exact ⟨b, o, rfl, hl, hblt, fun i hi => by rw [← add_none]; exact hc i (by omega)⟩

theorem Rl.split {R : V → Value → Prop} {cs : List Value} {a b : List V} {n : Nat} (h1 : Rl R a (cs.take n)) (h2 : Rl R b (cs.drop n)) : Rl R (a ++ b) cs := by
  have := h1.append h2
  rwa [List.take_append_drop] at this

section
variable {P : Program} {W : World} {gs : List Nat} {G : Nat → Value} {H : Type} {enc : TypeId × Value → H} {sp : Nat → Bool} {held : Bool} {D : List TypeId}

theorem fields_of {R : TypeId → List V → Nat → Prop} {F : Nat → Nat → Prop} {cs : List Value} : ∀ (fs : List Field) (xs : List Nat) (off : Nat), contig P off fs cs.length →
    (∀ (i : Nat) f, fs[i]? = some f → ∃ us m, xs[i]? = some m ∧ R f.type us m ∧ Rl (FV gs G W F) us ((cs.drop f.offset).take (P.cellsOf f.type))) → ∃ us, okF R fs us xs.sum ∧ Rl (FV gs G W F) us (cs.drop off)
  | [], xs, off, h, _ => ⟨[], rfl, by
      have : off = cs.length := h
      rw [this, List.drop_length]; exact .nil⟩
  | f :: fs, [], off, h, hf => by
    obtain ⟨_, _, h1, _⟩ := hf 0 f rfl
    cases h1
  | f :: fs, x :: xs, off, h, hf => by
    obtain ⟨h1, h2⟩ := h
    obtain ⟨a, m, hm, ha, hra⟩ := hf 0 f rfl
    cases hm
    obtain ⟨b, hb, hrb⟩ := fields_of fs xs _ h2 (fun i g hg => hf (i + 1) g hg)
    refine ⟨a ++ b, ⟨a, b, x, xs.sum, rfl, ha, hb, by simp⟩, ?_⟩
    rw [h1] at hra
    rw [← List.drop_drop] at hrb
    exact hra.split hrb

theorem data_of_trod (hD : ∀ t ∈ D, Dat P D t) {B : DataW H → Nat} (hB : Bulk B) : ∀ (fuel : Nat) (t : TypeId) (cs : List Value) (x : DataW H × List MemPlace), t ∈ D → DataW.trod enc P W 0 sp held fuel t cs = some x →
    ∃ us, okV P fuel t us (B x.1) ∧ Rl (FV gs G W (fun b _ => b < W.heap.size)) us cs := by
  intro fuel
  induction fuel with
  | zero => intro t cs x _ h; simp [DataW.trod] at h
  | succ n ih =>
    intro t cs x ht h
    have hd := hD t ht
    unfold Dat at hd
    unfold okV
    split at hd
    · rename_i k hu
      obtain ⟨i, rfl, _, hi⟩ := DataW.trod_int hu h
      exact ⟨[.int k i], ⟨i, rfl, hi, hB.one _⟩, .cons (.int k i) .nil⟩
    · rename_i hu
      obtain ⟨b, rfl, _⟩ := DataW.trod_bool hu h
      exact ⟨[.bool b], ⟨b, rfl, hB.one _⟩, .cons (.bool b) .nil⟩
    · rename_i hu
      obtain ⟨s, rfl, rfl, hs⟩ := DataW.trod_string hu h
      exact ⟨[.str s], ⟨s, rfl, hs, by have := hB.str s.data.toList; simpa using this⟩, .cons (.str s) .nil⟩
    · rename_i e hu
      obtain ⟨heD, hpos⟩ := hd
      rcases DataW.trod_slice hu h with ⟨rfl, _⟩ | ⟨a, len, cap, elems, rest, k, hkn, rfl, rfl, _, hlc, hcm, hlen2, hel, _⟩
      · refine ⟨[.sl (P.cellsOf e) []], ⟨[], [], rfl, Nat.zero_le _, rfl, hB.one _, fun i r m hr => by simp at hr⟩, .cons ?_ .nil⟩
        exact FV.sl (P.cellsOf e) [] none 0 (fun _ _ => .int .i64 0) (Nat.le_refl _) (Nat.zero_le _) (fun e he => by simp at he) (fun h => absurd rfl h) (fun i e j u h => by simp at h)
      · obtain rfl : k = n := by omega
        have pick : ∀ i, ∃ (us : List V) (cs : List Value), i < len → (∃ y, elems[i]? = some y ∧ okV P k e us (B y.1)) ∧ Rl (FV gs G W (fun b _ => b < W.heap.size)) us cs ∧ W.cells? 0 (a.add (i * P.cellsOf e)) (P.cellsOf e) = some cs := by
          intro i
          by_cases hi : i < len
          · have h4 := hel i hi
            rw [List.getElem?_eq_getElem (by omega)] at h4
            obtain ⟨cs', hc', ht'⟩ := Option.bind_eq_some_iff.1 h4
            obtain ⟨us, h5, h6⟩ := ih e cs' _ heD ht'
            exact ⟨us, cs', fun _ => ⟨⟨_, List.getElem?_eq_getElem (by omega), h5⟩, h6, hc'⟩⟩
          · exact ⟨[], [], fun h => absurd h hi⟩
        have hp := fun i => (pick i).choose_spec
        let uf : Nat → List V := fun i => (pick i).choose
        let cf : Nat → List Value := fun i => (hp i).choose
        have hq : ∀ i, i < len → (∃ y, elems[i]? = some y ∧ okV P k e (uf i) (B y.1)) ∧ Rl (FV gs G W (fun b _ => b < W.heap.size)) (uf i) (cf i) ∧ W.cells? 0 (a.add (i * P.cellsOf e)) (P.cellsOf e) = some (cf i) := fun i hi => (hp i).choose_spec hi
        have hll : ((List.range len).map uf).length = len := by simp
        have hget : ∀ i r, ((List.range len).map uf)[i]? = some r → i < len ∧ r = uf i := fun i r hr => by
          have hi : i < len := by have := (List.getElem?_eq_some_iff.1 hr).1; rwa [hll] at this
          rw [List.getElem?_map, List.getElem?_range hi] at hr
          exact ⟨hi, (Option.some.inj hr).symm⟩
        have hz : ∀ i, i < len → (uf i).length = P.cellsOf e ∧ (cf i).length = P.cellsOf e := fun i hi => by
          obtain ⟨_, h6, h7⟩ := hq i hi
          obtain ⟨_, _, _, hl, _⟩ := cellsAt_of_cells h7 hpos
          exact ⟨h6.1.trans hl, hl⟩
        refine ⟨[.sl (P.cellsOf e) ((List.range len).map uf)], ⟨_, elems.map fun y => B y.1, rfl, by rw [hll]; omega, by rw [hll]; simpa using hlen2, by have := hB.slice (elems.map (·.1)) (rest.map (·.1)); rw [List.map_map] at this; exact this, fun i r m hr hm => ?_⟩, .cons ?_ .nil⟩
        · obtain ⟨hi, rfl⟩ := hget i r hr
          obtain ⟨⟨y, hy, hk⟩, _⟩ := hq i hi
          rw [List.getElem?_map, hy] at hm
          cases hm
          exact hk
        · have := FV.sl (gs := gs) (G := G) (w := W) (F := fun b _ => b < W.heap.size) (P.cellsOf e) ((List.range len).map uf) (some a) cap (fun i j => (cf i).getD j (.int .i64 0)) (by rw [hll]; exact hlc) hcm (fun r hr => by
              obtain ⟨i, hi, rfl⟩ := List.mem_map.1 hr
              exact (hz i (by simpa using hi)).1) (fun hne => by
              have hpos0 : 0 < len := by
                rcases Nat.eq_zero_or_pos len with h0 | h0
                · subst h0; simp at hne
                · exact h0
              obtain ⟨_, _, h70⟩ := hq 0 hpos0
              obtain ⟨b0, o0, ea0, _, hb0, _⟩ := cellsAt_of_cells h70 hpos
              have ha : a = ⟨b0, o0, none⟩ := by simpa [Addr.add] using ea0
              subst ha
              refine ⟨b0, o0, rfl, fun i r j u hr hu => ?_⟩
              obtain ⟨hi, rfl⟩ := hget i r hr
              obtain ⟨_, h6, h7⟩ := hq i hi
              obtain ⟨b1, o1, ea, hl, hb1, hcell⟩ := cellsAt_of_cells h7 hpos
              rw [add_none] at ea
              cases ea
              have hj : j < (cf i).length := by rw [(hz i hi).2, ← (hz i hi).1]; exact (List.getElem?_eq_some_iff.1 hu).1
              refine ⟨?_, hb1⟩
              rw [← Nat.add_assoc, hcell j hj, List.getD_eq_getElem?_getD, List.getElem?_eq_getElem hj]; rfl) (fun i r j u hr hu => by
              obtain ⟨hi, rfl⟩ := hget i r hr
              obtain ⟨_, h6, h7⟩ := hq i hi
              obtain ⟨v, hv, hf⟩ := h6.get hu
              rw [List.getD_eq_getElem?_getD, hv]; exact hf)
          rw [hll] at this
          exact this
    · rename_i e hu
      obtain ⟨heD, hpos⟩ := hd
      rcases DataW.trod_pointer hu h with ⟨rfl, _⟩ | ⟨a, cs', y, k, hkn, rfl, rfl, hc', ht'⟩
      · exact ⟨[.pt none], .inl ⟨rfl, hB.one _⟩, .cons .ptn .nil⟩
      · obtain rfl : k = n := by omega
        obtain ⟨us, h5, h6⟩ := ih e cs' _ heD ht'
        obtain ⟨b0, o0, rfl, hl, hb0, hcell⟩ := cellsAt_of_cells hc' hpos
        refine ⟨[.pt (some us)], .inr ⟨us, _, rfl, h5, hB.ptr _⟩, .cons (.pts us b0 o0 (fun j => cs'.getD j (.int .i64 0)) (fun j u hu => ?_) (fun j u hu => ?_)) .nil⟩
        · obtain ⟨v, hv, _⟩ := h6.get hu
          have hj : j < cs'.length := (List.getElem?_eq_some_iff.1 hv).1
          exact ⟨by rw [hcell j hj, List.getD_eq_getElem?_getD, List.getElem?_eq_getElem hj]; rfl, hb0⟩
        · obtain ⟨v, hv, hf⟩ := h6.get hu
          rw [List.getD_eq_getElem?_getD, hv]; exact hf
    · rename_i fs hu
      obtain ⟨hfD, hct⟩ := hd
      obtain ⟨xs, k, hkn, rfl, hl, hxs, hf⟩ := DataW.trod_struct hu h
      obtain rfl : k = n := by omega
      rw [← hl] at hct
      obtain ⟨us, h5, h6⟩ := fields_of (R := okV P k) (gs := gs) (G := G) (W := W) (F := fun b _ => b < W.heap.size) (cs := cs) fs.toList (xs.map fun y => B y.1) 0 hct fun i f hi => by
        have hi' : fs[i]? = some f := by rw [← Array.getElem?_toList]; exact hi
        have h7 := hf i f hi'
        have hlt : i < xs.length := by rw [hxs]; have := (List.getElem?_eq_some_iff.1 hi).1; simpa using this
        rw [List.getElem?_eq_getElem hlt] at h7
        obtain ⟨us, h8, h9⟩ := ih f.type _ _ (hfD f (List.mem_of_getElem? hi)) h7
        exact ⟨us, _, by rw [List.getElem?_map, List.getElem?_eq_getElem hlt]; rfl, h8, h9⟩
      exact ⟨us, ⟨_, h5, by have := hB.agg (xs.map (·.1)); rw [List.map_map] at this; exact this⟩, by simpa using h6⟩
    · exact hd.elim
end

/-- a law that says true of data, at the model's run -/
theorem law_run {ax : Ax} {N : Nat} {args : List V} {vals : List Value} {W : World} {G : Nat → Value} (h : PCalls ax N args fun rs => rs = [.bool true]) (hE : ErrOk ax.P ax.gs ax.ift ax.tabs G) (hs : ∀ β, Sim ax.gs G W (fun b _ => b < W.heap.size) β (mkS []))
    (hr : Rl (fun u v => RV ax.gs G W (fun b _ => b < W.heap.size) (fun _ => .bool false) (mkS []) u v) args vals) :
    Calls ax.P N vals.toArray W fun e W' => e = .returned (.bool true) ∧ Below W.heap.size W W' := by
  refine (h G W _ (fun _ => .bool false) vals hE (hs _) hr).mono ?_
  rintro e w' ⟨rs, obs', F', β', rvals, hk, rfl, hrr, hs', hst⟩
  cases obs' with
  | cons => exact hk.elim
  | nil =>
    have hk' : rs = [.bool true] := hk
    subst hk'
    obtain ⟨v, vs, rfl, h1, h2⟩ := hrr.cons_inv
    obtain rfl := h2.nil_inv
    have hv : v = .bool true := by
      cases h1 with
      | fz _ _ h => cases h; rfl
    subst hv
    refine ⟨rfl, ?_⟩
    have no : ∀ (b : Nat) i, ¬ Has (fun _ => Value.bool false) i (getO (mkS []) i) b := fun b i hi => by have := hi.1; simp [mkS, getO, Live] at this
    exact ⟨hst.os, hst.tape, hst.output, hst.size, fun b hb => hst.block b hb (no b)⟩
end Go.Av
end
