/- The second executor: pieces within a loop over a function; what is known of the world beside. -/
import Derived.Test.YtadgcpjobhgkiaaDoorM3
import Derived.Test.YtadgcpjobhgkiaaDoorM1
/- part AvX -/
section
namespace Go.Av
open Go.Vx Go.RowKit

def envL : List (Nat × V) → AEnv
  | [], _ => .junk
  | (i, v) :: r, t => cond (Nat.beq t i) v (envL r t)

section
variable {gs : List Nat} {G : Nat → Value} {w w' : World} {F F' : Nat → Nat → Prop} {β β' : Nat → Value} {σ σ' : Store}

theorem Sim.has_obj (h : Sim gs G w F β σ) {i b : Nat} (hb : Has β i (getO σ i) b) : ∃ o, w.heap[b]? = some o ∧ isLD o = false := by
  have ho := h.obj i
  obtain ⟨h1, h2⟩ := hb
  cases hg : getO σ i with
  | dead => rw [hg] at h1; exact h1.elim
  | mp l => rw [hg] at ho; exact ho.elim
  | box l =>
    rw [hg] at ho
    obtain ⟨b', t, cs, e, hh, _⟩ := ho
    rw [e] at h2
    simp only [vblk, Option.some.injEq] at h2
    subst h2
    exact ⟨_, hh, rfl⟩
  | lst t z fz l =>
    rw [hg] at ho
    rcases ho with ⟨r, es, clock, e, hh, _⟩ | ⟨xs, ho, _⟩
    · rw [e] at h2
      simp only [vblk, Option.some.injEq] at h2
      subst h2
      exact ⟨_, hh, rfl⟩
    obtain ⟨_, ⟨e, _⟩ | ⟨g, cap, cur, e, _, hh, _⟩⟩ := ho
    · rw [e] at h2; cases h2
    · rw [e] at h2
      simp only [vblk, Option.some.injEq] at h2
      subst h2
      exact ⟨_, hh, rfl⟩

/-- what lies below stays, where a piece began without objects -/
theorem Step.below0 (h : Step w F β [] w' F' β' σ') : Below w.heap.size w w' :=
  ⟨h.os, h.tape, h.output, h.size, fun b hb => h.block b hb fun i hi => by have := hi.1; simp [getO, Live] at this⟩
theorem Step.below_same (h : Step w F β σ w' F' β' σ') (hv : ∀ i, i < σ.length → verO σ' i = verO σ i) : Below w.heap.size w w' := by
  refine ⟨h.os, h.tape, h.output, h.size, fun b hb => ?_⟩
  by_cases hh : ∃ i, Has β i (getO σ i) b
  · obtain ⟨i, hi⟩ := hh
    have hlt : i < σ.length := getO_lt fun e => by rw [e] at hi; exact no_has_dead hi
    exact ((h.ver i hlt).2 (hv i hlt)).2 b hi
  · exact h.block b hb fun i hi => hh ⟨i, hi⟩
theorem Step.ld (h : Step w F β σ w' F' β' σ') (hs : Sim gs G w F β σ) {b : Nat} {o : Go.Obj} (hb : w.heap[b]? = some o) (ho : isLD o = true) : w'.heap[b]? = some o := by
  refine (h.block b (Array.getElem?_eq_some_iff.1 hb).1 fun i hi => ?_).trans hb
  obtain ⟨o', h1, h2⟩ := hs.has_obj hi
  rw [hb] at h1; cases h1; rw [ho] at h2; cases h2
/-- blocks that none of the objects has -/
theorem Step.kp (h : Step w F β σ w' F' β' σ') {B : Nat} (hB : ∀ i b, Has β i (getO σ i) b → b < B) : Kp B w w' :=
  ⟨h.size, fun b hb hlt => h.block b hlt fun i hi => by have := hB i b hi; omega⟩
/-- objects that lay stay where they lie -/
theorem Step.old_has {w0 : World} {F0 : Nat → Nat → Prop} {β0 : Nat → Value} {σ0 : Store} (h : Step w0 F0 β0 σ0 w F β σ) (hs : Sim gs G w0 F0 β0 σ0) (hl : σ.length = σ0.length) : ∀ i b, Has β i (getO σ i) b → b < w0.heap.size := by
  intro i b hb
  have hi : i < σ.length := getO_lt fun e => by rw [e] at hb; exact no_has_dead hb
  rw [hl] at hi
  obtain ⟨e1, e2⟩ := h.ext i hi
  refine hs.has_lt (i := i) ⟨?_, by rw [← e1]; exact hb.2⟩
  have := hb.1
  cases h0 : getO σ0 i with
  | dead =>
    rw [h0] at e2
    cases h1 : getO σ i <;> rw [h1] at e2 this <;> simp [obLe, Live] at e2 this
  | mp l =>
    have := hs.obj i
    rw [h0] at this
    exact this.elim
  | _ => trivial

theorem Sim.calm {w0 : World} {F0 : Nat → Nat → Prop} {β0 : Nat → Value} (h : Sim gs G w F β σ) (h0 : Step w0 F0 β0 [] w F β σ) (hc : Calmly w0.heap.size w w') : Sim gs G w' F β σ ∧ Step w0 F0 β0 [] w' F β σ := by
  have hcell : ∀ b o, b < w.heap.size → w'.cell? ⟨b, o, none⟩ = w.cell? ⟨b, o, none⟩ := fun b o hlt => hc.cell hlt
  have hcar : Carry w F β σ w' F β σ := ⟨fun b o hf => ⟨hf, hcell b o (h.lt b o hf)⟩, Nat.le_refl _, fun i _ => ⟨rfl, obLe.refl _⟩⟩
  have hblk : ∀ i b, Has β i (getO σ i) b → w'.heap[b]? = w.heap[b]? := fun i b hb => by
    obtain ⟨o, h1, h2⟩ := h.has_obj hb
    rw [h1]; exact hc.same b o h1 h2
  refine ⟨⟨fun b o hf => Nat.lt_of_lt_of_le (h.lt b o hf) hc.size, fun g hg => ?_, fun i => ?_, fun g cs hg => ?_, h.sep, h.dis⟩, ?_⟩
  · obtain ⟨h1, h2, h3, t, b, h4, h5, h6, h7⟩ := h.glob g hg
    refine ⟨(hcell g 0 (h.lt g 0 h2)).trans h1, h2, h3, t, b, h4, Nat.lt_of_lt_of_le h5 hc.size, ?_, h7⟩
    obtain ⟨cs, t', e⟩ := h6
    exact ⟨cs, t', hc.same _ _ e rfl⟩
  · cases hg : getO σ i with
    | dead => trivial
    | _ => exact hg ▸ (h.obj i).keep hcar rfl fun b hv => hblk i b ⟨by rw [hg]; trivial, hv⟩
  · obtain ⟨h1, ⟨t, p, h2⟩, h3⟩ := h.tab g cs hg
    exact ⟨Nat.lt_of_lt_of_le h1 hc.size, ⟨t, p, hc.same _ _ h2 rfl⟩, h3⟩
  · have n0 : ∀ {i b : Nat}, ¬ Has β0 i (getO ([] : Store) i) b := fun hi => by have := hi.1; simp [getO, Live] at this
    have hb0 := h0.below0
    have hlow : ∀ b, b < w0.heap.size → w'.heap[b]? = w0.heap[b]? := fun b hb => (hc.low b hb (Nat.lt_of_lt_of_le hb hb0.size)).trans (hb0.block b hb)
    refine ⟨hc.os.trans h0.os, hc.tape.trans h0.tape, hc.output.trans h0.output, Nat.le_trans h0.size hc.size, fun b o hf => ?_, fun b o hb hm => ?_, fun b hb _ => hlow b hb, h0.newF, h0.newH, h0.newM, h0.len, fun i hi => by simp at hi, fun i hi => by simp at hi⟩
    · obtain ⟨k1, k2⟩ := h0.fcell b o hf
      exact ⟨k1, (hcell b o (h.lt b o k1)).trans k2⟩
    · exact (hcell b o (Nat.lt_of_lt_of_le hb h0.size)).trans (h0.cell b o hb hm)

/-- the first objects alone -/
theorem Sim.trim (h : Sim gs G w F β σ) {σ1 : Store} (hg : ∀ i, i < σ1.length → getO σ1 i = getO σ i) (hb : ∀ i l, i < σ1.length → getO σ1 i = .box l → ∀ k ∈ idsL l, k < σ1.length) :
    Sim gs G w F β σ1 ∧ ∀ {u : V} {v : Value}, RV gs G w F β σ u v → (∀ k ∈ idsV u, k < σ1.length) → RV gs G w F β σ1 u v := by
  let f : Nat → Option Nat := fun i => if i < σ1.length then some i else none
  have hf : ∀ i, i < σ1.length → f i = some i := fun i hi => if_pos hi
  obtain ⟨h1, h2⟩ := h.restrict (σ1 := σ1) (g := id) (f := f) (fun i hi => by
      have e := hg i hi
      rw [show getO σ (id i) = getO σ1 i from e.symm]
      cases ho : getO σ1 i with
      | box l =>
        simp only [renOb]
        rw [ren_idL f l fun k hk => hf k (hb i l hi ho k hk)]
      | _ => rfl) (fun i j _ _ e => e) (fun o k _ hk => by
      by_cases ho : o < σ1.length
      · rw [hf o ho] at hk; cases hk; exact ⟨ho, rfl⟩
      · simp only [f, if_neg ho] at hk; cases hk)
  refine ⟨h1, fun {u v} hv hk => ?_⟩
  have := hv.ren h2
  rwa [ren_id f u fun k hm => hf k (hk k hm)] at this

/-- a box in memory, over a state without objects -/
theorem Sim.addBox {w0 : World} (h : Sim gs G w F β []) (hF : ∀ b o, F b o → b < w0.heap.size) (hg0 : ∀ g ∈ gs, g < w0.heap.size ∧ ∀ t b, G g = .iface t (.pointer (some b)) → b.block < w0.heap.size) (ht0 : ∀ g cs, G g = .agg cs → g < w0.heap.size)
    {b t : Nat} {cs : Array Value} {l : List V} (hb : w0.heap.size ≤ b) (hh : w.heap[b]? = some (.cells cs t (0, 0))) (hl : Rl (RV gs G w F (fun _ => .pointer (some ⟨b, 0, none⟩)) []) l cs.toList) (h1 : ∀ v ∈ cs.toList, v.oneCell' = true) :
    Sim gs G w F (fun _ => .pointer (some ⟨b, 0, none⟩)) [⟨0, .box l⟩] := by
  have hhas : ∀ i b', Has (fun _ => Value.pointer (some ⟨b, 0, none⟩)) i (getO [⟨0, Ob.box l⟩] i) b' → i = 0 ∧ b' = b := fun i b' hi => by
    cases i with
    | zero => have := hi.2; simp only [vblk, Option.some.injEq] at this; exact ⟨rfl, this.symm⟩
    | succ i => have := hi.1; simp [getO, Live] at this
  refine ⟨h.lt, fun g hg => ?_, fun i => ?_, fun g cs hg => ?_, fun i j b' hij hi hj => ?_, fun i b' o hm hf => ?_⟩
  · obtain ⟨k1, k2, _, t, p, k4, k5, k6, _⟩ := h.glob g hg
    obtain ⟨m1, m2⟩ := hg0 g hg
    exact ⟨k1, k2, fun i hi => by have := (hhas i g hi).2; omega, t, p, k4, k5, k6, fun i hi => by have := (hhas i _ hi).2; have := m2 t p k4; omega⟩
  · cases i with
    | zero =>
      have hc : Carry w F (fun _ => Value.pointer (some ⟨b, 0, none⟩)) [] w F (fun _ => Value.pointer (some ⟨b, 0, none⟩)) [⟨0, .box l⟩] := ⟨fun _ _ h => ⟨h, rfl⟩, Nat.zero_le _, fun i hi => by simp at hi⟩
      exact ⟨b, t, cs, rfl, hh, hl.mono fun u v => RV.mono hc, h1⟩
    | succ i => trivial
  · obtain ⟨k1, k2, _⟩ := h.tab g cs hg
    exact ⟨k1, k2, fun i hi => by have := (hhas i g hi).2; have := ht0 g cs hg; omega⟩
  · exact absurd ((hhas i b' hi).1.trans (hhas j b' hj).1.symm) hij
  · have := (hhas i b' hm.has).2
    have := hF b' o hf
    omega
end

/-! ### states within a function -/
section
variable (ax : Ax) (G : Nat → Value) (w0 : World) (F0 : Nat → Nat → Prop) (β0 : Nat → Value) (σ0 : Store)
/-- the slots and objects stand so, and all has come of the state at the beginning -/
def St (ds : List Deferred) (n : Nat) (e : AEnv) (σ : Store) (a : Act) (w : World) : Prop :=
  ∃ ρ F β, RelD ds n ρ a ∧ RE ax.gs G w F β σ e ρ ∧ Sim ax.gs G w F β σ ∧ Step w0 F0 β0 σ0 w F β σ
/-- of objects alone -/
def Sw (σ : Store) (w : World) : Prop := ∃ F β, Sim ax.gs G w F β σ ∧ Step w0 F0 β0 σ0 w F β σ
end

section
variable {ax : Ax} {ah : AH} {G : Nat → Value} {w0 : World} {F0 : Nat → Nat → Prop} {β0 : Nat → Value} {σ0 : Store} {ds : List Deferred} {n : Nat}

theorem St.piece (hT : AllOk ax.P ax.tys) (hFn : FnsOk ax.P ax.fns) (hm : ax.P.follows .mixedOrders = true) (hQ : EqOk ax) (hE : ErrOk ax.P ax.gs ax.ift ax.tabs G) {F : Fence} (hF : Opn F) {m : Nat} {c : Code} {K : Exit → AEnv → Store → Prop} {e : AEnv} {σ : Store} {a : Act} {w : World}
    (hok : codeOk ax.tys (hintsOf ah) n c = true) (hc : calmC c = true) (h : acW ax ah c K e σ) (hs : St ax G w0 F0 β0 σ0 ds n e σ a w) :
    c.wpIn F m ax.P (fun ex a' w' => ∃ e' σ', K ex e' σ' ∧ St ax G w0 F0 β0 σ0 ds n e' σ' a' w' ∧ (∃ F β F' β', Sim ax.gs G w F β σ ∧ Step w0 F0 β0 σ0 w F β σ ∧ Step w F β σ w' F' β' σ')) a w := by
  obtain ⟨ρ, F1, β1, h1, h2, h3, h4⟩ := hs
  refine wpIn_mono (cW_wpIn hT hFn hm hF c _ _ a w hok hc h1 (acW_run hT hE hQ c h h3 h2 fun ex ρ' w' hp => hp)) ?_
  rintro ex a' w' ⟨ρ', k1, _, e', F', β', σ', k3, k4, k5, k6, _⟩
  exact ⟨e', σ', k3, ⟨ρ', F', β', k1, k4, k5, h4.trans k6⟩, F1, β1, F', β', h3, h4, k6⟩

theorem St.env {e e' : AEnv} {σ : Store} {a : Act} {w : World} (h : St ax G w0 F0 β0 σ0 ds n e σ a w) (he : ∀ t, e' t = e t ∨ e' t = .junk) : St ax G w0 F0 β0 σ0 ds n e' σ a w := by
  obtain ⟨ρ, F, β, h1, h2, h3, h4⟩ := h
  refine ⟨ρ, F, β, h1, fun t => ?_, h3, h4⟩
  rcases he t with k | k
  · rw [k]; exact h2 t
  · rw [k]; exact .junk _
theorem envL_of (e : AEnv) : ∀ (l : List Nat) (t : Nat), envL (l.map fun s => (s, e s)) t = e t ∨ envL (l.map fun s => (s, e s)) t = .junk
  | [], _ => .inr rfl
  | s :: l, t => by
    simp only [List.map_cons, envL]
    cases hb : Nat.beq t s with
    | true => have := Nat.eq_of_beq_eq_true hb; subst this; exact .inl rfl
    | false => exact envL_of e l t
theorem St.envL {e : AEnv} {σ : Store} {a : Act} {w : World} (h : St ax G w0 F0 β0 σ0 ds n e σ a w) (l : List Nat) : St ax G w0 F0 β0 σ0 ds n (envL (l.map fun s => (s, e s))) σ a w := h.env (envL_of e l)

theorem St.sw {e : AEnv} {σ : Store} {a : Act} {w : World} (h : St ax G w0 F0 β0 σ0 ds n e σ a w) : Sw ax G w0 F0 β0 σ0 σ w := by
  obtain ⟨_, F, β, _, _, h3, h4⟩ := h
  exact ⟨F, β, h3, h4⟩
theorem St.calm {β0 : Nat → Value} {e : AEnv} {σ : Store} {a : Act} {w w' : World} (h : St ax G w0 F0 β0 [] ds n e σ a w) (hc : Calmly w0.heap.size w w') : St ax G w0 F0 β0 [] ds n e σ a w' := by
  obtain ⟨ρ, F, β, h1, h2, h3, h4⟩ := h
  obtain ⟨k1, k2⟩ := h3.calm h4 hc
  exact ⟨ρ, F, β, h1, h2.mono ⟨fun b o hf => ⟨hf, hc.cell (h3.lt b o hf)⟩, Nat.le_refl _, fun i _ => ⟨rfl, obLe.refl _⟩⟩, k1, k2⟩
/-- the first objects alone, counted anew -/
theorem Step.trim0 {w : World} {F : Nat → Nat → Prop} {β : Nat → Value} {σ σ1 : Store} (h : Step w0 F0 β0 [] w F β σ) (hg : ∀ i, i < σ1.length → getO σ1 i = getO σ i) : Step w0 F0 β0 [] w F β σ1 := by
  have hh : ∀ i ob, getO σ1 i = ob → Live ob → getO σ i = ob := fun i ob e hlv => by
    rw [← hg i (getO_lt (by rw [e]; intro hd; rw [hd] at hlv; exact hlv)), e]
  refine ⟨h.os, h.tape, h.output, h.size, h.fcell, h.cell, h.block, h.newF, fun i b hb => ?_, fun i b o hb => ?_, Nat.zero_le _, fun i hi => by simp at hi, fun i hi => by simp at hi⟩
  · refine h.newH i b ?_
    rw [hh i _ rfl hb.1]; exact hb
  · refine h.newM i b o ?_
    rw [hh i _ rfl hb.1.1]; exact hb
theorem St.trim {β0 : Nat → Value} {e : AEnv} {σ σ1 : Store} {a : Act} {w : World} (h : St ax G w0 F0 β0 [] ds n e σ a w) (hg : ∀ i, i < σ1.length → getO σ1 i = getO σ i) (hb : ∀ i l, i < σ1.length → getO σ1 i = .box l → ∀ k ∈ idsL l, k < σ1.length) (he : ∀ t, ∀ k ∈ idsV (e t), k < σ1.length) : St ax G w0 F0 β0 [] ds n e σ1 a w := by
  obtain ⟨ρ, F, β, h1, h2, h3, h4⟩ := h
  obtain ⟨k1, k2⟩ := h3.trim hg hb
  exact ⟨ρ, F, β, h1, fun t => k2 (h2 t) (he t), k1, h4.trim0 hg⟩

/-- marks of loops among the calls put off -/
def Marks (n0 : Nat) (ds : List Deferred) (w : World) : Prop := ∃ Ds : List Nat, ds = Ds.map (fun D => { target := .collected D, args := #[] }) ∧ Ds.Nodup ∧ ∀ D ∈ Ds, n0 ≤ D ∧ w.heap[D]? = some (.deferred (some []))
theorem Marks.nil (n0 : Nat) (w : World) : Marks n0 [] w := ⟨[], rfl, List.nodup_nil, fun _ h => by cases h⟩
theorem Marks.keep {n0 : Nat} {w w' : World} (h : Marks n0 ds w) (hk : ∀ (b : Nat) (o : Go.Obj), w.heap[b]? = some o → isLD o = true → w'.heap[b]? = some o) : Marks n0 ds w' := by
  obtain ⟨Ds, h1, h2, h3⟩ := h
  exact ⟨Ds, h1, h2, fun D hD => ⟨(h3 D hD).1, hk _ _ (h3 D hD).2 rfl⟩⟩
theorem Marks.cons {n0 : Nat} {w : World} {D : Nat} (h : Marks n0 ds w) (hD : n0 ≤ D) (hh : w.heap[D]? = some (.deferred (some []))) (hnew : ∀ Ds : List Nat, ds = Ds.map (fun D => { target := .collected D, args := #[] }) → D ∉ Ds) : Marks n0 ({ target := .collected D, args := #[] } :: ds) w := by
  obtain ⟨Ds, h1, h2, h3⟩ := h
  refine ⟨D :: Ds, by rw [h1]; rfl, List.nodup_cons.2 ⟨hnew Ds h1, h2⟩, fun E hE => ?_⟩
  rcases List.mem_cons.1 hE with rfl | hE
  · exact ⟨hD, hh⟩
  · exact h3 E hE

theorem leave_marks {P : Program} {F : Fence} {m : Nat} {fn : Func} {tmps : Array Value} {R : Ending → World → Prop} {n0 : Nat} : ∀ (Ds : List Nat) (w : World), Ds.Nodup → (∀ D ∈ Ds, n0 ≤ D ∧ w.heap[D]? = some (.deferred (some []))) →
    (∀ w', Calmly n0 w w' → ∃ v, (results fn tmps).run P w' = .ok v w' ∧ R (.returned v) w') → LeavesInM F m P fn tmps R (Ds.map fun D => { target := .collected D, args := #[] }) .returning w
  | [], w, _, _, h => h w ⟨rfl, rfl, rfl, Nat.le_refl _, fun _ _ _ => rfl, fun _ _ h _ => h, fun _ o h hl => ⟨o, h, hl⟩⟩
  | D :: Ds, w, hn, hD, h => by
    obtain ⟨h1, h2⟩ := hD D List.mem_cons_self
    have hc : Calmly n0 w (w.putObj D (.deferred none)) := Calmly.put h2 h1 rfl rfl
    obtain ⟨n1, n2⟩ := List.nodup_cons.1 hn
    refine ⟨by simp, .inl ⟨D, _, rfl, run_takeDeferred h2, leave_marks Ds _ n2 (fun E hE => ?_) fun w' hw => h w' (hc.trans hw)⟩⟩
    obtain ⟨k1, k2⟩ := hD E (List.mem_cons_of_mem _ hE)
    exact ⟨k1, (World.putObj_heap_other (fun e => n1 (by rw [← e]; exact hE))).trans k2⟩

/-- **A function that holds ranges over functions**: what its body comes to holds of every call. -/
theorem callsM {N : Nat} {fn : Func} {c : Code} {args : List V} {K : List V → Prop} (hf : ax.P.funcs[N]? = some fn) (hb : fn.body = some c) (hT : AllOk ax.P ax.tys) (hn : Nat.ble args.length fn.ntmps = true)
    (h : ∀ (G : Nat → Value) (w0 : World) (F0 : Nat → Nat → Prop) (β0 : Nat → Value) (a : Act), ErrOk ax.P ax.gs ax.ift ax.tabs G → Sim ax.gs G w0 F0 β0 [] → St ax G w0 F0 β0 [] [] fn.ntmps (fun t => args.getD t .undef) [] a w0 →
      c.wpIn Fence.wide 0 ax.P (fun ex a' w' => (ex = .normal ∨ ex = .ret) ∧ ∃ ds e' σ', Marks w0.heap.size ds w' ∧ St ax G w0 F0 β0 [] ds fn.ntmps e' σ' a' w' ∧ aresL ax e' σ' fn.results.toList fun vs => (∀ u ∈ vs, idsV u = []) ∧ K vs) a w0) : PCalls ax N args K := by
  intro G w F β vals hE hs hr
  have hn := Nat.le_of_ble_eq_true hn
  refine callsIn_wide.1 (callsIn_of_wp_marks (n := 0) hf hb trivial ?_)
  have hrel : RelD [] fn.ntmps (fun t => vals.getD t undef) { tmps := vals.toArray ++ Array.replicate (fn.ntmps - vals.toArray.size) undef, defers := [] } := by
    have hlen := hr.1
    refine ⟨by simp; omega, fun t => ?_, rfl⟩
    simp only [Array.getD_eq_getD_getElem?, List.getD_eq_getElem?_getD]
    by_cases ht : t < vals.length
    · rw [Array.getElem?_append_left (by simpa using ht)]; simp
    · rw [Array.getElem?_append_right (by simpa using ht), List.getElem?_eq_none (by omega), Array.getElem?_replicate]
      split <;> rfl
  have he : RE ax.gs G w F β [] (fun t => args.getD t .undef) (fun t => vals.getD t undef) := fun t => by
    simp only [List.getD_eq_getElem?_getD]
    cases ha : args[t]? with
    | none =>
      have : vals[t]? = none := by rw [List.getElem?_eq_none_iff] at ha ⊢; rw [← hr.1]; exact ha
      rw [this]; exact .undef
    | some u =>
      obtain ⟨x, hx, hux⟩ := hr.get ha
      rw [hx]; exact hux
  refine wpIn_mono (h G w F β _ hE hs ⟨_, F, β, hrel, he, hs, Step.refl _ _ _ _⟩) ?_
  rintro ex a' w' ⟨hex, ds, e', σ', ⟨Ds, rfl, hD1, hD2⟩, ⟨ρ', F', β', k1, k2, k3, k4⟩, hres⟩
  have fin : LeavesInM Fence.wide 0 ax.P fn a'.tmps (fun e w' => ∃ rs obs' F' β' rvals, onlyV K rs obs' ∧ e = .returned (oneOr rvals) ∧ Rl (RV ax.gs G w' F' β' (mkS1 obs')) rs rvals ∧ Sim ax.gs G w' F' β' (mkS1 obs') ∧ Step w F β (mkS []) w' F' β' (mkS1 obs')) a'.defers .returning w' := by
    rw [k1.defers]
    refine leave_marks Ds w' hD1 hD2 fun w2 hc => ?_
    obtain ⟨c1, c2⟩ := k3.calm k4 hc
    have he2 : RE ax.gs G w2 F' β' σ' e' ρ' := k2.mono ⟨fun b o hf => ⟨hf, hc.cell (k3.lt b o hf)⟩, Nat.le_refl _, fun i _ => ⟨rfl, obLe.refl _⟩⟩
    obtain ⟨a0, r0, ea⟩ := k1.split
    have hl := aresL_run (K' := fun xs => ∃ rs obs' F' β' rvals, onlyV K rs obs' ∧ oneOr xs = oneOr rvals ∧ Rl (RV ax.gs G w2 F' β' (mkS1 obs')) rs rvals ∧ Sim ax.gs G w2 F' β' (mkS1 obs') ∧ Step w F β (mkS []) w2 F' β' (mkS1 obs')) c1 he2 _ hres fun us xs hk hrx => by
      obtain ⟨hids, hK⟩ := hk
      obtain ⟨t1, t2⟩ := c1.trim (σ1 := []) (fun i hi => by simp at hi) (fun i l hi => by simp at hi)
      refine ⟨us, [], F', β', xs, hK, rfl, ?_, t1, c2.trim0 fun i hi => absurd hi (Nat.not_lt_zero i)⟩
      exact ⟨hrx.1, fun i u v hu hv => t2 (hrx.2 i u v hu hv) fun k hk => by rw [hids u (List.mem_of_getElem? hu)] at hk; cases hk⟩
    obtain ⟨v, h1, h2⟩ := results_run (P := ax.P) (R := fun v => ∃ rs obs' F' β' rvals, onlyV K rs obs' ∧ v = oneOr rvals ∧ Rl (RV ax.gs G w2 F' β' (mkS1 obs')) rs rvals ∧ Sim ax.gs G w2 F' β' (mkS1 obs') ∧ Step w F β (mkS []) w2 F' β' (mkS1 obs')) hT r0 hl
    have et : a0.tmps = a'.tmps := by rw [ea]; rfl
    rw [et] at h1
    obtain ⟨rs, obs', F2, β2, rvals, m1, m2, m3⟩ := h2
    exact ⟨v, h1, rs, obs', F2, β2, rvals, m1, by rw [m2], m3⟩
  rcases hex with rfl | rfl
  · exact fin
  · exact fin
end

/-! ### parts of code -/
def pre : Nat → Code → Code
  | 0, .seq a _ => a
  | k + 1, .seq a b => .seq a (pre k b)
  | _, c => c
def post : Nat → Code → Code
  | 0, .seq _ b => b
  | k + 1, .seq _ b => post k b
  | _, _ => .skip
def chainB : Nat → Code → Bool
  | 0, .seq _ _ => true
  | k + 1, .seq _ b => chainB k b
  | _, _ => false
inductive Pa where | fst | snd | inn | asg | bod | pre (k : Nat) | post (k : Nat)
def part1 : Pa → Code → Code
  | .fst, .seq a _ => a
  | .snd, .seq _ b => b
  | .inn, .block _ b => b
  | .inn, .loop b => b
  | .asg, .rangeFunc _ _ a _ => a
  | .bod, .rangeFunc _ _ _ b => b
  | .pre k, c => Av.pre k c
  | .post k, c => Av.post k c
  | _, c => c
def part : List Pa → Code → Code
  | [], c => c
  | p :: r, c => part r (part1 p c)

section
variable {ax : Ax} {ah : AH} {G : Nat → Value} {w0 : World} {F0 : Nat → Nat → Prop} {β0 : Nat → Value} {σ0 : Store} {ds : List Deferred} {n : Nat}

theorem St.chain (hT : AllOk ax.P ax.tys) (hFn : FnsOk ax.P ax.fns) (hm : ax.P.follows .mixedOrders = true) (hQ : EqOk ax) (hE : ErrOk ax.P ax.gs ax.ift ax.tabs G) {F : Fence} (hF : Opn F) {m : Nat} (hj : ah.joins = []) {K : Exit → AEnv → Store → Prop} {Q : Exit → Act → World → Prop} (R : World → Prop)
    (hR : ∀ {w1 : World} {F1 : Nat → Nat → Prop} {β1 : Nat → Value} {σ1 : Store} {w2 : World} {F2 : Nat → Nat → Prop} {β2 : Nat → Value} {σ2 : Store}, Sim ax.gs G w1 F1 β1 σ1 → Step w0 F0 β0 σ0 w1 F1 β1 σ1 → Step w1 F1 β1 σ1 w2 F2 β2 σ2 → R w1 → R w2) :
    ∀ (k : Nat) {c : Code} {e : AEnv} {σ : Store} {a : Act} {w : World}, chainB k c = true → codeOk ax.tys (hintsOf ah) n (pre k c) = true → calmC (pre k c) = true → acW ax ah (pre k c) K e σ → St ax G w0 F0 β0 σ0 ds n e σ a w → R w →
    (∀ ex e' σ' a' w', K ex e' σ' → St ax G w0 F0 β0 σ0 ds n e' σ' a' w' → R w' → Exit.then ((post k c).wpIn F m ax.P Q) Q ex a' w') → c.wpIn F m ax.P Q a w := by
  intro k
  induction k with
  | zero =>
    intro c e σ a w hcb hok hc h hs hRw hK
    cases c with
    | seq x y =>
      refine wpIn_seq (wpIn_mono (hs.piece hT hFn hm hQ hE hF hok hc h) ?_)
      rintro ex a' w' ⟨e', σ', h1, h2, F1, β1, F2, β2, h3, h4, h5⟩
      exact hK ex e' σ' a' w' h1 h2 (hR h3 h4 h5 hRw)
    | _ => cases hcb
  | succ k ih =>
    intro c e σ a w hcb hok hc h hs hRw hK
    cases c with
    | seq x y =>
      simp only [pre, codeOk, calmC, Bool.and_eq_true] at hok hc
      simp only [pre, acW, hj, lookO] at h
      refine wpIn_seq (wpIn_mono (hs.piece hT hFn hm hQ hE hF hok.1 hc.1 h) ?_)
      rintro ex a' w' ⟨e', σ', h1, h2, F1, β1, F2, β2, h3, h4, h5⟩
      have hr := hR h3 h4 h5 hRw
      cases ex with
      | normal => exact ih hcb hok.2 hc.2 h1 h2 hr hK
      | _ => exact hK _ e' σ' a' w' h1 h2 hr
    | _ => cases hcb
end
end Go.Av
end

/- part AvY -/
section
namespace Go.Av
open Go.Vx Go.RowKit

theorem zip_map (e : AEnv) : ∀ l : List Nat, l.zip (l.map e) = l.map fun s => (s, e s)
  | [] => rfl
  | s :: l => by simp [zip_map e l]

section
variable {ax : Ax} {ah : AH} {G : Nat → Value} {w0 : World} {F0 : Nat → Nat → Prop} {β0 : Nat → Value} {σ0 : Store} {ds : List Deferred} {n : Nat}

theorem St.size {e : AEnv} {σ : Store} {a : Act} {w : World} (h : St ax G w0 F0 β0 σ0 ds n e σ a w) : a.tmps.size = n ∧ a.defers = ds := by
  obtain ⟨_, _, _, h1, _⟩ := h; exact ⟨h1.size, h1.defers⟩
theorem St.int {e : AEnv} {σ : Store} {a : Act} {w : World} (h : St ax G w0 F0 β0 σ0 ds n e σ a w) {t : Nat} {k : IntKind} {i : Int} (he : e t = .int k i) : a.tmps.getD t undef = .int k i := by
  obtain ⟨ρ, _, _, h1, h2, _⟩ := h
  have := h2 t; rw [he] at this; rw [h1.at_, this.int_inv]
theorem St.bool {e : AEnv} {σ : Store} {a : Act} {w : World} (h : St ax G w0 F0 β0 σ0 ds n e σ a w) {t : Nat} {b : Bool} (he : e t = .bool b) : a.tmps.getD t undef = .bool b := by
  obtain ⟨ρ, _, _, h1, h2, _⟩ := h
  have := h2 t; rw [he] at this; rw [h1.at_, this.bool_inv]
theorem St.str {e : AEnv} {σ : Store} {a : Act} {w : World} (h : St ax G w0 F0 β0 σ0 ds n e σ a w) {t : Nat} {s : ByteArray} (he : e t = .str s) : a.tmps.getD t undef = .string s := by
  obtain ⟨ρ, _, _, h1, h2, _⟩ := h
  have := h2 t; rw [he] at this; rw [h1.at_, this.str_inv]

/-- a piece: what its slots hold behind it -/
theorem St.run (hT : AllOk ax.P ax.tys) (hFn : FnsOk ax.P ax.fns) (hm : ax.P.follows .mixedOrders = true) (hQ : EqOk ax) (hE : ErrOk ax.P ax.gs ax.ift ax.tabs G) {F : Fence} (hF : Opn F) {m : Nat} {c : Code} {K : Exit → List V → Store → Prop} {slots : List Nat} {sl : AEnv → List V} {e : AEnv} {σ : Store} {a : Act} {w : World}
    (hsl : ∀ e, sl e = slots.map e) (hok : codeOk ax.tys (hintsOf ah) n c = true) (hc : calmC c = true) (h : acW ax ah c (fun ex e σ => K ex (sl e) σ) e σ) (hs : St ax G w0 F0 β0 σ0 ds n e σ a w) :
    c.wpIn F m ax.P (fun ex a' w' => ∃ vs σ', K ex vs σ' ∧ St ax G w0 F0 β0 σ0 ds n (Av.envL (slots.zip vs)) σ' a' w' ∧ (∀ t, t ∉ assigned (hintsOf ah) c → a'.tmps.getD t undef = a.tmps.getD t undef) ∧
      (∃ F β F' β', Sim ax.gs G w F β σ ∧ Step w0 F0 β0 σ0 w F β σ ∧ Step w F β σ w' F' β' σ')) a w := by
  obtain ⟨ρ, F1, β1, h1, h2, h3, h4⟩ := hs
  refine wpIn_mono (cW_wpIn hT hFn hm hF c _ _ a w hok hc h1 (acW_run hT hE hQ c h h3 h2 fun ex ρ' w' hp => hp)) ?_
  rintro ex a' w' ⟨ρ', k1, _, e', F', β', σ', k3, k4, k5, k6, k7⟩
  have hst : St ax G w0 F0 β0 σ0 ds n e' σ' a' w' := ⟨ρ', F', β', k1, k4, k5, h4.trans k6⟩
  refine ⟨sl e', σ', k3, ?_, fun t ht => ?_, F1, β1, F', β', h3, h4, k6⟩
  · rw [hsl, zip_map]; exact hst.envL slots
  · rw [k1.at_, h1.at_]; exact k7 t ht

theorem St.chainR (hT : AllOk ax.P ax.tys) (hFn : FnsOk ax.P ax.fns) (hm : ax.P.follows .mixedOrders = true) (hQ : EqOk ax) (hE : ErrOk ax.P ax.gs ax.ift ax.tabs G) {F : Fence} (hF : Opn F) {m : Nat} (hj : ah.joins = []) {K : Exit → List V → Store → Prop} {slots : List Nat} {sl : AEnv → List V} {Q : Exit → Act → World → Prop} (k : Nat) {c c0 : Code} (hp : Av.pre k c = c0) {e : AEnv} {σ : Store} {a : Act} {w : World}
    (hsl : ∀ e, sl e = slots.map e) (hcb : chainB k c = true) (hok : codeOk ax.tys (hintsOf ah) n c0 = true) (hc : calmC c0 = true) (h : acW ax ah c0 (fun ex e σ => K ex (sl e) σ) e σ) (hs : St ax G w0 F0 β0 σ0 ds n e σ a w)
    (hK : ∀ ex vs σ' a' w', K ex vs σ' → St ax G w0 F0 β0 σ0 ds n (Av.envL (slots.zip vs)) σ' a' w' → Exit.then ((Av.post k c).wpIn F m ax.P Q) Q ex a' w') : c.wpIn F m ax.P Q a w := by
  subst hp
  refine St.chain hT hFn hm hQ hE hF hj (fun _ => True) (fun _ _ _ _ => trivial) k hcb hok hc h hs trivial ?_
  intro ex e' σ' a' w' h1 h2 _
  exact hK ex _ σ' a' w' h1 (by rw [hsl, zip_map]; exact h2.envL slots)

theorem St.chainM (hT : AllOk ax.P ax.tys) (hFn : FnsOk ax.P ax.fns) (hm : ax.P.follows .mixedOrders = true) (hQ : EqOk ax) (hE : ErrOk ax.P ax.gs ax.ift ax.tabs G) {F : Fence} (hF : Opn F) {m : Nat} (hj : ah.joins = []) {K : Exit → List V → Store → Prop} {slots : List Nat} {sl : AEnv → List V} {Q : Exit → Act → World → Prop} (k : Nat) {c c0 : Code} (hp : Av.pre k c = c0) {e : AEnv} {σ : Store} {a : Act} {w : World} {n0 : Nat} (hM : Marks n0 ds w)
    (hsl : ∀ e, sl e = slots.map e) (hcb : chainB k c = true) (hok : codeOk ax.tys (hintsOf ah) n c0 = true) (hc : calmC c0 = true) (h : acW ax ah c0 (fun ex e σ => K ex (sl e) σ) e σ) (hs : St ax G w0 F0 β0 σ0 ds n e σ a w)
    (hK : ∀ ex vs σ' a' w', K ex vs σ' → St ax G w0 F0 β0 σ0 ds n (Av.envL (slots.zip vs)) σ' a' w' → Marks n0 ds w' → Exit.then ((Av.post k c).wpIn F m ax.P Q) Q ex a' w') : c.wpIn F m ax.P Q a w := by
  subst hp
  refine St.chain hT hFn hm hQ hE hF hj (fun w => Marks n0 ds w) (fun h1 _ h2 h => h.keep fun _ _ hb ho => h2.ld h1 hb ho) k hcb hok hc h hs hM ?_
  intro ex e' σ' a' w' h1 h2 h3
  exact hK ex _ σ' a' w' h1 (by rw [hsl, zip_map]; exact h2.envL slots) h3

theorem listIn_append {F : Fence} {m : Nat} {P : Program} {ops : Array Oper} {Q : Exit → Act → World → Prop} {rest : List Oper} : ∀ (l : List Oper) {a : Act} {w : World},
    wpListIn F m P ops (Exit.then (wpListIn F m P ops Q rest) Q) l a w → wpListIn F m P ops Q (l ++ rest) a w
  | [], _, _, h => h
  | o :: l, a, w, h => by
    simp only [List.cons_append]
    unfold wpListIn at h ⊢
    split at h
    · rename_i hw
      rw [if_pos hw]
      unfold Oper.wpIn at h ⊢
      refine ⟨h.1, ?_⟩
      have h := h.2
      generalize (o.semAt F.round a.eval).run P w = r at h ⊢
      cases r with
      | ok x w' =>
        cases x <;> simp only [Oper.uponIn] at h ⊢
        case value u => exact listIn_append l h
        case skip => exact listIn_append l h
        case defer d => exact listIn_append l h
        case enter f args =>
          refine ⟨h.1, CallsIn.mono h.2 fun e w'' he => ?_⟩
          cases e with
          | returned u => exact listIn_append l he
          | panicked c => exact he
          | outgrown => exact he
        case row row args => exact ⟨h.1, RowsIn.mono h.2 fun u w'' he => listIn_append l he⟩
        case round l' f tmps assign body =>
          refine ⟨h.1, RoundIn.mono h.2 fun e w'' he => ?_⟩
          cases e with
          | returned u => exact listIn_append l he
          | panicked c => exact he
          | outgrown => exact he
      | halt x w' => cases x <;> simp only [Oper.uponIn] at h ⊢ <;> exact h
    · rename_i hw
      rw [if_neg hw]
      exact ⟨h.1, listIn_append l h.2⟩

/-- the first operations of a region -/
theorem St.list (hT : AllOk ax.P ax.tys) (hFn : FnsOk ax.P ax.fns) (hQ : EqOk ax) (hE : ErrOk ax.P ax.gs ax.ift ax.tabs G) {F : Fence} (hF : Opn F) {m : Nat} {ops : Array Oper} {l rest : List Oper} {Q : Exit → Act → World → Prop} {K : AEnv → Store → Prop} {e : AEnv} {σ : Store} {a : Act} {w : World}
    (hd : (l.all fun o => match o.dst with | some d => Nat.ble (d + 1) n | none => true) = true) (hc : Vx.calm l = true) (h : areg ax ah ops l e σ K) (hs : St ax G w0 F0 β0 σ0 ds n e σ a w)
    (hK : ∀ e' σ' a' w', K e' σ' → St ax G w0 F0 β0 σ0 ds n e' σ' a' w' → (∀ t, (∀ o ∈ l, o.dst ≠ some t) → a'.tmps.getD t undef = a.tmps.getD t undef) →
      (∃ F β F' β', Sim ax.gs G w F β σ ∧ Step w0 F0 β0 σ0 w F β σ ∧ Step w F β σ w' F' β' σ') → wpListIn F m ax.P ops Q rest a' w') : wpListIn F m ax.P ops Q (l ++ rest) a w := by
  obtain ⟨ρ, F1, β1, h1, h2, h3, h4⟩ := hs
  obtain ⟨a0, hr0, ea⟩ := h1.split
  let L : List Nat := l.filterMap (·.dst)
  have hL : ∀ o ∈ l, ∀ d, o.dst = some d → d ∈ L := fun o ho d hdd => List.mem_filterMap.2 ⟨o, ho, hdd⟩
  have hd' : ∀ o ∈ l, ∀ d, o.dst = some d → d < n ∧ d ∈ L := fun o ho d hdd => by
    have := List.all_eq_true.1 hd o ho
    rw [hdd] at this
    exact ⟨Nat.le_of_ble_eq_true this, hL o ho d hdd⟩
  have hW := areg_run (ah := ah) hT hE hQ (L := L) l hL h h3 h2 (fun ρ' w' hp => hp)
  have h5 := regW_wp (Q := fun ex a' w' => ex = .normal ∧ ∃ ρ', Rel n ρ' a' ∧ Frm L ρ ρ' ∧ Post ax.gs G L ρ w F1 β1 σ K ρ' w') hT hFn l ρ a0 w hd' hr0 (fun e' a' w' k1 k2 k3 => ⟨rfl, e', k1, k2, k3⟩) hW
  rw [ea]
  refine listIn_append l (list_in hF (fun a' w' h6 => ?_) (fun _ _ _ hp => by simp at hp) (fun _ _ hp => by simp at hp) l a0 w (calm_elim hc) h5)
  obtain ⟨_, ρ', k1, k2, e', F', β', σ', k3, k4, k5, k6, _⟩ := h6
  have kd : RelD ds n ρ' (more a' ds) := .of k1
  refine hK e' σ' _ w' k3 ⟨ρ', F', β', kd, k4, k5, h4.trans k6⟩ (fun t ht => ?_) ⟨F1, β1, F', β', h3, h4, k6⟩
  rw [kd.at_, h1.at_]
  refine k2 t fun hm => ?_
  obtain ⟨o, ho, hoo⟩ := List.mem_filterMap.1 hm
  exact ht o ho hoo
end

theorem St.put {ax : Ax} {G : Nat → Value} {w0 : World} {F0 : Nat → Nat → Prop} {β0 : Nat → Value} {σ0 : Store} {ds : List Deferred} {n : Nat} {e : AEnv} {σ : Store} {a : Act} {w : World} (h : St ax G w0 F0 β0 σ0 ds n e σ a w) {d : Nat} (hd : d < n) (v : Value) :
    St ax G w0 F0 β0 σ0 ds n (fun t => cond (Nat.beq t d) .junk (e t)) σ (a.put (some d) v) w ∧ (a.put (some d) v).tmps.getD d undef = v ∧ ∀ t, t ≠ d → (a.put (some d) v).tmps.getD t undef = a.tmps.getD t undef := by
  obtain ⟨ρ, F, β, h1, h2, h3, h4⟩ := h
  obtain ⟨a0, r0, ea⟩ := h1.split
  have r1 := r0.put (some d) v (fun x hx => by cases hx; exact hd)
  have kd : RelD ds n (ρ.put (some d) v) (a.put (some d) v) := by rw [ea, more_put]; exact .of r1
  refine ⟨⟨_, F, β, kd, fun t => ?_, h3, h4⟩, ?_, fun t ht => ?_⟩
  · simp only [Env.put]
    cases hb : Nat.beq t d with
    | true => exact .junk _
    | false => exact h2 t
  · rw [kd.at_]; simp [Env.put]
  · rw [kd.at_, h1.at_]; exact put_ne (fun e => ht (by cases e; rfl))
theorem envL_sub {e : AEnv} : ∀ (L : List (Nat × V)), (∀ x ∈ L, e x.1 = x.2) → ∀ t, envL L t = e t ∨ envL L t = .junk
  | [], _, _ => .inr rfl
  | x :: L, h, t => by
    simp only [envL]
    cases hb : Nat.beq t x.1 with
    | true => have := Nat.eq_of_beq_eq_true hb; subst this; exact .inl (h x List.mem_cons_self).symm
    | false => exact envL_sub L (fun y hy => h y (List.mem_cons_of_mem _ hy)) t
theorem move_op {F : Fence} (hF : Opn F) {m : Nat} {P : Program} {o : Oper} {x : Operand} {a : Act} {w : World} {next : Act → World → Prop} {Q : Exit → Act → World → Prop} (hop : o.op = .move x) (h : next (a.put o.dst (a.eval x)) w) : o.wpIn F m P a w next Q := by
  unfold Oper.wpIn
  refine ⟨fun f _ => hF.fn f, ?_⟩
  rw [Oper.semAt_eq _ _ _ (fun c' h => by rw [hop] at h; cases h)]
  have hrun : (execOp a.eval o).run P w = .ok (.value (a.eval x)) w := by
    unfold execOp; rw [hop]; simp
  rw [hrun]
  exact h
theorem wantedD {o : Oper} {ops : Array Oper} {a : Act} {j s : Nat} {want b : Bool} (hg : o.guard = some (j, want)) (hs : slotOf ops j = some s) (hb : a.tmps.getD s undef = .bool b) : Region.wanted o (yielded ops a.tmps) = (b == want) :=
  wanted_some (n := a.tmps.size) (e := fun t => a.tmps.getD t undef) (a := { a with defers := [] }) ⟨rfl, fun _ => rfl, rfl⟩ hg hs hb

/-- a call of a round -/
theorem yield_op {F : Fence} (hF : Opn F) {P : Program} {o : Oper} {c : Call} {x : Operand} {l : Nat} {vs : Array Value} {a : Act} {w : World} {next : Act → World → Prop} {Q : Exit → Act → World → Prop} {R : Ending → World → Prop}
    (hop : o.op = .call c) (hx : c.callee = .value x) (hv : a.eval x = .func (.yield l) #[] #[]) (hvs : c.args.map a.eval = vs) (hy : YieldAt F 0 P l vs w R)
    (hR : ∀ e w', R e w' → ∃ v, e = .returned v ∧ next (a.put o.dst v) w') : o.wpIn F 0 P a w next Q := by
  obtain ⟨fn, tmps, assign, body, h1, h2⟩ := hy
  unfold Oper.wpIn
  refine ⟨fun f _ => hF.fn f, ?_⟩
  rw [Oper.semAt_eq _ _ _ (fun c' h => by rw [hop] at h; cases h)]
  have hrun : (execOp a.eval o).run P w = .ok (.round l fn tmps assign body) w := by
    unfold execOp
    rw [hop]
    simp only [resolve, hx, hv, hvs]
    simpa [go_sem, invoke] using h1
  rw [hrun]
  refine ⟨hF.isSome, (roundIn_any hF h2).mono fun e w' he => ?_⟩
  obtain ⟨v, rfl, hn⟩ := hR e w' he
  exact hn
end Go.Av
end

/- part AvZ -/
section
namespace Go.Av
open Go.Vx Go.RowKit

abbrev Beside := World → (Nat → Nat → Prop) → (Nat → Value) → Store → Prop
/-- what a step leaves so -/
def Shut (C : Beside) : Prop := ∀ {w : World} {F : Nat → Nat → Prop} {β : Nat → Value} {σ : Store} {w' : World} {F' : Nat → Nat → Prop} {β' : Nat → Value} {σ' : Store} {gs : List Nat} {G : Nat → Value}, C w F β σ → Sim gs G w F β σ → Step w F β σ w' F' β' σ' → C w' F' β' σ'

def StC (ax : Ax) (G : Nat → Value) (C : Beside) (ds : List Deferred) (n : Nat) (e : AEnv) (σ : Store) (a : Act) (w : World) : Prop :=
  ∃ ρ F β, RelD ds n ρ a ∧ RE ax.gs G w F β σ e ρ ∧ Sim ax.gs G w F β σ ∧ C w F β σ
def SwC (ax : Ax) (G : Nat → Value) (C : Beside) (σ : Store) (w : World) : Prop := ∃ F β, Sim ax.gs G w F β σ ∧ C w F β σ

section
variable {ax : Ax} {ah : AH} {G : Nat → Value} {C : Beside} {ds : List Deferred} {n : Nat}

theorem StC.size {e : AEnv} {σ : Store} {a : Act} {w : World} (h : StC ax G C ds n e σ a w) : a.tmps.size = n ∧ a.defers = ds := by
  obtain ⟨_, _, _, h1, _⟩ := h; exact ⟨h1.size, h1.defers⟩
theorem StC.sw {e : AEnv} {σ : Store} {a : Act} {w : World} (h : StC ax G C ds n e σ a w) : SwC ax G C σ w := by
  obtain ⟨_, F, β, _, _, h3, h4⟩ := h; exact ⟨F, β, h3, h4⟩
theorem StC.env {e e' : AEnv} {σ : Store} {a : Act} {w : World} (h : StC ax G C ds n e σ a w) (he : ∀ t, e' t = e t ∨ e' t = .junk) : StC ax G C ds n e' σ a w := by
  obtain ⟨ρ, F, β, h1, h2, h3, h4⟩ := h
  refine ⟨ρ, F, β, h1, fun t => ?_, h3, h4⟩
  rcases he t with k | k
  · rw [k]; exact h2 t
  · rw [k]; exact .junk _
theorem StC.run (hC : Shut C) (hT : AllOk ax.P ax.tys) (hFn : FnsOk ax.P ax.fns) (hm : ax.P.follows .mixedOrders = true) (hQ : EqOk ax) (hE : ErrOk ax.P ax.gs ax.ift ax.tabs G) {F : Fence} (hF : Opn F) {m : Nat} {c : Code} {K : Exit → List V → Store → Prop} {slots : List Nat} {sl : AEnv → List V} {e : AEnv} {σ : Store} {a : Act} {w : World}
    (hsl : ∀ e, sl e = slots.map e) (hok : codeOk ax.tys (hintsOf ah) n c = true) (hc : calmC c = true) (h : acW ax ah c (fun ex e σ => K ex (sl e) σ) e σ) (hs : StC ax G C ds n e σ a w) :
    c.wpIn F m ax.P (fun ex a' w' => ∃ vs σ', K ex vs σ' ∧ StC ax G C ds n (Av.envL (slots.zip vs)) σ' a' w' ∧ (∀ t, t ∉ assigned (hintsOf ah) c → a'.tmps.getD t undef = a.tmps.getD t undef) ∧
      (∃ F β F' β', Sim ax.gs G w F β σ ∧ C w F β σ ∧ Step w F β σ w' F' β' σ')) a w := by
  obtain ⟨ρ, F1, β1, h1, h2, h3, h4⟩ := hs
  refine wpIn_mono (cW_wpIn hT hFn hm hF c _ _ a w hok hc h1 (acW_run hT hE hQ c h h3 h2 fun ex ρ' w' hp => hp)) ?_
  rintro ex a' w' ⟨ρ', k1, _, e', F', β', σ', k3, k4, k5, k6, k7⟩
  refine ⟨sl e', σ', k3, ?_, fun t ht => ?_, F1, β1, F', β', h3, h4, k6⟩
  · rw [hsl, zip_map]; exact StC.env ⟨ρ', F', β', k1, k4, k5, hC h4 h3 k6⟩ (envL_of e' slots)
  · rw [k1.at_, h1.at_]; exact k7 t ht

/-- slots and objects of one's own -/
theorem StC.of {L : List (Nat × V)} {σ : Store} {a : Act} {w : World} {F : Nat → Nat → Prop} {β : Nat → Value} (hs : a.tmps.size = n) (hd : a.defers = ds) (hL : ∀ x ∈ L, RV ax.gs G w F β σ x.2 (a.tmps.getD x.1 undef)) (h3 : Sim ax.gs G w F β σ) (h4 : C w F β σ) : StC ax G C ds n (Av.envL L) σ a w := by
  refine ⟨fun t => a.tmps.getD t undef, F, β, ⟨hs, fun _ => rfl, hd⟩, fun t => ?_, h3, h4⟩
  induction L with
  | nil => exact .junk _
  | cons x L ih =>
    simp only [Av.envL]
    cases hb : Nat.beq t x.1 with
    | true => have := Nat.eq_of_beq_eq_true hb; subst this; exact hL x List.mem_cons_self
    | false => exact ih fun x hx => hL x (List.mem_cons_of_mem _ hx)
end

def zero (σ : Store) : Store := σ.map fun o => ⟨0, o.ob⟩
theorem zero_get (σ : Store) (i : Nat) : getO (zero σ) i = getO σ i := by
  simp only [getO, zero, List.getElem?_map]
  cases σ[i]? <;> rfl
theorem zero_length (σ : Store) : (zero σ).length = σ.length := by simp [zero]

/-- the first objects, counted anew -/
theorem take_get {σ : Store} {k i : Nat} (h : i < k) : getO ((zero σ).take k) i = getO σ i := by
  rw [← zero_get σ i]
  simp only [getO, List.getElem?_take, if_pos h]
theorem take_len {σ : Store} {k i : Nat} (h : i < ((zero σ).take k).length) : i < k := by rw [List.length_take] at h; omega

/-- no object's number from k on stands in the first k boxes -/
def closedB (k : Nat) (σ : Store) : Bool := ((zero σ).take k).all fun o => match o.ob with | .box l => (idsL l).all fun j => Nat.blt j ((zero σ).take k).length | _ => true
theorem closedB_elim {k : Nat} {σ : Store} (h : closedB k σ = true) : ∀ i l, i < ((zero σ).take k).length → getO ((zero σ).take k) i = .box l → ∀ j ∈ idsL l, j < ((zero σ).take k).length := by
  intro i l hi hl j hj
  have hm : ((zero σ).take k)[i] ∈ (zero σ).take k := List.getElem_mem hi
  have := List.all_eq_true.1 h _ hm
  have e : ((zero σ).take k)[i].ob = .box l := by
    simpa [getO, List.getElem?_eq_getElem hi] using hl
  rw [e] at this
  have := List.all_eq_true.1 this j hj
  exact Nat.le_of_ble_eq_true this

/-- what comes of a state: from the beginning, and from the loop's -/
def CC (w0 : World) (F0 : Nat → Nat → Prop) (β0 : Nat → Value) (wL : World) (FL : Nat → Nat → Prop) (βL : Nat → Value) (σL : Store) : Beside :=
  fun w F β σ => Step w0 F0 β0 [] w F β σ ∧ Carry wL FL βL σL w F β σ

section
variable {gs : List Nat} {G : Nat → Value} {w0 : World} {F0 : Nat → Nat → Prop} {β0 : Nat → Value} {wL : World} {FL : Nat → Nat → Prop} {βL : Nat → Value} {σL : Store}

theorem Carry.trans {w F β σ w1 F1 β1 σ1 w2 F2 β2 σ2} (h : Carry w F β σ w1 F1 β1 σ1) (k : Carry w1 F1 β1 σ1 w2 F2 β2 σ2) : Carry w F β σ w2 F2 β2 σ2 :=
  ⟨fun b o hf => ⟨(k.f b o (h.f b o hf).1).1, (k.f b o (h.f b o hf).1).2.trans (h.f b o hf).2⟩, Nat.le_trans h.len k.len, fun i hi => by
    have h1 := h.ext i hi
    have h2 := k.ext i (Nat.lt_of_lt_of_le hi h.len)
    exact ⟨h2.1.trans h1.1, h1.2.trans h2.2⟩⟩
theorem Carry.refl (w : World) (F : Nat → Nat → Prop) (β : Nat → Value) (σ : Store) : Carry w F β σ w F β σ := ⟨fun _ _ h => ⟨h, rfl⟩, Nat.le_refl _, fun _ _ => ⟨rfl, obLe.refl _⟩⟩

theorem CC.shut : Shut (CC w0 F0 β0 wL FL βL σL) := fun h _ hs => ⟨h.1.trans hs, h.2.trans hs.carry⟩
theorem CC.calm {w w' : World} {F : Nat → Nat → Prop} {β : Nat → Value} {σ : Store} (h : CC w0 F0 β0 wL FL βL σL w F β σ) (hs : Sim gs G w F β σ) {N : Nat} (hc : Calmly N w w') (hN : w0.heap.size ≤ N) : Sim gs G w' F β σ ∧ CC w0 F0 β0 wL FL βL σL w' F β σ := by
  obtain ⟨k1, k2⟩ := hs.calm h.1 (hc.mono hN)
  exact ⟨k1, k2, h.2.trans ⟨fun b o hf => ⟨hf, hc.cell (hs.lt b o hf)⟩, Nat.le_refl _, fun _ _ => ⟨rfl, obLe.refl _⟩⟩⟩
theorem CC.take {w : World} {F : Nat → Nat → Prop} {β : Nat → Value} {σ : Store} (h : CC w0 F0 β0 wL FL βL σL w F β σ) (hs : Sim gs G w F β σ) {k : Nat} (hk : closedB k σ = true) (hL : σL.length ≤ ((zero σ).take k).length) :
    Sim gs G w F β ((zero σ).take k) ∧ CC w0 F0 β0 wL FL βL σL w F β ((zero σ).take k) := by
  obtain ⟨k1, _⟩ := hs.trim (σ1 := (zero σ).take k) (fun i hi => take_get (take_len hi)) (closedB_elim hk)
  refine ⟨k1, h.1.trim0 fun i hi => take_get (take_len hi), h.2.f, hL, fun i hi => ?_⟩
  have e := h.2.ext i hi
  rw [take_get (take_len (Nat.lt_of_lt_of_le hi hL))]
  exact e
/-- objects of the loop's beginning lie ahead of it -/
theorem Carry.old_has {w : World} {F : Nat → Nat → Prop} {β : Nat → Value} {σ : Store} (h : Carry wL FL βL σL w F β σ) (hs : Sim gs G wL FL βL σL) : ∀ i b, i < σL.length → Has β i (getO σ i) b → b < wL.heap.size := by
  intro i b hi hb
  obtain ⟨e1, e2⟩ := h.ext i hi
  refine hs.has_lt (i := i) ⟨?_, by rw [← e1]; exact hb.2⟩
  have := hb.1
  cases h0 : getO σL i with
  | dead =>
    rw [h0] at e2
    cases h1 : getO σ i <;> rw [h1] at e2 this <;> simp [obLe, Live] at e2 this
  | mp l =>
    have := hs.obj i
    rw [h0] at this
    exact this.elim
  | _ => trivial
theorem Step.kp2 {w w' : World} {F F' : Nat → Nat → Prop} {β β' : Nat → Value} {σ σ' : Store} (h : Step w F β σ w' F' β' σ') {B : Nat} (hB : ∀ i b, i < σ.length → Has β i (getO σ i) b → b < B ∨ verO σ' i = verO σ i) : Kp B w w' := by
  refine ⟨h.size, fun b hb hlt => ?_⟩
  by_cases hh : ∃ i, Has β i (getO σ i) b
  · obtain ⟨i, hi⟩ := hh
    have hil : i < σ.length := getO_lt fun e => by rw [e] at hi; exact no_has_dead hi
    rcases hB i b hil hi with k | k
    · omega
    · exact ((h.ver i hil).2 k).2 b hi
  · exact h.block b hlt fun i hi => hh ⟨i, hi⟩
theorem Marks.step {n0 : Nat} {ds : List Deferred} {w w' : World} {F F' : Nat → Nat → Prop} {β β' : Nat → Value} {σ σ' : Store} (h : Marks n0 ds w) (hs : Sim gs G w F β σ) (hst : Step w F β σ w' F' β' σ') : Marks n0 ds w' :=
  h.keep fun _ _ hb ho => hst.ld hs hb ho
theorem Marks.low {n0 N : Nat} {ds : List Deferred} {w w' : World} (h : Marks n0 ds w) (hN : w.heap.size ≤ N ∨ ∀ Ds : List Nat, ds = Ds.map (fun D => { target := .collected D, args := #[] }) → ∀ D ∈ Ds, D < N) (hc : Calmly N w w') : Marks n0 ds w' := by
  obtain ⟨Ds, h1, h2, h3⟩ := h
  refine ⟨Ds, h1, h2, fun D hD => ⟨(h3 D hD).1, ?_⟩⟩
  have hlt := (Array.getElem?_eq_some_iff.1 (h3 D hD).2).1
  rcases hN with hN | hN
  · exact (hc.low D (by omega) hlt).trans (h3 D hD).2
  · exact (hc.low D (hN Ds h1 D hD) hlt).trans (h3 D hD).2
end

theorem Sim.zero {gs : List Nat} {G : Nat → Value} {w : World} {F : Nat → Nat → Prop} {β : Nat → Value} {σ : Store} (hs : Sim gs G w F β σ) : Sim gs G w F β (zero σ) ∧ ∀ {u : V} {v : Value}, RV gs G w F β σ u v → RV gs G w F β (zero σ) u v := by
  obtain ⟨k1, k2⟩ := hs.trim (σ1 := Av.zero σ) (fun i _ => zero_get σ i) (fun i l hi hl k hk => by
    rw [zero_length]; rw [zero_get] at hl; exact box_ids hs hl k hk)
  exact ⟨k1, fun h => k2 h fun k hk => by rw [zero_length]; exact h.ids k hk⟩
theorem CC.zero {w0 : World} {F0 : Nat → Nat → Prop} {β0 : Nat → Value} {wL : World} {FL : Nat → Nat → Prop} {βL : Nat → Value} {σL : Store} {w : World} {F : Nat → Nat → Prop} {β : Nat → Value} {σ : Store} (h : CC w0 F0 β0 wL FL βL σL w F β σ) : CC w0 F0 β0 wL FL βL σL w F β (zero σ) :=
  ⟨h.1.trim0 fun i _ => zero_get σ i, h.2.f, by rw [zero_length]; exact h.2.len, fun i hi => by rw [zero_get]; exact h.2.ext i hi⟩
theorem StC.zero {ax : Ax} {G : Nat → Value} {w0 : World} {F0 : Nat → Nat → Prop} {β0 : Nat → Value} {wL : World} {FL : Nat → Nat → Prop} {βL : Nat → Value} {σL : Store} {ds : List Deferred} {n : Nat} {e : AEnv} {σ : Store} {a : Act} {w : World} (h : StC ax G (CC w0 F0 β0 wL FL βL σL) ds n e σ a w) : StC ax G (CC w0 F0 β0 wL FL βL σL) ds n e (zero σ) a w := by
  obtain ⟨ρ, F, β, h1, h2, h3, h4⟩ := h
  obtain ⟨k1, k2⟩ := h3.zero
  exact ⟨ρ, F, β, h1, fun t => k2 (h2 t), k1, h4.zero⟩
theorem St.zero {ax : Ax} {G : Nat → Value} {w0 : World} {F0 : Nat → Nat → Prop} {β0 : Nat → Value} {ds : List Deferred} {n : Nat} {e : AEnv} {σ : Store} {a : Act} {w : World} (h : St ax G w0 F0 β0 [] ds n e σ a w) : St ax G w0 F0 β0 [] ds n e (zero σ) a w := by
  obtain ⟨ρ, F, β, h1, h2, h3, h4⟩ := h
  obtain ⟨k1, k2⟩ := h3.zero
  exact ⟨ρ, F, β, h1, fun t => k2 (h2 t), k1, h4.trim0 fun i _ => zero_get σ i⟩
theorem StC.calm {ax : Ax} {G : Nat → Value} {w0 : World} {F0 : Nat → Nat → Prop} {β0 : Nat → Value} {wL : World} {FL : Nat → Nat → Prop} {βL : Nat → Value} {σL : Store} {ds : List Deferred} {n : Nat} {e : AEnv} {σ : Store} {a : Act} {w w' : World} (h : StC ax G (CC w0 F0 β0 wL FL βL σL) ds n e σ a w) {N : Nat} (hc : Calmly N w w') (hN : w0.heap.size ≤ N) : StC ax G (CC w0 F0 β0 wL FL βL σL) ds n e σ a w' := by
  obtain ⟨ρ, F, β, h1, h2, h3, h4⟩ := h
  obtain ⟨k1, k2⟩ := h4.calm h3 hc hN
  exact ⟨ρ, F, β, h1, h2.mono ⟨fun b o hf => ⟨hf, hc.cell (h3.lt b o hf)⟩, Nat.le_refl _, fun i _ => ⟨rfl, obLe.refl _⟩⟩, k1, k2⟩
theorem SwC.calm {ax : Ax} {G : Nat → Value} {w0 : World} {F0 : Nat → Nat → Prop} {β0 : Nat → Value} {wL : World} {FL : Nat → Nat → Prop} {βL : Nat → Value} {σL : Store} {σ : Store} {w w' : World} (h : SwC ax G (CC w0 F0 β0 wL FL βL σL) σ w) {N : Nat} (hc : Calmly N w w') (hN : w0.heap.size ≤ N) : SwC ax G (CC w0 F0 β0 wL FL βL σL) σ w' := by
  obtain ⟨F, β, h3, h4⟩ := h
  obtain ⟨k1, k2⟩ := h4.calm h3 hc hN
  exact ⟨F, β, k1, k2⟩

/-- what a round begins with -/
theorem round_act (a : Act) (p1 p2 : Nat) (x1 x2 : Value) : ({ tmps := ((#[p1, p2] : Array Tmp).zip #[x1, x2]).foldl (fun t (p, v) => t.setIfInBounds p v) a.tmps, defers := [] } : Act) = ((({ a with defers := [] } : Act).put (some p1) x1).put (some p2) x2) := by
  simp only [← Array.foldl_toList, Array.toList_zip, Act.put]
  rfl
theorem put_get {a : Act} {d t : Nat} {v : Value} (hd : d < a.tmps.size) : (a.put (some d) v).tmps.getD t undef = if t = d then v else a.tmps.getD t undef := by
  simp only [Act.put, Array.getD_eq_getD_getElem?]
  by_cases e : t = d
  · subst e; rw [if_pos rfl, Array.getElem?_setIfInBounds_self_of_lt hd]; rfl
  · rw [if_neg e, Array.getElem?_setIfInBounds_ne (fun h => e h.symm)]
theorem put_size (a : Act) (d : Nat) (v : Value) : (a.put (some d) v).tmps.size = a.tmps.size ∧ (a.put (some d) v).defers = a.defers := ⟨by simp [Act.put], rfl⟩
end Go.Av
end
