/- Data: a datum under construction in memory. -/
import Derived.Test.YtkplhlciocbecaaDoorD1H
namespace Go.Vx.Da
open Go.RowKit

inductive RepI (P : Nat → Prop) (w : World) : D → List Value → Prop
  | mk (c : Bool) (i : Int) (s : ByteArray) (ds : List D) (a : Option Addr) (m : Nat) (cs : Nat → List Value) (hm : ds.length ≤ m)
      (ha : ∀ j, j < ds.length → ∃ b o, a = some ⟨b, o, none⟩ ∧ P b ∧ cellsAt w b (o + j * 4) (cs j)) (hr : ∀ j (h : j < ds.length), RepI P w ds[j] (cs j)) :
      RepI P w ⟨c, i, s, ds⟩ [.bool c, .int .i64 i, .string s, .slice a ds.length m]

theorem cellsAt_same {w w' : World} {b : Nat} (h : w'.heap[b]? = w.heap[b]?) {o : Nat} {vs : List Value} (hc : cellsAt w b o vs) : cellsAt w' b o vs :=
  cellsAt_mono (fun o => by simp only [World.cell?, h]) hc

theorem RepI.kept {P : Nat → Prop} {w w' : World} (h : ∀ b, P b → w'.heap[b]? = w.heap[b]?) {d : D} {vs : List Value} (hr : RepI P w d vs) : RepI P w' d vs := by
  induction hr with
  | mk c i s ds a m cs hm ha hr ih =>
    exact .mk c i s ds a m cs hm (fun j hj => by obtain ⟨b, o, h1, h2, h3⟩ := ha j hj; exact ⟨b, o, h1, h2, cellsAt_same (h b h2) h3⟩) ih
theorem RepI.mono {P Q : Nat → Prop} {w : World} (h : ∀ b, P b → Q b) {d : D} {vs : List Value} (hr : RepI P w d vs) : RepI Q w d vs := by
  induction hr with
  | mk c i s ds a m cs hm ha hr ih =>
    exact .mk c i s ds a m cs hm (fun j hj => by obtain ⟨b, o, h1, h2, h3⟩ := ha j hj; exact ⟨b, o, h1, h b h2, h3⟩) ih
theorem RepI.rep {P : Nat → Prop} {B : Nat} {w : World} (h : ∀ b, P b → b < B) {d : D} {vs : List Value} (hr : RepI P w d vs) : Rep B w d vs := by
  induction hr with
  | mk c i s ds a m cs hm ha hr ih =>
    exact .mk c i s ds a m cs hm (fun j hj => by obtain ⟨b, o, h1, h2, h3⟩ := ha j hj; exact ⟨b, o, h1, h b h2, h3⟩) ih
theorem RepI.form {P : Nat → Prop} {w : World} {d : D} {vs : List Value} (h : RepI P w d vs) : ∃ (a : Option Addr) (m : Nat), vs = [.bool d.ctor, .int .i64 d.int, .string d.name, .slice a d.args.length m] := by
  cases h with
  | mk c i s ds a m cs hm ha hr => exact ⟨a, m, rfl⟩

/-- cells of a variable written -/
theorem setStep {w : World} {b o : Nat} {cs : Array Value} {t : TypeId} {vs : List Value} {G : World → Prop} (h : w.heap[b]? = some (.cells cs t (0, 0))) (hl : o + vs.length ≤ cs.size) (h1 : (vs.all fun v => v.oneCell') = true)
    (hG : ∀ w', w'.heap[b]? = some (.cells (setAt cs.toList o vs).toArray t (0, 0)) → (∀ k, k ≠ b → w'.heap[k]? = w.heap[k]?) → w'.heap.size = w.heap.size → w.grownBy w' (some b) → G w') :
    canSt w b o vs ∧ withW (setL w b o vs) G := by
  obtain ⟨g1, g2⟩ := setL_block vs o w cs h
  obtain ⟨e1, e2, e3⟩ := setL_streams (b := b) vs o w
  exact ⟨canSt_of_block h vs o hl h1, hG _ g1 g2 (setL_size b vs o w) ⟨e1, e2, e3, Nat.le_of_eq (setL_size b vs o w).symm, fun k _ hne => g2 k (fun e => hne (by rw [e]))⟩⟩

/-- a whole variable written -/
theorem fillStep {w : World} {b : Nat} {cs : Array Value} {t : TypeId} {vs : List Value} {G : World → Prop} (h : w.heap[b]? = some (.cells cs t (0, 0))) (hl : cs.toList.length = vs.length) (h1 : (vs.all fun v => v.oneCell') = true)
    (hG : ∀ w', w'.heap[b]? = some (.cells vs.toArray t (0, 0)) → (∀ k, k ≠ b → w'.heap[k]? = w.heap[k]?) → w'.heap.size = w.heap.size → w.grownBy w' (some b) → G w') :
    canSt w b 0 vs ∧ withW (setL w b 0 vs) G := by
  refine setStep h (by rw [← Array.length_toList, hl]; omega) h1 fun w' g1 g2 g3 g4 => hG w' ?_ g2 g3 g4
  have := setAt_all vs [] cs.toList hl
  simp only [List.nil_append, List.length_nil] at this
  rw [g1, this]

/-- a constructor's datum that is being made in variable O; the arguments that it has -/
def Out (lo : Nat) (w : World) (O : Nat) (nm : ByteArray) (ds : List D) (v : Value) : Prop :=
  lo ≤ O ∧ w.heap[O]? = some (.cells #[.bool true, .int .i64 0, .string nm, v] 24 (0, 0)) ∧
  ∃ xs : List Value, w.ownsRow (O + 1) 24 4 v ds.length xs ∧
    ∀ j (h : j < ds.length), RepI (fun b => O < b ∧ b < w.heap.size ∧ some b ≠ v.ownBlock) w ds[j] ((xs.drop (j * 4)).take 4)

theorem Out.start {lo O : Nat} {w : World} {nm : ByteArray} (hO : lo ≤ O) (h : w.heap[O]? = some (.cells #[.bool true, .int .i64 0, .string nm, .slice none 0 0] 24 (0, 0))) : Out lo w O nm [] (.slice none 0 0) :=
  ⟨hO, h, [], World.ownsRow_nil _ _ _ _, fun j hj => by simp at hj⟩

theorem Out.lt {lo O : Nat} {w : World} {nm : ByteArray} {ds : List D} {v : Value} (h : Out lo w O nm ds v) : O < w.heap.size := by
  rcases Nat.lt_or_ge O w.heap.size with h1 | h1
  · exact h1
  · have := h.2.1; rw [Array.getElem?_eq_none h1] at this; cases this

theorem Out.kept {lo O : Nat} {w w' : World} {nm : ByteArray} {ds : List D} {v : Value} (h : Out lo w O nm ds v) (hb : ∀ k, O ≤ k → k < w.heap.size → w'.heap[k]? = w.heap[k]?) (hs : w.heap.size ≤ w'.heap.size) : Out lo w' O nm ds v := by
  have hlt := h.lt
  obtain ⟨h1, h2, xs, h3, h4⟩ := h
  refine ⟨h1, (hb O (Nat.le_refl _) hlt).trans h2, xs, own_block h3 fun g hg => ?_, fun j hj => ?_⟩
  · have := h3.lt g hg; exact hb g (by omega) this.2
  · exact ((h4 j hj).kept fun b hP => hb b (by omega) hP.2.1).mono fun b hP => ⟨hP.1, by omega, hP.2.2⟩

theorem Out.slice {lo O : Nat} {w : World} {nm : ByteArray} {ds : List D} {v : Value} (h : Out lo w O nm ds v) : ∃ a c, v = .slice a ds.length c := by
  obtain ⟨_, _, xs, h3, _⟩ := h
  obtain ⟨a, c, e, _⟩ := own_slice h3
  exact ⟨a, c, e⟩

theorem Out.rep {lo O : Nat} {w : World} {nm : ByteArray} {ds : List D} {v : Value} (h : Out lo w O nm ds v) : RepI (fun b => lo ≤ b ∧ b < w.heap.size) w ⟨true, 0, nm, ds⟩ [.bool true, .int .i64 0, .string nm, v] := by
  obtain ⟨h1, h2, xs, h3, h4⟩ := h
  have hrs : ∀ j (h : j < ds.length), RepI (fun b => lo ≤ b ∧ b < w.heap.size) w ds[j] ((xs.drop (j * 4)).take 4) := fun j hj => (h4 j hj).mono fun b hP => ⟨by omega, hP.2.1⟩
  obtain ⟨hxl, ⟨rfl, hn⟩ | ⟨g, cap, cur, rfl, hg, hh, hc1, hc2, hc3, htake⟩⟩ := h3
  · have := RepI.mk (P := fun b => lo ≤ b ∧ b < w.heap.size) (w := w) true 0 nm ds none 0 (fun _ => []) (by omega) (fun j hj => by omega) (fun j hj => by omega)
    rw [hn] at this; exact this
  · refine .mk true 0 nm ds (some ⟨g, 0, none⟩) cap (fun j => (xs.drop (j * 4)).take 4) hc1 (fun j hj => ⟨g, 0, rfl, ⟨by omega, ?_⟩, ?_⟩) hrs
    · rcases Nat.lt_or_ge g w.heap.size with h | h
      · exact h
      · rw [Array.getElem?_eq_none h] at hh; cases hh
    · refine cellsAt_of_block hh _ _ ?_
      have hlen : ((xs.drop (j * 4)).take 4).length = 4 := by simp; omega
      rw [hlen, ← htake, List.drop_take, List.take_take, Nat.zero_add]
      congr 1
      omega

end Go.Vx.Da

namespace Go.Proofs.YtkplhlciocbecaaDoor.Vf
open Go.Vx Go.Vx.Da Go.RowKit

/-- one more argument -/
theorem Out.snoc {lo O : Nat} {w : World} {nm : ByteArray} {ds : List D} {a : Option Addr} {n c : Nat} {d : D} {us : List Value} {G : World → Prop} (h : Out lo w O nm ds (.slice a n c)) (hn : ds.length ≤ 1000)
    (hd : RepI (fun b => O < b ∧ b < w.heap.size ∧ some b ≠ (Value.slice a n c).ownBlock) w d us)
    (hG : ∀ w' a' n' c', Out lo w' O nm (ds ++ [d]) (.slice a' n' c') → Below lo w w' → w.heap.size < w'.heap.size → G w') :
    withW (World.alloc w (.cells us.toArray 24)) fun w1 => ∃ (a1 : Option Addr) (m1 c1 : Nat) (w2 : World), Runs Tryd.prog (Builtin.append_ #[22, 22] 22 #[.slice a n c, .slice (some ⟨w.heap.size, 0, none⟩) 1 1]) w1 (.slice a1 m1 c1) w2 ∧
      (canSt w2 O 3 [.slice a1 m1 c1] ∧ withW (setL w2 O 3 [.slice a1 m1 c1]) G) := by
  obtain ⟨a0, m0, hus⟩ := hd.form
  have hone : (us.all fun v => v.oneCell') = true := by rw [hus]; rfl
  have hul : us.length = 4 := by rw [hus]; rfl
  have hlt := h.lt
  refine box fun w1 at1 hb1 hs1 => ?_
  have h' := h.kept (w' := w1) (fun k _ hk => hb1.block k hk) (by omega)
  have hd1 := hd.kept (w' := w1) fun b hP => hb1.block b hP.2.1
  have hlo := h.1
  obtain ⟨_, hO, xs, hown, hrs⟩ := h'
  obtain ⟨a1, k1, c1, w2, hrun, rfl, hown2, hg, hnx⟩ := append_own (P := Tryd.prog) (ty := 22) ty22 rfl ty24 (by decide) hown (m := 1) (c := 1) (news := us) (by rw [hul]; rfl) (cellsAt_of_block at1 us 0 (by rw [List.drop_zero, List.take_length])) hone (by dsimp only; omega) (by omega) (by omega)
  refine ⟨a1, _, c1, w2, hrun, ?_⟩
  have hOne : some O ≠ (Value.slice a n c).ownBlock := fun e => by have := hown.lt O e.symm; omega
  have hO2 := grown_block hg hO hOne
  refine setStep hO2 (by simp) rfl fun w3 at3 hsame hsz hg3 => ?_
  have hs2 := hg.size
  have hs3 : w3.heap.size = w2.heap.size := hsz
  have keep : ∀ b, b < w1.heap.size → b ≠ O → some b ≠ (Value.slice a n c).ownBlock → w3.heap[b]? = w1.heap[b]? := fun b h1 h2 h3 => (hsame b h2).trans (hg.block b h1 h3)
  have hlast : w1.heap.size ≤ w2.heap.size := hs2
  refine hG w3 a1 _ c1 ⟨hlo, at3, xs ++ us, ?_, fun j hj => ?_⟩ ?_ (by omega)
  · rw [List.length_append, List.length_singleton]
    exact own_block hown2 fun g hg' => hsame g fun e => by have := hown2.lt g hg'; omega
  · have hP : ∀ b, (O < b ∧ b < w1.heap.size ∧ some b ≠ (Value.slice a n c).ownBlock) → (O < b ∧ b < w3.heap.size ∧ some b ≠ (Value.slice a1 (ds.length + 1) c1).ownBlock) := by
      rintro b ⟨p1, p2, p3⟩
      refine ⟨p1, by omega, ?_⟩
      rcases hnx with e | ⟨k, hk, e⟩
      · rw [e]; exact p3
      · rw [e]; intro e'; cases e'; omega
    have hxl := hown.1
    rw [List.length_append, List.length_singleton] at hj
    rcases Nat.lt_or_ge j ds.length with hj' | hj'
    · rw [List.getElem_append_left hj', List.drop_append_of_le_length (by omega), List.take_append_of_le_length (by rw [List.length_drop]; omega)]
      exact ((hrs j hj').kept fun b hb => keep b hb.2.1 (by omega) hb.2.2).mono hP
    · have : j = ds.length := by omega
      subst this
      rw [List.getElem_append_right (Nat.le_refl _), ← hxl, List.drop_left, List.take_of_length_le (by omega)]
      simp only [Nat.sub_self, List.getElem_singleton]
      refine ((hd1.mono (Q := fun b => O < b ∧ b < w1.heap.size ∧ some b ≠ (Value.slice a n c).ownBlock) fun b hb => ⟨hb.1, by omega, hb.2.2⟩).kept fun b hb => keep b hb.2.1 (by omega) hb.2.2).mono hP
  · refine ⟨hg3.os.trans (hg.os.trans hb1.os), hg3.tape.trans (hg.tape.trans hb1.tape), hg3.output.trans (hg.output.trans hb1.output), by omega, fun k hk => ?_⟩
    refine (keep k (by omega) (by omega) fun e => ?_).trans (hb1.block k (by omega))
    have := hown.lt k e.symm; omega

end Go.Proofs.YtkplhlciocbecaaDoor.Vf
