/- Data: what the functions that count nodes come to. -/
import Derived.Test.YtkplhlciocbecaaDoorDaA
import Derived.Test.YtkplhlciocbecaaDoorD1F
namespace Go.Proofs.YtkplhlciocbecaaDoor.Vf
open Go.Vx Go.Vx.Da Go.RowKit

theorem Nodes_spec : ∀ (k : Nat) (d : D), SizeOf.sizeOf d < k → ∀ (B : Nat) (w : World) (vs : List Value), Rep B w d vs → B ≤ w.heap.size →
    Calls Tryd.prog 9 #[.agg vs.toArray] w fun e w' => e = .returned (.int .i64 (min (nodes d : Int) 4097)) ∧ Below w.heap.size w w' := by
  intro k
  induction k with
  | zero => intro d h; omega
  | succ k ih =>
  intro d hk B w vs hr hB
  obtain ⟨a, m, cs, rfl, hm, ha, hrs⟩ := hr.form
  refine (Nodes.calls (R := fun v w' => v = .int .i64 (min (nodes d : Int) 4097) ∧ Below w.heap.size w w') ?_).mono (fun e w' ⟨v, h1, h2, h3⟩ => ⟨by rw [h1, h2], h3⟩)
  unfold Nodes.W
  refine box fun w7 at7 hb7 hs7 => ?_
  refine ⟨_, cell_of_block at7 rfl, ifB (fun hc => ?_) (fun hc => ?_)⟩
  · refine ⟨_, _, _, cell_of_block at7 rfl, fun us w2 => ∃ j : Nat, j ≤ d.args.length ∧ us = [.int .i64 (1 + nodesL (d.args.take j)), .int .i64 j] ∧ 1 + nodesL (d.args.take j) ≤ 4096 ∧ Below w.heap.size w w2,
      fun us _ => match us with | [_, .int _ j] => d.args.length - j.toNat | _ => 0, ⟨0, Nat.zero_le _, rfl, by simp [nodesL], hb7⟩, ?_⟩
    rintro _ us w14 ⟨j, hj, rfl, hn, hb14⟩
    refine ⟨_, _, rfl, ifD (fun hlt => ?_) (fun hge => ?_)⟩
    · have hlt' : j < d.args.length := by omega
      obtain ⟨b, o, rfl, hbB, hcells⟩ := ha j hlt'
      have hcells14 := cellsAt_below hb14 (by omega) hcells
      obtain ⟨a', m', cs', hcs', _⟩ := (hrs j hlt').form
      rw [hcs'] at hcells14
      refine ⟨b, o, rfl, by omega, hlt, _, _, _, _, _, _, hcells14, copyStep rfl rfl fun w28 at28 hb28 hs28 => ?_⟩
      refine ⟨_, _, _, _, _, _, cellsAt_of_block at28 [.bool d.args[j].ctor, .int .i64 d.args[j].int, .string d.args[j].name, .slice a' d.args[j].args.length m'] 0 rfl, ?_⟩
      have h14 := hb14.size
      have hrep : Rep B w28 d.args[j] [.bool d.args[j].ctor, .int .i64 d.args[j].int, .string d.args[j].name, .slice a' d.args[j].args.length m'] := hcs' ▸ ((hrs j hlt').kept hb14 hB).kept hb28 (by omega)
      refine (ih d.args[j] (by have := sizeOf_arg d j hlt'; omega) B w28 _ hrep (by omega)).mono ?_
      rintro e w35 ⟨rfl, hb35⟩
      refine ⟨_, rfl, ?_⟩
      have ht := nodesL_take d.args j hlt'
      have hp := nodes_pos d.args[j]
      have hjn := le_take d.args hj
      have hb35' : Below w.heap.size w w35 := (hb14.trans (hb28.mono h14)).trans (hb35.mono (by omega))
      rw [w64 (x := 1 + (nodesL (d.args.take j) : Int) + min (nodes d.args[j] : Int) 4097) (by omega) (by omega), w64 (x := (j : Int) + 1) (by omega) (by omega)]
      have hle := nodesL_take_le d.args (j + 1)
      refine ifD (fun hgt => ⟨?_, hb35'⟩) (fun hng => ?_)
      · rw [nodes_ctor hc]
        congr 1
        split at hgt <;> rename_i h9
        · rw [if_pos h9]; omega
        · rw [if_neg h9]; omega
      · have h9 : ¬ 4097 < 1 + (nodesL (d.args.take j) : Int) + min (nodes d.args[j] : Int) 4097 := by
          intro h9; rw [if_pos h9] at hng; omega
        rw [if_neg h9] at hng ⊢
        have e1 : (1 + (nodesL (d.args.take j) : Int) + min (nodes d.args[j] : Int) 4097) = 1 + (nodesL (d.args.take (j + 1)) : Int) := by omega
        refine ⟨⟨j + 1, hlt', by rw [e1]; rfl, by omega, hb35'⟩, ?_⟩
        simp only [Int.toNat_natCast]; omega
    · have : j = d.args.length := by omega
      subst this
      rw [List.take_length] at hn ⊢
      exact ⟨by rw [nodes_ctor hc]; congr 1; omega, hb14⟩
  · exact ⟨by rw [nodes_int hc]; rfl, hb7⟩


/-- one round of a loop over the arguments: the element's cells -/
theorem arg_at {B : Nat} {w w14 : World} {d : D} {a : Option Addr} {cs : Nat → List Value} (hB : B ≤ w.heap.size) (hb14 : Below w.heap.size w w14) (ha : ∀ j, j < d.args.length → ∃ b o, a = some ⟨b, o, none⟩ ∧ b < B ∧ cellsAt w b (o + j * 4) (cs j))
    (hrs : ∀ j (h : j < d.args.length), Rep B w d.args[j] (cs j)) {j : Nat} (hlt : j < d.args.length) :
    ∃ b o a' m', a = some ⟨b, o, none⟩ ∧ cellsAt w14 b (o + j * 4) [.bool d.args[j].ctor, .int .i64 d.args[j].int, .string d.args[j].name, .slice a' d.args[j].args.length m'] ∧
      Rep B w14 d.args[j] [.bool d.args[j].ctor, .int .i64 d.args[j].int, .string d.args[j].name, .slice a' d.args[j].args.length m'] := by
  obtain ⟨b, o, rfl, hbB, hcells⟩ := ha j hlt
  have hcells14 := cellsAt_below hb14 (by omega) hcells
  obtain ⟨a', m', cs', hcs', _⟩ := (hrs j hlt).form
  have hr := (hrs j hlt).kept hb14 hB
  rw [hcs'] at hcells14 hr
  exact ⟨b, o, a', m', rfl, hcells14, hr⟩

theorem depthL_take_le (l : List D) (j : Nat) : depthL (l.take j) ≤ depthL l := by
  induction l generalizing j with
  | nil => simp [depthL]
  | cons a r ih =>
    cases j with
    | zero => simp [depthL]
    | succ j => have := ih j; simp only [List.take_succ_cons, depthL]; omega

def mOk (p q : Int) (d : D) : Bool := decide (q + nodes d ≤ 4096 ∧ p + depth d ≤ 201)

theorem measure_spec : ∀ (k : Nat) (d : D), SizeOf.sizeOf d < k → ∀ (B : Nat) (w : World) (vs : List Value) (p q : Int), Rep B w d vs → B ≤ w.heap.size → 1 ≤ p → p ≤ 201 → 0 ≤ q → q ≤ 4096 →
    Calls Tryd.prog 20 #[.agg vs.toArray, .int .i64 p, .int .i64 q] w fun e w' => ∃ r : Int, e = .returned (.tuple #[.int .i64 r, .bool (mOk p q d)]) ∧ (mOk p q d = true → r = q + nodes d) ∧ Below w.heap.size w w' := by
  intro k
  induction k with
  | zero => intro d h; omega
  | succ k ih =>
  intro d hk B w vs p q hr hB hp0 hp1 hq0 hq1
  obtain ⟨a, m, cs, rfl, hm, ha, hrs⟩ := hr.form
  refine (measure.calls (R := fun v w' => ∃ r : Int, v = .tuple #[.int .i64 r, .bool (mOk p q d)] ∧ (mOk p q d = true → r = q + nodes d) ∧ Below w.heap.size w w') ?_).mono (fun e w' ⟨v, h1, r, h2, h3⟩ => ⟨r, by rw [h1, h2], h3⟩)
  unfold measure.W
  have hn0 := nodes_pos d
  have hd0 : 1 ≤ depth d := by cases hc : d.ctor with
    | true => rw [depth_ctor hc]; omega
    | false => rw [depth_int hc]; exact Nat.le_refl _
  refine box fun w9 at9 hb9 hs9 => ?_
  rw [w64 (x := q + 1) (by omega) (by omega)]
  have no : mOk p q d = false → ∀ w' r, Below w.heap.size w w' → ∃ r' : Int, (Value.tuple #[.int .i64 r, .bool false]) = .tuple #[.int .i64 r', .bool (mOk p q d)] ∧ (mOk p q d = true → r' = q + nodes d) ∧ Below w.heap.size w w' :=
    fun hno w' r hb => ⟨r, by rw [hno], ⟨fun h => absurd (hno.symm.trans h) (by decide), hb⟩⟩
  refine ifD (fun h => no (by simp [mOk]; omega) _ _ hb9) (fun hp => ?_)
  refine ifD (fun h => no (by simp [mOk]; omega) _ _ hb9) (fun hq => ?_)
  refine ⟨_, cell_of_block at9 rfl, ifN (fun hc => ?_) (fun hc => ?_)⟩
  · have hn := nodes_int hc; have hd := depth_int hc
    have hok : mOk p q d = true := by simp only [mOk, hn, hd]; exact decide_eq_true (by omega)
    exact ⟨_, by rw [hok], fun _ => by rw [hn]; rfl, hb9⟩
  · have hn := nodes_ctor hc; have hd := depth_ctor hc
    refine ⟨_, _, _, cell_of_block at9 rfl, fun us w2 => ∃ j : Nat, j ≤ d.args.length ∧ us = [.int .i64 (q + 1 + nodesL (d.args.take j)), .int .i64 j] ∧ q + 1 + nodesL (d.args.take j) ≤ 4096 ∧ p + 1 + depthL (d.args.take j) ≤ 201 ∧ Below w.heap.size w w2,
      fun us _ => match us with | [_, .int _ j] => d.args.length - j.toNat | _ => 0, ⟨0, Nat.zero_le _, by simp [nodesL], by simp [nodesL]; omega, by simp [depthL]; omega, hb9⟩, ?_⟩
    rintro _ us w14 ⟨j, hj, rfl, hq2, hp2, hb14⟩
    refine ⟨_, _, rfl, ifD (fun hlt => ?_) (fun hge => ?_)⟩
    · have hlt' : j < d.args.length := by omega
      obtain ⟨b, o, a', m', rfl, hc14, hr14⟩ := arg_at hB hb14 ha hrs hlt'
      have h14 := hb14.size
      have ht := nodesL_take d.args j hlt'
      have hdt := depthL_take d.args j hlt'
      have hjn := le_take d.args hj
      have hle := nodesL_take_le d.args (j + 1)
      have hdle := depthL_take_le d.args (j + 1)
      refine ⟨b, o, rfl, by omega, hlt, _, _, _, _, _, _, hc14, copyStep rfl rfl fun w28 at28 hb28 hs28 => ?_⟩
      refine ⟨_, _, _, _, _, _, cellsAt_of_block at28 [.bool d.args[j].ctor, .int .i64 d.args[j].int, .string d.args[j].name, .slice a' d.args[j].args.length m'] 0 rfl, ?_⟩
      rw [w64 (x := p + 1) (by omega) (by omega)]
      refine (ih d.args[j] (by have := sizeOf_arg d j hlt'; omega) B w28 _ (p + 1) (q + 1 + nodesL (d.args.take j)) (hr14.kept hb28 (by omega)) (by omega) (by omega) (by omega) (by omega) hq2).mono ?_
      rintro e w35 ⟨r, rfl, hr35, hb35⟩
      refine ⟨_, _, rfl, ?_⟩
      have hb35' : Below w.heap.size w w35 := (hb14.trans (hb28.mono h14)).trans (hb35.mono (by omega))
      refine ifN (fun hno => ?_) (fun hyes => ?_)
      · refine no ?_ _ _ hb35'
        simp only [mOk, decide_eq_false_iff_not, not_and] at hno ⊢
        intro h1
        by_cases h2 : q + 1 + (nodesL (d.args.take j) : Int) + nodes d.args[j] ≤ 4096
        · have := hno h2; omega
        · omega
      · have hv := hr35 hyes
        simp only [mOk, decide_eq_true_eq] at hyes
        rw [w64 (x := (j : Int) + 1) (by omega) (by omega), hv]
        refine ⟨⟨j + 1, hlt', ?_, by omega, by omega, hb35'⟩, ?_⟩
        · have e1 : q + 1 + (nodesL (d.args.take j) : Int) + nodes d.args[j] = q + 1 + (nodesL (d.args.take (j + 1)) : Int) := by omega
          rw [e1]; rfl
        · simp only [Int.toNat_natCast]; omega
    · have : j = d.args.length := by omega
      subst this
      rw [List.take_length] at hq2 hp2 ⊢
      have hok : mOk p q d = true := by simp only [mOk, hn, hd]; exact decide_eq_true (by omega)
      exact ⟨_, by rw [hok], fun _ => by rw [hn]; omega, hb14⟩

def good (d : D) : Bool := decide (nodes d ≤ 4096 ∧ depth d ≤ 200)
theorem mOk_good (d : D) : mOk 1 0 d = good d := by
  unfold mOk good
  by_cases h : nodes d ≤ 4096 ∧ depth d ≤ 200
  · rw [decide_eq_true h, decide_eq_true (by omega)]
  · rw [decide_eq_false h, decide_eq_false (by omega)]

theorem Good_spec (d : D) (B : Nat) (w : World) (vs : List Value) (hr : Rep B w d vs) (hB : B ≤ w.heap.size) :
    Calls Tryd.prog 10 #[.agg vs.toArray] w fun e w' => e = .returned (.bool (good d)) ∧ Below w.heap.size w w' := by
  obtain ⟨a, m, cs, rfl, hm, ha, hrs⟩ := hr.form
  refine (Good.calls (R := fun v w' => v = .bool (good d) ∧ Below w.heap.size w w') ?_).mono (fun e w' ⟨v, h1, h2, h3⟩ => ⟨by rw [h1, h2], h3⟩)
  unfold Good.W
  refine box fun w7 at7 hb7 hs7 => ?_
  refine ⟨_, _, _, _, _, _, cellsAt_of_block at7 [.bool d.ctor, .int .i64 d.int, .string d.name, .slice a d.args.length m] 0 rfl, ?_⟩
  refine (measure_spec _ d (Nat.lt_succ_self _) B w7 _ 1 0 (hr.kept hb7 hB) (by omega) (by omega) (by omega) (by omega) (by omega)).mono ?_
  rintro e w' ⟨r, rfl, _, hb⟩
  exact ⟨_, _, rfl, by rw [mOk_good], hb7.trans (hb.mono (by omega))⟩

/-- what the reference's count tells -/
def Cnt (d : D) (p n m : Int) : Prop := 1 ≤ n ∧ n ≤ 4097 ∧ p ≤ m ∧ m ≤ 201 ∧ (m ≤ 200 → n = min (nodes d : Int) 4097) ∧ (n ≤ 4096 → (m ≤ 200 ↔ p + depth d ≤ 201)) ∧ (201 ≤ m → 202 ≤ p + depth d)

theorem count_spec : ∀ (k : Nat) (d : D), SizeOf.sizeOf d < k → ∀ (B : Nat) (w : World) (vs : List Value) (p : Int), Rep B w d vs → B ≤ w.heap.size → 1 ≤ p → p ≤ 201 →
    Calls Tryd.prog 19 #[.agg vs.toArray, .int .i64 p] w fun e w' => ∃ n m : Int, e = .returned (.tuple #[.int .i64 n, .int .i64 m]) ∧ Cnt d p n m ∧ Below w.heap.size w w' := by
  intro k
  induction k with
  | zero => intro d h; omega
  | succ k ih =>
  intro d hk B w vs p hr hB hp0 hp1
  obtain ⟨a, m, cs, rfl, hm, ha, hrs⟩ := hr.form
  refine (count.calls (R := fun v w' => ∃ n m : Int, v = .tuple #[.int .i64 n, .int .i64 m] ∧ Cnt d p n m ∧ Below w.heap.size w w') ?_).mono (fun e w' ⟨v, h1, n, m, h2, h3⟩ => ⟨n, m, by rw [h1, h2], h3⟩)
  unfold count.W
  have hn0 := nodes_pos d
  have hd0 : 1 ≤ depth d := by cases hc : d.ctor with
    | true => rw [depth_ctor hc]; omega
    | false => rw [depth_int hc]; exact Nat.le_refl _
  refine box fun w9 at9 hb9 hs9 => ?_
  refine ifD (fun h => ⟨_, _, rfl, ⟨by omega, by omega, by omega, by omega, by omega, by omega, by omega⟩, hb9⟩) (fun hp => ?_)
  refine ⟨_, cell_of_block at9 rfl, ifN (fun hc => ?_) (fun hc => ?_)⟩
  · have hn := nodes_int hc; have hd := depth_int hc
    exact ⟨_, _, rfl, ⟨by omega, by omega, by omega, by omega, by omega, by omega, by omega⟩, hb9⟩
  · have hn := nodes_ctor hc; have hd := depth_ctor hc
    refine ⟨_, _, _, cell_of_block at9 rfl, fun us w2 => ∃ (j : Nat) (n m : Int), j ≤ d.args.length ∧ us = [.int .i64 n, .int .i64 m, .int .i64 j] ∧ 1 ≤ n ∧ n ≤ 4096 ∧ p ≤ m ∧ m ≤ 201 ∧ (m ≤ 200 → n = 1 + nodesL (d.args.take j)) ∧ j < n ∧
        (m ≤ 200 ↔ p + 1 + depthL (d.args.take j) ≤ 201) ∧ Below w.heap.size w w2,
      fun us _ => match us with | [_, _, .int _ j] => d.args.length - j.toNat | _ => 0, ⟨0, 1, p, Nat.zero_le _, rfl, by omega, by omega, by omega, by omega, by simp [nodesL], by omega, by simp [depthL]; omega, hb9⟩, ?_⟩
    rintro _ us w14 ⟨j, n, mm, hj, rfl, hn1, hn2, hm1, hm2, hmn, hjn, hmd, hb14⟩
    refine ⟨_, _, _, rfl, ifD (fun hlt => ?_) (fun hge => ?_)⟩
    · have hlt' : j < d.args.length := by omega
      obtain ⟨b, o, a', m', rfl, hc14, hr14⟩ := arg_at hB hb14 ha hrs hlt'
      have h14 := hb14.size
      have ht := nodesL_take d.args j hlt'
      have hdt := depthL_take d.args j hlt'
      have hle := nodesL_take_le d.args (j + 1)
      have hdle := depthL_take_le d.args (j + 1)
      refine ⟨b, o, rfl, by omega, hlt, _, _, _, _, _, _, hc14, copyStep rfl rfl fun w28 at28 hb28 hs28 => ?_⟩
      refine ⟨_, _, _, _, _, _, cellsAt_of_block at28 [.bool d.args[j].ctor, .int .i64 d.args[j].int, .string d.args[j].name, .slice a' d.args[j].args.length m'] 0 rfl, ?_⟩
      rw [w64 (x := p + 1) (by omega) (by omega)]
      refine (ih d.args[j] (by have := sizeOf_arg d j hlt'; omega) B w28 _ (p + 1) (hr14.kept hb28 (by omega)) (by omega) (by omega) (by omega)).mono ?_
      rintro e w35 ⟨r, dp, rfl, ⟨c1, c2, c3, c4, c5, c6, c7⟩, hb35⟩
      refine ⟨_, _, rfl, ?_⟩
      have hb35' : Below w.heap.size w w35 := (hb14.trans (hb28.mono h14)).trans (hb35.mono (by omega))
      rw [w64 (x := n + r) (by omega) (by omega), w64 (x := (j : Int) + 1) (by omega) (by omega)]
      have fin : ∀ mx : Int, mx = max mm dp → (n + r > 4096 → ∃ n m : Int, (Value.tuple #[.int .i64 4097, .int .i64 mx]) = .tuple #[.int .i64 n, .int .i64 m] ∧ Cnt d p n m ∧ Below w.heap.size w w35) := by
        rintro mx rfl hgt
        exact ⟨_, _, rfl, ⟨by omega, by omega, by omega, by omega, by omega, by omega, by omega⟩, hb35'⟩
      have go : ∀ mx : Int, mx = max mm dp → ¬ n + r > 4096 → (∃ (j' : Nat) (n' m' : Int), j' ≤ d.args.length ∧ [Value.int .i64 (n + r), .int .i64 mx, .int .i64 ((j : Int) + 1)] = [.int .i64 n', .int .i64 m', .int .i64 j'] ∧ 1 ≤ n' ∧ n' ≤ 4096 ∧ p ≤ m' ∧ m' ≤ 201 ∧ (m' ≤ 200 → n' = 1 + nodesL (d.args.take j')) ∧ j' < n' ∧
          (m' ≤ 200 ↔ p + 1 + depthL (d.args.take j') ≤ 201) ∧ Below w.heap.size w w35) ∧ d.args.length - ((j : Int) + 1).toNat < d.args.length - (j : Int).toNat := by
        rintro mx rfl hng
        refine ⟨⟨j + 1, _, _, hlt', rfl, by omega, by omega, by omega, by omega, by omega, by omega, by omega, hb35'⟩, by omega⟩
      refine ifD (fun h1 => ?_) (fun h1 => ?_)
      · refine ifD (fun h2 => fin _ (by omega) h2) (fun h2 => go _ (by omega) h2)
      · refine ifD (fun h2 => fin _ (by omega) h2) (fun h2 => go _ (by omega) h2)
    · have : j = d.args.length := by omega
      subst this
      rw [List.take_length] at hmn hmd
      exact ⟨_, _, rfl, ⟨by omega, by omega, by omega, by omega, by omega, by omega, by omega⟩, hb14⟩

theorem refGood_spec (d : D) (B : Nat) (w : World) (vs : List Value) (hr : Rep B w d vs) (hB : B ≤ w.heap.size) :
    Calls Tryd.prog 8 #[.agg vs.toArray] w fun e w' => e = .returned (.bool (good d)) ∧ Below w.heap.size w w' := by
  obtain ⟨a, m, cs, rfl, hm, ha, hrs⟩ := hr.form
  refine (refGood.calls (R := fun v w' => v = .bool (good d) ∧ Below w.heap.size w w') ?_).mono (fun e w' ⟨v, h1, h2, h3⟩ => ⟨by rw [h1, h2], h3⟩)
  unfold refGood.W
  refine box fun w7 at7 hb7 hs7 => ?_
  refine ⟨_, _, _, _, _, _, cellsAt_of_block at7 [.bool d.ctor, .int .i64 d.int, .string d.name, .slice a d.args.length m] 0 rfl, ?_⟩
  refine (count_spec _ d (Nat.lt_succ_self _) B w7 _ 1 (hr.kept hb7 hB) (by omega) (by omega) (by omega)).mono ?_
  rintro e w' ⟨n, mm, rfl, ⟨c1, c2, c3, c4, c5, c6, c7⟩, hb⟩
  have hb' := hb7.trans (hb.mono (by omega))
  refine ⟨_, _, rfl, ifD (fun h => ⟨?_, hb'⟩) (fun h => ⟨?_, hb'⟩)⟩
  · congr 1
    unfold good
    by_cases h2 : mm ≤ 200
    · rw [decide_eq_true h2, decide_eq_true]; omega
    · rw [decide_eq_false h2, decide_eq_false]; omega
  · congr 1
    unfold good
    rw [decide_eq_false]; omega

end Go.Proofs.YtkplhlciocbecaaDoor.Vf
