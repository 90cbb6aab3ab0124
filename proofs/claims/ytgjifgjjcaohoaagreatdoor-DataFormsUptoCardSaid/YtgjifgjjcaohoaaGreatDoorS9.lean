/- DataForms at the model's run. -/
import Derived.Test.YtgjifgjjcaohoaaGreatDoorS8
import Derived.Lib.AppendIntMem
import Derived.Test.YtgjifgjjcaohoaaGreatDoorS4
/- part Z8A -/
section
namespace Go.Dr
open Go.Av Go.Lx
mutual
def nodeN : Dt → Nat
  | .mk c _ _ zs => if c then 1 + nodeNs zs else 1
def nodeNs : List Dt → Nat
  | [] => 0
  | t :: r => nodeN t + nodeNs r
end
mutual
def depthN : Dt → Nat
  | .mk c _ _ zs => if c then 1 + depthNs zs else 1
def depthNs : List Dt → Nat
  | [] => 0
  | t :: r => max (depthN t) (depthNs r)
end
theorem nodeN_pos (x : Dt) : 1 ≤ nodeN x := by
  obtain ⟨c, n, s, zs⟩ := x
  rw [nodeN]; split <;> omega
theorem depthN_pos (x : Dt) : 1 ≤ depthN x := by
  obtain ⟨c, n, s, zs⟩ := x
  rw [depthN]; split <;> omega
theorem nodeNs_append : ∀ a b : List Dt, nodeNs (a ++ b) = nodeNs a + nodeNs b
  | [], b => by simp [nodeNs]
  | t :: r, b => by simp only [List.cons_append, nodeNs, nodeNs_append r b]; omega
theorem depthNs_append : ∀ a b : List Dt, depthNs (a ++ b) = max (depthNs a) (depthNs b)
  | [], b => by simp [depthNs]
  | t :: r, b => by simp only [List.cons_append, depthNs, depthNs_append r b]; omega
theorem nodeNs_take {zs : List Dt} {i : Nat} {t : Dt} (h : zs[i]? = some t) : nodeNs (zs.take (i + 1)) = nodeNs (zs.take i) + nodeN t := by
  rw [List.take_add_one, h, nodeNs_append]; simp [nodeNs]
theorem depthNs_take {zs : List Dt} {i : Nat} {t : Dt} (h : zs[i]? = some t) : depthNs (zs.take (i + 1)) = max (depthNs (zs.take i)) (depthN t) := by
  rw [List.take_add_one, h, depthNs_append]; simp [depthNs]
theorem nodeNs_le {zs : List Dt} (i : Nat) : nodeNs (zs.take i) ≤ nodeNs zs := by
  conv => rhs; rw [← List.take_append_drop i zs, nodeNs_append]
  omega
theorem depthNs_le {zs : List Dt} (i : Nat) : depthNs (zs.take i) ≤ depthNs zs := by
  conv => rhs; rw [← List.take_append_drop i zs, depthNs_append]
  omega
theorem length_nodeNs : ∀ zs : List Dt, zs.length ≤ nodeNs zs
  | [] => Nat.le_refl _
  | t :: r => by have := length_nodeNs r; have := nodeN_pos t; simp only [nodeNs, List.length_cons]; omega
/-- are data good? -/
def GoodN (x : Dt) : Prop := depthN x ≤ 200 ∧ nodeN x ≤ 4096
instance (x : Dt) : Decidable (GoodN x) := by unfold GoodN; infer_instance
mutual
def lenOk : Dt → Prop
  | .mk _ _ _ zs => zs.length ≤ 1099511627776 ∧ lenOks zs
def lenOks : List Dt → Prop
  | [] => True
  | t :: r => lenOk t ∧ lenOks r
end
theorem lenOks_iff : ∀ zs, lenOks zs ↔ ∀ z ∈ zs, lenOk z
  | [] => by simp [lenOks]
  | t :: r => by simp [lenOks, lenOks_iff r]
end Go.Dr
namespace Go.Proofs.YtgjifgjjcaohoaaGreatDoor.Va
open Go.Vx Go.Av Go.Lx Go.Dr

theorem measureN : ∀ (x : Dt) (depth nodes : Nat), lenOk x → depth ≤ 201 → nodes ≤ 4096 → PCalls ax 28 [.agg (encD x), .int .i64 depth, .int .i64 nodes] fun r => ∃ (m : Int) (b : Bool), r = [.int .i64 m, .bool b] ∧
    (depth + depthN x ≤ 201 ∧ nodes + nodeN x ≤ 4096 → m = ((nodes + nodeN x : Nat) : Int) ∧ b = true) ∧ (¬ (depth + depthN x ≤ 201 ∧ nodes + nodeN x ≤ 4096) → b = false) := by
  refine Dt.ind fun c n s xs ih => ?_
  rintro depth nodes ⟨hl, hls⟩ hd hn
  have hb := big9
  rw [lenOks_iff] at hls
  have hp1 := nodeN_pos (.mk c n s xs)
  have hp2 := depthN_pos (.mk c n s xs)
  generalize hK : (fun r : List V => ∃ (m : Int) (b : Bool), r = [.int .i64 m, .bool b] ∧ (depth + depthN (.mk c n s xs) ≤ 201 ∧ nodes + nodeN (.mk c n s xs) ≤ 4096 → m = ((nodes + nodeN (.mk c n s xs) : Nat) : Int) ∧ b = true) ∧ (¬ (depth + depthN (.mk c n s xs) ≤ 201 ∧ nodes + nodeN (.mk c n s xs) ≤ 4096) → b = false)) = K
  have no : ∀ m : Int, ¬ (depth + depthN (.mk c n s xs) ≤ 201 ∧ nodes + nodeN (.mk c n s xs) ≤ 4096) → K [.int .i64 m, .bool false] := fun m h => by
    rw [← hK]; exact ⟨m, false, rfl, fun hh => absurd hh h, fun _ => rfl⟩
  have yes : ∀ m : Int, depth + depthN (.mk c n s xs) ≤ 201 ∧ nodes + nodeN (.mk c n s xs) ≤ 4096 → m = ((nodes + nodeN (.mk c n s xs) : Nat) : Int) → K [.int .i64 m, .bool true] := fun m h e => by
    rw [← hK]; exact ⟨m, true, rfl, fun _ => ⟨e, rfl⟩, fun hh => absurd h hh⟩
  refine measure.calls (K := K) ?_
  unfold measure.W
  rw [zstep (by omega)]
  refine ifD (fun h => no _ (by omega)) (fun h1 => ifD (fun h => no _ (by omega)) (fun h2 => ?_))
  cases c with
  | false =>
    refine ifN (fun _ => yes _ ?_ ?_) (fun h => by cases h)
    · simp only [depthN, nodeN, Bool.false_eq_true, if_false]; omega
    · simp [nodeN]
  | true =>
    have eN : nodeN (.mk true n s xs) = 1 + nodeNs xs := by simp [nodeN]
    have eD : depthN (.mk true n s xs) = 1 + depthNs xs := by simp [depthN]
    rw [eN, eD] at no yes
    refine ifN (fun h => by cases h) (fun _ => ?_)
    rw [encDs_length]
    refine ⟨fun us => ∃ i : Nat, i ≤ xs.length ∧ us = [.int .i64 ((nodes + 1 + nodeNs (xs.take i) : Nat) : Int), .int .i64 i] ∧ nodes + 1 + nodeNs (xs.take i) ≤ 4096 ∧ depth + 1 + depthNs (xs.take i) ≤ 201, fun us => match us with | [_, .int _ i] => xs.length - i.toNat | _ => 0,
      ⟨0, Nat.zero_le _, by simp [nodeNs], by simp only [List.take_zero, nodeNs]; omega, by simp only [List.take_zero, depthNs]; omega⟩, ?_⟩
    rintro n22 n23 ⟨i, hi, e, hle, hde⟩
    cases e
    refine ifD (fun hlt => ?_) (fun hge => ?_)
    · obtain ⟨c', n', s', l', he⟩ := getDt (xs := xs) (i := i) (by omega)
      have hm := List.mem_of_getElem? he
      refine ⟨by omega, hlt, c', n', bs s', encDs l', drow he, ?_⟩
      rw [zstep (by omega)]
      have ht1 := nodeNs_take he
      have ht2 := depthNs_take he
      have hl1 := nodeNs_le (zs := xs) (i + 1)
      have hl2 := depthNs_le (zs := xs) (i + 1)
      refine (ih _ hm (depth + 1) (nodes + 1 + nodeNs (xs.take i)) (hls _ hm) (by omega) hle).mono fun r ⟨m, b, hr, k1, k2⟩ => ⟨m, b, hr, ?_⟩
      by_cases hok : depth + 1 + depthN (.mk c' n' s' l') ≤ 201 ∧ nodes + 1 + nodeNs (xs.take i) + nodeN (.mk c' n' s' l') ≤ 4096
      · obtain ⟨rfl, rfl⟩ := k1 hok
        refine ifN (fun h => by cases h) (fun _ => ?_)
        rw [zstep (by omega)]
        refine ⟨⟨i + 1, by omega, ?_, by omega, by omega⟩, by simp only [Int.toNat_natCast]; omega⟩
        rw [show nodes + 1 + nodeNs (xs.take (i + 1)) = nodes + 1 + nodeNs (xs.take i) + nodeN (.mk c' n' s' l') by omega]
      · rw [k2 hok]
        exact ifN (fun _ => no _ (by omega)) (fun h => by cases h)
    · rw [List.take_of_length_le (by omega)] at hle hde ⊢
      exact yes _ (by omega) (by congr 1; omega)
theorem GoodN_spec (x : Dt) (h : lenOk x) : PCalls ax 13 [.agg (encD x)] fun r => r = [.bool (decide (GoodN x))] := by
  obtain ⟨c, n, s, zs, rfl⟩ := dt_cases x
  refine Good.calls (K := fun r => r = [.bool (decide (GoodN (.mk c n s zs)))]) ?_
  unfold Good.W
  refine (measureN (.mk c n s zs) 1 0 h (by omega) (by omega)).mono fun r ⟨m, b, hr, k1, k2⟩ => ⟨m, b, hr, ?_⟩
  by_cases hg : GoodN (.mk c n s zs)
  · rw [(k1 (by unfold GoodN at hg; omega)).2, decide_eq_true hg]
  · rw [k2 (by unfold GoodN at hg; omega), decide_eq_false hg]

theorem countN : ∀ (x : Dt) (depth : Nat), lenOk x → depth ≤ 201 → PCalls ax 29 [.agg (encD x), .int .i64 depth] fun r => ∃ (k deep : Nat), r = [.int .i64 k, .int .i64 deep] ∧ 1 ≤ k ∧ k ≤ 4097 ∧ depth ≤ deep ∧ deep ≤ 201 ∧
    (depth + depthN x ≤ 201 ∧ nodeN x ≤ 4096 → k = nodeN x ∧ deep + 1 = depth + depthN x) ∧ (¬ (depth + depthN x ≤ 201 ∧ nodeN x ≤ 4096) → 4096 < k ∨ 200 < deep) := by
  refine Dt.ind fun c n s xs ih => ?_
  rintro depth ⟨hl, hls⟩ hd
  have hb := big9
  rw [lenOks_iff] at hls
  have hp1 := nodeN_pos (.mk c n s xs)
  have hp2 := depthN_pos (.mk c n s xs)
  generalize hK : (fun r : List V => ∃ (k deep : Nat), r = [.int .i64 k, .int .i64 deep] ∧ 1 ≤ k ∧ k ≤ 4097 ∧ depth ≤ deep ∧ deep ≤ 201 ∧ (depth + depthN (.mk c n s xs) ≤ 201 ∧ nodeN (.mk c n s xs) ≤ 4096 → k = nodeN (.mk c n s xs) ∧ deep + 1 = depth + depthN (.mk c n s xs)) ∧ (¬ (depth + depthN (.mk c n s xs) ≤ 201 ∧ nodeN (.mk c n s xs) ≤ 4096) → 4096 < k ∨ 200 < deep)) = K
  refine count.calls (K := K) ?_
  unfold count.W
  refine ifD (fun h => ?_) (fun h1 => ?_)
  · rw [← hK]; exact ⟨1, depth, rfl, by omega, by omega, by omega, by omega, fun h => by omega, fun _ => by omega⟩
  cases c with
  | false =>
    refine ifN (fun _ => ?_) (fun h => by cases h)
    rw [← hK]
    simp only [depthN, nodeN, Bool.false_eq_true, if_false]
    exact ⟨1, depth, rfl, by omega, by omega, by omega, by omega, fun h => by omega, fun h => by omega⟩
  | true =>
    have eN : nodeN (.mk true n s xs) = 1 + nodeNs xs := by simp [nodeN]
    have eD : depthN (.mk true n s xs) = 1 + depthNs xs := by simp [depthN]
    rw [eN, eD] at hK
    refine ifN (fun h => by cases h) (fun _ => ?_)
    rw [encDs_length]
    refine ⟨fun us => ∃ (i k deep : Nat), i ≤ xs.length ∧ us = [.int .i64 k, .int .i64 deep, .int .i64 i] ∧ 1 ≤ k ∧ k ≤ 4096 ∧ depth ≤ deep ∧ deep ≤ 201 ∧
        (depth + 1 + depthNs (xs.take i) ≤ 201 ∧ 1 + nodeNs (xs.take i) ≤ 4096 → k = 1 + nodeNs (xs.take i) ∧ deep = depth + depthNs (xs.take i)) ∧ (¬ (depth + 1 + depthNs (xs.take i) ≤ 201 ∧ 1 + nodeNs (xs.take i) ≤ 4096) → 200 < deep),
      fun us => match us with | [_, _, .int _ i] => xs.length - i.toNat | _ => 0,
      ⟨0, 1, depth, Nat.zero_le _, rfl, by omega, by omega, by omega, by omega, fun _ => by simp [nodeNs, depthNs], fun h => by simp only [List.take_zero, nodeNs, depthNs] at h; omega⟩, ?_⟩
    rintro n25 n26 n27 ⟨i, k, deep, hi, e, k1, k2, k3, k4, k5, k6⟩
    cases e
    refine ifD (fun hlt => ?_) (fun hge => ?_)
    · obtain ⟨c', n', s', l', he⟩ := getDt (xs := xs) (i := i) (by omega)
      have hm := List.mem_of_getElem? he
      refine ⟨by omega, hlt, c', n', bs s', encDs l', drow he, ?_⟩
      rw [zstep (by omega)]
      have ht1 := nodeNs_take he
      have ht2 := depthNs_take he
      have hl1 := nodeNs_le (zs := xs) (i + 1)
      have hl2 := depthNs_le (zs := xs) (i + 1)
      refine (ih _ hm (depth + 1) (hls _ hm) (by omega)).mono fun r ⟨m, dp, hr, m1, m2, m3, m4, m5, m6⟩ => ⟨m, dp, hr, ?_⟩
      have hw : IntKind.i64.wrap ((k : Int) + (m : Int)) = ((k + m : Nat) : Int) := by rw [Int.natCast_add]; exact w64 (by omega) (by omega)
      rw [hw, zstep (by omega)]
      generalize nodeN (.mk c' n' s' l') = N at ht1 m5 m6
      generalize depthN (.mk c' n' s' l') = D at ht2 m5 m6
      have out : ∀ q : Nat, 4096 < k + m → depth ≤ q → q ≤ 201 → K [.int .i64 4097, .int .i64 q] := fun q h4 hq1 hq2 => by
        rw [← hK]
        refine ⟨4097, q, rfl, by omega, by omega, hq1, hq2, fun hh => ?_, fun _ => .inl (by omega)⟩
        have a1 := k5 (by omega)
        have a2 := m5 (by omega)
        omega
      refine ifD (fun hgt => ifD (fun h4 => out _ (by omega) (by omega) m4) (fun h4 => ?_)) (fun hgt => ifD (fun h4 => out _ (by omega) (by omega) k4) (fun h4 => ?_))
      · refine ⟨⟨i + 1, k + m, dp, by omega, rfl, by omega, by omega, by omega, m4, fun hh => ?_, fun hh => ?_⟩, by simp only [Int.toNat_natCast]; omega⟩
        · have a1 := k5 (by omega)
          have a2 := m5 (by omega)
          omega
        · by_cases hp : depth + 1 + depthNs (xs.take i) ≤ 201 ∧ 1 + nodeNs (xs.take i) ≤ 4096
          · have a1 := k5 hp
            by_cases hq : depth + 1 + D ≤ 201 ∧ N ≤ 4096
            · have a2 := m5 hq; omega
            · have a2 := m6 hq; omega
          · have := k6 hp; omega
      · refine ⟨⟨i + 1, k + m, deep, by omega, rfl, by omega, by omega, by omega, k4, fun hh => ?_, fun hh => ?_⟩, by simp only [Int.toNat_natCast]; omega⟩
        · have a1 := k5 (by omega)
          have a2 := m5 (by omega)
          omega
        · by_cases hp : depth + 1 + depthNs (xs.take i) ≤ 201 ∧ 1 + nodeNs (xs.take i) ≤ 4096
          · have a1 := k5 hp
            by_cases hq : depth + 1 + D ≤ 201 ∧ N ≤ 4096
            · have a2 := m5 hq; omega
            · have a2 := m6 hq; omega
          · exact k6 hp
    · rw [List.take_of_length_le (by omega)] at k5 k6
      rw [← hK]
      refine ⟨k, deep, rfl, k1, by omega, k3, k4, fun hh => ?_, fun hh => ?_⟩
      · have := k5 (by omega); omega
      · exact .inr (k6 (by omega))
theorem RGoodN_spec (x : Dt) (h : lenOk x) : PCalls ax 14 [.agg (encD x)] fun r => r = [.bool (decide (GoodN x))] := by
  obtain ⟨c, n, s, zs, rfl⟩ := dt_cases x
  refine RGood.calls (K := fun r => r = [.bool (decide (GoodN (.mk c n s zs)))]) ?_
  unfold RGood.W
  refine (countN (.mk c n s zs) 1 h (by omega)).mono fun r ⟨k, deep, hr, _, _, _, _, k5, k6⟩ => ⟨k, deep, hr, ?_⟩
  by_cases hg : GoodN (.mk c n s zs)
  · have := k5 (by unfold GoodN at hg; omega)
    unfold GoodN at hg
    rw [decide_eq_true (show GoodN _ from hg)]
    exact ifD (fun _ => by rw [decide_eq_true (by omega)]) (fun h => absurd h (by omega))
  · have := k6 (by unfold GoodN at hg; omega)
    rw [decide_eq_false hg]
    exact ifD (fun _ => by rw [decide_eq_false (by omega)]) (fun _ => rfl)
theorem min_int (a : Nat) : (if (4097 : Int) < (a : Int) then (4097 : Int) else (a : Int)) = ((min a 4097 : Nat) : Int) := by split <;> omega
theorem NodesN_spec : ∀ (x : Dt), lenOk x → PCalls ax 15 [.agg (encD x)] fun r => r = [.int .i64 ((min (nodeN x) 4097 : Nat) : Int)] := by
  refine Dt.ind fun c n s xs ih => ?_
  rintro ⟨hl, hls⟩
  have hb := big9
  rw [lenOks_iff] at hls
  refine Nodes.calls (K := fun r => r = [.int .i64 ((min (nodeN (.mk c n s xs)) 4097 : Nat) : Int)]) ?_
  unfold Nodes.W
  cases c with
  | false => exact ifB (fun h => by cases h) (fun _ => by simp [nodeN])
  | true =>
    have eN : nodeN (.mk true n s xs) = 1 + nodeNs xs := by simp [nodeN]
    rw [eN]
    refine ifB (fun _ => ?_) (fun h => by cases h)
    rw [encDs_length]
    refine ⟨fun us => ∃ i : Nat, i ≤ xs.length ∧ us = [.int .i64 ((1 + nodeNs (xs.take i) : Nat) : Int), .int .i64 i] ∧ 1 + nodeNs (xs.take i) ≤ 4096, fun us => match us with | [_, .int _ i] => xs.length - i.toNat | _ => 0, ⟨0, Nat.zero_le _, rfl, by simp [nodeNs]⟩, ?_⟩
    rintro n15 n16 ⟨i, hi, e, hle⟩
    cases e
    refine ifD (fun hlt => ?_) (fun hge => ?_)
    · obtain ⟨c', n', s', l', he⟩ := getDt (xs := xs) (i := i) (by omega)
      have hm := List.mem_of_getElem? he
      refine ⟨by omega, hlt, c', n', bs s', encDs l', drow he, ?_⟩
      have ht1 := nodeNs_take he
      have hl1 := nodeNs_le (zs := xs) (i + 1)
      refine (ih _ hm (hls _ hm)).mono fun r hr => ⟨_, hr, ?_⟩
      rw [← Int.natCast_add, w64 (by omega) (by omega), min_int, zstep (by omega)]
      refine ifD (fun h => ?_) (fun h => ?_)
      · show [V.int .i64 _] = [V.int .i64 _]
        congr 3; omega
      · refine ⟨⟨i + 1, by omega, ?_, by omega⟩, by simp only [Int.toNat_natCast]; omega⟩
        congr 3; omega
    · rw [List.take_of_length_le (by omega)] at hle ⊢
      congr 3; omega
theorem RNodesN_spec : ∀ (x : Dt), lenOk x → PCalls ax 16 [.agg (encD x)] fun r => r = [.int .i64 ((min (nodeN x) 4097 : Nat) : Int)] := by
  refine Dt.ind fun c n s xs ih => ?_
  rintro ⟨hl, hls⟩
  have hb := big9
  rw [lenOks_iff] at hls
  refine RNodes.calls (K := fun r => r = [.int .i64 ((min (nodeN (.mk c n s xs)) 4097 : Nat) : Int)]) ?_
  unfold RNodes.W
  cases c with
  | false =>
    refine ⟨fun us => us = [.int .i64 1, .int .i64 0], fun _ => 0, rfl, ?_⟩
    rintro n15 n16 e
    cases e
    exact ifB (fun h => by cases h) (fun _ => ifD (fun h => by omega) (fun _ => by simp [nodeN]))
  | true =>
    have eN : nodeN (.mk true n s xs) = 1 + nodeNs xs := by simp [nodeN]
    rw [eN, encDs_length]
    refine ⟨fun us => ∃ (i k : Nat), i ≤ xs.length ∧ us = [.int .i64 k, .int .i64 i] ∧ k ≤ 8193 ∧ (k ≤ 4096 → k = 1 + nodeNs (xs.take i)) ∧ (4096 < k → 4096 < 1 + nodeNs (xs.take i)), fun us => match us with | [_, .int _ i] => xs.length - i.toNat | _ => 0, ⟨0, 1, Nat.zero_le _, rfl, by omega, by simp [nodeNs], by omega⟩, ?_⟩
    rintro n15 n16 ⟨i, k, hi, e, hk, k1, k2⟩
    cases e
    have fin : i = xs.length ∨ 4096 < k → (bif (decide ((k : Int) > (4096 : Int))) then ((fun r => r = [V.int .i64 ((min (1 + nodeNs xs) 4097 : Nat) : Int)]) [(.int .i64 4097)]) else ((fun r => r = [V.int .i64 ((min (1 + nodeNs xs) 4097 : Nat) : Int)]) [(.int .i64 k)])) := fun h => by
      have hle := nodeNs_le (zs := xs) i
      refine ifD (fun h4 => ?_) (fun h4 => ?_)
      · have := k2 (by omega)
        rw [show min (1 + nodeNs xs) 4097 = 4097 by omega]; rfl
      · have h1 := k1 (by omega)
        have h2 : i = xs.length := by omega
        rw [h2, List.take_length] at h1
        rw [show min (1 + nodeNs xs) 4097 = k by omega]
    refine ifB (fun _ => ?_) (fun h => by cases h)
    refine ifD (fun hlt => ifD (fun h4 => ?_) (fun h4 => fin (.inr (by omega)))) (fun hge => fin (.inl (by omega)))
    obtain ⟨c', n', s', l', he⟩ := getDt (xs := xs) (i := i) (by omega)
    have hm := List.mem_of_getElem? he
    refine ⟨by omega, hlt, c', n', bs s', encDs l', drow he, ?_⟩
    have ht1 := nodeNs_take he
    have hk1 := k1 (by omega)
    refine (ih _ hm (hls _ hm)).mono fun r hr => ⟨_, hr, ?_⟩
    rw [← Int.natCast_add, w64 (by omega) (by omega), zstep (by omega)]
    exact ⟨⟨i + 1, _, by omega, rfl, by omega, fun _ => by omega, fun _ => by omega⟩, by simp only [Int.toNat_natCast]; omega⟩
end Go.Proofs.YtgjifgjjcaohoaaGreatDoor.Va
end

/- part Z5A -/
section
namespace Go.Lx
open Go.Proofs.YtgjifgjjcaohoaaGreatDoor.Va
/-- what may stand behind a token: nothing, or no letter and no digit -/
def Sep2 (y : List UInt8) : Prop := ∀ c, y.head? = some c → isInner c = false
theorem sep_inner2 {y : List UInt8} (h : Sep2 y) : ∀ c, y.head? = some c → isInner c = false := h
theorem sep_digit2 {y : List UInt8} (h : Sep2 y) : ∀ c, y.head? = some c → isDigit c = false := fun c hc => by
  have := h c hc
  unfold isInner at this
  simp only [Bool.or_eq_false_iff] at this
  exact this.2
theorem numSpan_app2 {l y : List UInt8} (hl : l ≠ []) (h : Sep2 y) : numSpan (l ++ y) = numSpan l := by
  cases l with
  | nil => exact absurd rfl hl
  | cons c r =>
    simp only [List.cons_append, numSpan]
    split
    · rw [span_app' r y (sep_digit2 h)]
    · rw [← List.cons_append, span_app' (c :: r) y (sep_digit2 h)]
theorem tokL_app2 {l y : List UInt8} (h : Sep2 y) (ht : (tokL l).2 = true) : tokL (l ++ y) = tokL l := by
  cases l with
  | nil => cases ht
  | cons c r =>
    cases hl : isLetter c with
    | true =>
      rw [List.cons_append, tokL_letter hl, tokL_letter hl]
      have := span_app' (c :: r) y (sep_inner2 h)
      rw [← List.cons_append, this, take_app (span_le _ _)]
    | false =>
      cases hd : (isDigit c || decide (c.toNat = 45)) with
      | true =>
        rw [List.cons_append, tokL_num hl hd, tokL_num hl hd]
        rw [tokL_num hl hd] at ht
        obtain ⟨h1, v, h2, h3, h4⟩ := numL_ok ht
        rw [h3, ← List.cons_append]
        have hns := numSpan_app2 (l := c :: r) (y := y) (by simp) h
        have hle := numSpan_le (c :: r)
        have hx : ∀ x, ((c :: r) ++ y)[numSpan (c :: r)]? = some x → isInner x = false := fun x hx => by
          rcases Nat.lt_or_ge (numSpan (c :: r)) (c :: r).length with hlt | hge
          · rw [List.getElem?_append_left hlt] at hx; exact h4 x hx
          · rw [List.getElem?_append_right hge] at hx
            have : numSpan (c :: r) - (c :: r).length = 0 := by omega
            rw [this] at hx
            exact sep_inner2 h x (by rw [List.head?_eq_getElem?]; exact hx)
        unfold numL
        rw [hns, take_app hle, h2]
        simp only
        cases hn : ((c :: r) ++ y)[numSpan (c :: r)]? with
        | none => rfl
        | some x => simp only [hx x hn, Bool.false_eq_true, if_false]
      | false =>
        by_cases hm : c.toNat = 58 ∧ r.head?.map (·.toNat) = some 45
        · have hm' : c.toNat = 58 ∧ (r ++ y).head?.map (·.toNat) = some 45 := by
            cases r with
            | nil => simp at hm
            | cons d r => exact hm
          rw [List.cons_append, tokL_two hl hd hm, tokL_two hl hd hm']
        · by_cases hk : c ∈ marksL
          · have hm' : ¬ (c.toNat = 58 ∧ (r ++ y).head?.map (·.toNat) = some 45) := fun hh => by
              have : c = 58 := UInt8.toNat_inj.1 hh.1
              subst this
              revert hk; decide
            rw [List.cons_append, tokL_mark hl hd hm hk, tokL_mark hl hd hm' hk]
          · rw [tokL_none hl hd hm hk] at ht; cases ht
theorem retok2 {x : Tok} (hx : Valid x) {y : List UInt8} (hy : Sep2 y) : tokL (x.t ++ y) = (x, true) := by
  obtain ⟨l, hl⟩ := hx
  have h2 : (tokL l).2 = true := by rw [hl]
  have h3 := tokL_self h2
  rw [hl] at h3
  simp only at h3
  rw [tokL_app2 hy (by rw [h3]), h3]
/-- a token's text, with a blank or a comment or nothing behind -/
theorem allL_tok2 {x : Tok} (hx : Valid x) {y : List UInt8} (hy : Sep2 y) : allL (x.t ++ y) = (x :: (allL y).1, (allL y).2) := by
  have hr := retok2 hx hy
  obtain ⟨c, r, hc⟩ := valid_cons hx
  rw [hc, List.cons_append] at hr ⊢
  obtain ⟨h1, h2⟩ := tok_head (c := c) (r := r ++ y) (by rw [hr])
  have hsk : skipC false (c :: (r ++ y)) = 0 := by simp [skipC, h1, h2]
  have hd : (c :: (r ++ y)).drop (skipC false (c :: (r ++ y))) = c :: (r ++ y) := by rw [hsk]; rfl
  rw [allL_cons hd (by rw [hr]), hr]
  simp only
  rw [hc, ← List.cons_append, List.drop_left]

theorem mark_valid (c : UInt8) (h : c = 40 ∨ c = 41 ∨ c = 44) (y : List UInt8) : tokL (c :: y) = (⟨4, [c], 0⟩, true) := by
  rcases h with rfl | rfl | rfl
  · exact tokL_mark (by decide) (by decide) (fun hh => absurd hh.1 (by decide)) (by decide)
  · exact tokL_mark (by decide) (by decide) (fun hh => absurd hh.1 (by decide)) (by decide)
  · exact tokL_mark (by decide) (by decide) (fun hh => absurd hh.1 (by decide)) (by decide)
theorem allL_mark (c : UInt8) (h : c = 40 ∨ c = 41 ∨ c = 44) (y : List UInt8) : allL (c :: y) = (⟨4, [c], 0⟩ :: (allL y).1, (allL y).2) := by
  have hm := mark_valid c h y
  obtain ⟨h1, h2⟩ := tok_head (c := c) (r := y) (by rw [hm])
  have hsk : skipC false (c :: y) = 0 := by simp [skipC, h1, h2]
  have hd : (c :: y).drop (skipC false (c :: y)) = c :: y := by rw [hsk]; rfl
  rw [allL_cons hd (by rw [hm]), hm]
  rfl
theorem allL_blank (y : List UInt8) : allL (32 :: y) = allL y := by
  have h32 : skipC false (32 :: y) = 1 + skipC false y := by show (if isBlank 32 then 1 + skipC false _ else _) = _; rw [if_pos (by decide)]
  rw [← allL_drop, h32, Nat.add_comm, List.drop_succ_cons, allL_drop]
/-- what kinds of tokens are -/
theorem valid_name {x : Tok} (h : Valid x) (hk : x.k = 1) : x = ⟨1, x.t, 0⟩ ∧ x.t.length ≤ 32 := by
  obtain ⟨l, hl⟩ := h
  cases l with
  | nil => simp [tokL] at hl
  | cons c r =>
    cases h1 : isLetter c with
    | true =>
      rw [tokL_letter h1] at hl
      simp only [Prod.mk.injEq, decide_eq_true_eq] at hl
      obtain ⟨rfl, h2⟩ := hl
      simp only at hk
      refine ⟨by rw [hk], ?_⟩
      simp only [List.length_take]; omega
    | false =>
      cases h2 : (isDigit c || decide (c.toNat = 45)) with
      | true =>
        rw [tokL_num h1 h2] at hl
        obtain ⟨_, v, _, h3, _⟩ := numL_ok (l := c :: r) (by rw [hl])
        rw [h3] at hl
        cases hl; cases hk
      | false =>
        by_cases h3 : c.toNat = 58 ∧ r.head?.map (·.toNat) = some 45
        · rw [tokL_two h1 h2 h3] at hl; cases hl; cases hk
        · by_cases h4 : c ∈ marksL
          · rw [tokL_mark h1 h2 h3 h4] at hl; cases hl; cases hk
          · rw [tokL_none h1 h2 h3 h4] at hl; cases hl
theorem valid_int {x : Tok} (h : Valid x) (hk : x.k = 3) : x = ⟨3, Lib.itoa x.n, x.n⟩ := by
  obtain ⟨l, hl⟩ := h
  cases l with
  | nil => simp [tokL] at hl
  | cons c r =>
    cases h1 : isLetter c with
    | true =>
      rw [tokL_letter h1] at hl
      simp only [Prod.mk.injEq, decide_eq_true_eq] at hl
      obtain ⟨rfl, h2⟩ := hl
      simp only at hk
      split at hk <;> cases hk
    | false =>
      cases h2 : (isDigit c || decide (c.toNat = 45)) with
      | true =>
        rw [tokL_num h1 h2] at hl
        obtain ⟨_, v, hv, h3, _⟩ := numL_ok (l := c :: r) (by rw [hl])
        rw [h3] at hl
        cases hl
        have : Lib.itoa v = List.take (numSpan (c :: r)) (c :: r) := by
          unfold canon at hv
          split at hv
          · rename_i u hu
            split at hv
            · rename_i hi; cases hv; exact hi
            · cases hv
          · cases hv
        simp only
        rw [this]
      | false =>
        by_cases h3 : c.toNat = 58 ∧ r.head?.map (·.toNat) = some 45
        · rw [tokL_two h1 h2 h3] at hl; cases hl; cases hk
        · by_cases h4 : c ∈ marksL
          · rw [tokL_mark h1 h2 h3 h4] at hl; cases hl; cases hk
          · rw [tokL_none h1 h2 h3 h4] at hl; cases hl
end Go.Lx
end

/- part Z5B -/
section
namespace Go.Dr
open Go.Av Go.Lx

mutual
/-- the text of data -/
def textD : Dt → List UInt8
  | .mk c n s zs => if c then s ++ (if zs = [] then [] else 40 :: (Lib.join (textDs zs) [44, 32] ++ [41])) else Lib.itoa n
def textDs : List Dt → List (List UInt8)
  | [] => []
  | t :: r => textD t :: textDs r
end
theorem textDs_eq : ∀ zs, textDs zs = zs.map textD
  | [] => rfl
  | t :: r => by rw [textDs, textDs_eq r]; rfl
mutual
/-- the tokens of data -/
def tokD : Dt → List Tok
  | .mk c n s zs => if c then ⟨1, s, 0⟩ :: (if zs = [] then [] else ⟨4, [40], 0⟩ :: (tokDs zs ++ [⟨4, [41], 0⟩])) else [⟨3, Lib.itoa n, n⟩]
def tokDs : List Dt → List Tok
  | [] => []
  | t :: r => tokD t ++ (if r = [] then [] else ⟨4, [44], 0⟩ :: tokDs r)
end
mutual
/-- names and numbers as a text may have them -/
def okN : Dt → Prop
  | .mk c n s zs => (c = true → Valid ⟨1, s, 0⟩ ∧ isRes s = false ∧ n = 0) ∧ (c = false → Valid ⟨3, Lib.itoa n, n⟩ ∧ s = [] ∧ zs = []) ∧ okNs zs
def okNs : List Dt → Prop
  | [] => True
  | t :: r => okN t ∧ okNs r
end
theorem okNs_iff : ∀ zs, okNs zs ↔ ∀ z ∈ zs, okN z
  | [] => by simp [okNs]
  | t :: r => by simp [okNs, okNs_iff r]
mutual
def ofD : Dt → Tr
  | .mk c n s zs => if c then .mk 3 s 0 (ofDs zs) else .mk 2 [] n []
def ofDs : List Dt → List Tr
  | [] => []
  | t :: r => ofD t :: ofDs r
end
theorem ofT_ofD : ∀ x, okN x → ofT (ofD x) = some x := by
  refine Dt.ind fun c n s zs ih => ?_
  intro h
  rw [okN] at h
  obtain ⟨h1, h2, h3⟩ := h
  cases c with
  | false =>
    obtain ⟨_, rfl, rfl⟩ := h2 rfl
    simp [ofD, ofT]
  | true =>
    obtain ⟨_, _, rfl⟩ := h1 rfl
    have hs : ∀ l : List Dt, (∀ a ∈ l, okN a → ofT (ofD a) = some a) → okNs l → ofTs (ofDs l) = some l := by
      intro l
      induction l with
      | nil => intro _ _; simp [ofDs, ofTs]
      | cons t r ihr =>
        intro k1 k2
        rw [okNs] at k2
        rw [ofDs, ofTs, k1 t List.mem_cons_self k2.1]
        simp only
        rw [ihr (fun a ha => k1 a (List.mem_cons_of_mem _ ha)) k2.2]; rfl
    simp only [ofD, if_true, ofT]
    rw [if_neg (by decide), if_neg (by decide), hs zs ih h3]; rfl

/-! ### the text's tokens -/
theorem sep2_mark {c : UInt8} (h : c = 40 ∨ c = 41 ∨ c = 44) (y : List UInt8) : Sep2 (c :: y) := fun d hd => by
  simp at hd; subst hd
  rcases h with rfl | rfl | rfl <;> decide
theorem join_text (x : Dt) (r : List Dt) : Lib.join (textDs (x :: r)) [44, 32] = textD x ++ (if r = [] then [] else [44, 32] ++ Lib.join (textDs r) [44, 32]) := by
  rw [textDs, Lib.join_cons]
  cases r with
  | nil => simp [textDs, Lib.joinTail]
  | cons y r => rw [if_neg (by simp), textDs, Lib.join_cons]; simp [Lib.joinTail]
theorem lexD : ∀ x, okN x → ∀ y, Sep2 y → allL (textD x ++ y) = (tokD x ++ (allL y).1, (allL y).2) := by
  refine Dt.ind fun c n s zs ih => ?_
  intro h y hy
  rw [okN] at h
  obtain ⟨h1, h2, h3⟩ := h
  cases c with
  | false =>
    obtain ⟨hv, rfl, rfl⟩ := h2 rfl
    have := allL_tok2 hv hy
    simpa [textD, tokD] using this
  | true =>
    obtain ⟨hv, hres, rfl⟩ := h1 rfl
    by_cases hz : zs = []
    · subst hz
      have := allL_tok2 hv hy
      simpa [textD, tokD] using this
    have row : ∀ l : List Dt, l ≠ [] → (∀ a ∈ l, okN a → ∀ y, Sep2 y → allL (textD a ++ y) = (tokD a ++ (allL y).1, (allL y).2)) → okNs l → ∀ y, Sep2 y → allL (Lib.join (textDs l) [44, 32] ++ y) = (tokDs l ++ (allL y).1, (allL y).2) := by
      intro l
      induction l with
      | nil => intro h; exact absurd rfl h
      | cons t r ihr =>
        intro _ k1 k2 y hy
        rw [okNs] at k2
        rw [join_text, tokDs]
        by_cases hr : r = []
        · subst hr
          simpa using k1 t List.mem_cons_self k2.1 y hy
        · rw [if_neg hr, if_neg hr, List.append_assoc]
          have e : [44, 32] ++ Lib.join (textDs r) [44, 32] ++ y = 44 :: 32 :: (Lib.join (textDs r) [44, 32] ++ y) := rfl
          rw [e, k1 t List.mem_cons_self k2.1 _ (sep2_mark (.inr (.inr rfl)) _), allL_mark 44 (.inr (.inr rfl)), allL_blank, ihr hr (fun a ha => k1 a (List.mem_cons_of_mem _ ha)) k2.2 y hy]
          simp
    have e : textD (.mk true 0 s zs) ++ y = s ++ 40 :: (Lib.join (textDs zs) [44, 32] ++ 41 :: y) := by simp [textD, hz]
    have ht := allL_tok2 hv (sep2_mark (.inl rfl) (Lib.join (textDs zs) [44, 32] ++ 41 :: y))
    simp only at ht
    rw [e, ht, allL_mark 40 (.inl rfl), row zs hz ih h3 _ (sep2_mark (.inr (.inl rfl)) y), allL_mark 41 (.inr (.inl rfl))]
    simp [tokD, hz]

/-! ### the tokens' data -/
def HeadOk (r : List Tok) : Prop := ∀ p, r.head? = some p → isP [40] p = false
theorem tokD_ne (x : Dt) : tokD x ≠ [] := by
  obtain ⟨c, n, s, zs⟩ := x
  rw [tokD]; cases c <;> simp
theorem parD : ∀ (x : Dt) (d : Nat), okD d x → okN x → ∀ (f n : Nat) (r : List Tok), n + d ≤ 64 → 2 * (tokD x).length ≤ f + 1 → HeadOk r → parT f n (tokD x ++ r) = (0, ofD x, r) := by
  refine Dt.ind fun c n s zs ih => ?_
  intro d hd hn f m r hm hf hr
  rw [okN] at hn
  obtain ⟨h1, h2, h3⟩ := hn
  rw [okD] at hd
  obtain ⟨d1, d2, d3, d4, d5⟩ := hd
  have hlen : 1 ≤ (tokD (.mk c n s zs)).length := by
    cases hq : tokD (.mk c n s zs) with
    | nil => exact absurd hq (tokD_ne _)
    | cons a b => simp
  obtain ⟨f, rfl⟩ : ∃ g, f = g + 1 := ⟨f - 1, by omega⟩
  have hm' : ¬ 64 < m := by omega
  cases c with
  | false =>
    obtain ⟨_, rfl, rfl⟩ := h2 rfl
    show parT (f + 1) m (⟨3, Lib.itoa n, n⟩ :: r) = _
    rw [parT_int hm' rfl]; simp [ofD]
  | true =>
    obtain ⟨hv, hres, rfl⟩ := h1 rfl
    have hk : (⟨1, s, 0⟩ : Tok).k = 1 ∧ isRes (⟨1, s, 0⟩ : Tok).t = false := ⟨rfl, hres⟩
    by_cases hz : zs = []
    · subst hz
      have e : tokD (.mk true 0 s []) ++ r = ⟨1, s, 0⟩ :: r := by simp [tokD]
      have eo : ofD (.mk true 0 s []) = .mk 3 s 0 [] := by simp [ofD, ofDs]
      rw [e, eo]
      cases r with
      | nil => exact parT_one hm' hk
      | cons p r => exact parT_name hm' hk (hr p rfl)
    have hd0 := d2 hz
    have e : tokD (.mk true 0 s zs) ++ r = ⟨1, s, 0⟩ :: ⟨4, [40], 0⟩ :: (tokDs zs ++ ⟨4, [41], 0⟩ :: r) := by simp [tokD, hz]
    have el : (tokD (.mk true 0 s zs)).length = (tokDs zs).length + 3 := by simp [tokD, hz]
    have eo : ofD (.mk true 0 s zs) = .mk 3 s 0 (ofDs zs) := by simp [ofD]
    have row : ∀ l : List Dt, l ≠ [] → (∀ a ∈ l, ∀ d, okD d a → okN a → ∀ (f n : Nat) (r : List Tok), n + d ≤ 64 → 2 * (tokD a).length ≤ f + 1 → HeadOk r → parT f n (tokD a ++ r) = (0, ofD a, r)) → okDs (d - 1) l → okNs l →
        ∀ (f : Nat) (acc : List Tr), acc.length + l.length ≤ 8 → 2 * (tokDs l).length ≤ f → parR f (m + 1) acc (tokDs l ++ ⟨4, [41], 0⟩ :: r) = (0, acc ++ ofDs l, r) := by
      intro l
      induction l with
      | nil => intro h; exact absurd rfl h
      | cons t q ihq =>
        intro _ k1 k2 k3 f acc ha hf
        rw [okDs] at k2
        rw [okNs] at k3
        have hnt := tokD_ne t
        have hlt : 1 ≤ (tokD t).length := by
          cases hq : tokD t with
          | nil => exact absurd hq hnt
          | cons a b => simp
        have hb : ∀ ts, ¬ (acc.length = 8 ∧ ts ≠ ([] : List Tok)) := fun ts h => by simp only [List.length_cons] at ha; omega
        by_cases hq : q = []
        · subst hq
          have e1 : tokDs [t] = tokD t := by simp [tokDs]
          rw [e1] at hf ⊢
          obtain ⟨g, rfl⟩ : ∃ g, f = g + 1 := ⟨f - 1, by omega⟩
          have := k1 t List.mem_cons_self (d - 1) k2.1 k3.1 g (m + 1) (⟨4, [41], 0⟩ :: r) (by omega) (by omega) (fun p hp => by simp at hp; subst hp; rfl)
          rw [parR_end (hb _) this rfl]
          simp [ofDs]
        · have e1 : tokDs (t :: q) = tokD t ++ ⟨4, [44], 0⟩ :: tokDs q := by rw [tokDs, if_neg hq]
          rw [e1] at hf ⊢
          simp only [List.length_append, List.length_cons] at hf
          obtain ⟨g, rfl⟩ : ∃ g, f = g + 1 := ⟨f - 1, by omega⟩
          have := k1 t List.mem_cons_self (d - 1) k2.1 k3.1 g (m + 1) (⟨4, [44], 0⟩ :: (tokDs q ++ ⟨4, [41], 0⟩ :: r)) (by omega) (by omega) (fun p hp => by simp at hp; subst hp; rfl)
          rw [List.append_assoc, List.cons_append, parR_more (hb _) this rfl rfl, ihq hq (fun a ha => k1 a (List.mem_cons_of_mem _ ha)) k2.2 k3.2 g (acc ++ [ofD t]) (by simp only [List.length_append, List.length_cons, List.length_nil] at *; omega) (by omega)]
          simp [ofDs]
    rw [e, eo]
    have hrow := row zs hz ih d4 h3 f [] (by simpa using d1) (by rw [el] at hf; omega)
    rw [List.nil_append] at hrow
    exact (parT_row (f := f) (n := m) (t := ⟨1, s, 0⟩) (p := ⟨4, [40], 0⟩) hm' hk rfl).2 _ _ hrow
end Go.Dr
end

/- part Z5C -/
section
namespace Go.Dr
open Go.Av Go.Lx Go.Proofs.YtgjifgjjcaohoaaGreatDoor.Va
mutual
/-- names and numbers of a term are ones of valid tokens -/
def okW : Tr → Prop
  | .mk k s n zs => (k ≠ 1 → k ≠ 2 → Valid ⟨1, s, 0⟩ ∧ isRes s = false) ∧ (k = 2 → Valid ⟨3, Lib.itoa n, n⟩) ∧ okWs zs
def okWs : List Tr → Prop
  | [] => True
  | t :: r => okW t ∧ okWs r
end
theorem okWs_append : ∀ (a : List Tr) (x : Tr), okWs a → okW x → okWs (a ++ [x])
  | [], _x, _, h => ⟨h, trivial⟩
  | _t :: r, x, h, k => ⟨h.1, okWs_append r x h.2 k⟩
theorem par_okW : ∀ f, (∀ n ts x r, parT f n ts = (0, x, r) → (∀ t ∈ ts, Valid t) → okW x ∧ ∀ t ∈ r, t ∈ ts) ∧
    (∀ n acc ts xs r, parR f n acc ts = (0, xs, r) → (∀ t ∈ ts, Valid t) → okWs acc → okWs xs ∧ ∀ t ∈ r, t ∈ ts) := by
  intro f
  induction f with
  | zero =>
    refine ⟨fun n ts x r h => ?_, fun n acc ts xs r h => ?_⟩
    · simp [parT] at h
    · simp [parR] at h
  | succ f ih =>
    obtain ⟨ihT, ihR⟩ := ih
    refine ⟨fun n ts x r h hr => ?_, fun n acc ts xs r h hr hok => ?_⟩
    · by_cases hn : 64 < n ∧ ts ≠ []
      · have := parT_nest (f := f) hn
        rw [h] at this; cases this
      cases ts with
      | nil =>
        have := parT_nil (f := f) (n := n)
        rw [h] at this; cases this
      | cons t ts =>
        have hn64 : ¬ 64 < n := fun hh => hn ⟨hh, by simp⟩
        by_cases h2 : t.k = 2
        · rw [parT_var hn64 h2] at h
          cases h
          exact ⟨⟨fun h => absurd rfl h, fun h => absurd h (by decide), trivial⟩, fun t ht => List.mem_cons_of_mem _ ht⟩
        by_cases h3 : t.k = 3
        · rw [parT_int hn64 h3] at h
          cases h
          refine ⟨⟨fun _ h => absurd rfl h, fun _ => ?_, trivial⟩, fun t ht => List.mem_cons_of_mem _ ht⟩
          have hv := hr t List.mem_cons_self
          rw [← valid_int hv h3]; exact hv
        by_cases hk : t.k = 1 ∧ isRes t.t = false
        · have hv := hr t List.mem_cons_self
          have hnm : Valid ⟨1, t.t, 0⟩ ∧ isRes t.t = false := ⟨by rw [← (valid_name hv hk.1).1]; exact hv, hk.2⟩
          cases ts with
          | nil =>
            rw [parT_one hn64 hk] at h
            cases h
            exact ⟨⟨fun _ _ => hnm, fun h => absurd h (by decide), trivial⟩, fun t ht => by cases ht⟩
          | cons p ts =>
            cases hp : isP [40] p with
            | false =>
              rw [parT_name hn64 hk hp] at h
              cases h
              exact ⟨⟨fun _ _ => hnm, fun h => absurd h (by decide), trivial⟩, fun t ht => List.mem_cons_of_mem _ ht⟩
            | true =>
              obtain ⟨r1, r2⟩ := parT_row (f := f) (n := n) (r := ts) hn64 hk hp
              generalize hq : parR f (n + 1) [] ts = q at r1 r2
              obtain ⟨e, xs, q2⟩ := q
              by_cases he : e = 0
              · subst he
                have h5 := r2 xs q2 rfl
                rw [h] at h5
                cases h5
                obtain ⟨g1, g2⟩ := ihR (n + 1) [] ts xs r hq (fun t ht => hr t (List.mem_cons_of_mem _ (List.mem_cons_of_mem _ ht))) trivial
                exact ⟨⟨fun _ _ => hnm, fun h => absurd h (by decide), g1⟩, fun t ht => List.mem_cons_of_mem _ (List.mem_cons_of_mem _ (g2 t ht))⟩
              · have h5 := r1 he
                rw [h] at h5
                exact absurd h5.symm he
        · have := parT_bad (f := f) (r := ts) hn64 h2 h3 hk
          rw [h] at this; cases this
    · by_cases hb : acc.length = 8 ∧ ts ≠ []
      · rw [parR_big hb] at h; cases h
      generalize hq : parT f n ts = q
      obtain ⟨e, x, q2⟩ := q
      by_cases he : e = 0
      · subst he
        obtain ⟨g2, g3⟩ := ihT n ts x q2 hq hr
        have hok2 := okWs_append acc x hok g2
        cases q2 with
        | nil =>
          have := parR_nil hb hq
          rw [h] at this; cases this
        | cons p q3 =>
          cases h41 : isP [41] p with
          | true =>
            rw [parR_end hb hq h41] at h
            cases h
            exact ⟨hok2, fun t ht => g3 t (List.mem_cons_of_mem _ ht)⟩
          | false =>
            cases h44 : isP [44] p with
            | true =>
              rw [parR_more hb hq h41 h44] at h
              obtain ⟨k4, k5⟩ := ihR n (acc ++ [x]) q3 xs r h (fun t ht => hr t (g3 t (List.mem_cons_of_mem _ ht))) hok2
              exact ⟨k4, fun t ht => g3 t (List.mem_cons_of_mem _ (k5 t ht))⟩
            | false =>
              have := parR_bad hb hq h41 h44
              rw [h] at this; cases this
      · have h5 := parR_err hb (by rw [hq]; exact he)
        rw [h, hq] at h5
        exact absurd h5.symm he
theorem ofT_okN : ∀ (t : Tr) (x : Dt), okW t → ofT t = some x → okN x := by
  refine Tr.ind fun k s n xs ih => ?_
  intro x hw h
  rw [okW] at hw
  obtain ⟨w1, w2, w3⟩ := hw
  rw [ofT] at h
  split at h
  · cases h
  · rename_i h1
    split at h
    · rename_i h2
      cases h
      exact ⟨fun h => (by cases h), fun _ => ⟨w2 h2, rfl, rfl⟩, trivial⟩
    · rename_i h2
      simp only [Option.map_eq_some_iff] at h
      obtain ⟨l, hl, rfl⟩ := h
      have hx := w1 h1 h2
      refine ⟨fun _ => ⟨hx.1, hx.2, rfl⟩, fun h => (by cases h), ?_⟩
      have : ∀ (q : List Tr) (l : List Dt), (∀ a ∈ q, ∀ x, okW a → ofT a = some x → okN x) → okWs q → ofTs q = some l → okNs l := by
        intro q
        induction q with
        | nil => intro l _ _ h; simp [ofTs] at h; subst h; trivial
        | cons t r ihr =>
          intro l k1 k2 h
          rw [ofTs] at h
          cases ht : ofT t with
          | none => rw [ht] at h; cases h
          | some y =>
            rw [ht] at h
            simp only [Option.map_eq_some_iff] at h
            obtain ⟨l', h3, rfl⟩ := h
            exact ⟨k1 t List.mem_cons_self y k2.1 ht, ihr l' (fun a ha => k1 a (List.mem_cons_of_mem _ ha)) k2.2 h3⟩
      exact this xs l ih w3 hl
theorem lexR_valid (l : List UInt8) : ∀ t ∈ (lexR l).1, Valid t := by
  unfold lexR
  split
  · intro t ht; simp at ht
  · split
    · intro t ht; exact allL_valid _ l (Nat.le_refl _) t ht
    · intro t ht; simp at ht
theorem lexR_rng (l : List UInt8) : ∀ t ∈ (lexR l).1, rngZ t.n := fun t ht => valid_rng (lexR_valid l t ht)
/-- data that were read -/
theorem readZ_ok {s : List UInt8} {x : Dt} (h : readZ s = (0, x)) : okD 63 x ∧ okN x ∧ sizeD x ≤ 4096 := by
  unfold readZ at h
  split at h
  · rename_i h1; simp only [Prod.mk.injEq] at h; exact absurd h.1 h1
  · rename_i h1
    have h1 : (parZ s).1 = 0 := Decidable.byContradiction h1
    have hok := parZ_ok (lexR_rng s) h1
    have hw : okW (parZ s).2 := by
      unfold parZ at h1 ⊢
      by_cases hn : (lexR s).2 = none
      · rw [if_pos hn] at h1 ⊢
        generalize hq : parT (2 * (lexR s).1.length + 3) 1 (lexR s).1 = q at h1 ⊢
        obtain ⟨e, y, r⟩ := q
        unfold endP at h1 ⊢
        simp only at h1 ⊢
        by_cases he : e = 0
        · rw [if_pos he] at h1 ⊢
          by_cases hr0 : r = []
          · rw [if_pos hr0]
            subst he
            exact ((par_okW _).1 1 _ _ _ hq (lexR_valid s)).1
          · rw [if_neg hr0] at h1; cases h1
        · rw [if_neg he] at h1; exact absurd h1 he
      · rw [if_neg hn] at h1
        rcases lexR_err s with h2 | h2 | h2
        · exact absurd h2 hn
        · rw [h2] at h1; cases h1
        · rw [h2] at h1; cases h1
    cases ho : ofT (parZ s).2 with
    | none => rw [ho] at h; cases h
    | some y =>
      rw [ho] at h
      simp only at h
      split at h
      · rename_i hs
        cases h
        exact ⟨ofT_ok _ _ _ hok ho, ofT_okN _ _ hw ho, hs⟩
      · cases h
/-- written and read again -/
theorem readZ_again {x : Dt} (h1 : okD 63 x) (h2 : okN x) (h3 : sizeD x ≤ 4096) : readZ (textD x) = if 16384 < (textD x).length then (4, zeroD) else (0, x) := by
  have hx := lexD x h2 [] (fun c hc => by simp at hc)
  rw [List.append_nil] at hx
  have h0 : allL ([] : List UInt8) = ([], true) := rfl
  rw [h0] at hx
  simp only [List.append_nil] at hx
  by_cases hl : 16384 < (textD x).length
  · rw [if_pos hl]
    have : lexR (textD x) = ([], some 0) := by unfold lexR; rw [if_pos hl]
    unfold readZ parZ
    rw [this]; rfl
  · rw [if_neg hl]
    have : lexR (textD x) = (tokD x, none) := by rw [lexR_good (by omega) (by rw [hx]), hx]
    have hp := parD x 63 h1 h2 (2 * (tokD x).length + 3) 1 [] (by omega) (by omega) (fun p hp => by simp at hp)
    rw [List.append_nil] at hp
    have hz : parZ (textD x) = (0, ofD x) := by
      unfold parZ
      rw [this, if_pos rfl, hp]; rfl
    unfold readZ
    rw [hz]
    simp only [ne_eq, not_true_eq_false, if_false]
    rw [ofT_ofD x h2]
    simp only
    rw [if_pos h3]
/-! ### how long the text is -/
theorem decDigits_len {u : Nat} (h : u < 10000000000000000000) : (Lib.decDigits u).length ≤ 19 := by
  obtain ⟨⟨k1, k2, k3⟩, k4, k5⟩ := decDigits_spec _ u (Nat.le_refl _)
  rcases Nat.lt_or_ge 19 (Lib.decDigits u).length with hl | hl
  · have h48 : (Lib.decDigits u).head? ≠ some 48 := fun h => by have := k3 h; omega
    have h1 := valD_lt _ k2 h48 k1
    rw [k4] at h1
    have h2 : 10 ^ 19 ≤ 10 ^ ((Lib.decDigits u).length - 1) := Nat.pow_le_pow_right (by omega) (by omega)
    have h3 : (10 : Nat) ^ 19 = 10000000000000000000 := by decide
    omega
  · exact hl
theorem itoa_len {n : Int} (h0 : -9223372036854775808 ≤ n) (h1 : n ≤ 9223372036854775807) : (Lib.itoa n).length ≤ 20 := by
  by_cases hn : n < 0
  · rw [itoa_neg hn, List.length_cons]
    have := decDigits_len (u := n.natAbs) (by omega); omega
  · rw [itoa_pos hn]
    have := decDigits_len (u := n.toNat) (by omega); omega
mutual
def wtD : Dt → Nat
  | .mk _ _ s zs => s.length + 24 + wtDs zs
def wtDs : List Dt → Nat
  | [] => 0
  | t :: r => wtD t + wtDs r
end
mutual
def rngD : Dt → Prop
  | .mk _ n _ zs => (-9223372036854775808 ≤ n ∧ n ≤ 9223372036854775807) ∧ rngDs zs
def rngDs : List Dt → Prop
  | [] => True
  | t :: r => rngD t ∧ rngDs r
end
theorem rngDs_iff : ∀ zs, rngDs zs ↔ ∀ z ∈ zs, rngD z
  | [] => by simp [rngDs]
  | t :: r => by simp [rngDs, rngDs_iff r]
theorem okD_rng : ∀ (x : Dt) (d : Nat), okD d x → rngD x := by
  refine Dt.ind fun c n s zs ih => ?_
  rintro d ⟨_, _, _, h, hn⟩
  rw [okDs_iff] at h
  exact ⟨hn, (rngDs_iff zs).2 fun z hz => ih z hz _ (h z hz)⟩
theorem wtD_mem : ∀ {zs : List Dt} {z : Dt}, z ∈ zs → wtD z ≤ wtDs zs
  | t :: r, z, h => by
    rw [wtDs]
    rcases List.mem_cons.1 h with rfl | h
    · omega
    · have := wtD_mem h; omega
theorem length_wtDs : ∀ zs : List Dt, 24 * zs.length ≤ wtDs zs
  | [] => Nat.le_refl _
  | t :: r => by
    have := length_wtDs r
    obtain ⟨c, n, s, zs⟩ := t
    simp only [wtDs, wtD, List.length_cons]; omega
theorem text_len : ∀ x : Dt, rngD x → (textD x).length + 4 ≤ wtD x := by
  refine Dt.ind fun c n s zs ih => ?_
  rintro ⟨hn, hz⟩
  rw [textD, wtD]
  cases c with
  | false =>
    have := itoa_len hn.1 hn.2
    simp only [Bool.false_eq_true, if_false]; omega
  | true =>
    have row : ∀ l : List Dt, (∀ a ∈ l, rngD a → (textD a).length + 4 ≤ wtD a) → rngDs l → (Lib.join (textDs l) [44, 32]).length ≤ wtDs l := by
      intro l
      induction l with
      | nil => intro _ _; simp [textDs, Lib.join_nil]
      | cons t r ihr =>
        intro k1 k2
        rw [rngDs] at k2
        have h1 := k1 t List.mem_cons_self k2.1
        have h2 := ihr (fun a ha => k1 a (List.mem_cons_of_mem _ ha)) k2.2
        rw [join_text, wtDs]
        split
        · simp only [List.append_nil]; omega
        · simp only [List.length_append, List.length_cons, List.length_nil]; omega
    have h := row zs ih hz
    simp only [if_true]
    split
    · simp only [List.append_nil]; omega
    · simp only [List.length_append, List.length_cons, List.length_nil]; omega
theorem okN_wt : ∀ x : Dt, okN x → wtD x ≤ 56 * sizeD x := by
  refine Dt.ind fun c n s zs ih => ?_
  intro h
  rw [okN] at h
  obtain ⟨h1, h2, h3⟩ := h
  have hs : s.length ≤ 32 := by
    cases c with
    | false => obtain ⟨_, rfl, _⟩ := h2 rfl; simp
    | true => exact (valid_name (h1 rfl).1 rfl).2
  have row : ∀ l : List Dt, (∀ a ∈ l, okN a → wtD a ≤ 56 * sizeD a) → okNs l → wtDs l ≤ 56 * sizeDs l := by
    intro l
    induction l with
    | nil => intro _ _; simp [wtDs, sizeDs]
    | cons t r ihr =>
      intro k1 k2
      rw [okNs] at k2
      have h1 := k1 t List.mem_cons_self k2.1
      have h2 := ihr (fun a ha => k1 a (List.mem_cons_of_mem _ ha)) k2.2
      rw [wtDs, sizeDs]; omega
  have h := row zs ih h3
  rw [wtD, sizeD]; omega
end Go.Dr
end

/- part Z5D -/
section
namespace Go.Proofs.YtgjifgjjcaohoaaGreatDoor.Va
open Go.Vx Go.Av Go.Lx Go.Dr Go.RowKit

theorem Itoa_spec (n : Int) (h0 : -9223372036854775808 ≤ n) (h1 : n ≤ 9223372036854775807) : PCalls ax 38 [.int .i64 n] fun r => r = [.str (bs (Lib.itoa n))] := by
  refine pcalls_below fun G w F β vals hE hS hr => ?_
  obtain ⟨v0, r0, rfl, e0, hr⟩ := hr.cons_inv
  obtain rfl := hr.nil_inv
  rw [e0.int_inv]
  obtain ⟨g1, ⟨tt, pp, g2⟩, g3⟩ := hS.tab 16 _ (hE.tab (16, (Lib.pow10Tab.map fun z => Value.int .u64 z).toArray) (by simp))
  have htab : Lib.TabIs Tryz.prog w "internal/strconv.uint64pow10" .u64 Lib.pow10Tab := by
    unfold Lib.TabIs World.var?
    rw [show Tryz.prog.globalNamed "internal/strconv.uint64pow10" = some 16 by kernel_rfl]
    simp only [Option.bind_some, g2]
  refine (Tryz.strconv_Itoa n h0 h1 w htab).mono ?_
  rintro e w' ⟨rfl, k, os, rfl⟩
  exact ⟨_, [.string (bs (Lib.itoa n))], rfl, rfl, .cons (.mk_str _) .nil, Lib.below_grow _ _ (Nat.le_refl _) _ _⟩

theorem StrJoin_spec (xs : List (List UInt8)) (sep : List UInt8) (hn : xs.length ≤ big) (hl : (Lib.join xs sep).length ≤ 140737488355328) : PCalls ax 55 [.sl 1 (xs.map fun x => [.str (bs x)]), .str (bs sep)] fun r => r = [.str (bs (Lib.join xs sep))] := by
  have hb : big = 1099511627776 := rfl
  refine pcalls_below fun G w F β vals hE hS hr => ?_
  obtain ⟨v0, r0, rfl, h0, hr⟩ := hr.cons_inv
  obtain ⟨v1, r1, rfl, h1, hr⟩ := hr.cons_inv
  obtain rfl := hr.nil_inv
  rw [h1.str_inv]
  have hf := h0.sl_inv
  cases hf with
  | sl z l a c val k1 k2 hz hc hv =>
    rw [List.length_map]
    by_cases hne : xs = []
    · subst hne
      refine (Tryz.strings_Join_none a c (bs sep) w).mono ?_
      rintro e w' ⟨rfl, rfl⟩
      exact ⟨_, [.string (bs (Lib.join [] sep))], rfl, rfl, .cons (.mk_str _) .nil, Below.refl _ _⟩
    · obtain ⟨b, o, rfl, hcell⟩ := hc (fun h => hne (List.map_eq_nil_iff.1 h))
      have hcells : ∀ (j : Nat) x, (xs.map bs)[j]? = some x → w.cell? ⟨b, o + j, none⟩ = some (.string x) := fun j x hx => by
        rw [List.getElem?_map] at hx
        cases hxj : xs[j]? with
        | none => rw [hxj] at hx; cases hx
        | some y =>
          rw [hxj] at hx
          cases hx
          have hrow : (xs.map fun x => [V.str (bs x)])[j]? = some [.str (bs y)] := by rw [List.getElem?_map, hxj]; rfl
          obtain ⟨c1, _⟩ := hcell j _ 0 _ hrow rfl
          have c2 := hv j _ 0 _ hrow rfl
          have e0 : j * 1 + 0 = j := by omega
          rw [e0] at c1
          rw [c1]
          exact congrArg some (RV.str_inv (RV.fz (β := β) (σ := mkS []) _ _ c2))
      have hbk : b < w.heap.size := by
        cases xs with
        | nil => exact absurd rfl hne
        | cons y ys =>
          have := hcells 0 (bs y) rfl
          exact Lib.lt_of_cell this
      have hmm : (xs.map bs).map (fun x => x.data.toList) = xs := by
        rw [List.map_map]
        conv => rhs; rw [← List.map_id xs]
        exact List.map_congr_left fun x _ => bs_data x
      have key := Tryz.strings_Join b o c (xs.map bs) (bs sep) w hcells hbk (by rw [List.length_map]; omega) (by rw [List.length_map]; rw [List.length_map] at k1; exact k1) (by rw [hmm, bs_data]; exact hl)
      rw [hmm, bs_data, List.length_map] at key
      refine key.mono ?_
      rintro e w' ⟨rfl, hbel⟩
      exact ⟨_, [.string (bs (Lib.join xs sep))], rfl, rfl, .cons (.mk_str _) .nil, hbel⟩



theorem app_bs (a b : List UInt8) : bs a ++ bs b = bs (a ++ b) := by
  apply ByteArray.ext
  simp [bs]
theorem zset {l : List (List UInt8)} {n i : Nat} {x : List UInt8} (hl : l.length = i) (hi : i < n) : List.set (l.map (fun y => [V.str (bs y)]) ++ List.replicate (n - i) [V.str ⟨#[]⟩]) ((i : Int)).toNat [.str (bs x)] = (l ++ [x]).map (fun y => [V.str (bs y)]) ++ List.replicate (n - (i + 1)) [V.str ⟨#[]⟩] := by
  rw [Int.toNat_natCast, List.set_append_right _ _ (by rw [List.length_map, hl]; exact Nat.le_refl _), List.length_map, hl, Nat.sub_self]
  have h1 : n - i = (n - (i + 1)) + 1 := by omega
  rw [h1, List.replicate_succ, List.set_cons_zero]
  simp
theorem ofDs_eq : ∀ zs, ofDs zs = zs.map ofD
  | [] => rfl
  | t :: r => by rw [ofDs, ofDs_eq r]; rfl
theorem ofD_get {zs : List Dt} {i : Nat} {c : Bool} {n : Int} {s : List UInt8} {l : List Dt} (h : zs[i]? = some (.mk c n s l)) : ∃ k q m l', (ofDs zs)[i]? = some (.mk k q m l') ∧ ofD (.mk c n s l) = .mk k q m l' := by
  obtain ⟨k, q, m, l', e⟩ := tr_cases (ofD (.mk c n s l))
  exact ⟨k, q, m, l', by rw [ofDs_eq, List.getElem?_map, h]; exact congrArg some e, e⟩

theorem term_spec : ∀ x : Dt, wtD x ≤ big → PCalls ax 25 [.agg (encD x)] fun r => r = [.agg (encR (ofD x))] := by
  refine Dt.ind fun c n s zs ih => ?_
  intro hw
  have hb := big9
  have hl := length_wtDs zs
  simp only [wtD] at hw
  refine term.calls (K := fun r => r = [.agg (encR (ofD (.mk c n s zs)))]) ?_
  unfold term.W
  cases c with
  | false => exact ifN (fun _ => rfl) (fun h => by cases h)
  | true =>
    refine ifN (fun h => by cases h) (fun _ => ?_)
    rw [encDs_length]
    refine ⟨fun us => ∃ i : Nat, i ≤ zs.length ∧ us = [.int .i64 i, .int .i64 3, .str (bs s), .int .i64 0, .sl 4 (encRs (ofDs (zs.take i)))], fun us => match us with | .int _ i :: _ => zs.length - i.toNat | _ => 0, ⟨0, Nat.zero_le _, rfl⟩, ?_⟩
    rintro n31 n32 s33 n34 l35 ⟨i, hi, e⟩
    cases e
    refine ifD (fun hlt => ?_) (fun hge => ?_)
    · have hi' : i < zs.length := by omega
      obtain ⟨c', m', s', l', he⟩ := getDt hi'
      have hm := List.mem_of_getElem? he
      have hwm := wtD_mem hm
      refine ⟨by omega, hlt, c', m', bs s', encDs l', drow he, ?_⟩
      obtain ⟨k, q, m, l2, e1, e2⟩ := ofD_get he
      refine (ih _ hm (by omega)).mono fun r hr => ⟨k, bs q, m, encRs l2, by rw [e2] at hr; exact hr, ?_⟩
      have hap : encRs (ofDs (zs.take i)) ++ [[.int .i64 k, .str (bs q), .int .i64 m, .sl 4 (encRs l2)]] = encRs (ofDs (zs.take (i + 1))) := by
        have : [[V.int .i64 k, .str (bs q), .int .i64 m, .sl 4 (encRs l2)]] = encRs [.mk k q m l2] := rfl
        rw [this, ← encRs_append, ofDs_eq, ofDs_eq, List.take_add_one, he, List.map_append, ← e2]; rfl
      have hlen : (ofDs (zs.take i)).length = i := by rw [ofDs_eq]; simp; omega
      rw [hap, encRs_length, hlen, zstep (by omega)]
      simp only [List.length_cons, List.length_nil]
      exact ⟨by omega, by omega, ⟨i + 1, by omega, rfl⟩, by simp only [Int.toNat_natCast]; omega⟩
    · rw [List.take_of_length_le (by omega)]
      simp [ofD, encR]

theorem PTerm_spec : ∀ x : Dt, wtD x ≤ big → rngD x → PCalls ax 24 [.agg (encR (ofD x))] fun r => r = [.str (bs (textD x))] := by
  refine Dt.ind fun c n s zs ih => ?_
  rintro hw ⟨hn, hz⟩
  have hb := big9
  have hmx : IntKind.i64.max = 9223372036854775807 := rfl
  have hl := length_wtDs zs
  rw [rngDs_iff] at hz
  have htl := text_len (.mk c n s zs) ⟨hn, (rngDs_iff zs).2 hz⟩
  have h40 : (⟨#[40]⟩ : ByteArray) = bs [40] := rfl
  have h41 : (⟨#[41]⟩ : ByteArray) = bs [41] := rfl
  have h44 : (⟨#[44, 32]⟩ : ByteArray) = bs [44, 32] := rfl
  rw [wtD] at hw htl
  -- the arguments
  have args : ∀ l : List Dt, (∀ a ∈ l, a ∈ zs) → wtDs l ≤ wtDs zs → (Lib.join (textDs l) [44, 32]).length ≤ big → PCalls ax 39 [.sl 4 (encRs (ofDs l)), .fn 24 [] []] fun r => r = [.str (bs (if l = [] then [] else 40 :: (Lib.join (textDs l) [44, 32] ++ [41])))] := by
    intro l hmem hwl hjl
    have hll := length_wtDs l
    have hle : (ofDs l).length = l.length := by rw [ofDs_eq]; simp
    refine pargs.calls (K := fun r => r = [.str (bs (if l = [] then [] else 40 :: (Lib.join (textDs l) [44, 32] ++ [41])))]) ?_
    unfold pargs.W
    rw [encRs_length, hle]
    refine ifE (fun h0 => ?_) (fun h0 => ?_)
    · have : l = [] := List.eq_nil_of_length_eq_zero (by omega)
      rw [if_pos this]; rfl
    have hne : l ≠ [] := fun h => h0 (by rw [h]; rfl)
    rw [if_neg hne]
    refine ⟨by omega, by omega, by omega, by omega, ?_⟩
    refine ⟨fun us => ∃ i : Nat, i ≤ l.length ∧ us = [.int .i64 i, .sl 1 ((textDs (l.take i)).map (fun y => [V.str (bs y)]) ++ List.replicate (l.length - i) [.str ⟨#[]⟩])], fun us => match us with | .int _ i :: _ => l.length - i.toNat | _ => 0, ⟨0, Nat.zero_le _, by simp [textDs]⟩, ?_⟩
    rintro n19 l20 ⟨i, hi, e⟩
    cases e
    refine ifD (fun hlt => ?_) (fun hge => ?_)
    · have hi' : i < l.length := by omega
      obtain ⟨c', m', s', l', he⟩ := getDt hi'
      have hm := List.mem_of_getElem? he
      have hwm := wtD_mem hm
      obtain ⟨k, q, m, l2, e1, e2⟩ := ofD_get he
      refine ⟨by omega, hlt, k, bs q, m, encRs l2, trow e1, ?_⟩
      have hc := ih _ (hmem _ hm) (by omega) (hz _ (hmem _ hm))
      rw [e2] at hc
      refine hc.mono fun r hr => ⟨_, hr, ?_⟩
      have htx : (textDs (l.take i)).length = i := by rw [textDs_eq]; simp; omega
      have hlen : ((textDs (l.take i)).map (fun y => [V.str (bs y)]) ++ List.replicate (l.length - i) [V.str ⟨#[]⟩]).length = l.length := by rw [List.length_append, List.length_map, htx, List.length_replicate]; omega
      have hsn : textDs (l.take i) ++ [textD (.mk c' m' s' l')] = textDs (l.take (i + 1)) := by
        rw [textDs_eq, textDs_eq, List.take_add_one, he, List.map_append]; rfl
      rw [hlen, zstep (by omega), zset htx hi', hsn]
      exact ⟨by omega, hlt, by omega, ⟨i + 1, by omega, rfl⟩, by simp only [Int.toNat_natCast]; omega⟩
    · have hfull : l.take i = l := List.take_of_length_le (by omega)
      have h00 : l.length - i = 0 := by omega
      have hnx : (textDs l).length = l.length := by rw [textDs_eq]; simp
      rw [hfull, h00, List.replicate_zero, List.append_nil, h44]
      refine (StrJoin_spec (textDs l) [44, 32] (by omega) (by omega)).mono fun r hr => ⟨_, hr, ?_⟩
      rw [h40, app_bs, h41, app_bs]
      simp only [bs_size, List.length_append, List.length_cons, List.length_nil, hmx]
      exact ⟨by omega, by omega, by simp⟩
  have hjz : (Lib.join (textDs zs) [44, 32]).length ≤ big ∨ c = false := by
    cases c with
    | false => exact .inr rfl
    | true =>
      left
      simp only [textD, if_true] at htl
      split at htl
      · rename_i h; subst h; simp [textDs, Lib.join_nil]
      · simp only [List.length_append, List.length_cons, List.length_nil] at htl; omega
  cases c with
  | false =>
    show PCalls ax 24 [.agg [.int .i64 2, .str (bs []), .int .i64 n, .sl 4 (encRs (ofDs []))]] _
    refine PTerm.calls (K := fun r => r = [.str (bs (textD (.mk false n s zs)))]) ?_
    unfold PTerm.W
    refine ifE (fun _ => ?_) (fun h => absurd rfl h)
    have hil := itoa_len hn.1 hn.2
    refine (Itoa_spec n hn.1 hn.2).mono fun r hr => ⟨_, hr, ?_⟩
    refine (args [] (by simp) (by simp [wtDs]) (by simp [textDs, Lib.join_nil])).mono fun r hr => ⟨_, hr, ?_⟩
    rw [if_pos rfl, app_bs, bs_size, bs_size, hmx]
    exact ⟨by simp only [List.length_nil]; omega, by simp [textD]⟩
  | true =>
    show PCalls ax 24 [.agg [.int .i64 3, .str (bs s), .int .i64 0, .sl 4 (encRs (ofDs zs))]] _
    refine PTerm.calls (K := fun r => r = [.str (bs (textD (.mk true n s zs)))]) ?_
    unfold PTerm.W
    refine ifE (fun h => absurd h (by decide)) (fun _ => ?_)
    refine (args zs (fun _ h => h) (Nat.le_refl _) (hjz.resolve_right (by simp))).mono fun r hr => ⟨_, hr, ?_⟩
    rw [app_bs, bs_size, bs_size, hmx]
    have e : textD (.mk true n s zs) = s ++ (if zs = [] then [] else 40 :: (Lib.join (textDs zs) [44, 32] ++ [41])) := by rw [textD]; rfl
    rw [e] at htl
    rw [List.length_append] at htl
    exact ⟨by omega, by rw [e]⟩
end Go.Proofs.YtgjifgjjcaohoaaGreatDoor.Va
end

/- part Z8B -/
section
namespace Go.Dr
open Go.Av Go.Lx Go.Vx
/-- byte j of a number -/
def ib (n : Int) (j : Nat) : UInt8 := UInt8.ofNat (((n % 18446744073709551616).toNat / 2 ^ (8 * j)) % 256)
def encI (n : Int) : List UInt8 := (List.range 8).map (ib n)
theorem ib_cell (n : Int) (j : Nat) (hj : j < 8) : IntKind.u8.wrap (Int.fdiv (IntKind.u64.wrap n) (2 ^ min ((8 * j : Nat) : Int).toNat IntKind.u64.bits)) = ((ib n j).toNat : Int) := by
  have h1 : min ((8 * j : Nat) : Int).toNat IntKind.u64.bits = 8 * j := by
    rw [Int.toNat_natCast]
    have : IntKind.u64.bits = 64 := rfl
    omega
  rw [h1, wu64_mod, w8_mod, Int.fdiv_eq_ediv_of_nonneg _ (Int.le_of_lt (Int.pow_pos (by decide)))]
  unfold ib
  rw [UInt8.toNat_ofNat_of_lt' (Nat.mod_lt _ (by decide))]
  have h2 : ((n % 18446744073709551616).toNat : Int) = n % 18446744073709551616 := Int.toNat_of_nonneg (Int.emod_nonneg _ (by decide))
  rw [Int.natCast_emod, Int.natCast_ediv, h2, Int.natCast_pow]
  rfl
/-- the same byte, by dividing again and again -/
theorem ib_mod (n : Int) (j : Nat) : IntKind.u8.wrap (Int.tmod ((((n % 18446744073709551616).toNat / 2 ^ (8 * j) : Nat)) : Int) 256) = ((ib n j).toNat : Int) := by
  unfold ib
  generalize (n % 18446744073709551616).toNat / 2 ^ (8 * j) = q
  have h : (UInt8.ofNat (q % 256)).toNat = q % 256 := UInt8.toNat_ofNat_of_lt' (by show q % 256 < 256; omega)
  rw [h, w8_mod, Int.tmod_eq_emod_of_nonneg (Int.natCast_nonneg q)]
  omega
mutual
def encB : Dt → Option (List UInt8)
  | .mk c n s zs => if c then (if 1 ≤ s.length ∧ s.length ≤ 32 ∧ zs.length ≤ 8 then (encBs zs).map fun r => 1 :: UInt8.ofNat s.length :: (s ++ UInt8.ofNat zs.length :: r) else none) else some (0 :: encI n)
def encBs : List Dt → Option (List UInt8)
  | [] => some []
  | t :: r => match encB t with
    | some a => (encBs r).map fun b => a ++ b
    | none => none
end
theorem encBs_snoc : ∀ (a : List Dt) (x : Dt), encBs (a ++ [x]) = match encBs a with
    | some l => (encB x).map fun d => l ++ d
    | none => none
  | [], x => by
    simp only [List.nil_append, encBs]
    cases encB x <;> simp
  | t :: r, x => by
    rw [List.cons_append, encBs, encBs]
    cases encB t with
    | none => rfl
    | some d =>
      simp only
      rw [encBs_snoc r x]
      cases encBs r with
      | none => rfl
      | some l => cases encB x <;> simp
theorem encBs_none : ∀ (zs : List Dt) (i : Nat), encBs (zs.take i) = none → encBs zs = none
  | [], i, h => by simpa using h
  | t :: r, 0, h => by simp [encBs] at h
  | t :: r, i + 1, h => by
    rw [List.take_succ_cons, encBs] at h
    rw [encBs]
    cases ht : encB t with
    | none => rfl
    | some d =>
      rw [ht] at h
      simp only [Option.map_eq_none_iff] at h ⊢
      exact encBs_none r i h
theorem encB_len : ∀ (x : Dt) (e : List UInt8), encB x = some e → e.length + 4 ≤ wtD x := by
  refine Dt.ind fun c n s zs ih => ?_
  intro e h
  rw [encB] at h
  rw [wtD]
  split at h
  · split at h
    · simp only [Option.map_eq_some_iff] at h
      obtain ⟨r, h1, rfl⟩ := h
      have row : ∀ (l : List Dt) (r : List UInt8), (∀ a ∈ l, ∀ e, encB a = some e → e.length + 4 ≤ wtD a) → encBs l = some r → r.length ≤ wtDs l := by
        intro l
        induction l with
        | nil => intro r _ h; simp [encBs] at h; subst h; simp
        | cons t q ihq =>
          intro r k h
          rw [encBs] at h
          cases ht : encB t with
          | none => rw [ht] at h; cases h
          | some a =>
            rw [ht] at h
            simp only [Option.map_eq_some_iff] at h
            obtain ⟨b, hb, rfl⟩ := h
            have h1 := k t List.mem_cons_self a ht
            have h2 := ihq b (fun a ha => k a (List.mem_cons_of_mem _ ha)) hb
            rw [wtDs, List.length_append]; omega
      have := row zs r ih h1
      simp only [List.length_cons, List.length_append]; omega
    · cases h
  · cases h
    simp [encI]; omega
theorem wt_len : ∀ x : Dt, wtD x ≤ 1099511627776 → lenOk x := by
  refine Dt.ind fun c n s zs ih => ?_
  intro h
  rw [wtD] at h
  have h1 := length_wtDs zs
  exact ⟨by omega, (lenOks_iff zs).2 fun z hz => ih z hz (by have := wtD_mem hz; omega)⟩
/-- bytes as rows -/
abbrev rb (l : List UInt8) : List (List V) := rowsOf (bs l)
theorem rb_eq (l : List UInt8) : rb l = l.map fun b => [V.int .u8 (b.toNat : Int)] := by simp [rb, rowsOf]
theorem rb_append (a b : List UInt8) : rb (a ++ b) = rb a ++ rb b := by simp [rb_eq]
@[simp] theorem rb_length (l : List UInt8) : (rb l).length = l.length := by simp [rb_eq]
theorem u8_len {n : Nat} (h : n ≤ 255) : IntKind.u8.wrap (n : Int) = ((UInt8.ofNat n).toNat : Int) := by
  rw [UInt8.toNat_ofNat_of_lt' (by show n < 256; omega), w8 (by omega) (by omega)]
theorem wtDs_take (zs : List Dt) (i : Nat) : wtDs (zs.take i) ≤ wtDs zs := by
  induction zs generalizing i with
  | nil => simp
  | cons t r ih => cases i with
    | zero => simp [wtDs]
    | succ i => simp only [List.take_succ_cons, wtDs]; have := ih i; omega
theorem encBs_len : ∀ (l : List Dt) (r : List UInt8), encBs l = some r → r.length ≤ wtDs l
  | [], r, h => by simp [encBs] at h; subst h; simp
  | t :: q, r, h => by
    rw [encBs] at h
    cases ht : encB t with
    | none => rw [ht] at h; cases h
    | some a =>
      rw [ht] at h
      simp only [Option.map_eq_some_iff] at h
      obtain ⟨b, hb, rfl⟩ := h
      have h1 := encB_len t a ht
      have h2 := encBs_len q b hb
      rw [wtDs, List.length_append]; omega
end Go.Dr
namespace Go.Proofs.YtgjifgjjcaohoaaGreatDoor.Va
open Go.Vx Go.Av Go.Lx Go.Dr

/-- the error of a writer -/
def errB (x : Dt) : Option Nat := if (encB x).isSome then none else some 1
theorem put_step {c : Bool} {n : Int} {s : List UInt8} {xs : List Dt} (l : List UInt8) (hw : l.length + wtD (.mk c n s xs) ≤ big)
    (ih : ∀ a ∈ xs, ∀ l : List UInt8, l.length + wtD a ≤ big → SCalls ax 26 [.own 0, .agg (encD a)] [.lst 5 1 false (rb l)] fun r o => ∃ l', r = [.own 1, .err (errB a)] ∧ o = [.dead, .lst 5 1 false (rb l')] ∧ (∀ e, encB a = some e → l' = l ++ e) ∧ (encB a = none → l' = []))
    (hd : List UInt8) (i : Nat) (hi : i < xs.length) (e : List UInt8) (he : encBs (xs.take i) = some e) (hhd : hd.length = l.length + s.length + 3) :
    ∃ c' n' s' l', xs[i]? = some (.mk c' n' s' l') ∧ SCalls ax 26 [.own 0, .agg (encD (.mk c' n' s' l'))] [.lst 5 1 false (rb (hd ++ e))] fun r o => ∃ l2, r = [.own 1, .err (errB (.mk c' n' s' l'))] ∧ o = [.dead, .lst 5 1 false (rb l2)] ∧
      (encB (.mk c' n' s' l') = none → encBs xs = none) ∧ (∀ q, encB (.mk c' n' s' l') = some q → encBs (xs.take (i + 1)) = some (e ++ q) ∧ l2 = hd ++ (e ++ q)) := by
  obtain ⟨c', n', s', l', hx⟩ := getDt hi
  have hm := List.mem_of_getElem? hx
  have hwm := wtD_mem hm
  rw [wtD] at hw
  have h1 := encBs_len _ _ he
  have hsn := encBs_snoc (xs.take i) (.mk c' n' s' l')
  have htk : xs.take (i + 1) = xs.take i ++ [.mk c' n' s' l'] := by rw [List.take_add_one, hx]; rfl
  have hsum : wtDs (xs.take i) + wtD (.mk c' n' s' l') ≤ wtDs xs := by
    have := wtDs_take xs (i + 1)
    rw [htk] at this
    have e2 : ∀ (a : List Dt) (x : Dt), wtDs (a ++ [x]) = wtDs a + wtD x := by
      intro a x
      induction a with
      | nil => simp [wtDs]
      | cons t r ih => simp only [List.cons_append, wtDs, ih]; omega
    rw [e2] at this; exact this
  rw [← htk, he] at hsn
  refine ⟨c', n', s', l', hx, (ih _ hm (hd ++ e) (by rw [List.length_append]; omega)).mono fun r o ⟨l2, hr, ho, hl2, _⟩ => ⟨l2, hr, ho, fun hn => ?_, fun q hq => ?_⟩⟩
  · refine encBs_none xs (i + 1) ?_
    rw [hsn, hn]; rfl
  · rw [hsn, hq]
    exact ⟨rfl, by rw [hl2 q hq, List.append_assoc]⟩
theorem rb_one (b : UInt8) {x : Int} (h : x = (b.toNat : Int)) (l : List UInt8) : rb l ++ [[V.int .u8 x]] = rb (l ++ [b]) := by
  rw [rb_append, h]; rfl
theorem int_snoc (n : Int) (j : Nat) : (List.range j).map (ib n) ++ [ib n j] = (List.range (j + 1)).map (ib n) := by rw [List.range_succ]; simp
theorem enc_no {n : Int} {s : List UInt8} {xs : List Dt} (h : ¬ (1 ≤ s.length ∧ s.length ≤ 32 ∧ xs.length ≤ 8)) : encB (.mk true n s xs) = none := by rw [encB]; simp only [if_true]; rw [if_neg h]
theorem enc_yes {n : Int} {s : List UInt8} {xs : List Dt} (h : 1 ≤ s.length ∧ s.length ≤ 32 ∧ xs.length ≤ 8) : encB (.mk true n s xs) = (encBs xs).map fun r => 1 :: UInt8.ofNat s.length :: (s ++ UInt8.ofNat xs.length :: r) := by rw [encB]; simp only [if_true]; rw [if_pos h]

theorem put_spec : ∀ (x : Dt) (l : List UInt8), l.length + wtD x ≤ big → SCalls ax 26 [.own 0, .agg (encD x)] [.lst 5 1 false (rb l)] fun r o => ∃ l', r = [.own 1, .err (errB x)] ∧ o = [.dead, .lst 5 1 false (rb l')] ∧ (∀ e, encB x = some e → l' = l ++ e) ∧ (encB x = none → l' = []) := by
  refine Dt.ind fun c n s xs ih => ?_
  intro l hw
  have hb := big9
  have hst := put_step l hw ih
  rw [wtD] at hw
  have hlw := length_wtDs xs
  generalize hK : (fun (r : List V) (o : List Ob) => ∃ l', r = [.own 1, .err (errB (.mk c n s xs))] ∧ o = [.dead, .lst 5 1 false (rb l')] ∧ (∀ e, encB (.mk c n s xs) = some e → l' = l ++ e) ∧ (encB (.mk c n s xs) = none → l' = [])) = K
  have no : encB (.mk c n s xs) = none → K [.own 1, .err (some 1)] [.dead, .lst 5 1 false (rb [])] := fun h => by
    rw [← hK]; exact ⟨[], by unfold errB; rw [h]; rfl, rfl, fun e he => (by rw [h] at he; cases he), fun _ => rfl⟩
  have yes : ∀ e, encB (.mk c n s xs) = some e → K [.own 1, .err none] [.dead, .lst 5 1 false (rb (l ++ e))] := fun e h => by
    rw [← hK]; exact ⟨_, by unfold errB; rw [h]; rfl, rfl, fun e' he => (by rw [h] at he; cases he; rfl), fun hn => (by rw [h] at hn; cases hn)⟩
  refine put.calls (K := K) ?_
  unfold put.W
  cases c with
  | false =>
    refine ifN (fun _ => ?_) (fun h => by cases h)
    simp only [rb_length, List.length_cons, List.length_nil]
    refine ⟨by omega, by omega, ?_⟩
    refine ⟨fun us => ∃ j : Nat, j ≤ 8 ∧ us = [.sl 1 (rb (l ++ 0 :: (List.range j).map (ib n))), .int .i64 ((8 * j : Nat) : Int)], fun us => match us with | [_, .int _ i] => 100 - i.toNat | _ => 0, ⟨0, by omega, ?_⟩, ?_⟩
    · rw [show ([[V.int .u8 0]] : List (List V)) = rb [0] from rfl, ← rb_append]; simp
    rintro l17 n18 ⟨j, hj, e⟩
    cases e
    refine ifD (fun hlt => ?_) (fun hge => ?_)
    · have hj8 : j < 8 := by omega
      rw [rb_length]
      have hq : IntKind.i64.wrap (((8 * j : Nat) : Int) + 8) = ((8 * (j + 1) : Nat) : Int) := by rw [w64 (by omega) (by omega)]; push_cast; omega
      rw [ib_cell n j hj8, rb_one (ib n j) rfl, hq, List.append_assoc, List.cons_append, int_snoc]
      simp only [List.length_append, List.length_cons, List.length_map, List.length_range]
      exact ⟨by omega, by omega, by omega, ⟨j + 1, by omega, rfl⟩, by simp only [Int.toNat_natCast]; omega⟩
    · have : j = 8 := by omega
      subst this
      exact yes (0 :: encI n) (by simp [encB, encI])
  | true =>
    refine ifN (fun h => by cases h) (fun _ => ?_)
    rw [bs_size, encDs_length]
    refine ifD (fun h => no (enc_no (by omega))) (fun h1 => ifD (fun h => no (enc_no (by omega))) (fun h2 => ifD (fun h => no (enc_no (by omega))) (fun h3 => ?_)))
    have hok : 1 ≤ s.length ∧ s.length ≤ 32 ∧ xs.length ≤ 8 := by omega
    have hen := enc_yes (n := n) hok
    have e1 : rb l ++ [[V.int .u8 1], [V.int .u8 (IntKind.u8.wrap (s.length : Int))]] = rb (l ++ [1, UInt8.ofNat s.length]) := by
      rw [rb_append, u8_len (by omega)]; rfl
    have e2 : rb l ++ [[V.int .u8 1], [V.int .u8 (IntKind.u8.wrap (s.length : Int))]] ++ rowsOf (bs s) ++ [[V.int .u8 (IntKind.u8.wrap (xs.length : Int))]] = rb (l ++ [1, UInt8.ofNat s.length] ++ s ++ [UInt8.ofNat xs.length]) := by
      rw [e1, ← rb_append, rb_one (UInt8.ofNat xs.length) (u8_len (by omega))]
    rw [e2]
    simp only [List.length_append, rb_length, List.length_cons, List.length_nil]
    refine ⟨by omega, by omega, by omega, by omega, by omega, by omega, ?_⟩
    generalize hhd : l ++ [1, UInt8.ofNat s.length] ++ s ++ [UInt8.ofNat xs.length] = hd
    have hdl : hd.length = l.length + s.length + 3 := by rw [← hhd]; simp only [List.length_append, List.length_cons, List.length_nil]; omega
    refine ⟨fun us => ∃ (i : Nat) (e : List UInt8), i ≤ xs.length ∧ encBs (xs.take i) = some e ∧ us = [.sl 1 (rb (hd ++ e)), .int .i64 i], fun us => match us with | [_, .int _ i] => xs.length - i.toNat | _ => 0, ⟨0, [], Nat.zero_le _, rfl, by simp⟩, ?_⟩
    rintro l48 n49 ⟨i, e, hi, he, eq⟩
    cases eq
    refine ifD (fun hlt => ?_) (fun hge => ?_)
    · obtain ⟨c', n', s', l', hx, hs⟩ := hst hd i (by omega) e he hdl
      refine ⟨by omega, hlt, c', n', bs s', encDs l', drow hx, hs.mono fun r o ⟨l2, hr, ho, k1, k2⟩ => ⟨_, _, hr, ho, ?_⟩⟩
      cases hq : encB (.mk c' n' s' l') with
      | none =>
        have hne : encB (.mk true n s xs) = none := by rw [hen, k1 hq]; rfl
        unfold errB
        rw [hq]
        exact ifN (fun _ => no hne) (fun h => by cases h)
      | some q =>
        obtain ⟨k3, rfl⟩ := k2 q hq
        unfold errB
        rw [hq]
        refine ifN (fun h => by cases h) (fun _ => ?_)
        rw [zstep (by omega)]
        exact ⟨⟨i + 1, e ++ q, by omega, k3, rfl⟩, by simp only [Int.toNat_natCast]; omega⟩
    · rw [List.take_of_length_le (by omega)] at he
      have := yes _ (by rw [hen, he]; rfl)
      rw [← hhd]
      simpa using this
end Go.Proofs.YtgjifgjjcaohoaaGreatDoor.Va
end

/- part Z8C -/
section
namespace Go.Proofs.YtgjifgjjcaohoaaGreatDoor.Va
open Go.Vx Go.Av Go.Lx Go.Dr

theorem put0_spec (x : Dt) (hw : wtD x ≤ big) : SCalls ax 26 [.nls, .agg (encD x)] [] fun r o => ∃ l', r = [.own 0, .err (errB x)] ∧ o = [.lst 5 1 false (rb l')] ∧ (∀ e, encB x = some e → l' = e) ∧ (encB x = none → l' = []) := by
  obtain ⟨c, n, s, xs, rfl⟩ := dt_cases x
  have hb := big9
  have hst := put_step (c := c) (n := n) (s := s) (xs := xs) [] (by simpa using hw) (fun a _ => put_spec a)
  rw [wtD] at hw
  have hlw := length_wtDs xs
  generalize hK : (fun (r : List V) (o : List Ob) => ∃ l', r = [.own 0, .err (errB (.mk c n s xs))] ∧ o = [.lst 5 1 false (rb l')] ∧ (∀ e, encB (.mk c n s xs) = some e → l' = e) ∧ (encB (.mk c n s xs) = none → l' = [])) = K
  have no : encB (.mk c n s xs) = none → K [.own 0, .err (some 1)] [.lst 5 1 false (rb [])] := fun h => by
    rw [← hK]; exact ⟨[], by unfold errB; rw [h]; rfl, rfl, fun e he => (by rw [h] at he; cases he), fun _ => rfl⟩
  have yes : ∀ e, encB (.mk c n s xs) = some e → K [.own 0, .err none] [.lst 5 1 false (rb e)] := fun e h => by
    rw [← hK]; exact ⟨_, by unfold errB; rw [h]; rfl, rfl, fun e' he => (by rw [h] at he; cases he; rfl), fun hn => (by rw [h] at hn; cases hn)⟩
  refine put0.calls (K := K) ?_
  unfold put0.W
  cases c with
  | false =>
    refine ifN (fun _ => ?_) (fun h => by cases h)
    simp only [List.length_cons, List.length_nil]
    refine ⟨by omega, by omega, ?_⟩
    refine ⟨fun us => ∃ j : Nat, j ≤ 8 ∧ us = [.sl 1 (rb (0 :: (List.range j).map (ib n))), .int .i64 ((8 * j : Nat) : Int)], fun us => match us with | [_, .int _ i] => 100 - i.toNat | _ => 0, ⟨0, by omega, ?_⟩, ?_⟩
    · rw [show ([[V.int .u8 0]] : List (List V)) = rb [0] from rfl]; simp
    rintro l17 n18 ⟨j, hj, e⟩
    cases e
    refine ifD (fun hlt => ?_) (fun hge => ?_)
    · have hj8 : j < 8 := by omega
      rw [rb_length]
      have hq : IntKind.i64.wrap (((8 * j : Nat) : Int) + 8) = ((8 * (j + 1) : Nat) : Int) := by rw [w64 (by omega) (by omega)]; push_cast; omega
      rw [ib_cell n j hj8, rb_one (ib n j) rfl, hq, List.cons_append, int_snoc]
      simp only [List.length_cons, List.length_map, List.length_range]
      exact ⟨by omega, by omega, by omega, ⟨j + 1, by omega, rfl⟩, by simp only [Int.toNat_natCast]; omega⟩
    · have : j = 8 := by omega
      subst this
      exact yes (0 :: encI n) (by simp [encB, encI])
  | true =>
    refine ifN (fun h => by cases h) (fun _ => ?_)
    rw [bs_size, encDs_length]
    refine ifD (fun h => no (enc_no (by omega))) (fun h1 => ifD (fun h => no (enc_no (by omega))) (fun h2 => ifD (fun h => no (enc_no (by omega))) (fun h3 => ?_)))
    have hok : 1 ≤ s.length ∧ s.length ≤ 32 ∧ xs.length ≤ 8 := by omega
    have hen := enc_yes (n := n) hok
    have e1 : ([[V.int .u8 1], [V.int .u8 (IntKind.u8.wrap (s.length : Int))]] : List (List V)) = rb [1, UInt8.ofNat s.length] := by
      rw [u8_len (by omega)]; rfl
    have e2 : ([[V.int .u8 1], [V.int .u8 (IntKind.u8.wrap (s.length : Int))]] : List (List V)) ++ rowsOf (bs s) ++ [[V.int .u8 (IntKind.u8.wrap (xs.length : Int))]] = rb ([1, UInt8.ofNat s.length] ++ s ++ [UInt8.ofNat xs.length]) := by
      rw [e1, ← rb_append, rb_one (UInt8.ofNat xs.length) (u8_len (by omega))]
    rw [e2]
    simp only [List.length_append, rb_length, List.length_cons, List.length_nil]
    refine ⟨by omega, by omega, by omega, by omega, by omega, by omega, ?_⟩
    generalize hhd : [1, UInt8.ofNat s.length] ++ s ++ [UInt8.ofNat xs.length] = hd
    have hdl : hd.length = ([] : List UInt8).length + s.length + 3 := by rw [← hhd]; simp only [List.length_append, List.length_cons, List.length_nil]; omega
    refine ⟨fun us => ∃ (i : Nat) (e : List UInt8), i ≤ xs.length ∧ encBs (xs.take i) = some e ∧ us = [.sl 1 (rb (hd ++ e)), .int .i64 i], fun us => match us with | [_, .int _ i] => xs.length - i.toNat | _ => 0, ⟨0, [], Nat.zero_le _, rfl, by simp⟩, ?_⟩
    rintro l48 n49 ⟨i, e, hi, he, eq⟩
    cases eq
    refine ifD (fun hlt => ?_) (fun hge => ?_)
    · obtain ⟨c', n', s', l', hx, hs⟩ := hst hd i (by omega) e he hdl
      refine ⟨by omega, hlt, c', n', bs s', encDs l', drow hx, hs.mono fun r o ⟨l2, hr, ho, k1, k2⟩ => ⟨_, _, hr, ho, ?_⟩⟩
      cases hq : encB (.mk c' n' s' l') with
      | none =>
        have hne : encB (.mk true n s xs) = none := by rw [hen, k1 hq]; rfl
        unfold errB
        rw [hq]
        exact ifN (fun _ => no hne) (fun h => by cases h)
      | some q =>
        obtain ⟨k3, rfl⟩ := k2 q hq
        unfold errB
        rw [hq]
        refine ifN (fun h => by cases h) (fun _ => ?_)
        rw [zstep (by omega)]
        exact ⟨⟨i + 1, e ++ q, by omega, k3, rfl⟩, by simp only [Int.toNat_natCast]; omega⟩
    · rw [List.take_of_length_le (by omega)] at he
      have := yes _ (by rw [hen, he]; rfl)
      rw [← hhd]
      simpa using this

theorem Encode_spec (x : Dt) (hw : wtD x ≤ big) : PCalls ax 11 [.agg (encD x)] fun r => r = [.sl 1 (rb (if GoodN x then (encB x).getD [] else [])), .err (if GoodN x then errB x else some 0)] := by
  have hb := big9
  have hlo := wt_len x (by omega)
  have hg := GoodN_spec x hlo
  have hp := put0_spec x hw
  obtain ⟨c, n, s, zs, rfl⟩ := dt_cases x
  refine Encode.calls (K := fun r => r = [.sl 1 (rb (if GoodN (.mk c n s zs) then (encB (.mk c n s zs)).getD [] else [])), .err (if GoodN (.mk c n s zs) then errB (.mk c n s zs) else some 0)]) ?_
  unfold Encode.W
  refine hg.mono fun r hr => ⟨_, hr, ifN (fun h => ?_) (fun h => ?_)⟩
  · have h := of_decide_eq_false h
    simp only [if_neg h]; rfl
  · have h := of_decide_eq_true h
    simp only [if_pos h]
    refine hp.mono fun r o ⟨l', hr, ho, hl, hl2⟩ => ⟨_, _, hr, ho, ?_⟩
    cases he : encB (.mk c n s zs) with
    | none => rw [hl2 he]; rfl
    | some e => rw [hl e he]; rfl

theorem rput_spec : ∀ (x : Dt), wtD x ≤ big → PCalls ax 27 [.agg (encD x)] fun r => r = [.sl 1 (rb ((encB x).getD [])), .bool (encB x).isSome] := by
  refine Dt.ind fun c n s xs ih => ?_
  intro hw
  have hb := big9
  rw [wtD] at hw
  have hlw := length_wtDs xs
  generalize hK : (fun (r : List V) => r = [.sl 1 (rb ((encB (.mk c n s xs)).getD [])), .bool (encB (.mk c n s xs)).isSome]) = K
  have no : encB (.mk c n s xs) = none → K [.sl 1 [], .bool false] := fun h => by
    rw [← hK, h]; rfl
  have yes : ∀ e, encB (.mk c n s xs) = some e → K [.sl 1 (rb e), .bool true] := fun e h => by
    rw [← hK, h]; rfl
  refine rput.calls (K := K) ?_
  unfold rput.W
  cases c with
  | false =>
    refine ifN (fun _ => ?_) (fun h => by cases h)
    refine ⟨fun us => ∃ j : Nat, j ≤ 8 ∧ us = [.sl 1 (rb (0 :: (List.range j).map (ib n))), .int .u64 (((n % 18446744073709551616).toNat / 2 ^ (8 * j) : Nat) : Int), .int .i64 j], fun us => match us with | [_, _, .int _ i] => 100 - i.toNat | _ => 0, ⟨0, by omega, ?_⟩, ?_⟩
    · rw [show ([[V.int .u8 0]] : List (List V)) = rb [0] from rfl, wu64_mod]
      simp only [List.range_zero, List.map_nil, Nat.mul_zero, Nat.pow_zero, Nat.div_one]
      rw [Int.toNat_of_nonneg (Int.emod_nonneg _ (by decide))]
      rfl
    rintro l22 n23 n24 ⟨j, hj, e⟩
    cases e
    refine ifD (fun hlt => ?_) (fun hge => ?_)
    · have hj8 : j < 8 := by omega
      rw [ib_mod, rb_one (ib n j) rfl, rb_length, List.cons_append, int_snoc, zstep (by omega)]
      have hq : IntKind.u64.wrap (Int.tdiv (((n % 18446744073709551616).toNat / 2 ^ (8 * j) : Nat) : Int) 256) = (((n % 18446744073709551616).toNat / 2 ^ (8 * (j + 1)) : Nat) : Int) := by
        have h1 : (n % 18446744073709551616).toNat < 18446744073709551616 := by omega
        rw [show 8 * (j + 1) = 8 * j + 8 by omega, Nat.pow_add, ← Nat.div_div_eq_div_mul]
        have h2 : (n % 18446744073709551616).toNat / 2 ^ (8 * j) ≤ (n % 18446744073709551616).toNat := Nat.div_le_self _ _
        generalize (n % 18446744073709551616).toNat / 2 ^ (8 * j) = q at h2 ⊢
        rw [Int.tdiv_eq_ediv_of_nonneg (Int.natCast_nonneg q), wu64 (by omega) (by omega)]
        rfl
      rw [hq]
      simp only [List.length_cons, List.length_map, List.length_range, List.length_nil]
      exact ⟨trivial, by decide, by omega, by omega, trivial, by decide, ⟨j + 1, by omega, rfl⟩, by simp only [Int.toNat_natCast]; omega⟩
    · have : j = 8 := by omega
      subst this
      exact yes (0 :: encI n) (by simp [encB, encI])
  | true =>
    refine ifN (fun h => by cases h) (fun _ => ?_)
    rw [bs_size, encDs_length]
    refine ifE (fun h => no (enc_no (by omega))) (fun h1 => ifD (fun h => no (enc_no (by omega))) (fun h2 => ifD (fun h => no (enc_no (by omega))) (fun h3 => ?_)))
    have hok : 1 ≤ s.length ∧ s.length ≤ 32 ∧ xs.length ≤ 8 := by omega
    have hen := enc_yes (n := n) hok
    have e1 : ([[V.int .u8 1], [V.int .u8 (IntKind.u8.wrap (s.length : Int))]] : List (List V)) = rb [1, UInt8.ofNat s.length] := by
      rw [u8_len (by omega)]; rfl
    have e2 : ([[V.int .u8 1], [V.int .u8 (IntKind.u8.wrap (s.length : Int))]] : List (List V)) ++ rowsOf (bs s) ++ [[V.int .u8 (IntKind.u8.wrap (xs.length : Int))]] = rb ([1, UInt8.ofNat s.length] ++ s ++ [UInt8.ofNat xs.length]) := by
      rw [e1, ← rb_append, rb_one (UInt8.ofNat xs.length) (u8_len (by omega))]
    rw [e2]
    simp only [List.length_append, rb_length, List.length_cons, List.length_nil]
    refine ⟨by omega, by omega, by omega, by omega, ?_⟩
    generalize hhd : [1, UInt8.ofNat s.length] ++ s ++ [UInt8.ofNat xs.length] = hd
    have hdl : hd.length = s.length + 3 := by rw [← hhd]; simp only [List.length_append, List.length_cons, List.length_nil]; omega
    refine ⟨fun us => ∃ (i : Nat) (e : List UInt8), i ≤ xs.length ∧ encBs (xs.take i) = some e ∧ us = [.sl 1 (rb (hd ++ e)), .int .i64 i], fun us => match us with | [_, .int _ i] => xs.length - i.toNat | _ => 0, ⟨0, [], Nat.zero_le _, rfl, by simp⟩, ?_⟩
    rintro l48 n49 ⟨i, e, hi, he, eq⟩
    cases eq
    refine ifD (fun hlt => ?_) (fun hge => ?_)
    · obtain ⟨c', n', s', l', hx⟩ := getDt (xs := xs) (i := i) (by omega)
      have hm := List.mem_of_getElem? hx
      have hwm := wtD_mem hm
      have hsn := encBs_snoc (xs.take i) (.mk c' n' s' l')
      have htk : xs.take (i + 1) = xs.take i ++ [.mk c' n' s' l'] := by rw [List.take_add_one, hx]; rfl
      rw [← htk, he] at hsn
      refine ⟨by omega, hlt, c', n', bs s', encDs l', drow hx, (ih _ hm (by omega)).mono fun r hr => ⟨_, _, hr, ?_⟩⟩
      cases hq : encB (.mk c' n' s' l') with
      | none =>
        rw [hq] at hsn
        exact ifN (fun _ => no (by rw [hen, encBs_none xs (i + 1) (by rw [hsn]; rfl)]; rfl)) (fun h => by cases h)
      | some q =>
        rw [hq] at hsn
        have hq2 := encBs_len _ _ (show encBs (xs.take (i + 1)) = some (e ++ q) from hsn)
        have hwt := wtDs_take xs (i + 1)
        refine ifN (fun h => by cases h) (fun _ => ?_)
        simp only [Option.getD_some]
        rw [← rb_append, zstep (by omega), List.append_assoc]
        simp only [rb_length, List.length_append] at hq2 ⊢
        exact ⟨by omega, by omega, ⟨i + 1, e ++ q, by omega, hsn, rfl⟩, by simp only [Int.toNat_natCast]; omega⟩
    · rw [List.take_of_length_le (by omega)] at he
      have := yes _ (by rw [hen, he]; rfl)
      rw [← hhd]
      simpa using this
theorem REncode_spec (x : Dt) (hw : wtD x ≤ big) : PCalls ax 12 [.agg (encD x)] fun r => r = [.sl 1 (rb (if GoodN x then (encB x).getD [] else [])), .int .i64 (if GoodN x then (if (encB x).isSome then 0 else 10) else 4)] := by
  have hb := big9
  have hlo := wt_len x (by omega)
  have hg := RGoodN_spec x hlo
  have hp := rput_spec x hw
  obtain ⟨c, n, s, zs, rfl⟩ := dt_cases x
  refine REncode.calls (K := fun r => r = [.sl 1 (rb (if GoodN (.mk c n s zs) then (encB (.mk c n s zs)).getD [] else [])), .int .i64 (if GoodN (.mk c n s zs) then (if (encB (.mk c n s zs)).isSome then 0 else 10) else 4)]) ?_
  unfold REncode.W
  refine hg.mono fun r hr => ⟨_, hr, ifN (fun h => ?_) (fun h => ?_)⟩
  · have h := of_decide_eq_false h
    simp only [if_neg h]; rfl
  · have h := of_decide_eq_true h
    simp only [if_pos h]
    refine hp.mono fun r hr => ⟨_, _, hr, ifN (fun h2 => ?_) (fun h2 => ?_)⟩
    · cases hq : encB (.mk c n s zs) with
      | none => rfl
      | some q => rw [hq] at h2; cases h2
    · rw [h2]; rfl
def aliveD : Dt := .mk true 0 [99, 111, 110, 115] [.mk false 1 [] [], .mk true 0 [110, 105, 108] []]
theorem AliveA_spec : PCalls ax 5 [] fun r => r = [.bool true] := by
  refine alive.calls (K := fun r => r = [.bool true]) ?_
  unfold alive.W
  have h1 : encB aliveD = some [1, 4, 99, 111, 110, 115, 2, 0, 1, 0, 0, 0, 0, 0, 0, 0, 1, 3, 110, 105, 108, 0] := by decide
  have h2 : GoodN aliveD := by decide
  have h3 : wtD aliveD ≤ big := by rw [big9]; decide
  refine (Encode_spec aliveD h3).mono fun r hr => ?_
  have he : (if GoodN aliveD then errB aliveD else some 0) = none := by rw [if_pos h2]; unfold errB; rw [h1]; rfl
  rw [he, if_pos h2, h1] at hr
  exact ⟨_, none, hr, bs _, rfl, rfl⟩
end Go.Proofs.YtgjifgjjcaohoaaGreatDoor.Va
end

/- part Z8D -/
section
namespace Go.Dr
open Go.Av Go.Lx Go.Vx
theorem or_byte {n b i : Nat} (hi : i < 8) (hn : n < 256 ^ i) (hb : b < 256) :
    IntKind.u64.wrap ((BitVec.ofInt IntKind.u64.bits (n : Int) ||| BitVec.ofInt IntKind.u64.bits (IntKind.u64.wrap ((IntKind.u64.wrap (b : Int)) * 2 ^ min ((IntKind.i64.wrap (8 * (i : Int))) : Int).toNat IntKind.u64.bits))).toNat : Nat) = ((n + b * 256 ^ i : Nat) : Int) := by
  have hp : (256 : Nat) ^ i = 2 ^ (8 * i) := by rw [Nat.pow_mul]
  have hpi : 256 ^ i ≤ 256 ^ 7 := Nat.pow_le_pow_right (by omega) (by omega)
  have h7 : (256 : Nat) ^ 7 = 72057594037927936 := by decide
  have hmul : b * 256 ^ i ≤ 255 * 256 ^ i := Nat.mul_le_mul_right _ (by omega)
  have e0 : min (IntKind.i64.wrap (8 * (i : Int))).toNat IntKind.u64.bits = 8 * i := by
    rw [w64 (by omega) (by omega)]
    have : IntKind.u64.bits = 64 := rfl
    omega
  rw [e0, wu64 (x := (b : Int)) (by omega) (by omega)]
  have e1 : ((b : Int) * 2 ^ (8 * i)) = ((b * 256 ^ i : Nat) : Int) := by rw [hp]; simp
  rw [e1, wu64 (x := ((b * 256 ^ i : Nat) : Int)) (by omega) (by omega)]
  have e2 : ∀ m : Nat, BitVec.ofInt IntKind.u64.bits (m : Int) = BitVec.ofNat 64 m := fun m => BitVec.ofInt_natCast 64 m
  have e3 : (BitVec.ofInt IntKind.u64.bits (n : Int) ||| BitVec.ofInt IntKind.u64.bits ((b * 256 ^ i : Nat) : Int)).toNat = n + b * 256 ^ i := by
    rw [e2, e2]
    show (BitVec.ofNat 64 n ||| BitVec.ofNat 64 (b * 256 ^ i)).toNat = _
    rw [BitVec.toNat_or, BitVec.toNat_ofNat, BitVec.toNat_ofNat, Nat.mod_eq_of_lt (by omega), Nat.mod_eq_of_lt (by omega), hp, Nat.mul_comm, Nat.or_comm, ← Nat.two_pow_add_eq_or_of_lt (by rw [← hp]; exact hn)]
    omega
  rw [e3, wu64 (by omega) (by omega)]
mutual
/-- data as they are read -/
def normD : Dt → Dt
  | .mk c n s zs => if c then .mk true 0 s (normDs zs) else .mk false n [] []
def normDs : List Dt → List Dt
  | [] => []
  | t :: r => normD t :: normDs r
end
theorem normDs_eq : ∀ zs, normDs zs = zs.map normD
  | [] => rfl
  | t :: r => by rw [normDs, normDs_eq r]; rfl
theorem rb_take (l : List UInt8) (n : Nat) : (rb l).take n = rb (l.take n) := by simp [rb_eq]
theorem rb_drop (l : List UInt8) (n : Nat) : (rb l).drop n = rb (l.drop n) := by simp [rb_eq]
theorem rb_row {l : List UInt8} {i : Nat} {b : UInt8} (h : l[i]? = some b) : List.take 1 (Av.rowAt (rb l) i) = [.int .u8 (b.toNat : Int)] := by
  rw [rb_eq, Av.rowAt, List.getD_eq_getElem?_getD, List.getElem?_map, h]; rfl
theorem encBs_drop {zs : List Dt} {i : Nat} {x : Dt} {r : List UInt8} (hx : zs[i]? = some x) (h : encBs (zs.drop i) = some r) : ∃ a b, encB x = some a ∧ encBs (zs.drop (i + 1)) = some b ∧ r = a ++ b := by
  have hd : zs.drop i = x :: zs.drop (i + 1) := by
    obtain ⟨hlt, e⟩ := List.getElem?_eq_some_iff.1 hx
    rw [List.drop_eq_getElem_cons hlt, e]
  rw [hd, encBs] at h
  cases ha : encB x with
  | none => rw [ha] at h; cases h
  | some a =>
    rw [ha] at h
    simp only [Option.map_eq_some_iff] at h
    obtain ⟨b, hb, rfl⟩ := h
    exact ⟨a, b, rfl, hb, rfl⟩
end Go.Dr
namespace Go.Proofs.YtgjifgjjcaohoaaGreatDoor.Va
open Go.Vx Go.Av Go.Lx Go.Dr

abbrev DR (L : List UInt8) (q : Nat) : Ob := .box [.sl 1 (rb L), .int .i64 q]
theorem take_spec (k : Nat) (L : List UInt8) (q : Nat) (h : k ≤ L.length) : SCalls ax 40 [.ptr 0 0, .int .i64 k] [DR L q] fun r o => r = [.sl 1 (rb (L.take k)), .bool true] ∧ o = [DR (L.drop k) q] := by
  refine take.calls (K := fun r o => r = [.sl 1 (rb (L.take k)), .bool true] ∧ o = [DR (L.drop k) q]) ?_
  unfold take.W
  rw [rb_length]
  refine ifD (fun h => by omega) (fun _ => ⟨by omega, by omega, by omega, by omega, by omega, ?_⟩)
  rw [Int.toNat_natCast, rb_take, rb_drop]
  exact ⟨rfl, rfl⟩
theorem rdata_spec : ∀ (x : Dt) (e : List UInt8), encB x = some e → rngD x → ∀ (rest : List UInt8) (depth q : Nat), depth + depthN x ≤ 201 → q + nodeN x ≤ 4096 →
    SCalls ax 31 [.ptr 0 0, .int .i64 depth] [DR (e ++ rest) q] fun r o => r = [.agg (encD (normD x)), .bool true] ∧ o = [DR rest (q + nodeN x)] := by
  refine Dt.ind fun c n s xs ih => ?_
  rintro e he ⟨hn, hns⟩ rest depth q hd hq
  rw [rngDs_iff] at hns
  have hp1 := nodeN_pos (.mk c n s xs)
  have hp2 := depthN_pos (.mk c n s xs)
  generalize hK : (fun (r : List V) (o : List Ob) => r = [.agg (encD (normD (.mk c n s xs))), .bool true] ∧ o = [DR rest (q + nodeN (.mk c n s xs))]) = K
  refine rdata.calls (K := K) ?_
  unfold rdata.W
  rw [zstep (by omega)]
  have one : (1 : Int) = ((1 : Nat) : Int) := rfl
  cases c with
  | false =>
    have he : e = 0 :: encI n := by rw [encB] at he; simpa using he.symm
    subst he
    have hl8 : (encI n).length = 8 := by simp [encI]
    have t1 := take_spec 1 (0 :: encI n ++ rest) (q + 1) (by simp)
    refine t1.mono fun r o ⟨hr, ho⟩ => ⟨_, _, _, _, hr, ho, ifN (fun h => by cases h) (fun _ => ?_)⟩
    simp only [List.cons_append, List.take_succ_cons, List.take_zero, List.drop_succ_cons, List.drop_zero]
    have hrow : List.take 1 (Av.rowAt (rb [0]) 0) = [.int .u8 0] := rb_row (b := 0) rfl
    refine ⟨by decide, by rw [rb_length]; decide, 0, hrow, ifD (fun h => by omega) (fun _ => ifD (fun h => by omega) (fun _ => ifD (fun h => by omega) (fun _ => ⟨by decide, by rw [rb_length]; decide, 0, hrow, ifE (fun _ => ?_) (fun h => absurd rfl h)⟩)))⟩
    have t8 := take_spec 8 (encI n ++ rest) (q + 1) (by rw [List.length_append]; omega)
    have e8 : (encI n ++ rest).take 8 = encI n := by rw [List.take_append_of_le_length (by omega), List.take_of_length_le (by omega)]
    have d8 : (encI n ++ rest).drop 8 = rest := by rw [List.drop_append, hl8, List.drop_of_length_le (by omega)]; simp
    rw [e8, d8] at t8
    refine t8.mono fun r o ⟨hr, ho⟩ => ⟨_, _, _, _, hr, ho, ?_⟩
    rw [rb_length, hl8]
    generalize hU : (n % 18446744073709551616).toNat = U
    have hUlt : U < 18446744073709551616 := by omega
    refine ⟨fun us => ∃ i : Nat, i ≤ 8 ∧ us = [.int .u64 ((U % 256 ^ i : Nat) : Int), .int .i64 i], fun us => match us with | [_, .int _ i] => 100 - i.toNat | _ => 0, ⟨0, by omega, by simp [Nat.mod_one]⟩, ?_⟩
    rintro n57 n58 ⟨i, hi, eq⟩
    cases eq
    refine ifD (fun hlt => ?_) (fun hge => ?_)
    · have hi8 : i < 8 := by omega
      have hib : (encI n)[i]? = some (ib n i) := by simp [encI, hi8]
      refine ⟨by omega, hlt, _, rb_row (by rw [Int.toNat_natCast]; exact hib), ?_⟩
      have hbb : (ib n i).toNat = U / 2 ^ (8 * i) % 256 := by
        unfold ib
        rw [hU]
        exact UInt8.toNat_ofNat_of_lt' (by show _ < 256; exact Nat.mod_lt _ (by decide))
      have hp : (256 : Nat) ^ i = 2 ^ (8 * i) := by rw [Nat.pow_mul]
      have hb := or_byte (n := U % 256 ^ i) (b := (ib n i).toNat) hi8 (Nat.mod_lt _ (Nat.pow_pos (by decide))) (by rw [hbb]; exact Nat.mod_lt _ (by decide))
      have hs : U % 256 ^ i + (ib n i).toNat * 256 ^ i = U % 256 ^ (i + 1) := by
        rw [hbb, Nat.mod_pow_succ, ← hp, Nat.mul_comm]
      rw [hs] at hb
      refine ⟨by rw [w64 (by omega) (by omega)]; omega, ⟨i + 1, by omega, ?_⟩, ?_⟩
      · rw [← hb, zstep (by omega)]
      · rw [zstep (by omega)]; simp only [Int.toNat_natCast]; omega
    · have : i = 8 := by omega
      subst this
      rw [Nat.mod_eq_of_lt (by show U < 256 ^ 8; exact hUlt)]
      have hw : IntKind.i64.wrap (U : Int) = n := by
        rw [← hU]
        have h2 : ((n % 18446744073709551616).toNat : Int) = n % 18446744073709551616 := Int.toNat_of_nonneg (Int.emod_nonneg _ (by decide))
        rw [h2]
        have hm : n % 18446744073709551616 % 18446744073709551616 = n % 18446744073709551616 := Int.emod_emod_of_dvd _ (Int.dvd_refl _)
        show (if (true && decide (n % 18446744073709551616 % (2 ^ 64 : Int) ≥ (2 ^ (64 - 1) : Int))) = true then n % 18446744073709551616 % (2 ^ 64 : Int) - (2 ^ 64 : Int) else n % 18446744073709551616 % (2 ^ 64 : Int)) = n
        have e1 : (2 ^ 64 : Int) = 18446744073709551616 := by decide
        have e2 : (2 ^ (64 - 1) : Int) = 9223372036854775808 := by decide
        rw [e1, e2, hm]
        simp only [Bool.true_and, decide_eq_true_eq]
        split <;> omega
      rw [hw, ← hK]
      exact ⟨by simp [normD, encD, encDs, bs], by simp [nodeN]⟩
  | true =>
    have eN : nodeN (.mk true n s xs) = 1 + nodeNs xs := by simp [nodeN]
    have eD : depthN (.mk true n s xs) = 1 + depthNs xs := by simp [depthN]
    rw [eN] at hq
    rw [eD] at hd
    have hok : 1 ≤ s.length ∧ s.length ≤ 32 ∧ xs.length ≤ 8 := Decidable.byContradiction fun h => by rw [enc_no h] at he; cases he
    rw [enc_yes hok] at he
    simp only [Option.map_eq_some_iff] at he
    obtain ⟨r, hr, rfl⟩ := he
    have hs32 : (UInt8.ofNat s.length).toNat = s.length := UInt8.toNat_ofNat_of_lt' (by show s.length < 256; omega)
    have hx8 : (UInt8.ofNat xs.length).toNat = xs.length := UInt8.toNat_ofNat_of_lt' (by show xs.length < 256; omega)
    have t1 := take_spec 1 ((1 :: UInt8.ofNat s.length :: (s ++ UInt8.ofNat xs.length :: r)) ++ rest) (q + 1) (by simp)
    refine t1.mono fun r1 o1 ⟨hr1, ho1⟩ => ⟨_, _, _, _, hr1, ho1, ifN (fun h => by cases h) (fun _ => ?_)⟩
    simp only [List.cons_append, List.take_succ_cons, List.take_zero, List.drop_succ_cons, List.drop_zero]
    have hrow : List.take 1 (Av.rowAt (rb [1]) 0) = [.int .u8 1] := rb_row (b := 1) rfl
    refine ⟨by decide, by rw [rb_length]; decide, 1, hrow, ifD (fun h => by omega) (fun _ => ifD (fun h => by omega) (fun _ => ifD (fun h => by omega) (fun _ => ⟨by decide, by rw [rb_length]; decide, 1, hrow, ifE (fun h => absurd h (by decide)) (fun _ => ?_)⟩)))⟩
    have t2 := take_spec 1 (UInt8.ofNat s.length :: ((s ++ UInt8.ofNat xs.length :: r) ++ rest)) (q + 1) (by simp)
    refine t2.mono fun r1 o1 ⟨hr1, ho1⟩ => ⟨_, _, _, _, hr1, ho1, ifN (fun h => by cases h) (fun _ => ?_)⟩
    simp only [List.take_succ_cons, List.take_zero, List.drop_succ_cons, List.drop_zero]
    have hrow2 : List.take 1 (Av.rowAt (rb [UInt8.ofNat s.length]) 0) = [.int .u8 (s.length : Int)] := by rw [rb_row (b := UInt8.ofNat s.length) rfl, hs32]
    have hl1 : (rb [UInt8.ofNat s.length]).length = 1 := by rw [rb_length]; rfl
    refine ⟨by decide, by rw [hl1]; decide, _, hrow2, ifD (fun h => by omega) (fun _ => ⟨by decide, by rw [hl1]; decide, _, hrow2, ifD (fun h => by omega) (fun _ => ⟨by decide, by rw [hl1]; decide, _, hrow2, ?_⟩)⟩)⟩
    rw [w64 (x := (s.length : Int)) (by omega) (by omega)]
    have t3 := take_spec s.length ((s ++ UInt8.ofNat xs.length :: r) ++ rest) (q + 1) (by simp only [List.length_append, List.length_cons]; omega)
    have e3 : ((s ++ UInt8.ofNat xs.length :: r) ++ rest).take s.length = s := by rw [List.append_assoc, List.take_left]
    have d3 : ((s ++ UInt8.ofNat xs.length :: r) ++ rest).drop s.length = UInt8.ofNat xs.length :: (r ++ rest) := by rw [List.append_assoc, List.drop_left]; rfl
    rw [e3, d3] at t3
    refine t3.mono fun r1 o1 ⟨hr1, ho1⟩ => ⟨_, _, _, _, hr1, ho1, ifN (fun h => by cases h) (fun _ => ?_)⟩
    have t4 := take_spec 1 (UInt8.ofNat xs.length :: (r ++ rest)) (q + 1) (by simp)
    refine t4.mono fun r1 o1 ⟨hr1, ho1⟩ => ⟨_, _, _, _, hr1, ho1, ifN (fun h => by cases h) (fun _ => ?_)⟩
    simp only [List.take_succ_cons, List.take_zero, List.drop_succ_cons, List.drop_zero]
    have hrow4 : List.take 1 (Av.rowAt (rb [UInt8.ofNat xs.length]) 0) = [.int .u8 (xs.length : Int)] := by rw [rb_row (b := UInt8.ofNat xs.length) rfl, hx8]
    have hl4 : (rb [UInt8.ofNat xs.length]).length = 1 := by rw [rb_length]; rfl
    refine ⟨by decide, by rw [hl4]; decide, _, hrow4, ifD (fun h => by omega) (fun _ => ⟨bs s, rfl, by decide, by rw [hl4]; decide, _, hrow4, ?_⟩)⟩
    refine ⟨fun us => ∃ (i : Nat) (ri : List UInt8), i ≤ xs.length ∧ encBs (xs.drop i) = some ri ∧ us = [.int .u8 i, .sl 1 (rb (ri ++ rest)), .int .i64 ((q + 1 + nodeNs (xs.take i) : Nat) : Int), .bool true, .int .i64 0, .str (bs s), .sl 4 (encDs (normDs (xs.take i)))],
      fun us => match us with | .int _ i :: _ => xs.length - i.toNat | _ => 0, ⟨0, r, Nat.zero_le _, hr, by simp [nodeNs, normDs, encDs]⟩, ?_⟩
    rintro n136 l137 n138 b139 n140 s141 l142 ⟨i, ri, hi, hri, eq⟩
    cases eq
    refine ifD (fun hlt => ?_) (fun hge => ?_)
    · obtain ⟨c', n', s', l', hx⟩ := getDt (xs := xs) (i := i) (by omega)
      have hm := List.mem_of_getElem? hx
      obtain ⟨a, b, ha, hb, rfl⟩ := encBs_drop hx hri
      have ht1 := nodeNs_take hx
      have ht2 := depthNs_take hx
      have hl1 := nodeNs_le (zs := xs) (i + 1)
      have hl2 := depthNs_le (zs := xs) (i + 1)
      have hc := ih _ hm a ha (hns _ hm) (b ++ rest) (depth + 1) (q + 1 + nodeNs (xs.take i)) (by omega) (by omega)
      rw [zstep (by omega), List.append_assoc]
      obtain ⟨c2, n2, s2, l2, hnd⟩ := dt_cases (normD (.mk c' n' s' l'))
      rw [hnd] at hc
      refine hc.mono fun r1 o1 ⟨hr1, ho1⟩ => ⟨c2, n2, bs s2, encDs l2, true, _, _, hr1, ho1, ifN (fun h => by cases h) (fun _ => ?_)⟩
      have hap : encDs (normDs (xs.take i)) ++ [[.bool c2, .int .i64 n2, .str (bs s2), .sl 4 (encDs l2)]] = encDs (normDs (xs.take (i + 1))) := by
        have : [[V.bool c2, .int .i64 n2, .str (bs s2), .sl 4 (encDs l2)]] = encDs [.mk c2 n2 s2 l2] := rfl
        rw [this, ← encDs_append, normDs_eq, normDs_eq, List.take_add_one, hx, List.map_append, ← hnd]; rfl
      have hlen : (normDs (xs.take i)).length = i := by rw [normDs_eq]; simp; omega
      have hw8 : IntKind.u8.wrap ((i : Int) + 1) = ((i + 1 : Nat) : Int) := by rw [w8 (by omega) (by omega)]; rfl
      rw [hap, encDs_length, hlen, hw8]
      simp only [List.length_cons, List.length_nil]
      refine ⟨by omega, by omega, ⟨i + 1, b, by omega, hb, ?_⟩, by simp only [Int.toNat_natCast]; omega⟩
      rw [show q + 1 + nodeNs (xs.take (i + 1)) = q + 1 + nodeNs (xs.take i) + nodeN (.mk c' n' s' l') by omega]
    · have h0 : i = xs.length := by omega
      subst h0
      rw [List.drop_length, encBs] at hri
      cases hri
      rw [← hK, eN, List.take_length]
      exact ⟨by simp [normD, encD], by rw [show q + (1 + nodeNs xs) = q + 1 + nodeNs xs by omega]; rfl⟩
theorem Decode_spec (x : Dt) (e : List UInt8) (h : encB x = some e) (hg : GoodN x) (hr : rngD x) : PCalls ax 18 [.sl 1 (rb e)] fun r => r = [.agg (encD (normD x)), .err none] := by
  refine Decode.calls (K := fun r => r = [.agg (encD (normD x)), .err none]) ?_
  unfold Decode.W
  unfold GoodN at hg
  have hs := rdata_spec x e h hr [] 1 0 (by omega) (by omega)
  rw [List.append_nil] at hs
  obtain ⟨c2, n2, s2, l2, hnd⟩ := dt_cases (normD x)
  rw [hnd] at hs ⊢
  exact hs.mono fun r o ⟨hr, ho⟩ => ⟨c2, n2, bs s2, encDs l2, true, _, _, hr, ho, ifN (fun h => by cases h) (fun _ => ifD (fun h => by rw [rb_length] at h; simp at h) (fun _ => rfl))⟩

theorem Compare_norm : ∀ (x : Dt), lenOk x → PCalls ax 23 [.agg (encD (normD x)), .agg (encD x)] fun r => r = [.int .i64 0] := by
  refine Dt.ind fun c n s xs ih => ?_
  rintro ⟨hl, hxs⟩
  rw [lenOks_iff] at hxs
  cases c with
  | false =>
    show PCalls ax 23 [.agg [.bool false, .int .i64 n, .str (bs []), .sl 4 []], .agg [.bool false, .int .i64 n, .str (bs s), .sl 4 (encDs xs)]] _
    refine Compare.calls (K := fun r => r = [.int .i64 0]) ?_
    unfold Compare.W
    refine ⟨fun us => us = [.bool true], ifN (fun h => rfl) (fun h => by cases h), ?_⟩
    rintro b12 e
    cases e
    refine ifB (fun _ => ?_) (fun h => by cases h)
    exact ifD (fun h => by omega) (fun _ => ifD (fun h => by omega) (fun _ => rfl))
  | true =>
    show PCalls ax 23 [.agg [.bool true, .int .i64 0, .str (bs s), .sl 4 (encDs (normDs xs))], .agg [.bool true, .int .i64 n, .str (bs s), .sl 4 (encDs xs)]] _
    have hnl : (normDs xs).length = xs.length := by rw [normDs_eq]; simp
    refine Compare.calls (K := fun r => r = [.int .i64 0]) ?_
    unfold Compare.W
    refine ⟨fun us => us = [.bool false], ifN (fun h => by cases h) (fun h => rfl), ?_⟩
    rintro b12 e
    cases e
    refine ifB (fun h => by cases h) (fun _ => ?_)
    have hless := less_self (bs s).toList
    rw [encDs_length, encDs_length, hnl, hless]
    refine ⟨fun _ => True, ?_, fun _ => ?_⟩
    · show cond (strEq (bs s) (bs s)) _ _
      exact ifB (fun _ => ifD (fun h => by omega) (fun _ => trivial)) (fun _ => trivial)
    refine ifN (fun h => ?_) (fun _ => ifD (fun h => by omega) (fun _ => ?_))
    · simp at h
    refine ⟨fun us => ∃ i : Nat, i ≤ xs.length ∧ us = [.int .i64 i], fun us => match us with | .int _ i :: _ => xs.length - i.toNat | _ => 0, ⟨0, Nat.zero_le _, rfl⟩, ?_⟩
    rintro n27 ⟨i, hi, e⟩
    cases e
    refine ifD (fun hlt => ?_) (fun hge => rfl)
    obtain ⟨c', n', s', l', he⟩ := getDt (xs := xs) (i := i) (by omega)
    have hm := List.mem_of_getElem? he
    obtain ⟨c2, n2, s2, l2, hnd⟩ := dt_cases (normD (.mk c' n' s' l'))
    have he2 : (normDs xs)[i]? = some (.mk c2 n2 s2 l2) := by rw [normDs_eq, List.getElem?_map, he, ← hnd]; rfl
    refine ⟨by omega, by omega, c2, n2, bs s2, encDs l2, drow he2, by omega, by omega, c', n', bs s', encDs l', drow he, ?_⟩
    rw [zstep (by omega)]
    have hc := ih _ hm (hxs _ hm)
    rw [hnd] at hc
    refine hc.mono fun r hr => ⟨0, hr, ifNE (fun h => absurd rfl h) (fun _ => ?_)⟩
    exact ⟨⟨i + 1, by omega, rfl⟩, by simp only [Int.toNat_natCast]; omega⟩
theorem Same_norm (x : Dt) (h : lenOk x) : PCalls ax 9 [.agg (encD (normD x)), .agg (encD x)] fun r => r = [.bool true] := by
  have hc := Compare_norm x h
  obtain ⟨c2, n2, s2, l2, hnd⟩ := dt_cases (normD x)
  obtain ⟨c, n, s, zs, rfl⟩ := dt_cases x
  rw [hnd] at hc ⊢
  refine Same.calls (K := fun r => r = [.bool true]) ?_
  unfold Same.W
  exact hc.mono fun r hr => ⟨0, hr, rfl⟩
end Go.Proofs.YtgjifgjjcaohoaaGreatDoor.Va
end

/- part Z3F -/
section
namespace Go.Proofs.YtgjifgjjcaohoaaGreatDoor.Va
open Go.Vx Go.Av
/-! ### whA: a piece of function 32, augur/parse.whole[augur/api.Term] -/
def whA.ah : AH := ⟨[(3, seqO [0, 1, 2, 3])], [], [], [(41, ⟨[some [.str]], [.c (.sl 3), .c (.err)], []⟩)], [], [], [], [], []⟩
noncomputable def whA.c : Code := Av.part [.pre 2] (Tryz.f32.body.getD .skip)
set_option maxRecDepth 100000 in
def whA.W (s : ByteArray) (K : Exit → List V → Store → Prop) : Prop :=
 (PCalls ax 41 [(.str s)] fun r3 => ∃ (l1 : List (List V)) (x2 : Option Nat), r3 = [(.sl 3 l1), (.err x2)] ∧ (bif (!(Option.isNone x2)) then
 (K .ret [(.fn 33 [] []), (.ptr 0 0), (.ptr 1 0), (.sl 3 l1)] [⟨1, (.box [(.int .i64 0), (.str (⟨#[]⟩ : ByteArray)), (.int .i64 0), .nls])⟩, ⟨2, (.box [(.err x2)])⟩])
 else
 (K .normal [(.fn 33 [] []), (.ptr 0 0), (.ptr 1 0), (.sl 3 l1)] [⟨0, (.box [(.int .i64 0), (.str (⟨#[]⟩ : ByteArray)), (.int .i64 0), .nls])⟩, ⟨1, (.box [(.err x2)])⟩])))
set_option maxRecDepth 100000 in
theorem whA.eq (s : ByteArray) (K : Exit → List V → Store → Prop) : whA.W s K = acW ax whA.ah whA.c (fun ex e σ => K ex [e 1, e 4, e 5, e 6] σ) (envL [(0, (.str s)), (1, (.fn 33 [] []))]) [] := by kernel_rfl
theorem whA.ok : codeOk tys (hintsOf whA.ah) Tryz.f32.ntmps whA.c = true := by kernel_rfl
theorem whA.calm : calmC whA.c = true := by kernel_rfl
/-! ### whB: a piece of function 32, augur/parse.whole[augur/api.Term] -/
def whB.ah : AH := ⟨[], [], [], [(33, ⟨[none], [.ag [.int .i64, .str, .int .i64, .sl 4]], [.box [.d (.sl 3), .d (.int .i64)]]⟩), (43, ⟨[none, some [.err]], [], [.box [.d (.sl 3), .d (.int .i64)]]⟩)], [], [], [], [], []⟩
noncomputable def whB.c : Code := Av.part [.post 3] (Tryz.f32.body.getD .skip)
set_option maxRecDepth 100000 in
def whB.W (tk : List (List V)) (K : Exit → List V → Store → Prop) (T : Nat → List V → Store → Prop) : Prop :=
 (SCallsT ax 33 [(.ptr 0 0)] [(.box [(.sl 3 tk), (.int .i64 0)])] (fun r5 o8 => ∃ (n1 : Int) (s2 : ByteArray) (n3 : Int) (l4 : List (List V)) (l6 : List (List V)) (n7 : Int), r5 = [(.agg [(.int .i64 n1), (.str s2), (.int .i64 n3), (.sl 4 l4)])] ∧ o8 = [(.box [(.sl 3 l6), (.int .i64 n7)])] ∧ (bif (decide (n7 < (List.length tk : Int))) then
 (SCallsT ax 43 [(.ptr 0 0), (.err (some 3))] [(.box [(.sl 3 l6), (.int .i64 n7)])] (fun r14 o17 => ∃ (l15 : List (List V)) (n16 : Int), r14 = [] ∧ o17 = [(.box [(.sl 3 l15), (.int .i64 n16)])] ∧ (K .ret [] [⟨2, (.box [(.int .i64 n1), (.str s2), (.int .i64 n3), (.sl 4 l4)])⟩, ⟨1, (.box [(.err none)])⟩, ⟨2, (.box [(.sl 3 l15), (.int .i64 n16)])⟩])) (fun t20 u21 o22 => ∃ (l18 : List (List V)) (n19 : Int), o22 = [(.box [(.sl 3 l18), (.int .i64 n19)])] ∧ (T t20 u21 [⟨1, (.box [(.int .i64 n1), (.str s2), (.int .i64 n3), (.sl 4 l4)])⟩, ⟨0, (.box [(.err none)])⟩, ⟨2, (.box [(.sl 3 l18), (.int .i64 n19)])⟩])))
 else
 (K .ret [] [⟨2, (.box [(.int .i64 n1), (.str s2), (.int .i64 n3), (.sl 4 l4)])⟩, ⟨1, (.box [(.err none)])⟩, ⟨1, (.box [(.sl 3 l6), (.int .i64 n7)])⟩]))) (fun t11 u12 o13 => ∃ (l9 : List (List V)) (n10 : Int), o13 = [(.box [(.sl 3 l9), (.int .i64 n10)])] ∧ (T t11 u12 [⟨0, (.box [(.int .i64 0), (.str (⟨#[]⟩ : ByteArray)), (.int .i64 0), .nls])⟩, ⟨0, (.box [(.err none)])⟩, ⟨1, (.box [(.sl 3 l9), (.int .i64 n10)])⟩])))
set_option maxRecDepth 100000 in
theorem whB.eq (tk : List (List V)) (K : Exit → List V → Store → Prop) (T : Nat → List V → Store → Prop) : whB.W tk K T = acW { ax with T := some T } whB.ah whB.c (fun ex _e σ => K ex [] σ) (envL [(1, (.fn 33 [] [])), (4, (.ptr 0 0)), (5, (.ptr 1 0)), (6, (.sl 3 tk))]) [⟨0, (.box [(.int .i64 0), (.str (⟨#[]⟩ : ByteArray)), (.int .i64 0), .nls])⟩, ⟨0, (.box [(.err none)])⟩] := by kernel_rfl
theorem whB.ok : codeOk tys (hintsOf whB.ah) Tryz.f32.ntmps whB.c = true := by kernel_rfl
theorem whB.calm : calmC whB.c = true := by kernel_rfl
/-! ### whC: a piece of function 42, augur/parse.whole[augur/api.Term]$1 -/
def whC.ah : AH := ⟨[(3, seqO [0, 1, 2, 3, 4])], [], [], [], [], [], [], [], []⟩
noncomputable def whC.c : Code := Av.part [.drp 2] (Tryz.f42.body.getD .skip)
set_option maxRecDepth 100000 in
def whC.W (x : Option Nat) (b : Bool) (k : Int) (t : ByteArray) (n : Int) (l : List (List V)) (tk : List (List V)) (pos : Int) (K : Exit → List V → Store → Prop) : Prop :=
 (bif b then
 (K .normal [(.ptr 0 0), (.ptr 1 0)] [⟨1, (.box [(.int .i64 0), (.str (⟨#[]⟩ : ByteArray)), (.int .i64 0), .nls])⟩, ⟨1, (.box [(.err x)])⟩, ⟨0, (.box [(.sl 3 tk), (.int .i64 pos)])⟩, ⟨1, (.box [(.err x)])⟩, ⟨0, (.box [(.int .i64 0), (.str (⟨#[]⟩ : ByteArray)), (.int .i64 0), .nls])⟩])
 else
 (K .normal [(.ptr 0 0), (.ptr 1 0)] [⟨0, (.box [(.int .i64 k), (.str t), (.int .i64 n), (.sl 4 l)])⟩, ⟨0, (.box [(.err none)])⟩, ⟨0, (.box [(.sl 3 tk), (.int .i64 pos)])⟩, ⟨1, (.box [(.err x)])⟩]))
set_option maxRecDepth 100000 in
theorem whC.eq (x : Option Nat) (b : Bool) (k : Int) (t : ByteArray) (n : Int) (l : List (List V)) (tk : List (List V)) (pos : Int) (K : Exit → List V → Store → Prop) : whC.W x b k t n l tk pos K = acW ax whC.ah whC.c (fun ex e σ => K ex [e 0, e 1] σ) (envL [(0, (.ptr 0 0)), (1, (.ptr 1 0)), (7, (.tup [(.agg [(.err x)]), (.bool b)]))]) [⟨0, (.box [(.int .i64 k), (.str t), (.int .i64 n), (.sl 4 l)])⟩, ⟨0, (.box [(.err none)])⟩, ⟨0, (.box [(.sl 3 tk), (.int .i64 pos)])⟩] := by kernel_rfl
theorem whC.ok : codeOk tys (hintsOf whC.ah) Tryz.f42.ntmps whC.c = true := by kernel_rfl
theorem whC.calm : calmC whC.c = true := by kernel_rfl
/-! ### whC0: a piece of function 42, augur/parse.whole[augur/api.Term]$1 -/
def whC0.ah : AH := ⟨[(3, seqO [0, 1, 2, 3, 4])], [], [], [], [], [], [], [], []⟩
noncomputable def whC0.c : Code := Av.part [.drp 2] (Tryz.f42.body.getD .skip)
set_option maxRecDepth 100000 in
def whC0.W (x : Option Nat) (b : Bool) (tk : List (List V)) (pos : Int) (K : Exit → List V → Store → Prop) : Prop :=
 (bif b then
 (K .normal [(.ptr 0 0), (.ptr 1 0)] [⟨1, (.box [(.int .i64 0), (.str (⟨#[]⟩ : ByteArray)), (.int .i64 0), .nls])⟩, ⟨1, (.box [(.err x)])⟩, ⟨0, (.box [(.sl 3 tk), (.int .i64 pos)])⟩, ⟨1, (.box [(.err x)])⟩, ⟨0, (.box [(.int .i64 0), (.str (⟨#[]⟩ : ByteArray)), (.int .i64 0), .nls])⟩])
 else
 (K .normal [(.ptr 0 0), (.ptr 1 0)] [⟨0, (.box [(.int .i64 0), (.str (⟨#[]⟩ : ByteArray)), (.int .i64 0), .nls])⟩, ⟨0, (.box [(.err none)])⟩, ⟨0, (.box [(.sl 3 tk), (.int .i64 pos)])⟩, ⟨1, (.box [(.err x)])⟩]))
set_option maxRecDepth 100000 in
theorem whC0.eq (x : Option Nat) (b : Bool) (tk : List (List V)) (pos : Int) (K : Exit → List V → Store → Prop) : whC0.W x b tk pos K = acW ax whC0.ah whC0.c (fun ex e σ => K ex [e 0, e 1] σ) (envL [(0, (.ptr 0 0)), (1, (.ptr 1 0)), (7, (.tup [(.agg [(.err x)]), (.bool b)]))]) [⟨0, (.box [(.int .i64 0), (.str (⟨#[]⟩ : ByteArray)), (.int .i64 0), .nls])⟩, ⟨0, (.box [(.err none)])⟩, ⟨0, (.box [(.sl 3 tk), (.int .i64 pos)])⟩] := by kernel_rfl
theorem whC0.ok : codeOk tys (hintsOf whC0.ah) Tryz.f42.ntmps whC0.c = true := by kernel_rfl
theorem whC0.calm : calmC whC0.c = true := by kernel_rfl
/-! ### what goes back -/
def whR.ah : AH := ⟨[], [], [], [], [], [some [.int .i64, .str, .int .i64, .sl 4], some [.err]], [], [], []⟩
theorem whR.eq (k : Int) (t : ByteArray) (n : Int) (l : List (List V)) (e : Option Nat) (a b : Nat) (σ : Store) (K : List V → Prop) : K [.agg [.int .i64 k, .str t, .int .i64 n, .sl 4 l], .err e] = aret ax whR.ah 0 Tryz.f32 (onlyV K) (envL [(4, .ptr 0 0), (5, .ptr 1 0)]) (⟨a, .box [.int .i64 k, .str t, .int .i64 n, .sl 4 l]⟩ :: ⟨b, .box [.err e]⟩ :: σ) := by kernel_rfl
theorem whR.eq0 (k : Int) (t : ByteArray) (n : Int) (e : Option Nat) (a b : Nat) (σ : Store) (K : List V → Prop) : K [.agg [.int .i64 k, .str t, .int .i64 n, .sl 4 []], .err e] = aret ax whR.ah 0 Tryz.f32 (onlyV K) (envL [(4, .ptr 0 0), (5, .ptr 1 0)]) (⟨a, .box [.int .i64 k, .str t, .int .i64 n, .nls]⟩ :: ⟨b, .box [.err e]⟩ :: σ) := by kernel_rfl
end Go.Proofs.YtgjifgjjcaohoaaGreatDoor.Va
end

/- part Z3G -/
section
namespace Go.Proofs.YtgjifgjjcaohoaaGreatDoor.Va
open Go.Vx Go.Av Go.Lx Go.Dr Go.RowKit

/-- the error of a code -/
def errZ (c : Int) : Option Nat := if c = 0 then none else if c = 1 then some 2 else some (errG c)

theorem rdTerm_spec (ts : List Tok) (hl : ts.length ≤ big) : SCallsT ax 33 [.ptr 0 0] [PBx ts 0] (fun r o => ∃ x j, parT (2 * ts.length + 3) 1 ts = (0, x, ts.drop j) ∧ j ≤ ts.length ∧ r = [.agg (encR x)] ∧ o = [PBx ts j])
    fun t us o => ∃ c, (parT (2 * ts.length + 3) 1 ts).1 = c ∧ c ≠ 0 ∧ ErrZ ts c t us o := by
  refine rdTerm.calls ?_
  unfold rdTerm.W
  refine (pterm_spec (2 * ts.length + 3) 1 ts 0 (by omega) hl (Nat.zero_le _) (by omega)).mono (fun r o ⟨x, j, h1, _, h3, hr, ho⟩ => ?_) (fun t us o ⟨c, h1, h2, ht, hu, jj, ho⟩ => ?_)
  · obtain ⟨k, q, n, zs, rfl⟩ := tr_cases x
    exact ⟨k, bs q, n, encRs zs, encTs ts, j, hr, ho, _, j, h1, h3, rfl, rfl⟩
  · exact ⟨encTs ts, jj, ho, c, h1, h2, ht, hu, jj, rfl⟩

theorem whole_fin {K : List V → Prop} {G : Nat → Value} {w w' : World} {F F' : Nat → Nat → Prop} {β β' : Nat → Value} {a : Act} {k : Int} {t : ByteArray} {n : Int} {l : List (List V)} {x4 : V} {er : Option Nat} {va vb : Nat} {rest : Store}
    (hx : x4 = .sl 4 l ∨ x4 = .nls ∧ l = []) (h4 : RV ax.gs G w' F' β' (⟨va, .box [.int .i64 k, .str t, .int .i64 n, x4]⟩ :: ⟨vb, .box [.err er]⟩ :: rest) (.ptr 0 0) (a.tmps.getD 4 undef))
    (h5 : RV ax.gs G w' F' β' (⟨va, .box [.int .i64 k, .str t, .int .i64 n, x4]⟩ :: ⟨vb, .box [.err er]⟩ :: rest) (.ptr 1 0) (a.tmps.getD 5 undef))
    (hS : Sim ax.gs G w' F' β' (⟨va, .box [.int .i64 k, .str t, .int .i64 n, x4]⟩ :: ⟨vb, .box [.err er]⟩ :: rest)) (hst : Step w F β (mkS []) w' F' β' (⟨va, .box [.int .i64 k, .str t, .int .i64 n, x4]⟩ :: ⟨vb, .box [.err er]⟩ :: rest))
    (hk : K [.agg [.int .i64 k, .str t, .int .i64 n, .sl 4 l], .err er]) :
    ∃ v, (results Tryz.f32 a.tmps).run Tryz.prog w' = .ok v w' ∧ ∃ rs obs' F' β' rvals, onlyV K rs obs' ∧ v = oneOr rvals ∧ Rl (RV ax.gs G w' F' β' (mkS1 obs')) rs rvals ∧ Sim ax.gs G w' F' β' (mkS1 obs') ∧ Step w F β (mkS []) w' F' β' (mkS1 obs') := by
  have hre : RE ax.gs G w' F' β' (⟨va, .box [.int .i64 k, .str t, .int .i64 n, x4]⟩ :: ⟨vb, .box [.err er]⟩ :: rest) (envL [(4, .ptr 0 0), (5, .ptr 1 0)]) (fun t => a.tmps.getD t undef) := fun t => by
    show RV _ _ _ _ _ _ (cond (Nat.beq t 4) (.ptr 0 0) (cond (Nat.beq t 5) (.ptr 1 0) .junk)) _
    cases hb : Nat.beq t 4 with
    | true => rw [Nat.eq_of_beq_eq_true hb]; exact h4
    | false =>
      cases hb : Nat.beq t 5 with
      | true => rw [Nat.eq_of_beq_eq_true hb]; exact h5
      | false => exact .junk _
  have hrel : RelD [] a.tmps.size (fun t => a.tmps.getD t undef) { a with defers := [] } := ⟨rfl, fun _ => rfl, rfl⟩
  rcases hx with rfl | ⟨rfl, rfl⟩
  · exact aret_run (ax := ax) (ah := whR.ah) (obs := []) tysOk hrel (Eq.mp (whR.eq k t n l er va vb rest K) hk) hre hS hst
  · exact aret_run (ax := ax) (ah := whR.ah) (obs := []) tysOk hrel (Eq.mp (whR.eq0 k t n er va vb rest K) hk) hre hS hst

noncomputable abbrev B32 : Code := Tryz.f32.body.getD .skip
noncomputable abbrev B42 : Code := Tryz.f42.body.getD .skip
theorem preA : Av.pre 2 B32 = whA.c := by kernel_rfl
theorem postA : Av.post 2 B32 = .seq (.region 4 ⟨[opAt (Av.post 2 B32) 0, opAt (Av.post 2 B32) 1]⟩ false) whB.c := by kernel_rfl

/-- what is known of the objects when a struct is thrown -/
def TB (s : List UInt8) : Nat → List V → Store → Prop := fun t us σ => t = 87 ∧ us = [.err (errZ (parZ s).1)] ∧ (parZ s).1 ≠ 0 ∧ (parZ s).2 = zeroTr ∧
  ∃ k tt n x4 i va vb vc, ((x4 = .nls ∧ k = 0 ∧ tt = (⟨#[]⟩ : ByteArray) ∧ n = 0) ∨ ∃ l, x4 = .sl 4 l) ∧ σ = [⟨va, .box [.int .i64 k, .str tt, .int .i64 n, x4]⟩, ⟨vb, .box [.err none]⟩, ⟨vc, PBx (lexR s).1 i⟩]
def KB (s : List UInt8) : Exit → List V → Store → Prop := fun ex _ σ => ex = .ret ∧ (parZ s).1 = 0 ∧ ∃ i va vb vc, σ = [⟨va, .box (encR (parZ s).2)⟩, ⟨vb, .box [.err none]⟩, ⟨vc, PBx (lexR s).1 i⟩]

theorem errZ_of {c : Int} (h : c ≠ 0) (h1 : c ≠ 1) : errZ c = some (errG c) := by unfold errZ; rw [if_neg h, if_neg h1]
theorem parT_code : ∀ f, (∀ n ts, (parT f n ts).1 ≠ 1) ∧ ∀ n acc ts, (parR f n acc ts).1 ≠ 1 := by
  intro f
  induction f with
  | zero => exact ⟨fun n ts => by simp [parT], fun n acc ts => by simp [parR]⟩
  | succ f ih =>
    obtain ⟨i1, i2⟩ := ih
    refine ⟨fun n ts => ?_, fun n acc ts => ?_⟩
    · rw [parT.eq_def]
      dsimp only
      repeat' split
      all_goals first | (simp; done) | exact i2 _ _ _ | skip
    · rw [parR.eq_def]
      dsimp only
      repeat' split
      all_goals first | (simp; done) | exact i2 _ _ _ | exact i1 _ _ | skip
theorem whB_holds (s : List UInt8) (hn : (lexR s).2 = none) : whB.W (encTs (lexR s).1) (KB s) (TB s) := by
  have hl := lexR_len s
  have hb := big9
  have hz : parZ s = endP (parT (2 * (lexR s).1.length + 3) 1 (lexR s).1) := by unfold parZ; rw [if_pos hn]
  have hc1 := (parT_code (2 * (lexR s).1.length + 3)).1 1 (lexR s).1
  unfold whB.W KB TB
  rw [hz]
  generalize (lexR s).1 = ts at hl hc1 ⊢
  refine (rdTerm_spec ts (by omega)).mono (fun r o ⟨x, j, h1, h2, hr, ho⟩ => ?_) fun t us o ⟨c, h1, h2, ht, hu, jj, ho⟩ => ?_
  · obtain ⟨k, q, n, zs, rfl⟩ := tr_cases x
    refine ⟨k, bs q, n, encRs zs, encTs ts, j, hr, ho, ?_⟩
    rw [h1, encTs_length]
    refine ifD (fun hlt => ?_) (fun hge => ?_)
    · have he : endP (0, .mk k q n zs, ts.drop j) = (2, zeroTr) := by
        unfold endP
        rw [if_pos rfl, if_neg (by rw [drop_nil_iff]; omega)]
      rw [he]
      refine (give_spec 3 ts j).mono (fun _ _ h => h.elim) fun t us o ⟨g1, g2, g3⟩ => ?_
      exact ⟨_, _, g3, g1, by rw [g2]; rfl, by decide, rfl, _, _, _, _, j, _, _, _, .inr ⟨_, rfl⟩, rfl⟩
    · have he : endP (0, .mk k q n zs, ts.drop j) = (0, .mk k q n zs) := by
        unfold endP
        rw [if_pos rfl, if_pos (by rw [drop_nil_iff]; omega)]
      rw [he]
      exact ⟨rfl, rfl, j, _, _, _, rfl⟩
  · have he : endP (parT (2 * ts.length + 3) 1 ts) = (c, zeroTr) := by
      unfold endP
      rw [if_neg (by rw [h1]; exact h2), h1]
    rw [he]
    refine ⟨_, _, ho, ht, ?_, h2, rfl, _, _, _, _, jj, _, _, _, .inl ⟨rfl, rfl, rfl, rfl⟩, rfl⟩
    rw [hu, errZ_of h2 (by rw [← h1]; exact hc1)]
end Go.Proofs.YtgjifgjjcaohoaaGreatDoor.Va
end

/- part Z3H -/
section
namespace Go.Proofs.YtgjifgjjcaohoaaGreatDoor.Va
open Go.Vx Go.Av Go.Lx Go.Dr Go.RowKit

noncomputable abbrev o42 (i : Nat) : Oper := opAt B42 i
noncomputable abbrev l42 : List Oper := (opsOf B42).drop 2
noncomputable abbrev r42 : Code := Av.part [.snd] B42
theorem body42 : B42 = .seq (.region 0 ⟨o42 0 :: o42 1 :: l42⟩ false) r42 := by kernel_rfl
theorem cC : whC.c = .seq (.region 0 ⟨l42⟩ false) r42 := by kernel_rfl
theorem cC0 : whC0.c = .seq (.region 0 ⟨l42⟩ false) r42 := by kernel_rfl
theorem zero87 : ((Tryz.prog.info? 87).bind (·.zero)) = some (.agg #[.nilIface]) := by kernel_rfl

/-- what the closure does, by what was thrown -/
theorem catch42 {G : Nat → Value} (hE : ErrOk ax.P ax.gs ax.ift ax.tabs G) {w : World} {F : Nat → Nat → Prop} {β : Nat → Value} {k : Int} {tt : ByteArray} {n : Int} {x4 : V} {ts : List Tok} {i : Nat} {v4 v5 : Value} {u u' : FrameMode} {tv : Value} {x : Option Nat} {b : Bool}
    (hx : (x4 = .nls ∧ k = 0 ∧ tt = (⟨#[]⟩ : ByteArray) ∧ n = 0) ∨ ∃ l, x4 = .sl 4 l)
    (hS : Sim ax.gs G w F β (mkS [.box [.int .i64 k, .str tt, .int .i64 n, x4], .box [.err none], PBx ts i])) (h4 : RV ax.gs G w F β (mkS [.box [.int .i64 k, .str tt, .int .i64 n, x4], .box [.err none], PBx ts i]) (.ptr 0 0) v4) (h5 : RV ax.gs G w F β (mkS [.box [.int .i64 k, .str tt, .int .i64 n, x4], .box [.err none], PBx ts i]) (.ptr 1 0) v5)
    (hmode : (u = .returning ∧ u' = .returning ∧ tv = .tuple #[.agg #[.nilIface], .bool false]) ∨ ∃ x, u = .panicking [{ v := .iface 87 x, recovered := false }] ∧ u' = .panicking [{ v := .iface 87 x, recovered := true }] ∧ tv = .tuple #[x, .bool true])
    (h7 : RV ax.gs G w F β (mkS [.box [.int .i64 k, .str tt, .int .i64 n, x4], .box [.err none], PBx ts i]) (.tup [.agg [.err x], .bool b]) tv) :
    CallsD Tryz.prog 42 #[v4, v5] u w fun en u2 w' => en = .returned (.tuple #[]) ∧ u2 = u' ∧ ∃ σ' F' β' va vb r, Sim ax.gs G w' F' β' σ' ∧ Step w F β (mkS [.box [.int .i64 k, .str tt, .int .i64 n, x4], .box [.err none], PBx ts i]) w' F' β' σ' ∧
      σ' = cond b (⟨va, .box [.int .i64 0, .str (⟨#[]⟩ : ByteArray), .int .i64 0, .nls]⟩ :: ⟨vb, .box [.err x]⟩ :: r) (⟨va, .box [.int .i64 k, .str tt, .int .i64 n, x4]⟩ :: ⟨vb, .box [.err none]⟩ :: r) := by
  let KC : Exit → List V → Store → Prop := fun ex _ σ => ex = .normal ∧ ∃ va vb r, σ = cond b (⟨va, .box [.int .i64 0, .str (⟨#[]⟩ : ByteArray), .int .i64 0, .nls]⟩ :: ⟨vb, .box [.err x]⟩ :: r) (⟨va, .box [.int .i64 k, .str tt, .int .i64 n, x4]⟩ :: ⟨vb, .box [.err none]⟩ :: r)
  have main : ∀ (ah : AH), codeOk tys (hintsOf ah) Tryz.f42.ntmps (.seq (.region 0 ⟨l42⟩ false) r42) = true → ah.joins = [] →
      acW ax ah (.seq (.region 0 ⟨l42⟩ false) r42) (fun ex e σ => KC ex [e 0, e 1] σ) (envL [(0, .ptr 0 0), (1, .ptr 1 0), (7, .tup [.agg [.err x], .bool b])]) (mkS [.box [.int .i64 k, .str tt, .int .i64 n, x4], .box [.err none], PBx ts i]) → _ := fun ah hok hj h =>
    catch_calls (ax := ax) (ah := ah) (o0 := o42 0) (o1 := o42 1) (l := l42) (rest := r42) (d0 := 6) (d1 := 7) (T := 87) (xT := 20) (vals := [v4, v5]) (args := [.ptr 0 0, .ptr 1 0]) (e7 := .tup [.agg [.err x], .bool b]) (e := envL [(0, .ptr 0 0), (1, .ptr 1 0), (7, .tup [.agg [.err x], .bool b])]) (K := fun ex e σ => KC ex [e 0, e 1] σ) tysOk fnsOk follows eqOk hE rfl Tryz.func42 (by kernel_rfl : Tryz.f42.body = some B42) body42 (by kernel_rfl) (by kernel_rfl) (by kernel_rfl) (by kernel_rfl) (by kernel_rfl) (by kernel_rfl) (by kernel_rfl)
      Tryz.underlying87 zero87 (by decide) (by decide) (by kernel_rfl) hok (by kernel_rfl) hj hS (.cons h4 (.cons h5 .nil)) (by decide) hmode h7
      (fun t => match t with | 0 => .inl rfl | 1 => .inl rfl | 2 => .inr rfl | 3 => .inr rfl | 4 => .inr rfl | 5 => .inr rfl | 6 => .inl rfl | 7 => .inl rfl | _ + 8 => .inr rfl) h (fun ex e' σ' hk => .inl hk.1)
  have hfin := fun (ah : AH) h1 h2 h3 => (main ah h1 h2 h3).mono (R' := fun en u2 w' => en = .returned (.tuple #[]) ∧ u2 = u' ∧ ∃ σ' F' β' va vb r, Sim ax.gs G w' F' β' σ' ∧ Step w F β (mkS [.box [.int .i64 k, .str tt, .int .i64 n, x4], .box [.err none], PBx ts i]) w' F' β' σ' ∧
      σ' = cond b (⟨va, .box [.int .i64 0, .str (⟨#[]⟩ : ByteArray), .int .i64 0, .nls]⟩ :: ⟨vb, .box [.err x]⟩ :: r) (⟨va, .box [.int .i64 k, .str tt, .int .i64 n, x4]⟩ :: ⟨vb, .box [.err none]⟩ :: r)) (by
    rintro en u2 w' ⟨h1, h2, ex, e', σ', F', β', ⟨_, va, vb, r, hk⟩, h3, h4⟩
    exact ⟨h1, h2, σ', F', β', va, vb, r, h3, h4, hk⟩)
  rcases hx with ⟨rfl, rfl, rfl, rfl⟩ | ⟨l, rfl⟩
  · refine hfin whC0.ah (cC0 ▸ whC0.ok) rfl ?_
    have h := Eq.mp (whC0.eq x b (encTs ts) i KC) (by
      unfold whC0.W
      cases b
      · exact ⟨rfl, _, _, _, rfl⟩
      · exact ⟨rfl, _, _, _, rfl⟩)
    rw [cC0] at h
    exact h
  · refine hfin whC.ah (cC ▸ whC.ok) rfl ?_
    have h := Eq.mp (whC.eq x b k tt n l (encTs ts) i KC) (by
      unfold whC.W
      cases b
      · exact ⟨rfl, _, _, _, rfl⟩
      · exact ⟨rfl, _, _, _, rfl⟩)
    rw [cC] at h
    exact h
end Go.Proofs.YtgjifgjjcaohoaaGreatDoor.Va
end

/- part Z3I -/
section
namespace Go.Proofs.YtgjifgjjcaohoaaGreatDoor.Va
open Go.Vx Go.Av Go.Lx Go.Dr Go.RowKit

theorem not_asg {l : List Nat} {t : Nat} (h : hasB l t = false) : t ∉ l := fun hm => by rw [hasB_iff.2 hm] at h; cases h
theorem enc0 (s : List UInt8) (h : (parZ s).2 = zeroTr) : encR (parZ s).2 = [.int .i64 0, .str (⟨#[]⟩ : ByteArray), .int .i64 0, .sl 4 []] := by rw [h]; rfl

theorem whole_spec (s : List UInt8) : PCalls ax 32 [.str (bs s), .fn 33 [] []] fun r => r = [.agg (encR (parZ s).2), .err (errZ (parZ s).1)] := by
  intro G w F β vals hE hS hr
  have hl := lexR_len s
  have hb := big9
  generalize hK : (fun r : List V => r = [.agg (encR (parZ s).2), .err (errZ (parZ s).1)]) = K
  let R : Ending → World → Prop := fun e w' => ∃ rs obs' F' β' rvals, onlyV K rs obs' ∧ e = .returned (oneOr rvals) ∧ Rl (RV ax.gs G w' F' β' (mkS1 obs')) rs rvals ∧ Sim ax.gs G w' F' β' (mkS1 obs') ∧ Step w F β (mkS []) w' F' β' (mkS1 obs')
  refine calls_of_wp_defers (R := R) Tryz.func32 (by kernel_rfl : Tryz.f32.body = some B32) ?_
  have hst : St ax G w F β (mkS []) [] Tryz.f32.ntmps (envL [(0, .str (bs s)), (1, .fn 33 [] [])]) [] { tmps := vals.toArray ++ Array.replicate (Tryz.f32.ntmps - vals.toArray.size) undef, defers := [] } w :=
    St.env (St.start (n := Tryz.f32.ntmps) hS hr (Nat.le_of_ble_eq_true (by kernel_rfl))) fun t => match t with | 0 => .inl rfl | 1 => .inl rfl | _ + 2 => .inr rfl
  let KA : Exit → List V → Store → Prop := fun ex vs σ => ((lexR s).2 ≠ none ∧ ex = .ret ∧ vs = [.fn 33 [] [], .ptr 0 0, .ptr 1 0, .sl 3 (encTs (lexR s).1)] ∧ σ = [⟨1, .box [.int .i64 0, .str (⟨#[]⟩ : ByteArray), .int .i64 0, .nls]⟩, ⟨2, .box [.err (lexR s).2]⟩]) ∨
    ((lexR s).2 = none ∧ ex = .normal ∧ vs = [.fn 33 [] [], .ptr 0 0, .ptr 1 0, .sl 3 (encTs (lexR s).1)] ∧ σ = [⟨0, .box [.int .i64 0, .str (⟨#[]⟩ : ByteArray), .int .i64 0, .nls]⟩, ⟨1, .box [.err none]⟩])
  have hA : whA.W (bs s) KA := by
    unfold whA.W
    refine (Lex_spec s).mono fun r hr => ⟨_, _, hr, ?_⟩
    cases hn : (lexR s).2 with
    | none => exact .inr ⟨hn, rfl, rfl, rfl⟩
    | some g => exact .inl ⟨by rw [hn]; simp, rfl, rfl, by rw [hn]⟩
  refine St.chainD (ax := ax) (ah := whA.ah) tysOk fnsOk follows eqOk hE (fx := ⟨ax.fns, none⟩) ⟨rfl, rfl⟩ rfl (K := fun ex e σ => KA ex [e 1, e 4, e 5, e 6] σ) 2 (by kernel_rfl) (by rw [preA]; exact whA.ok) (by rw [preA]; exact whA.calm) (by rw [preA]; exact Eq.mp (whA.eq (bs s) KA) hA) hst (fun ch a' w' _ _ h => False.elim h) ?_
  intro ex e' σ' a' w' hk hs' _
  obtain ⟨ρ, F1, β1, r1, r2, r3, r4⟩ := hs'
  have vals4 : ∀ {t : Nat} {v : V}, e' t = v → RV ax.gs G w' F1 β1 σ' v (a'.tmps.getD t undef) := fun {t v} h => by
    have := r2 t; rw [h, ← r1.at_ t] at this; exact this
  rcases hk with ⟨hn, rfl, hv, rfl⟩ | ⟨hn, rfl, hv, rfl⟩
  · -- the lexer's error
    simp only [List.cons.injEq, and_true] at hv
    obtain ⟨_, e4, e5, _⟩ := hv
    have hz : parZ s = (lexE (lexR s).2, zeroTr) := by unfold parZ; rw [if_neg hn]
    have he : errZ (lexE (lexR s).2) = (lexR s).2 := by
      rcases lexR_err s with h | h | h
      · exact absurd h hn
      · rw [h]; rfl
      · rw [h]; rfl
    show Leaves Tryz.prog Tryz.f32 a'.tmps R a'.defers .returning w'
    rw [r1.defers]
    obtain ⟨v, hv1, rs, obs', F2, β2, rvals, q1, q2, q3, q4, q5⟩ := whole_fin (K := K) (.inr ⟨rfl, rfl⟩) (vals4 e4) (vals4 e5) r3 r4 (by rw [← hK, hz, he]; rfl)
    exact ⟨v, hv1, rs, obs', F2, β2, rvals, q1, by rw [q2], q3, q4, q5⟩
  · -- the parser
    simp only [List.cons.injEq, and_true] at hv
    obtain ⟨e1, e4, e5, e6⟩ := hv
    have z0 := r3.zero
    let obs0 : List Ob := [.box [.int .i64 0, .str (⟨#[]⟩ : ByteArray), .int .i64 0, .nls], .box [.err none]]
    have s0 : Sim ax.gs G w' F1 β1 (mkS obs0) := z0.1
    have st0 : Step w F β (mkS []) w' F1 β1 (mkS obs0) := Step.trim0 (σ1 := Av.zero _) r4 (fun i _ => zero_get _ i)
    have rv0 : ∀ {t : Nat} {v : V}, e' t = v → RV ax.gs G w' F1 β1 (mkS obs0) v (a'.tmps.getD t undef) := fun h => z0.2 (vals4 h)
    show (Av.post 2 B32).wp Tryz.prog _ a' w'
    have hsz : a'.tmps.size = Tryz.f32.ntmps := r1.size
    refine defer_wp (d0 := 17) (g := 42) (caps := #[.tmp 4, .tmp 5]) postA (by kernel_rfl) (by kernel_rfl) (by kernel_rfl) (by kernel_rfl) (by kernel_rfl) (by kernel_rfl) (by rw [hsz]; decide) ?_
    rw [r1.defers]
    have hcaps : (#[.tmp 4, .tmp 5] : Array Operand).map a'.eval = #[a'.tmps.getD 4 undef, a'.tmps.getD 5 undef] := by simp [Act.eval]
    rw [hcaps]
    generalize hv4 : a'.tmps.getD 4 undef = v4
    generalize hv5 : a'.tmps.getD 5 undef = v5
    generalize hd : ({ target := .fn (.func 42) #[v4, v5], args := #[] } : Deferred) = d
    generalize ha2 : a'.put (some 17) (.func (.func 42) #[] #[v4, v5]) = a2
    have q4 : a2.tmps.getD 4 undef = v4 := by rw [← ha2, put_getD (by decide)]; exact hv4
    have q5 : a2.tmps.getD 5 undef = v5 := by rw [← ha2, put_getD (by decide)]; exact hv5
    have g4 : RV ax.gs G w' F1 β1 (mkS obs0) (.ptr 0 0) v4 := hv4 ▸ rv0 e4
    have g5 : RV ax.gs G w' F1 β1 (mkS obs0) (.ptr 1 0) v5 := hv5 ▸ rv0 e5
    have hst2 : St ax G w' F1 β1 (mkS obs0) [d] Tryz.f32.ntmps (envL [(1, .fn 33 [] []), (4, .ptr 0 0), (5, .ptr 1 0), (6, .sl 3 (encTs (lexR s).1))]) (mkS obs0) { a2 with defers := [d] } w' := by
      have hp := (show Rel Tryz.f32.ntmps ρ { a' with defers := [] } from ⟨r1.size, r1.at_, rfl⟩).put (some 17) (.func (.func 42) #[] #[v4, v5]) (fun x hx => by cases hx; decide)
      refine ⟨ρ.put (some 17) (.func (.func 42) #[] #[v4, v5]), F1, β1, ⟨?_, fun t => ?_, rfl⟩, fun t => ?_, s0, Step.refl _ _ _ _⟩
      · rw [← ha2]; exact hp.size
      · rw [← ha2]; exact hp.at_ t
      · have hnj : ∀ {t : Nat} {v : V}, e' t = v → t ≠ 17 → RV ax.gs G w' F1 β1 (mkS obs0) v (ρ.put (some 17) (.func (.func 42) #[] #[v4, v5]) t) := fun {t v} h ht => by
          rw [put_ne (fun hh => ht (by cases hh; rfl)), ← r1.at_ t]; exact rv0 h
        match t with
        | 0 => exact .junk _
        | 1 => exact hnj e1 (by decide)
        | 2 => exact .junk _
        | 3 => exact .junk _
        | 4 => exact hnj e4 (by decide)
        | 5 => exact hnj e5 (by decide)
        | 6 => exact hnj e6 (by decide)
        | _ + 7 => exact .junk _
    let X : List PanicEntry → World → Prop := fun ch w2 => ∃ t us xs F2 β2 σ2, TB s t us σ2 ∧ ch = [{ v := .iface t (.agg xs.toArray), recovered := false }] ∧ Rl (FV ax.gs G w2 F2) us xs ∧ Sim ax.gs G w2 F2 β2 σ2 ∧ Step w' F1 β1 (mkS obs0) w2 F2 β2 σ2
    have hX : ThrOk { ax with T := some (TB s) } ⟨ax.fns, some X⟩ G w' F1 β1 (mkS obs0) := ⟨rfl, X, rfl, fun t us xs w2 F2 β2 σ2 k1 k2 k3 k4 => ⟨t, us, xs, F2, β2, σ2, k1, rfl, k2, k3, k4⟩⟩
    refine wp_mono (St.pieceD (ax := { ax with T := some (TB s) }) (ah := whB.ah) tysOk fnsOk follows eqOk hE hX whB.ok whB.calm (Eq.mp (whB.eq (encTs (lexR s).1) (KB s) (TB s)) (whB_holds s hn)) hst2) ?_
    have n4 : 4 ∉ assigned (hintsOf whB.ah) whB.c := not_asg (by kernel_rfl)
    have n5 : 5 ∉ assigned (hintsOf whB.ah) whB.c := not_asg (by kernel_rfl)
    have hinv : ∀ w2 : World, (invoke (.fn (.func 42) #[v4, v5]) #[]).run Tryz.prog w2 = .ok (.enter 42 #[v4, v5]) w2 := fun w2 => by
      have h1 := Tryz.func42
      have h2 : (Tryz.f42.name == "runtime.NumGoroutine") = false := by kernel_rfl
      have h3 : Tryz.f42.body.isNone = false := by kernel_rfl
      simp only [invoke, callFunc, Sem.run_bind, Sem.run_pure, Result.andThen_ok, run_program, h1, h2, h3, Bool.false_eq_true, if_false]
      rfl
    rintro ex a3 w3 (⟨ch, rfl, hdf, hfr, t, us, xs, F2, β2, σ2, ⟨rfl, hus, hc0, hz0, k, tt, n, x4, i, va, vb, vc, hx, rfl⟩, rfl, h2, h3, h4⟩ | ⟨e3, σ3, ⟨rfl, hc0, i, va, vb, vc, rfl⟩, ⟨ρ3, F2, β2, m1, m2, m3, m4⟩, hfr⟩)
    · -- thrown
      subst hus
      obtain ⟨x1, xs', rfl, hx1, hx2⟩ := h2.cons_inv
      obtain rfl := hx2.nil_inv
      have z3 := h3.zero
      have p4 := z3.2 (g4.mono h4.carry)
      have p5 := z3.2 (g5.mono h4.carry)
      have st3 : Step w F β (mkS []) w3 F2 β2 (Av.zero [⟨va, .box [.int .i64 k, .str tt, .int .i64 n, x4]⟩, ⟨vb, .box [.err none]⟩, ⟨vc, PBx (lexR s).1 i⟩]) := Step.trim0 (σ1 := Av.zero _) (st0.trans h4) (fun i _ => zero_get _ i)
      show Leaves Tryz.prog Tryz.f32 a3.tmps R a3.defers (.panicking [{ v := .iface 87 (.agg #[x1]), recovered := false }]) w3
      rw [hdf, ← hd]
      refine leaves_cons (by simp) (hinv w3) ((catch42 (b := true) hE hx z3.1 p4 p5 (.inr ⟨.agg #[x1], rfl, rfl, rfl⟩) (.tup _ [.agg #[x1], .bool true] rfl (Rl.cons (.agg _ [x1] rfl (Rl.cons (.fz _ _ hx1) .nil).2) (.cons (.fz _ _ (.bool true)) .nil)).2)).mono ?_)
      rintro en u2 w4 ⟨rfl, rfl, σ4, F4, β4, va4, vb4, r, S4, st4, hσ⟩
      rw [cond_true] at hσ
      subst hσ
      show Leaves Tryz.prog Tryz.f32 a3.tmps R [] .returning w4
      have t4 : a3.tmps.getD 4 undef = v4 := (hfr 4 n4).trans q4
      have t5 : a3.tmps.getD 5 undef = v5 := (hfr 5 n5).trans q5
      obtain ⟨v, hv1, rs, obs', F5, β5, rvals, y1, y2, y3, y4, y5⟩ := whole_fin (K := K) (a := a3) (.inr ⟨rfl, rfl⟩) (t4 ▸ p4.mono st4.carry) (t5 ▸ p5.mono st4.carry) S4 (st3.trans st4) (by rw [← hK, enc0 s hz0])
      exact ⟨v, hv1, rs, obs', F5, β5, rvals, y1, by rw [y2], y3, y4, y5⟩
    · -- returned
      obtain ⟨k, q, n, zs, hq⟩ := tr_cases (parZ s).2
      rw [hq] at m2 m3 m4
      have m3' : Sim ax.gs G w3 F2 β2 [⟨va, .box [.int .i64 k, .str (bs q), .int .i64 n, .sl 4 (encRs zs)]⟩, ⟨vb, .box [.err none]⟩, ⟨vc, PBx (lexR s).1 i⟩] := m3
      have m4' : Step w' F1 β1 (mkS obs0) w3 F2 β2 [⟨va, .box [.int .i64 k, .str (bs q), .int .i64 n, .sl 4 (encRs zs)]⟩, ⟨vb, .box [.err none]⟩, ⟨vc, PBx (lexR s).1 i⟩] := m4
      have z3 := m3'.zero
      have p4 := z3.2 (g4.mono m4'.carry)
      have p5 := z3.2 (g5.mono m4'.carry)
      have st3 : Step w F β (mkS []) w3 F2 β2 (Av.zero [⟨va, .box [.int .i64 k, .str (bs q), .int .i64 n, .sl 4 (encRs zs)]⟩, ⟨vb, .box [.err none]⟩, ⟨vc, PBx (lexR s).1 i⟩]) := Step.trim0 (σ1 := Av.zero _) (st0.trans m4') (fun i _ => zero_get _ i)
      show Leaves Tryz.prog Tryz.f32 a3.tmps R a3.defers .returning w3
      rw [show a3.defers = [d] from m1.defers, ← hd]
      refine leaves_cons (by simp) (hinv w3) ((catch42 (b := false) (x := none) hE (.inr ⟨_, rfl⟩) z3.1 p4 p5 (.inl ⟨rfl, rfl, rfl⟩) (.tup _ [.agg #[.nilIface], .bool false] rfl (Rl.cons (.agg _ [.nilIface] rfl (Rl.cons (.fz _ _ .errn) .nil).2) (.cons (.fz _ _ (.bool false)) .nil)).2)).mono ?_)
      rintro en u2 w4 ⟨rfl, rfl, σ4, F4, β4, va4, vb4, r, S4, st4, hσ⟩
      rw [cond_false] at hσ
      subst hσ
      show Leaves Tryz.prog Tryz.f32 a3.tmps R [] .returning w4
      have t4 : a3.tmps.getD 4 undef = v4 := (hfr 4 n4).trans q4
      have t5 : a3.tmps.getD 5 undef = v5 := (hfr 5 n5).trans q5
      obtain ⟨v, hv1, rs, obs', F5, β5, rvals, y1, y2, y3, y4, y5⟩ := whole_fin (K := K) (a := a3) (.inl rfl) (t4 ▸ p4.mono st4.carry) (t5 ▸ p5.mono st4.carry) S4 (st3.trans st4) (by rw [← hK, hq, hc0]; rfl)
      exact ⟨v, hv1, rs, obs', F5, β5, rvals, y1, by rw [y2], y3, y4, y5⟩
end Go.Proofs.YtgjifgjjcaohoaaGreatDoor.Va
end

/- part Z5E -/
section
namespace Go.Proofs.YtgjifgjjcaohoaaGreatDoor.Va
open Go.Vx Go.Av Go.Lx Go.Dr Go.RowKit

def codeOk4 (c : Int) : Prop := c = 0 ∨ c = 2 ∨ c = 3 ∨ c = 4
theorem parT_codes : ∀ f, (∀ n ts, codeOk4 (parT f n ts).1) ∧ ∀ n acc ts, codeOk4 (parR f n acc ts).1 := by
  intro f
  induction f with
  | zero => exact ⟨fun n ts => by simp [parT, codeOk4], fun n acc ts => by simp [parR, codeOk4]⟩
  | succ f ih =>
    obtain ⟨i1, i2⟩ := ih
    refine ⟨fun n ts => ?_, fun n acc ts => ?_⟩
    · rw [parT.eq_def]
      dsimp only
      repeat' split
      all_goals first | (simp [codeOk4]; done) | exact i2 _ _ _ | skip
    · rw [parR.eq_def]
      dsimp only
      repeat' split
      all_goals first | (simp [codeOk4]; done) | exact i2 _ _ _ | exact i1 _ _ | skip
theorem parZ_codes (s : List UInt8) : codeOk4 (parZ s).1 ∨ (parZ s).1 = 1 := by
  unfold parZ
  split
  · left
    have := (parT_codes (2 * (lexR s).1.length + 3)).1 1 (lexR s).1
    generalize parT (2 * (lexR s).1.length + 3) 1 (lexR s).1 = q at this
    obtain ⟨e, x, r⟩ := q
    unfold endP
    dsimp only
    split
    · split
      · left; rfl
      · right; left; rfl
    · exact this
  · rename_i hn
    rcases lexR_err s with h | h | h
    · exact absurd h hn
    · rw [h]; left; right; right; right; rfl
    · rw [h]; right; rfl
/-- the error of a code -/
def errD (c : Int) : Option Nat := if c = 10 then some 1 else errZ c
theorem NumD_spec (c : Int) (h : codeOk4 c ∨ c = 1 ∨ c = 10) : PCalls ax 8 [.err (errD c)] fun r => r = [.int .i64 c] := by
  rcases h with (rfl | rfl | rfl | rfl) | rfl | rfl
  · exact Num_none
  · exact Num_spec 1 (by decide)
  · exact Num_spec 2 (by decide)
  · exact Num_spec 3 (by decide)
  · exact Num_spec 0 (by decide)
  · exact Num_spec 9 (by decide)
theorem readZ_codes (s : List UInt8) : codeOk4 (readZ s).1 ∨ (readZ s).1 = 1 ∨ (readZ s).1 = 10 := by
  unfold readZ
  split
  · rcases parZ_codes s with h | h
    · exact .inl h
    · exact .inr (.inl h)
  · split
    · right; right; rfl
    · split
      · left; left; rfl
      · left; right; right; right; rfl
theorem Term_spec (s : List UInt8) : PCalls ax 19 [.str (bs s)] fun r => r = [.agg (encR (parZ s).2), .err (errZ (parZ s).1)] := by
  refine Term.calls (K := fun r => r = [.agg (encR (parZ s).2), .err (errZ (parZ s).1)]) ?_
  unfold Term.W
  refine (whole_spec s).mono fun r hr => ?_
  obtain ⟨k, q, n, zs, e⟩ := tr_cases (parZ s).2
  rw [e] at hr ⊢
  exact ⟨k, bs q, n, encRs zs, _, hr, rfl⟩
theorem Read_spec (s : List UInt8) : PCalls ax 6 [.str (bs s)] fun r => r = [.agg (encD (readZ s).2), .err (errD (readZ s).1)] := by
  refine Read.calls (K := fun r => r = [.agg (encD (readZ s).2), .err (errD (readZ s).1)]) ?_
  unfold Read.W
  have hok := parZ_ok (Lx.lexR_rng s)
  have hcd := parZ_codes s
  unfold readZ
  refine (Term_spec s).mono fun r hr => ?_
  generalize parZ s = p at hok hcd hr ⊢
  obtain ⟨c, t⟩ := p
  obtain ⟨k, q, n, zs, rfl⟩ := tr_cases t
  refine ⟨k, bs q, n, encRs zs, _, hr, ?_⟩
  by_cases h : c = 0
  · subst h
    refine ifN (fun h => by cases h) (fun _ => ?_)
    rw [if_neg (by simp)]
    have hok := hok rfl
    refine (of_spec (.mk k q n zs) 63 hok).mono fun r hr => ?_
    cases hof : ofT (.mk k q n zs) with
    | none =>
      rw [hof] at hr
      exact ⟨_, _, _, _, _, hr, ifN (fun _ => rfl) (fun h => by cases h)⟩
    | some x =>
      rw [hof] at hr
      obtain ⟨c', n', s', zs', rfl⟩ := dt_cases x
      refine ⟨c', n', bs s', encDs zs', true, hr, ifN (fun h => by cases h) (fun _ => ?_)⟩
      have hd := ofT_ok _ _ _ hok hof
      refine (Good_spec (.mk c' n' s' zs') 63 hd (by omega)).mono fun r hr => ⟨_, hr, ifN (fun h => ?_) (fun h => ?_)⟩
      · dsimp only; rw [if_neg (of_decide_eq_false h)]; rfl
      · dsimp only; rw [if_pos (of_decide_eq_true h)]; rfl
  · have he : errZ c ≠ none := by
      unfold errZ; rw [if_neg h]; split <;> simp
    have he2 : errD c = errZ c := by
      unfold errD
      rw [if_neg]
      rintro rfl
      rcases hcd with (h | h | h | h) | h <;> cases h
    refine ifN (fun _ => ?_) (fun hh => ?_)
    · rw [if_pos h, he2]; rfl
    · cases hz : errZ c with
      | none => exact absurd hz he
      | some g => rw [hz] at hh; cases hh
theorem Text_spec (x : Dt) (h1 : okD 63 x) (h2 : okN x) (h3 : sizeD x ≤ 4096) : PCalls ax 10 [.agg (encD x)] fun r => r = [.str (bs (textD x)), .err none] := by
  have hb := big9
  have hw := okN_wt x h2
  have hrn := okD_rng x 63 h1
  obtain ⟨c, n, s, zs, rfl⟩ := dt_cases x
  refine Text.calls (K := fun r => r = [.str (bs (textD (.mk c n s zs))), .err none]) ?_
  unfold Text.W
  refine (Good_spec (.mk c n s zs) 63 h1 (by omega)).mono fun r hr => ⟨_, hr, ifN (fun h => ?_) (fun _ => ?_)⟩
  · exact absurd h3 (of_decide_eq_false h)
  refine (term_spec (.mk c n s zs) (by omega)).mono fun r hr => ?_
  have hp := PTerm_spec (.mk c n s zs) (by omega) hrn
  obtain ⟨k, q, m, l, e⟩ := tr_cases (ofD (.mk c n s zs))
  rw [e] at hr hp
  exact ⟨k, bs q, m, encRs l, hr, hp.mono fun r hr => ⟨_, hr, rfl⟩⟩
theorem readZ_cases (s : List UInt8) : (∃ x, readZ s = (0, x)) ∨ (readZ s).1 ≠ 0 ∧ (readZ s).2 = zeroD := by
  unfold readZ
  split
  · rename_i h; exact .inr ⟨h, rfl⟩
  · split
    · exact .inr ⟨by simp, rfl⟩
    · split
      · exact .inl ⟨_, rfl⟩
      · exact .inr ⟨by simp, rfl⟩
end Go.Proofs.YtgjifgjjcaohoaaGreatDoor.Va
end

/- part Z8E -/
section
namespace Go.Proofs.YtgjifgjjcaohoaaGreatDoor.Va
open Go.Vx Go.Av Go.Lx Go.Dr

theorem decimal_spec (n : Int) (h0 : -9223372036854775808 ≤ n) (h1 : n ≤ 9223372036854775807) : PCalls ax 30 [.int .i64 n] fun r => r = [.str (bs (Lib.itoa n))] := by
  refine decimal.calls (K := fun r => r = [.str (bs (Lib.itoa n))]) ?_
  unfold decimal.W
  have hlen := decDigits_len (u := n.natAbs) (by omega)
  have hmx : IntKind.i64.max = 9223372036854775807 := rfl
  refine ⟨fun us => ∃ (s : List UInt8) (m : Int), us = [.str (bs s), .int .i64 m] ∧ -9223372036854775808 ≤ m ∧ m ≤ 9223372036854775807 ∧ Lib.decDigits n.natAbs = Lib.decDigits m.natAbs ++ s, fun us => match us with | [_, .int _ m] => m.natAbs | _ => 0, ⟨[], n, rfl, h0, h1, by simp⟩, ?_⟩
  rintro s8 m ⟨s, m', e, g0, g1, hdec⟩
  cases e
  -- one digit more
  have hsl : s.length ≤ 19 := by rw [hdec, List.length_append] at hlen; omega
  have hdiv : (Int.tdiv m 10).natAbs = m.natAbs / 10 := by rw [Int.natAbs_tdiv]; rfl
  have hmod : (Int.tmod m 10).natAbs = m.natAbs % 10 := by rw [Int.natAbs_tmod]; rfl
  have hdb : -9223372036854775808 ≤ Int.tdiv m 10 ∧ Int.tdiv m 10 ≤ 9223372036854775807 := by omega
  have hfin : ∀ x : Int, x = ((m.natAbs % 10 : Nat) : Int) → ∃ s10 : ByteArray, [[V.int .u8 (IntKind.u8.wrap (IntKind.i64.wrap (48 + x)))]] = rowsOf s10 ∧ (((s10.size + (bs s).size : Nat) : Int) ≤ IntKind.i64.max ∧ (IntKind.i64 = IntKind.i64 ∧ (10 : Int) ≠ 0 ∧ (bif ((IntKind.i64.wrap (Int.tdiv m (10 : Int))) == (0 : Int)) then
 (bif (decide (n < (0 : Int))) then
 ((((⟨#[45]⟩ : ByteArray).size + (s10 ++ bs s).size : Nat) : Int) ≤ IntKind.i64.max ∧ ((fun r => r = [V.str (bs (Lib.itoa n))]) [(.str ((⟨#[45]⟩ : ByteArray) ++ (s10 ++ bs s)))]))
 else
 ((fun r => r = [V.str (bs (Lib.itoa n))]) [(.str (s10 ++ bs s))]))
 else
 ((fun us => ∃ (s : List UInt8) (m : Int), us = [V.str (bs s), .int .i64 m] ∧ -9223372036854775808 ≤ m ∧ m ≤ 9223372036854775807 ∧ Lib.decDigits n.natAbs = Lib.decDigits m.natAbs ++ s) [(.str (s10 ++ bs s)), (.int .i64 (IntKind.i64.wrap (Int.tdiv m (10 : Int))))] ∧ (fun us => match us with | [_, V.int _ m] => m.natAbs | _ => 0) [(.str (s10 ++ bs s)), (.int .i64 (IntKind.i64.wrap (Int.tdiv m (10 : Int))))] < (fun us => match us with | [_, V.int _ m] => m.natAbs | _ => 0) [(.str (bs s)), (.int .i64 m)])))) := fun x hx => by
    subst hx
    have hlt : m.natAbs % 10 < 10 := Nat.mod_lt _ (by omega)
    have hw : IntKind.u8.wrap (IntKind.i64.wrap (48 + ((m.natAbs % 10 : Nat) : Int))) = (((UInt8.ofNat (48 + m.natAbs % 10)).toNat : Nat) : Int) := by
      rw [w64 (by omega) (by omega), Go.Vx.w8 (by omega) (by omega), Lx.ofNat_digit hlt]; push_cast; rfl
    refine ⟨bs [UInt8.ofNat (48 + m.natAbs % 10)], by rw [hw]; rfl, ?_⟩
    rw [app_bs, bs_size, bs_size, bs_size, hmx, w64 hdb.1 hdb.2]
    have h45 : (⟨#[45]⟩ : ByteArray) = bs [45] := rfl
    refine ⟨by simp only [List.length_cons, List.length_nil]; omega, rfl, by decide, ifE (fun hz => ?_) (fun hnz => ?_)⟩
    · have hsm : m.natAbs < 10 := by omega
      have hm10 : m.natAbs % 10 = m.natAbs := Nat.mod_eq_of_lt hsm
      rw [decDigits_small hsm] at hdec
      rw [hm10]
      refine ifD (fun hneg => ?_) (fun hpos => ?_)
      · rw [h45, app_bs, bs_size]
        refine ⟨by simp only [List.length_append, List.length_cons, List.length_nil]; omega, ?_⟩
        rw [itoa_neg hneg, hdec]; rfl
      · rw [itoa_pos hpos, show n.toNat = n.natAbs by omega, hdec]
    · have hbig : ¬ m.natAbs < 10 := by omega
      rw [decDigits_big hbig, List.append_assoc] at hdec
      exact ⟨⟨_, _, rfl, hdb.1, hdb.2, by rw [hdiv]; exact hdec⟩, by simp only [hdiv]; omega⟩
  refine ⟨rfl, by decide, ifD (fun hneg => ?_) (fun hpos => ?_)⟩
  · exact hfin _ (by rw [w64 (by omega) (by omega)]; omega)
  · exact hfin _ (by omega)



/-- what stands in the text behind so many arguments -/
def partD (xs : List Dt) : List UInt8 := if xs = [] then [] else 40 :: Lib.join (textDs xs) [44, 32]
theorem joinD_len : ∀ xs : List Dt, rngDs xs → (Lib.join (textDs xs) [44, 32]).length ≤ wtDs xs
  | [], _ => by simp [textDs, Lib.join_nil]
  | t :: r, h => by
    rw [rngDs] at h
    have h1 := text_len t h.1
    have h2 := joinD_len r h.2
    rw [join_text, wtDs]
    split
    · simp only [List.append_nil]; omega
    · simp only [List.length_append, List.length_cons, List.length_nil]; omega
theorem partD_len (xs : List Dt) (h : rngDs xs) : (partD xs).length ≤ 1 + wtDs xs := by
  have := joinD_len xs h
  unfold partD
  split
  · simp
  · simp only [List.length_cons]; omega
theorem partD_snoc (xs : List Dt) (t : Dt) : partD (xs ++ [t]) = if xs = [] then 40 :: textD t else partD xs ++ [44, 32] ++ textD t := by
  unfold partD
  rw [if_neg (by simp)]
  by_cases h : xs = []
  · subst h
    rw [if_pos rfl, List.nil_append, textDs, textDs, Lib.join_one]
  · rw [if_neg h, if_neg h]
    have e : textDs (xs ++ [t]) = textDs xs ++ [textD t] := by rw [textDs_eq, textDs_eq]; simp
    have key : ∀ (a : List Dt), a ≠ [] → Lib.join (textDs (a ++ [t])) [44, 32] = Lib.join (textDs a) [44, 32] ++ [44, 32] ++ textD t := by
      intro a
      induction a with
      | nil => intro h; exact absurd rfl h
      | cons y q ih =>
        intro _
        rw [List.cons_append, join_text, join_text, if_neg (by simp)]
        by_cases hq : q = []
        · subst hq
          rw [if_pos rfl, List.nil_append, textDs, textDs, Lib.join_one]; simp
        · rw [if_neg hq, ih hq]; simp
    rw [key xs h]; simp
theorem RText_spec : ∀ x : Dt, wtD x ≤ big → rngD x → PCalls ax 17 [.agg (encD x)] fun r => r = [.str (bs (textD x))] := by
  refine Dt.ind fun c n s xs ih => ?_
  rintro hs ⟨hn, hvs⟩
  have hb := big9
  have hmx : IntKind.i64.max = 9223372036854775807 := rfl
  have hlw := length_wtDs xs
  rw [wtD] at hs
  have h40 : (⟨#[40]⟩ : ByteArray) = bs [40] := rfl
  have h41 : (⟨#[41]⟩ : ByteArray) = bs [41] := rfl
  have h44 : (⟨#[44, 32]⟩ : ByteArray) = bs [44, 32] := rfl
  refine RText.calls (K := fun r => r = [.str (bs (textD (.mk c n s xs)))]) ?_
  unfold RText.W
  rw [textD]
  cases c with
  | false => exact ifN (fun _ => (decimal_spec n hn.1 hn.2).mono fun r hr => ⟨_, hr, by simp⟩) (fun h => by cases h)
  | true =>
    refine ifN (fun h => by cases h) (fun _ => ?_)
    rw [encDs_length]
    refine ⟨fun us => ∃ i : Nat, i ≤ xs.length ∧ us = [.str (bs (s ++ partD (xs.take i))), .int .i64 i], fun us => match us with | [_, .int _ i] => xs.length - i.toNat | _ => 0, ⟨0, Nat.zero_le _, by simp [partD]⟩, ?_⟩
    rintro s21 n22 ⟨i, hi, e⟩
    cases e
    have hrt : rngDs (xs.take i) := (rngDs_iff _).2 fun z hz => (rngDs_iff xs).1 hvs z (List.mem_of_mem_take hz)
    have hpl := partD_len (xs.take i) hrt
    have hwt := wtDs_take xs i
    refine ifD (fun hlt => ?_) (fun hge => ?_)
    · obtain ⟨c', n', s', l', he⟩ := getDt (xs := xs) (i := i) (by omega)
      have hm := List.mem_of_getElem? he
      have hwm := wtD_mem hm
      have hrm := (rngDs_iff xs).1 hvs _ hm
      have htx := text_len _ hrm
      have hsn := partD_snoc (xs.take i) (.mk c' n' s' l')
      have htk : xs.take (i + 1) = xs.take i ++ [.mk c' n' s' l'] := by rw [List.take_add_one, he]; rfl
      rw [← htk] at hsn
      have hnil : xs.take i = [] ↔ i = 0 := by
        constructor
        · intro h
          have := congrArg List.length h
          rw [List.length_take, List.length_nil] at this; omega
        · rintro rfl; rfl
      refine ⟨by omega, hlt, c', n', bs s', encDs l', drow he, ?_⟩
      rw [zstep (by omega), h40, h44, app_bs, app_bs, hmx]
      simp only [bs_size]
      refine ifE (fun h0 => ?_) (fun h0 => ?_)
      · have hi0 : i = 0 := by omega
        rw [if_pos (hnil.2 hi0)] at hsn
        refine ⟨by simp only [List.length_append, List.length_cons, List.length_nil]; omega, ?_⟩
        refine (ih _ hm (by omega) hrm).mono fun r hr => ⟨_, hr, ?_⟩
        rw [app_bs]
        simp only [bs_size]
        refine ⟨by simp only [List.length_append, List.length_cons, List.length_nil]; omega, ⟨i + 1, by omega, ?_⟩, by simp only [Int.toNat_natCast]; omega⟩
        rw [hsn]
        subst hi0
        simp [partD]
      · rw [if_neg (fun h => h0 (by have := hnil.1 h; omega))] at hsn
        refine ⟨by simp only [List.length_append, List.length_cons, List.length_nil]; omega, ?_⟩
        refine (ih _ hm (by omega) hrm).mono fun r hr => ⟨_, hr, ?_⟩
        rw [app_bs]
        simp only [bs_size]
        refine ⟨by simp only [List.length_append, List.length_cons, List.length_nil]; omega, ⟨i + 1, by omega, ?_⟩, by simp only [Int.toNat_natCast]; omega⟩
        rw [hsn]
        simp only [List.append_assoc]
    · rw [List.take_of_length_le (by omega)] at hpl ⊢
      refine ifD (fun h0 => ?_) (fun h0 => ?_)
      · rw [h41, app_bs, bs_size, bs_size, hmx]
        refine ⟨by simp only [List.length_append, List.length_cons, List.length_nil]; omega, ?_⟩
        have hne : xs ≠ [] := fun h => by rw [h] at h0; simp at h0
        simp [partD, hne]
      · have hz : xs = [] := List.eq_nil_of_length_eq_zero (by omega)
        subst hz
        simp [partD]
theorem TextN_spec (x : Dt) (h1 : wtD x ≤ big) (h2 : rngD x) : PCalls ax 10 [.agg (encD x)] fun r => r = if GoodN x then [.str (bs (textD x)), .err none] else [.str (bs []), .err (some 0)] := by
  have hb := big9
  have hg := GoodN_spec x (wt_len x (by omega))
  obtain ⟨c, n, s, zs, rfl⟩ := dt_cases x
  refine Text.calls (K := fun r => r = if GoodN (.mk c n s zs) then [.str (bs (textD (.mk c n s zs))), .err none] else [.str (bs []), .err (some 0)]) ?_
  unfold Text.W
  refine hg.mono fun r hr => ⟨_, hr, ifN (fun h => ?_) (fun h => ?_)⟩
  · rw [if_neg (of_decide_eq_false h)]; rfl
  rw [if_pos (of_decide_eq_true h)]
  refine (term_spec (.mk c n s zs) h1).mono fun r hr => ?_
  have hp := PTerm_spec (.mk c n s zs) h1 h2
  obtain ⟨k, q, m, l, e⟩ := tr_cases (ofD (.mk c n s zs))
  rw [e] at hr hp
  exact ⟨k, bs q, m, encRs l, hr, hp.mono fun r hr => ⟨_, hr, rfl⟩⟩
theorem rows_of (l : List UInt8) : ∃ s : ByteArray, rb l = rowsOf s ∧ s = bs l := ⟨bs l, rfl, rfl⟩
theorem strEq_self (s : ByteArray) : strEq s s = true := by unfold strEq; exact decide_eq_true rfl
theorem Forms_spec (x : Dt) (h1 : wtD x ≤ big) (h2 : rngD x) : PCalls ax 4 [.agg (encD x)] fun r => r = [.bool true] := by
  have hb := big9
  have hlo := wt_len x (by omega)
  have pE := Encode_spec x h1
  have pR := REncode_spec x h1
  have pG := GoodN_spec x hlo
  have pRG := RGoodN_spec x hlo
  have pN := NodesN_spec x hlo
  have pRN := RNodesN_spec x hlo
  have pT := TextN_spec x h1 h2
  have pRT := RText_spec x h1 h2
  have pD := Decode_spec x
  have pS := Same_norm x hlo
  have pRead := Read_spec (textD x)
  have pRRead := RRead_spec (textD x) (Lx.lexR_rng (textD x))
  have hcd := readZ_codes (textD x)
  have hz0 : okD 63 zeroD := ⟨by simp, fun h => absurd rfl h, fun _ => rfl, trivial, by decide⟩
  have pSame : PCalls ax 9 [.agg (encD (readZ (textD x)).2), .agg (encD (readZ (textD x)).2)] fun r => r = [.bool true] := by
    rcases readZ_cases (textD x) with ⟨y, hy⟩ | ⟨_, hz⟩
    · rw [hy]; exact Same_refl y 63 (readZ_ok hy).1
    · rw [hz]; exact Same_refl zeroD 63 hz0
  have hnum : codeOk4 (if GoodN x then (if (encB x).isSome then 0 else 10) else 4) ∨ (if GoodN x then (if (encB x).isSome then 0 else 10) else 4 : Int) = 1 ∨ (if GoodN x then (if (encB x).isSome then 0 else 10) else 4 : Int) = 10 := by
    split
    · split
      · left; left; rfl
      · right; right; rfl
    · left; right; right; right; rfl
  have herr : (if GoodN x then errB x else some 0) = errD (if GoodN x then (if (encB x).isSome then 0 else 10) else 4) := by
    split
    · unfold errB; split <;> rfl
    · rfl
  have pNum := NumD_spec _ hnum
  rw [← herr] at pNum
  generalize hx : x = y at *
  obtain ⟨c, n, s, zs, rfl⟩ := dt_cases y
  refine Forms.calls (K := fun r => r = [.bool true]) ?_
  unfold Forms.W
  refine AliveA_spec.mono fun r hr => ⟨true, hr, ifN (fun h => by cases h) (fun _ => ?_)⟩
  refine pE.mono fun r hr => ⟨_, _, hr, pR.mono fun r hr => ⟨_, _, hr, pG.mono fun r hr => ⟨_, hr, pRG.mono fun r hr => ⟨_, hr, ifN (fun h => by simp at h) (fun _ => ?_)⟩⟩⟩⟩
  refine pN.mono fun r hr => ⟨_, hr, pRN.mono fun r hr => ⟨_, hr, ifNE (fun h => absurd rfl h) (fun _ => ?_)⟩⟩
  refine ⟨_, rfl, _, rfl, ifN (fun h => by rw [strEq_self] at h; cases h) (fun _ => ?_)⟩
  refine pNum.mono fun r hr => ⟨_, hr, ifNE (fun h => absurd rfl h) (fun _ => ?_)⟩
  by_cases hg : GoodN (.mk c n s zs)
  · rw [if_pos hg] at pT
    refine pT.mono fun r hr => ⟨_, _, hr, pRG.mono fun r hr => ⟨_, hr, ifN (fun h => by rw [decide_eq_true hg] at h; cases h) (fun _ => ?_)⟩⟩
    refine ifN (fun h => by cases h) (fun _ => ?_)
    refine pRT.mono fun r hr => ⟨_, hr, ifN (fun h => by rw [strEq_self] at h; cases h) (fun _ => ⟨fun _ => True, ?_, fun _ => ?_⟩)⟩
    · refine ifE (fun h0 => ?_) (fun _ => trivial)
      rw [if_pos hg] at h0 ⊢
      cases he : encB (.mk c n s zs) with
      | none => rw [he] at h0; cases h0
      | some e =>
        obtain ⟨c2, n2, s2, l2, hnd⟩ := dt_cases (normD (.mk c n s zs))
        have pD := pD e he hg h2
        rw [hnd] at pD pS
        exact pD.mono fun r hr => ⟨c2, n2, bs s2, encDs l2, none, hr, ifN (fun h => by cases h) (fun _ => pS.mono fun r hr => ⟨true, hr, ifN (fun h => by cases h) (fun _ => trivial)⟩)⟩
    · obtain ⟨c2, n2, s2, l2, hrd⟩ := dt_cases (readZ (textD (.mk c n s zs))).2
      rw [hrd] at pRead pRRead pSame
      exact pRead.mono fun r hr => ⟨c2, n2, bs s2, encDs l2, _, hr, pRRead.mono fun r hr => ⟨c2, n2, bs s2, encDs l2, _, hr, (NumD_spec _ hcd).mono fun r hr => ⟨_, hr, ifE (fun _ => pSame.mono fun r hr => ⟨true, hr, rfl⟩) (fun h => absurd rfl h)⟩⟩⟩
  · rw [if_neg hg] at pT
    refine pT.mono fun r hr => ⟨_, _, hr, pRG.mono fun r hr => ⟨_, hr, ifN (fun _ => ?_) (fun h => by rw [decide_eq_false hg] at h; cases h)⟩⟩
    rfl
end Go.Proofs.YtgjifgjjcaohoaaGreatDoor.Va
end
