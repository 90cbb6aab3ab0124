/- augurlaw19.HeapPlays: its beginning. -/
import Derived.Test.YtfenhbjamohdgaaDoorS8
/- part H5V -/
section
namespace Go.Proofs.YtfenhbjamohdgaaDoor.Vf
open Go.Vx Go.Vx.Hp Go.RowKit Vr

/-- places of the variables that stay, each twice -/
def rts (pp : Nat) (K : List Nat) : List Pl := K.flatMap fun i => [(pp, 2 + i * 2), (pp, 2 + i * 2)]
def rtv (av : List Val) (x : Pl) : Val := av.getD ((x.2 - 2) / 2) ⟨false, 0⟩
theorem rts_mem {pp : Nat} {K : List Nat} {x : Pl} : x ∈ rts pp K ↔ ∃ i ∈ K, x = (pp, 2 + i * 2) := by
  simp only [rts, List.mem_flatMap, List.mem_cons, List.not_mem_nil, or_false, or_self]
theorem rts_len (pp : Nat) (K : List Nat) : (rts pp K).length = K.length * 2 := by
  induction K with
  | nil => rfl
  | cons i r ih => simp only [rts, List.flatMap_cons, List.length_append, List.length_cons, List.length_nil] at ih ⊢; omega
theorem rtv_at (av : List Val) (pp i : Nat) : rtv av (pp, 2 + i * 2) = av.getD i ⟨false, 0⟩ := by
  unfold rtv
  rw [show (2 + i * 2 - 2) / 2 = i by omega]
theorem vflat_cell : ∀ {av : List Val} {i : Nat} {x : Val}, av[i]? = some x → (vflat av)[i * 2]? = some (.bool x.ref) ∧ (vflat av)[i * 2 + 1]? = some (.int .i64 x.n)
  | [], _, _, h => by simp at h
  | c :: r, 0, x, h => by simp at h; subst h; exact ⟨rfl, rfl⟩
  | c :: r, i + 1, x, h => by
    have e : vflat (c :: r) = .bool c.ref :: .int .i64 c.n :: vflat r := rfl
    rw [e, show (i + 1) * 2 = i * 2 + 1 + 1 by omega]
    exact vflat_cell (av := r) (by simpa using h)
theorem pc_get {hp mp : Nat} {av : List Val} {bw : List RV} {i : Nat} {x : Val} (h : av[i]? = some x) : (pcells hp mp av bw).toList[2 + i * 2]? = some (.bool x.ref) ∧ (pcells hp mp av bw).toList[2 + i * 2 + 1]? = some (.int .i64 x.n) := by
  obtain ⟨h1, h2⟩ := vflat_cell h
  have hl := vflat_length av
  have hi := (List.getElem?_eq_some_iff.1 h).1
  unfold pcells
  rw [List.toList_toArray, show 2 + i * 2 = i * 2 + 1 + 1 by omega]
  simp only [List.getElem?_cons_succ]
  exact ⟨by rw [List.getElem?_append_left (by omega)]; exact h1, by rw [List.getElem?_append_left (by omega)]; exact h2⟩
theorem pc_other {hp mp : Nat} {av av' : List Val} {bw : List RV} (hl : av.length = av'.length) {o : Nat} (h : ∀ i, i < av.length → av[i]? ≠ av'[i]? → o ≠ 2 + i * 2 ∧ o ≠ 2 + i * 2 + 1) : (pcells hp mp av bw).toList[o]? = (pcells hp mp av' bw).toList[o]? := by
  match o, h with
  | 0, _ => rfl
  | 1, _ => rfl
  | o + 2, h =>
    rcases Nat.lt_or_ge o (av.length * 2) with ho | ho
    · have hi : o / 2 < av.length := by omega
      have e : av[o / 2]? = av'[o / 2]? := Classical.byContradiction fun hne => by
        have := h (o / 2) hi hne; omega
      have x1 := List.getElem?_eq_getElem hi
      obtain ⟨a1, a2⟩ := pc_get (hp := hp) (mp := mp) (bw := bw) x1
      obtain ⟨b1, b2⟩ := pc_get (hp := hp) (mp := mp) (bw := bw) (e ▸ x1 : av'[o / 2]? = _)
      rcases Nat.mod_two_eq_zero_or_one o with hm | hm
      · rw [show o + 2 = 2 + o / 2 * 2 by omega, a1, b1]
      · rw [show o + 2 = 2 + o / 2 * 2 + 1 by omega, a2, b2]
    · unfold pcells
      simp only [List.getElem?_cons_succ]
      rw [List.getElem?_append_right (by rw [vflat_length]; omega), List.getElem?_append_right (by rw [vflat_length]; omega), vflat_length, vflat_length, hl]

/-- behind a collection: the pair's variables -/
theorem col_blk {pp hp mp : Nat} {w w' : World} {S : List St} {most : Int} {v T : Value} {av : List Val} {bw : List RV} {K : List Nat} {M : Mov} (hblk : w.heap[pp]? = some (.cells (pcells hp mp av bw) 66 (0, 0))) (la : av.length = 8) (lb : bw.length = 8) (hK : ∀ i ∈ K, i < 8) (hno : ∀ i x, i ∉ K → av[i]? = some x → x.ref = false) (pm : ¬ Mine hp S v pp)
    (hc : Col hp w w' S most v (rts pp K) (rtv av) M T) : w'.heap[pp]? = some (.cells (pcells hp mp (av.map (fwd M)) bw) 66 (0, 0)) := by
  have hpp := lt_of_block hblk
  have hlen : av.length = (av.map (fwd M)).length := by simp
  have diff : ∀ i, i < av.length → av[i]? ≠ (av.map (fwd M))[i]? → i ∈ K := fun i hi hne => Classical.byContradiction fun hn => hne (by
    have x1 := List.getElem?_eq_getElem hi
    have := hno i _ hn x1
    rw [List.getElem?_map, x1]
    simp [fwd, this])
  rcases K.eq_nil_or_concat with rfl | ⟨K', k, hk⟩
  · have : av.map (fwd M) = av := by
      refine (List.ext_getElem? fun i => ?_).symm
      rcases Nat.lt_or_ge i av.length with hi | hi
      · exact Classical.byContradiction fun hne => by cases diff i hi hne
      · rw [List.getElem?_eq_none hi, List.getElem?_eq_none (by omega)]
    rw [this, ← hblk]
    exact hc.old pp hpp pm fun ⟨x, hx, _⟩ => by cases hx
  · have hkK : k ∈ K := by rw [hk]; simp
    obtain ⟨cs, t, cs', e1, e2, e3⟩ := hc.rb.shape (pp, 2 + k * 2) (rts_mem.2 ⟨k, hkK, rfl⟩)
    simp only at e1 e2
    rw [hblk] at e1
    simp only [Option.some.injEq, Obj.cells.injEq, and_true] at e1
    obtain ⟨rfl, rfl⟩ := e1
    rw [e2]
    congr 2
    have hl2 : cs'.toList.length = (pcells hp mp (av.map (fwd M)) bw).toList.length := by
      simp only [Array.length_toList]
      rw [e3, pcells_size la lb, pcells_size (by simpa using la) lb]
    have cell' : ∀ o, w'.cell? ⟨pp, o, none⟩ = cs'.toList[o]? := fun o => by simp only [World.cell?, e2]; simp
    have cell0 : ∀ o, w.cell? ⟨pp, o, none⟩ = (pcells hp mp av bw).toList[o]? := fun o => by simp only [World.cell?, hblk]; simp
    refine Array.toList_inj.1 (List.ext_getElem? fun o => ?_)
    by_cases hr : ∃ i ∈ K, o = 2 + i * 2 ∨ o = 2 + i * 2 + 1
    · obtain ⟨i, hiK, ho⟩ := hr
      have hcc := hc.cells (pp, 2 + i * 2) (rts_mem.2 ⟨i, hiK, rfl⟩)
      rw [rtv_at] at hcc
      have hi8 := hK i hiK
      have x1 := List.getElem?_eq_getElem (l := av) (i := i) (by omega)
      have ex : av.getD i ⟨false, 0⟩ = av[i]'(by omega) := by rw [List.getD_eq_getElem?_getD, x1]; rfl
      rw [ex] at hcc
      obtain ⟨p1, p2⟩ := pc_get (hp := hp) (mp := mp) (av := av.map (fwd M)) (bw := bw) (i := i) (x := fwd M (av[i]'(by omega))) (by rw [List.getElem?_map, x1]; rfl)
      obtain ⟨q1, q2⟩ := cellsAt_vals.1 hcc
      rcases ho with rfl | rfl
      · rw [← cell', p1]; exact q1
      · rw [← cell', p2]; exact q2
    · rw [← cell', hc.rb.other pp o ⟨(pp, 2 + k * 2), rts_mem.2 ⟨k, hkK, rfl⟩, rfl⟩ (fun x hx _ => by
        obtain ⟨i, hiK, rfl⟩ := rts_mem.1 hx
        exact ⟨fun e => hr ⟨i, hiK, .inl e⟩, fun e => hr ⟨i, hiK, .inr e⟩⟩), cell0]
      exact pc_other hlen fun i hi hne => ⟨fun e => hr ⟨i, diff i hi hne, .inl e⟩, fun e => hr ⟨i, diff i hi hne, .inr e⟩⟩
end Go.Proofs.YtfenhbjamohdgaaDoor.Vf
end

/- part H5W -/
section
set_option linter.unusedVariables false
namespace Go.Proofs.YtfenhbjamohdgaaDoor.Vf
open Go.Vx
def CollEnd (pp : Nat) (a149 : Option Addr) (m150 c151 : Nat) (a152 : Option Addr) (m153 c154 : Nat) (w146 : World) (R : Value → World → Prop) : Prop :=
 (∃ b206 f207, (some ⟨pp, 0, none⟩ : Option Addr) = some ⟨b206, f207, none⟩ ∧ (∃ (p208 : Option Addr), World.cell? w146 ⟨b206, f207, none⟩ = some (.pointer p208) ∧ (Calls Tryd.prog 13 #[(.pointer p208), (.slice a149 m150 c151)] w146 fun e210 w209 => ∃ (v211 : Value), e210 = .returned v211 ∧ (∃ r212, IsNil v211 r212 ∧ (bif (!r212) then
 (R (.bool false) w209)
 else
 (∃ b213 f214, (some ⟨pp, 0, none⟩ : Option Addr) = some ⟨b213, f214, none⟩ ∧ (∃ (p215 : Option Addr), World.cell? w209 ⟨b213, (f214 + 1), none⟩ = some (.pointer p215) ∧ (Calls Tryd.prog 35 #[(.pointer p215), (.slice a152 m153 c154)] w209 fun e217 w216 => e217 = .returned (.tuple #[]) ∧ (R (.bool true) w216)))))))))
def CollTail (pp kb : Nat) (u : World) (R : Value → World → Prop) : Prop :=
 (withW (World.alloc u (.cells #[] 39)) fun w142 =>
 (withW (World.alloc w142 (.cells #[] 63)) fun w143 =>
 (∃ (I144 : List Value → World → Prop) (μ145 : List Value → World → Nat), I144 [(.slice (some ⟨u.heap.size, 0, none⟩ : Option Addr) 0 0), (.slice (some ⟨w142.heap.size, 0, none⟩ : Option Addr) 0 0), (.int .i64 0)] w143 ∧ ∀ (_j147 : Env) (q148 : List Value) (w146 : World), I144 q148 w146 → ∃ (a149 : Option Addr) (m150 c151 : Nat) (a152 : Option Addr) (m153 c154 : Nat) (n155 : Int), q148 = [(.slice a149 m150 c151), (.slice a152 m153 c154), (.int .i64 n155)] ∧
 (bif (decide (n155 < (8 : Int))) then
 (0 ≤ n155 ∧ n155 < ((8 : Nat) : Int) ∧ (∃ (b156 : Bool), World.cell? w146 ⟨kb, (0 + (n155 : Int).toNat * 1), none⟩ = some (.bool b156) ∧ (bif (!b156) then
 (withW (World.drew w146) fun w157 =>
 (∃ b158 f159, (some ⟨pp, 0, none⟩ : Option Addr) = some ⟨b158, f159, none⟩ ∧ (∃ b160 f161, (some ⟨pp, 0, none⟩ : Option Addr) = some ⟨b160, f161, none⟩ ∧ (Calls Tryd.prog 18 #[(.int .i64 0)] w157 fun e163 w162 => ∃ (n164 : Int) (n165 : Int), e163 = .returned (.agg #[(.int .i64 n164), (.int .i64 n165)]) ∧ (0 ≤ n155 ∧ n155 < ((8 : Nat) : Int) ∧ (canSt w162 b158 ((f159 + 2) + (n155 : Int).toNat * 2) [(.bool false), (.int .i64 0)] ∧ withW (setL w162 b158 ((f159 + 2) + (n155 : Int).toNat * 2) [(.bool false), (.int .i64 0)]) fun w166 =>
 (0 ≤ n155 ∧ n155 < ((8 : Nat) : Int) ∧ (canSt w166 b160 ((f161 + 18) + (n155 : Int).toNat * 2) [(.int .i64 n164), (.int .i64 n165)] ∧ withW (setL w166 b160 ((f161 + 18) + (n155 : Int).toNat * 2) [(.int .i64 n164), (.int .i64 n165)]) fun w167 =>
 (I144 [(.slice a149 m150 c151), (.slice a152 m153 c154), (.int .i64 (IntKind.i64.wrap (n155 + 1)))] w167 ∧ μ145 [(.slice a149 m150 c151), (.slice a152 m153 c154), (.int .i64 (IntKind.i64.wrap (n155 + 1)))] w167 < μ145 [(.slice a149 m150 c151), (.slice a152 m153 c154), (.int .i64 n155)] w146)))))))))
 else
 (withW (World.drew w146) fun w168 =>
 (∃ b169 f170, (some ⟨pp, 0, none⟩ : Option Addr) = some ⟨b169, f170, none⟩ ∧ (0 ≤ n155 ∧ n155 < ((8 : Nat) : Int) ∧ (∃ b171 f172, (some ⟨pp, 0, none⟩ : Option Addr) = some ⟨b171, f172, none⟩ ∧ (0 ≤ n155 ∧ n155 < ((8 : Nat) : Int) ∧ (∃ b173 f174, (some ⟨pp, 0, none⟩ : Option Addr) = some ⟨b173, f174, none⟩ ∧ (0 ≤ n155 ∧ n155 < ((8 : Nat) : Int) ∧ (∃ (n175 : Int) (n176 : Int), cellsAt w168 b173 ((f174 + 18) + (n155 : Int).toNat * 2) [(.int .i64 n175), (.int .i64 n176)] ∧ ((withW (World.alloc w168 (.cells #[(.pointer (some ⟨b169, ((f170 + 2) + (n155 : Int).toNat * 2), none⟩ : Option Addr)), (.pointer (some ⟨b171, ((f172 + 2) + (n155 : Int).toNat * 2), none⟩ : Option Addr))] 39)) fun w177 =>
 (cellsAt w177 b173 ((f174 + 18) + (n155 : Int).toNat * 2) [(.int .i64 n175), (.int .i64 n176)] ∧ ((∃ (a178 : Option Addr) (m179 c180 : Nat) (w181 : World), Runs Tryd.prog (Builtin.append_ #[50, 50] 50 #[(.slice a149 m150 c151), (.slice (some ⟨w168.heap.size, 0, none⟩ : Option Addr) 2 2)]) w177 (.slice a178 m179 c180) w181 ∧ (cellsAt w181 b173 ((f174 + 18) + (n155 : Int).toNat * 2) [(.int .i64 n175), (.int .i64 n176)] ∧ (withW (World.alloc w181 (.cells #[(.int .i64 n175), (.int .i64 n176)] 63)) fun w182 =>
 (∃ (a183 : Option Addr) (m184 c185 : Nat) (w186 : World), Runs Tryd.prog (Builtin.append_ #[70, 70] 70 #[(.slice a152 m153 c154), (.slice (some ⟨w181.heap.size, 0, none⟩ : Option Addr) 1 1)]) w182 (.slice a183 m184 c185) w186 ∧ (I144 [(.slice a178 m179 c180), (.slice a183 m184 c185), (.int .i64 (IntKind.i64.wrap (n155 + 1)))] w186 ∧ μ145 [(.slice a178 m179 c180), (.slice a183 m184 c185), (.int .i64 (IntKind.i64.wrap (n155 + 1)))] w186 < μ145 [(.slice a149 m150 c151), (.slice a152 m153 c154), (.int .i64 n155)] w146))))) ∧ (withW (World.alloc w177 (.cells #[(.int .i64 n175), (.int .i64 n176)] 63)) fun w187 =>
 (∃ (a188 : Option Addr) (m189 c190 : Nat) (w191 : World), Runs Tryd.prog (Builtin.append_ #[50, 50] 50 #[(.slice a149 m150 c151), (.slice (some ⟨w168.heap.size, 0, none⟩ : Option Addr) 2 2)]) w187 (.slice a188 m189 c190) w191 ∧ (cellsAt w191 b173 ((f174 + 18) + (n155 : Int).toNat * 2) [(.int .i64 n175), (.int .i64 n176)] ∧ (∃ (a192 : Option Addr) (m193 c194 : Nat) (w195 : World), Runs Tryd.prog (Builtin.append_ #[70, 70] 70 #[(.slice a152 m153 c154), (.slice (some ⟨w177.heap.size, 0, none⟩ : Option Addr) 1 1)]) w191 (.slice a192 m193 c194) w195 ∧ (I144 [(.slice a188 m189 c190), (.slice a192 m193 c194), (.int .i64 (IntKind.i64.wrap (n155 + 1)))] w195 ∧ μ145 [(.slice a188 m189 c190), (.slice a192 m193 c194), (.int .i64 (IntKind.i64.wrap (n155 + 1)))] w195 < μ145 [(.slice a149 m150 c151), (.slice a152 m153 c154), (.int .i64 n155)] w146)))))))) ∧ (withW (World.alloc w168 (.cells #[(.int .i64 n175), (.int .i64 n176)] 63)) fun w196 =>
 (withW (World.alloc w196 (.cells #[(.pointer (some ⟨b169, ((f170 + 2) + (n155 : Int).toNat * 2), none⟩ : Option Addr)), (.pointer (some ⟨b171, ((f172 + 2) + (n155 : Int).toNat * 2), none⟩ : Option Addr))] 39)) fun w197 =>
 (cellsAt w197 b173 ((f174 + 18) + (n155 : Int).toNat * 2) [(.int .i64 n175), (.int .i64 n176)] ∧ (∃ (a198 : Option Addr) (m199 c200 : Nat) (w201 : World), Runs Tryd.prog (Builtin.append_ #[50, 50] 50 #[(.slice a149 m150 c151), (.slice (some ⟨w196.heap.size, 0, none⟩ : Option Addr) 2 2)]) w197 (.slice a198 m199 c200) w201 ∧ (cellsAt w201 b173 ((f174 + 18) + (n155 : Int).toNat * 2) [(.int .i64 n175), (.int .i64 n176)] ∧ (∃ (a202 : Option Addr) (m203 c204 : Nat) (w205 : World), Runs Tryd.prog (Builtin.append_ #[70, 70] 70 #[(.slice a152 m153 c154), (.slice (some ⟨w168.heap.size, 0, none⟩ : Option Addr) 1 1)]) w201 (.slice a202 m203 c204) w205 ∧ (I144 [(.slice a198 m199 c200), (.slice a202 m203 c204), (.int .i64 (IntKind.i64.wrap (n155 + 1)))] w205 ∧ μ145 [(.slice a198 m199 c200), (.slice a202 m203 c204), (.int .i64 (IntKind.i64.wrap (n155 + 1)))] w205 < μ145 [(.slice a149 m150 c151), (.slice a152 m153 c154), (.int .i64 n155)] w146)))))))))))))))))))
 else
 (CollEnd pp a149 m150 c151 a152 m153 c154 w146 R)))))
end Go.Proofs.YtfenhbjamohdgaaDoor.Vf
end

/- part H5X -/
section
namespace Go.Proofs.YtfenhbjamohdgaaDoor.Vf
open Go.Vx Go.Vx.Hp Go.RowKit Vr

def ptrs (pp : Nat) (K : List Nat) : List Value := (rts pp K).map fun x => .pointer (some (ad x))
theorem ptrs_len (pp : Nat) (K : List Nat) : (ptrs pp K).length = (rts pp K).length := by simp [ptrs]
def liveB (bw : List RV) (K : List Nat) : List RV := K.map fun j => bw.getD j ⟨-1, 0⟩

/-- the roots' row and the row of what lives -/
structure Two3 (base : Nat) (w : World) (va vb : Value) (P : List Value) (BA : List RV) : Prop where
  ra : w.ownsRow base 39 1 va P.length P
  rb : w.ownsRow base 63 2 vb BA.length (rflat BA)
  ne : ∀ g, va.ownBlock = some g → vb.ownBlock ≠ some g

set_option maxHeartbeats 1000000 in
theorem collEnd_spec {pp hp mp n base : Nat} {W0 w : World} {S : List St} {most : Int} {v : Value} {A : RA} {φ : Nat → Nat} {av : List Val} {bw : List RV} {Y : Nat → Prop} (h : Pr W0.heap.size pp hp mp w S most v A φ av bw Y) (hb0 : Below W0.heap.size W0 w) (hn : A.length ≤ n) (hn2 : cellsR A ≤ 9 * n) {K : List Nat} (hK : ∀ i ∈ K, i < 8) (hKl : K.length ≤ 8) (hno : ∀ i x, i ∉ K → av[i]? = some x → x.ref = false)
    {a a' : Option Addr} {c c' : Nat} (two : Two3 base w (.slice a (rts pp K).length c) (.slice a' (liveB bw K).length c') (ptrs pp K) (liveB bw K)) (hbase : ∀ k, Mine hp S v k ∨ Y k ∨ k = pp → k < base) (hL : W0.heap.size ≤ base)
    (R : Value → World → Prop) (hR : ∀ w', Next W0.heap.size pp hp mp most W0 w' n → R (.bool true) w') : CollEnd pp a (rts pp K).length c a' (liveB bw K).length c' w R := by
  unfold CollEnd
  have la := h.la
  have lb := h.lb
  have hpp := lt_of_block h.blk
  have hbl := hb0.size
  have getv : ∀ i, i ∈ K → ∃ x y, av[i]? = some x ∧ bw[i]? = some y ∧ VR φ A x y ∧ av.getD i ⟨false, 0⟩ = x ∧ bw.getD i ⟨-1, 0⟩ = y := fun i hi => by
    have h8 := hK i hi
    obtain ⟨y, hy, hv⟩ := h.vr.pick (i := i) (by omega)
    have x1 := List.getElem?_eq_getElem (l := av) (i := i) (by omega)
    exact ⟨_, y, x1, hy, hv, by rw [List.getD_eq_getElem?_getD, x1]; rfl, by rw [List.getD_eq_getElem?_getD, hy]; rfl⟩
  have own39 : ∀ j (hj : j < (rts pp K).length), ∃ b, a = some ⟨b, 0, none⟩ ∧ base ≤ b ∧ w.cell? ⟨b, 0 + j * 1, none⟩ = some (.pointer (some (ad (rts pp K)[j]))) := fun j hj => by
    obtain ⟨hxl, ⟨e, h0⟩ | ⟨g, cap, cur, e, hg, hh, _, _, _, ht⟩⟩ := two.ra
    · rw [ptrs_len] at h0; omega
    · simp only [Value.slice.injEq] at e
      obtain ⟨rfl, _, rfl⟩ := e
      have hcell : cellsAt w g 0 (ptrs pp K) := cellsAt_of_block hh _ 0 (by rw [List.drop_zero, hxl]; exact ht)
      exact ⟨g, rfl, hg, by rw [Nat.mul_one]; exact cellsAt_at hcell (by simp [ptrs, List.getElem?_eq_getElem hj])⟩
  refine ⟨pp, 0, rfl, _, cell_of_block h.blk rfl, (Collect_spec h.is (rts pp K) (rtv av) a c (by rw [rts_len]; omega) (fun x hx => ?_) (fun x hx => ?_) (fun x hx => ?_) (fun x hx y hy hne => ?_) (fun x hx => ?_) (fun j hj => ?_) (fun b f e => ?_)).mono ?_⟩
  · obtain ⟨i, hi, rfl⟩ := rts_mem.1 hx
    obtain ⟨x, y, h1, h2, h3, h4, _⟩ := getv i hi
    rw [rtv_at, h4]
    have h8 := hK i hi
    have := pblk_v h.blk (i := i) (by omega)
    have ex : av[i]'(by omega) = x := by
      have x1 := List.getElem?_eq_getElem (l := av) (i := i) (by omega)
      rw [h1] at x1; exact (Option.some.inj x1).symm
    rw [ex] at this
    rw [show 2 + i * 2 = 0 + 2 + i * 2 by omega]; exact this
  · obtain ⟨i, hi, rfl⟩ := rts_mem.1 hx
    exact ⟨_, _, h.blk⟩
  · obtain ⟨i, hi, rfl⟩ := rts_mem.1 hx
    exact h.pm
  · obtain ⟨i, hi, rfl⟩ := rts_mem.1 hx
    obtain ⟨j, hj, rfl⟩ := rts_mem.1 hy
    have : i ≠ j := fun e => hne (by rw [e])
    right; simp only; omega
  · obtain ⟨i, hi, rfl⟩ := rts_mem.1 hx
    obtain ⟨x, y, h1, h2, h3, h4, _⟩ := getv i hi
    rw [rtv_at, h4]
    exact h.iso.good h3
  · obtain ⟨b, e, _, hcc⟩ := own39 j hj
    exact ⟨b, 0, e, hcc⟩
  · have hb := (two.ra.lt b (by rw [e]; rfl)).1
    refine ⟨fun hm => by have := hbase b (.inl hm); omega, fun ⟨x, hx, e'⟩ => ?_⟩
    obtain ⟨i, hi, rfl⟩ := rts_mem.1 hx
    simp only at e'
    have := hbase pp (.inr (.inr rfl)); omega
  rintro _ w209 ⟨rfl, M, T, hc⟩
  have hblk' := col_blk h.blk la lb hK hno h.pm hc
  have hsz := hc.sz
  refine ⟨_, rfl, true, .inl ⟨rfl, rfl⟩, ifN (fun h => nomatch h) (fun _ => ?_)⟩
  have nopp : ∀ b, b ≠ pp → ¬ ∃ x ∈ rts pp K, x.1 = b := fun b hb ⟨x, hx, e⟩ => by
    obtain ⟨i, _, rfl⟩ := rts_mem.1 hx
    exact hb e.symm
  have stay : ∀ b, b < w.heap.size → ¬ Mine hp S v b → b ≠ pp → w209.heap[b]? = w.heap[b]? := fun b h1 h2 h3 => hc.old b h1 h2 (nopp b h3)
  have hrf : Rf mp w209 most A Y := h.rf.frame (fun b hy => stay b (h.rf.lt b hy) (h.my b hy) fun e => h.py (e ▸ hy)) hsz
  have hrow : ∀ b o, a' = some ⟨b, o, none⟩ → base ≤ b ∧ b < w.heap.size := fun b o e => two.rb.lt b (by rw [e]; rfl)
  have hs : Rsl w209 a' (liveB bw K) := fun hl => by
    obtain ⟨hxl, ⟨e, h0⟩ | ⟨g, cap, cur, e, hg, hh, _, _, _, ht⟩⟩ := two.rb
    · omega
    · cases e
      have hcell : cellsAt w g 0 (rflat (liveB bw K)) := cellsAt_of_block hh _ 0 (by rw [List.drop_zero, hxl]; exact ht)
      refine ⟨g, 0, rfl, cellsAt_same (stay g (lt_of_block hh) (fun hm => ?_) fun e => ?_) hcell⟩
      · have := hbase g (.inl hm); omega
      · have := hbase pp (.inr (.inr rfl)); omega
  obtain ⟨hcl, hcm⟩ : (liveB bw K).length ≤ c' ∧ c' ≤ maxLen := by
    obtain ⟨_, _, e, h1, h2⟩ := own_slice two.rb
    cases e; exact ⟨h1, h2⟩
  have hBl : (liveB bw K).length = K.length := by simp [liveB]
  have liveok : ∀ b ∈ liveB bw K, ∃ i ∈ K, ∃ x, av[i]? = some x ∧ av.getD i ⟨false, 0⟩ = x ∧ bw[i]? = some b ∧ VR φ A x b := fun b hb => by
    obtain ⟨i, hi, rfl⟩ := List.mem_map.1 hb
    obtain ⟨x, y, h1, h2, h3, h4, h5⟩ := getv i hi
    exact ⟨i, hi, x, h1, h4, by rw [h5]; exact h2, by rw [h5]; exact h3⟩
  have hBok : ∀ b ∈ liveB bw K, b.ok A := fun b hb => by
    obtain ⟨i, _, x, _, _, _, hv⟩ := liveok b hb
    rcases hv with ⟨e, _⟩ | ⟨k, rfl, hl, _⟩
    · exact .inl e
    · exact .inr ⟨k, rfl, live_lt hl⟩
  refine ⟨pp, 0, rfl, _, cell_of_block hblk' rfl, (RfCollect hrf h.bd a' c' (liveB bw K) hs hBok (by omega) hcl hcm fun b o e hy => by have := (hrow b o e).1; have := hbase b (.inr (.inl hy)); omega).mono ?_⟩
  rintro _ w216 ⟨P, rfl, hP, hpost⟩
  obtain ⟨Y', r1, r2, r3⟩ := hpost
  refine ⟨rfl, hR _ ?_⟩
  have hv1 : ∀ b ∈ liveB bw K, ∃ x ∈ (rts pp K).map (rtv av), VR φ A x b := fun b hb => by
    obtain ⟨i, hi, x, _, h4, _, hv⟩ := liveok b hb
    exact ⟨x, List.mem_map.2 ⟨(pp, 2 + i * 2), rts_mem.2 ⟨i, hi, rfl⟩, by rw [rtv_at, h4]⟩, hv⟩
  have hv2 : ∀ x ∈ (rts pp K).map (rtv av), ∃ b ∈ liveB bw K, VR φ A x b := fun x hx => by
    obtain ⟨z, hz, rfl⟩ := List.mem_map.1 hx
    obtain ⟨i, hi, rfl⟩ := rts_mem.1 hz
    obtain ⟨x, y, h1, h2, h3, h4, h5⟩ := getv i hi
    exact ⟨y, List.mem_map.2 ⟨i, hi, h5⟩, by rw [rtv_at, h4]; exact h3⟩
  obtain ⟨i1, i2, i3, i4⟩ := h.iso.collect hc.mv hc.args hv1 hv2 (fun x hx => by obtain ⟨z, hz, rfl⟩ := List.mem_map.1 hx; exact hc.roots z hz) hc.rch hP
  have hY' : ∀ j, Y' j → Y j ∨ w209.heap.size ≤ j ∨ ∃ o, a' = some ⟨j, o, none⟩ := fun j hj => by
    rcases r2 j hj with h | h | ⟨o, _, o', e, _⟩
    · exact .inl h
    · exact .inr (.inl h)
    · exact .inr (.inr ⟨o', e⟩)
  have mine' : ∀ j, Mine hp (moved M) T j → Mine hp S v j ∨ w.heap.size ≤ j := fun j hj => by
    rcases hj with e | e | ⟨s, hs, e⟩
    · exact .inl (.inl e)
    · exact .inr (hc.town j e.symm)
    · obtain ⟨y, hy, rfl⟩ := List.mem_map.1 hs
      exact .inl (.inr (.inr ⟨y.2, find_mem (hc.mv.of y hy), e⟩))
  have ymine : ∀ j, Y j → ¬ Mine hp (moved M) T j := fun j hy hm => by
    rcases mine' j hm with h' | h'
    · exact h.my j hy h'
    · have := h.rf.lt j hy; omega
  refine ⟨moved M, T, goneR A 0 P, _, av.map (fwd M), bw, Y',
    { is := hc.is.kept (fun j hj => r3.block j (hc.is.mine_lt hj).2 fun hy => ymine j hy hj) r3.size
      rf := r1
      blk := (r3.block pp (by omega) h.py).trans hblk'
      la := by simpa using la
      vr := ?_
      iso := i1
      bd := ⟨goneR_ok h.bd.ok P, i1.old, by rw [goneR_len]; exact h.bd.len, by rw [goneR_cells]; exact h.bd.cells⟩
      used := by rw [used_moved, i4]
      pm := fun hm => ?_
      py := fun hy => ?_
      my := fun j hy hm => ?_
      lh := h.lh
      lp := h.lp
      ly := fun j hy => ?_ }, ?_, by rw [goneR_len]; exact hn, by rw [goneR_cells]; exact hn2⟩
  · refine VRs.of (by rw [List.length_map]; omega) fun i x y hx hy => ?_
    rw [List.getElem?_map] at hx
    obtain ⟨x0, hx0, rfl⟩ := Option.map_eq_some_iff.1 hx
    have hv := h.vr.get hx0 hy
    by_cases hi : i ∈ K
    · obtain ⟨x1, y1, h1, h2, h3, h4, h5⟩ := getv i hi
      rw [hy] at h2; cases h2
      exact i2 _ _ (List.mem_map.2 ⟨i, hi, h5⟩) hv
    · have hr := hno i x0 hi hx0
      rcases hv with ⟨e1, rfl⟩ | ⟨k, _, _, rfl⟩
      · exact .inl ⟨e1, rfl⟩
      · cases hr
  · rcases mine' pp hm with h' | h'
    · exact h.pm h'
    · omega
  · rcases hY' pp hy with h' | h' | ⟨o, e⟩
    · exact h.py h'
    · omega
    · have := (hrow pp o e).1; have := hbase pp (.inr (.inr rfl)); omega
  · rcases hY' j hy with h' | h' | ⟨o, e⟩
    · exact ymine j h' hm
    · have := (hc.is.mine_lt hm).2; omega
    · obtain ⟨g1, g2⟩ := hrow j o e
      rcases mine' j hm with h' | h'
      · have := hbase j (.inl h'); omega
      · omega
  · rcases hY' j hy with h' | h' | ⟨o, e⟩
    · exact h.ly j h'
    · omega
    · have := (hrow j o e).1; omega
  · have bc : Below W0.heap.size w w209 := ⟨hc.os.1, hc.os.2.1, hc.os.2.2, hsz, fun j hj => stay j (by omega) (fun hm => by have := (h.is.mine_lt hm).1; have := h.lh; omega) (by have := h.lp; omega)⟩
    exact (hb0.trans bc).trans (r3.below (by omega) fun j hj hy => by have := h.ly j hy; omega)
end Go.Proofs.YtfenhbjamohdgaaDoor.Vf
end

/- part H5Y -/
section
namespace Go.Proofs.YtfenhbjamohdgaaDoor.Vf
open Go.Vx Go.Vx.Hp Go.RowKit Vr

theorem Two3.kept {base : Nat} {w w' : World} {va vb : Value} {P : List Value} {BA : List RV} (h : Two3 base w va vb P BA) (hb : Below w.heap.size w w') : Two3 base w' va vb P BA :=
  ⟨own_below h.ra hb (Nat.le_refl _), own_below h.rb hb (Nat.le_refl _), h.ne⟩
theorem Two3.same {base : Nat} {w w' : World} {va vb : Value} {P : List Value} {BA : List RV} (h : Two3 base w va vb P BA) (hb : ∀ g, base ≤ g → g < w.heap.size → w'.heap[g]? = w.heap[g]?) : Two3 base w' va vb P BA :=
  ⟨own_block h.ra fun g hg => hb g (h.ra.lt g hg).1 (h.ra.lt g hg).2, own_block h.rb fun g hg => hb g (h.rb.lt g hg).1 (h.rb.lt g hg).2, h.ne⟩
theorem Two3.pushA {base N : Nat} {w : World} {va vb : Value} {P : List Value} {BA : List RV} (h : Two3 base w va vb P BA) (hN : ∀ g, va.ownBlock = some g → g < N) (hb : base ≤ w.heap.size) {nb : Nat} {p q : Addr} (hc : cellsAt w nb 0 [.pointer (some p), .pointer (some q)]) (hl : P.length ≤ 1000) :
    ∃ a c w', Runs Tryd.prog (Builtin.append_ #[50, 50] 50 #[va, .slice (some ⟨nb, 0, none⟩) 2 2]) w (.slice a (P.length + 2) c) w' ∧ Two3 base w' (.slice a (P.length + 2) c) vb (P ++ [.pointer (some p), .pointer (some q)]) BA ∧ Chg (fun j => base ≤ j ∧ j < N) w w' := by
  obtain ⟨a, k, c, w', hr, rfl, ho, hg, hn⟩ := append_own (P := Tryd.prog) (ty := 50) Vg.ty50 rfl Vg.ty39 (by decide) h.ra (m := 2) (c := 2) (news := [.pointer (some p), .pointer (some q)]) rfl hc rfl (by dsimp only; omega) (by omega) hb
  have el : (P ++ [Value.pointer (some p), .pointer (some q)]).length = P.length + 2 := by simp
  refine ⟨a, c, w', hr, ⟨?_, own_block h.rb fun g hg' => hg.block g (h.rb.lt g hg').2 fun e => h.ne g e.symm hg', fun g hg' => ?_⟩, ⟨hg.os, hg.tape, hg.output, hg.size, fun k hk hm => hg.block k hk fun e => hm ⟨(h.ra.lt k e.symm).1, hN k e.symm⟩⟩⟩
  · rw [el]; exact ho
  · rcases hn with e | ⟨j, h1, h2⟩
    · exact h.ne g (by rw [← e]; exact hg')
    · intro e
      rw [h2] at hg'; cases hg'
      have := (h.rb.lt g e).2; omega
theorem Two3.pushB {base N : Nat} {w : World} {va vb : Value} {P : List Value} {BA : List RV} (h : Two3 base w va vb P BA) (hN : ∀ g, vb.ownBlock = some g → g < N) (hb : base ≤ w.heap.size) {nb : Nat} {x : RV} (hc : cellsAt w nb 0 [.int .i64 x.st, .int .i64 x.n]) (hl : BA.length ≤ 1000) :
    ∃ a c w', Runs Tryd.prog (Builtin.append_ #[70, 70] 70 #[vb, .slice (some ⟨nb, 0, none⟩) 1 1]) w (.slice a (BA ++ [x]).length c) w' ∧ Two3 base w' va (.slice a (BA ++ [x]).length c) P (BA ++ [x]) ∧ Chg (fun j => base ≤ j ∧ j < N) w w' := by
  obtain ⟨a, k, c, w', hr, rfl, ho, hg, hn⟩ := append_own (P := Tryd.prog) (ty := 70) Vg.ty70 rfl Vg.ty63 (by decide) h.rb (m := 1) (c := 1) (news := [.int .i64 x.st, .int .i64 x.n]) rfl hc rfl (by dsimp only; omega) (by omega) hb
  have el : BA.length + 1 = (BA ++ [x]).length := by simp
  refine ⟨a, c, w', el ▸ hr, ⟨own_block h.ra fun g hg' => hg.block g (h.ra.lt g hg').2 fun e => h.ne g hg' e.symm, ?_, fun g hg' e => ?_⟩, ⟨hg.os, hg.tape, hg.output, hg.size, fun k hk hm => hg.block k hk fun e => hm ⟨(h.rb.lt k e.symm).1, hN k e.symm⟩⟩⟩
  · rw [← el, rflat, List.flatMap_append]; exact ho
  · rw [← el] at e
    rcases hn with e' | ⟨j, h1, h2⟩
    · exact h.ne g hg' (by rw [← e']; exact e)
    · rw [h2] at e; cases e
      have := (h.ra.lt g hg').2; omega

theorem rts_snoc (pp : Nat) (K : List Nat) (i : Nat) : rts pp (K ++ [i]) = rts pp K ++ [(pp, 2 + i * 2), (pp, 2 + i * 2)] := by simp [rts]
theorem ptrs_snoc (pp : Nat) (K : List Nat) (i : Nat) : ptrs pp (K ++ [i]) = ptrs pp K ++ [.pointer (some ⟨pp, 2 + i * 2, none⟩), .pointer (some ⟨pp, 2 + i * 2, none⟩)] := by simp [ptrs, rts_snoc, ad]
theorem live_set {bw : List RV} {K : List Nat} {i : Nat} (y : RV) (h : ∀ j ∈ K, j < i) : liveB (bw.set i y) K = liveB bw K := by
  unfold liveB
  refine List.map_congr_left fun j hj => ?_
  have := h j hj
  rw [List.getD_eq_getElem?_getD, List.getD_eq_getElem?_getD, List.getElem?_set_ne (by omega)]

set_option maxHeartbeats 4000000 in
theorem collTail_spec {pp hp mp n kb : Nat} {W0 u : World} {S : List St} {most : Int} {v : Value} {A : RA} {φ : Nat → Nat} {av : List Val} {bw : List RV} {Y : Nat → Prop} (h : Pr W0.heap.size pp hp mp u S most v A φ av bw Y) (hb0 : Below W0.heap.size W0 u) (hn : A.length ≤ n) (hn2 : cellsR A ≤ 9 * n)
    {ks : Array Value} (hkb : u.heap[kb]? = some (.cells ks 100 (0, 0))) (hks : ∀ i, i < 8 → ∃ b, ks.toList[i]? = some (.bool b)) (hkp : kb ≠ pp) (hkm : ∀ k, Mine hp S v k ∨ Y k ∨ k = pp → k < u.heap.size)
    (R : Value → World → Prop) (hR : ∀ w', Next W0.heap.size pp hp mp most W0 w' n → R (.bool true) w') : CollTail pp kb u R := by
  unfold CollTail
  have hkbl := lt_of_block hkb
  have hppl := lt_of_block h.blk
  have hbl := hb0.size
  refine box fun w142 at142 hb142 hs142 => box fun w143 at143 hb143 hs143 => ?_
  have at142' := block_below hb143 (by omega) at142
  have b143 : Below u.heap.size u w143 := hb142.trans (hb143.mono (by omega))
  have two143 : Two3 u.heap.size w143 (.slice (some ⟨u.heap.size, 0, none⟩) (rts pp []).length 0) (.slice (some ⟨w142.heap.size, 0, none⟩) (liveB bw []).length 0) (ptrs pp []) (liveB bw []) :=
    ⟨⟨by simp [ptrs, rts], .inr ⟨u.heap.size, 0, _, rfl, Nat.le_refl _, at142', Nat.le_refl _, by simp [maxLen], by simp, by simp [ptrs, rts]⟩⟩, ⟨by simp [rflat, liveB], .inr ⟨w142.heap.size, 0, _, rfl, by omega, at143, Nat.le_refl _, by simp [maxLen], by simp, by simp [rflat, liveB]⟩⟩, fun g h e => by
      have h' : u.heap.size = g := by simpa [Value.ownBlock] using h
      have e' : w142.heap.size = g := by simpa [Value.ownBlock] using e
      omega⟩
  refine ⟨fun us w2 => ∃ (i : Nat) (K : List Nat) (a : Option Addr) (c : Nat) (a' : Option Addr) (c' : Nat) (av' : List Val) (bw' : List RV), i ≤ 8 ∧ us = [.slice a (rts pp K).length c, .slice a' (liveB bw' K).length c', .int .i64 i] ∧ Pr W0.heap.size pp hp mp w2 S most v A φ av' bw' Y ∧
      Two3 u.heap.size w2 (.slice a (rts pp K).length c) (.slice a' (liveB bw' K).length c') (ptrs pp K) (liveB bw' K) ∧ (∀ j ∈ K, j < i) ∧ K.length ≤ i ∧ (∀ j x, j < i → j ∉ K → av'[j]? = some x → x.ref = false) ∧ w2.heap[kb]? = some (.cells ks 100 (0, 0)) ∧ Below W0.heap.size W0 w2 ∧ u.heap.size ≤ w2.heap.size,
    fun us _ => match us with | [_, _, .int _ i] => 8 - i.toNat | _ => 0, ⟨0, [], _, _, _, _, av, bw, by omega, rfl, h.below b143, two143, (fun j hj => by cases hj), Nat.le_refl _, (fun j x hj => by omega), block_below b143 hkbl hkb, hb0.trans (b143.mono hbl), b143.size⟩, ?_⟩
  rintro _ us w146 ⟨i, K, a, c, a', c', av', bw', hi, rfl, hpr, two, hKi, hKl, hno, hkb', hb', hsz'⟩
  have la := hpr.la
  have lb := hpr.lb
  have hpp := lt_of_block hpr.blk
  have hrl := rts_len pp K
  refine ⟨_, _, _, _, _, _, _, rfl, ifD (fun hlt => ?_) (fun hge => ?_)⟩
  · have hi8 : i < 8 := by omega
    obtain ⟨b, hkcell⟩ := hks i hi8
    refine ⟨by omega, by omega, b, cell_of_block hkb' (by simpa using hkcell), ifN (fun hkeep => ?_) (fun hkeep => ?_)⟩
    · -- not kept: an int
      refine drewStep fun w157 e157 hb157 => ?_
      have s157 : w157.heap.size = w146.heap.size := by rw [e157]
      refine ⟨pp, 0, rfl, pp, 0, rfl, (RInt_spec 0 w157).mono ?_⟩
      rintro _ w162 ⟨rfl, hb162⟩
      have b162 : Below w146.heap.size w146 w162 := hb157.trans (hb162.mono (by omega))
      have h162 := hpr.below b162
      have s162 := b162.size
      refine ⟨_, _, rfl, by omega, by omega, setStep h162.blk (by rw [pcells_size la lb]; simp; omega) rfl fun w60 at60 same60 hs60 chg60 => ?_⟩
      have at60' : w60.heap[pp]? = some (.cells (pcells hp mp (av'.set i ⟨false, 0⟩) bw') 66 (0, 0)) := by rw [at60]; exact congrArg _ (congrArg (fun z => Obj.cells z 66 (0, 0)) (pcells_v (by omega) ⟨false, 0⟩))
      refine ⟨by omega, by omega, setStep at60' (by rw [pcells_size (by simpa using la) lb]; simp; omega) rfl fun w61 at61 same61 hs61 chg61 => ?_⟩
      have at61' : w61.heap[pp]? = some (.cells (pcells hp mp (av'.set i ⟨false, 0⟩) (bw'.set i ⟨-1, 0⟩)) 66 (0, 0)) := by rw [at61]; exact congrArg _ (congrArg (fun z => Obj.cells z 66 (0, 0)) (pcells_w (by simpa using la) (by omega) ⟨-1, 0⟩))
      have c61 : Chg (fun j => j = pp) w162 w61 := chg60.trans chg61 fun _ _ h => h
      have s61 := c61.size
      have hlv := live_set (bw := bw') (K := K) (i := i) ⟨-1, 0⟩ hKi
      rw [w64 (by omega) (by omega)]
      have hlp := hpr.lp
      have hb'' := hb'.size
      refine ⟨⟨i + 1, K, a, c, a', c', _, bw'.set i ⟨-1, 0⟩, by omega, by rw [hlv]; rfl, h162.put c61 at61' (by simpa using la) (VRs.set (x := ⟨false, 0⟩) (y := ⟨-1, 0⟩) (.inl ⟨rfl, rfl⟩) hpr.vr i), ?_, fun j hj => by have := hKi j hj; omega, by omega, fun j x hj hjK hx => ?_, ?_, ?_, by omega⟩, by simp only; omega⟩
      · rw [hlv]
        refine (two.kept b162).same fun g hg1 hg2 => c61.block g hg2 fun e => ?_
        have := hkm pp (.inr (.inr rfl)); omega
      · rw [List.getElem?_set] at hx
        split at hx
        · rw [if_pos (by omega)] at hx; cases hx; rfl
        · exact hno j x (by omega) hjK hx
      · exact (c61.block kb (by omega) hkp).trans (block_below b162 (by omega) hkb')
      · exact hb'.trans ((b162.mono hb'').trans (c61.below (by omega) fun j hj e => by omega))
    · -- kept: a root, twice
      obtain ⟨y, hy, hxy⟩ := hpr.vr.pick (i := i) (by omega)
      refine drewStep fun w168 e168 hb168 => ?_
      have s168 : w168.heap.size = w146.heap.size := by rw [e168]
      have h168 := hpr.below hb168
      have cw := pblk_w h168.blk la hy
      have two168 := two.kept hb168
      have hNa : ∀ g, (Value.slice a (rts pp K).length c).ownBlock = some g → g < w146.heap.size := fun g hg => (two.ra.lt g hg).2
      have hNb : ∀ g, (Value.slice a' (liveB bw' K).length c').ownBlock = some g → g < w146.heap.size := fun g hg => (two.rb.lt g hg).2
      have hpu := hkm pp (.inr (.inr rfl))
      have bel : ∀ {x x' : World}, Below x.heap.size x x' → Chg (fun j => u.heap.size ≤ j ∧ j < w146.heap.size) x x' := fun hb => Chg.of_below hb fun k hk _ => hk
      have c8 := bel hb168
      have stay : ∀ (w' : World), Chg (fun j => u.heap.size ≤ j ∧ j < w146.heap.size) w168 w' → cellsAt w' pp (0 + 18 + i * 2) [.int .i64 y.st, .int .i64 y.n] := fun w' hst => cellsAt_same (hst.block pp (by omega) (by omega)) cw
      have ey : bw'.getD i ⟨-1, 0⟩ = y := by rw [List.getD_eq_getElem?_getD, hy]; rfl
      have hlB : liveB bw' (K ++ [i]) = liveB bw' K ++ [y] := by unfold liveB; rw [List.map_append, List.map_cons, List.map_nil, ey]
      have hlr : (rts pp (K ++ [i])).length = (ptrs pp K).length + 2 := by rw [rts_snoc, ptrs_len, List.length_append]; rfl
      have fin : ∀ (a1 a2 : Option Addr) (c1 c2 : Nat) (w' : World), Chg (fun j => u.heap.size ≤ j ∧ j < w146.heap.size) w146 w' → Two3 u.heap.size w' (.slice a1 ((ptrs pp K).length + 2) c1) (.slice a2 (liveB bw' K ++ [y]).length c2) (ptrs pp K ++ [.pointer (some ⟨pp, 2 + i * 2, none⟩), .pointer (some ⟨pp, 2 + i * 2, none⟩)]) (liveB bw' K ++ [y]) →
          ((∃ (i' : Nat) (K' : List Nat) (a : Option Addr) (c : Nat) (a' : Option Addr) (c' : Nat) (av2 : List Val) (bw2 : List RV), i' ≤ 8 ∧ [Value.slice a1 ((ptrs pp K).length + 2) c1, .slice a2 (liveB bw' K ++ [y]).length c2, .int .i64 (IntKind.i64.wrap ((i : Int) + 1))] = [.slice a (rts pp K').length c, .slice a' (liveB bw2 K').length c', .int .i64 i'] ∧ Pr W0.heap.size pp hp mp w' S most v A φ av2 bw2 Y ∧
            Two3 u.heap.size w' (.slice a (rts pp K').length c) (.slice a' (liveB bw2 K').length c') (ptrs pp K') (liveB bw2 K') ∧ (∀ j ∈ K', j < i') ∧ K'.length ≤ i' ∧ (∀ j x, j < i' → j ∉ K' → av2[j]? = some x → x.ref = false) ∧ w'.heap[kb]? = some (.cells ks 100 (0, 0)) ∧ Below W0.heap.size W0 w' ∧ u.heap.size ≤ w'.heap.size) ∧ 8 - (IntKind.i64.wrap ((i : Int) + 1)).toNat < 8 - ((i : Int)).toNat) := fun a1 a2 c1 c2 w' hch htwo => by
        rw [w64 (by omega) (by omega)]
        have hcs := hch.size
        refine ⟨⟨i + 1, K ++ [i], a1, c1, a2, c2, av', bw', by omega, by rw [hlr, hlB]; rfl, hpr.chg hch (fun k hk hm => by have := hkm k (.inl hm); omega) (fun k hk hy => by have := hkm k (.inr (.inl hy)); omega) (by omega), by rw [hlr, hlB, ptrs_snoc]; exact htwo, fun j hj => ?_, by simp; omega, fun j x hj hjK hx => ?_, (hch.block kb (by omega) (by omega)).trans hkb', hb'.trans (hch.below (by omega) fun j hj e => by omega), by omega⟩, by omega⟩
        · rcases List.mem_append.1 hj with hj | hj
          · have := hKi j hj; omega
          · rw [List.mem_singleton] at hj; omega
        · rw [List.mem_append, List.mem_singleton, not_or] at hjK
          exact hno j x (by omega) hjK.1 hx
      have hPl : (ptrs pp K).length ≤ 1000 := by rw [ptrs_len]; omega
      have hBl : (liveB bw' K).length ≤ 1000 := by simp [liveB]; omega
      refine ⟨pp, 0, rfl, by omega, by omega, pp, 0, rfl, by omega, by omega, pp, 0, rfl, by omega, by omega, _, _, cw, ?_, ?_⟩
      · refine box fun w177 at177 hb177 hs177 => ?_
        have c177 := bel hb177
        refine ⟨stay w177 c177, ?_, ?_⟩
        · obtain ⟨a37, c39, w181, hr181, two181, ch181⟩ := (two168.kept hb177).pushA (p := ⟨pp, 2 + i * 2, none⟩) (q := ⟨pp, 2 + i * 2, none⟩) hNa (by omega) (cellsAt_of_block at177 [.pointer (some ⟨pp, 0 + 2 + (i : Int).toNat * 2, none⟩), .pointer (some ⟨pp, 0 + 2 + (i : Int).toNat * 2, none⟩)] 0 rfl) hPl
          have c181 := c177.trans ch181 fun _ _ h => h
          refine ⟨_, _, _, w181, hr181, stay w181 c181, box fun w182 at182 hb182 hs182 => ?_⟩
          have := c181.size
          obtain ⟨a42, c44, w186, hr186, two186, ch186⟩ := (two181.kept hb182).pushB hNb (by omega) (cellsAt_of_block at182 [.int .i64 y.st, .int .i64 y.n] 0 rfl) hBl
          exact ⟨_, _, _, w186, hr186, fin _ _ _ _ w186 (((c8.trans c181 fun _ _ h => h).trans (bel hb182) fun _ _ h => h).trans ch186 fun _ _ h => h) two186⟩
        · refine box fun w187 at187 hb187 hs187 => ?_
          obtain ⟨a47, c49, w191, hr191, two191, ch191⟩ := ((two168.kept hb177).kept hb187).pushA (p := ⟨pp, 2 + i * 2, none⟩) (q := ⟨pp, 2 + i * 2, none⟩) hNa (by omega) (cellsAt_of_block (block_below hb187 (by omega) at177) [.pointer (some ⟨pp, 0 + 2 + (i : Int).toNat * 2, none⟩), .pointer (some ⟨pp, 0 + 2 + (i : Int).toNat * 2, none⟩)] 0 rfl) hPl
          have c191 := (c177.trans (bel hb187) fun _ _ h => h).trans ch191 fun _ _ h => h
          have at191 := (ch191.block w177.heap.size (by omega) (by omega)).trans at187
          have := ch191.size
          obtain ⟨a51, c53, w195, hr195, two195, ch195⟩ := two191.pushB hNb (by omega) (cellsAt_of_block at191 [.int .i64 y.st, .int .i64 y.n] 0 rfl) hBl
          exact ⟨_, _, _, w191, hr191, stay w191 c191, _, _, _, w195, hr195, fin _ _ _ _ w195 ((c8.trans c191 fun _ _ h => h).trans ch195 fun _ _ h => h) two195⟩
      · refine box fun w196 at196 hb196 hs196 => box fun w197 at197 hb197 hs197 => ?_
        have c197 := (bel hb196).trans (bel hb197) fun _ _ h => h
        obtain ⟨a57, c59, w201, hr201, two201, ch201⟩ := ((two168.kept hb196).kept hb197).pushA (p := ⟨pp, 2 + i * 2, none⟩) (q := ⟨pp, 2 + i * 2, none⟩) hNa (by omega) (cellsAt_of_block at197 [.pointer (some ⟨pp, 0 + 2 + (i : Int).toNat * 2, none⟩), .pointer (some ⟨pp, 0 + 2 + (i : Int).toNat * 2, none⟩)] 0 rfl) hPl
        have c201 := c197.trans ch201 fun _ _ h => h
        have at201 := (ch201.block w168.heap.size (by omega) (by omega)).trans (block_below hb197 (by omega) at196)
        have := ch201.size
        obtain ⟨a61, c63, w205, hr205, two205, ch205⟩ := two201.pushB hNb (by omega) (cellsAt_of_block at201 [.int .i64 y.st, .int .i64 y.n] 0 rfl) hBl
        exact ⟨stay w197 c197, _, _, _, w201, hr201, stay w201 c201, _, _, _, w205, hr205, fin _ _ _ _ w205 ((c8.trans c201 fun _ _ h => h).trans ch205 fun _ _ h => h) two205⟩
  · have : i = 8 := by omega
    subst this
    exact collEnd_spec hpr hb' hn hn2 hKi hKl (fun j x hj hx => hno j x (by have := (List.getElem?_eq_some_iff.1 hx).1; omega) hj hx) two hkm hbl R hR
end Go.Proofs.YtfenhbjamohdgaaDoor.Vf
end

/- part H5Z -/
section
namespace Go.Proofs.YtfenhbjamohdgaaDoor.Vf
open Go.Vx Go.Vx.Hp Go.RowKit Vr

section
variable {pp hp mp ob base n : Nat} {W0 w : World} {S : List St} {most : Int} {v : Value} {A : RA} {φ : Nat → Nat} {av : List Val} {bw : List RV} {Y : Nat → Prop} {a16 : Option Addr} {c18 : Nat} {a19 : Option Addr} {c21 : Nat} {VA : List Val} {BA : List RV} {kd to ct : Int} {s1 : Value}

set_option maxHeartbeats 1000000 in
theorem playCollect_spec {aR : Option Addr} {cR : Nat} (RL : List Int) (hRL : Isl W0.heap.size W0 aR RL) (hRl : RL.length ≤ 9223372036854775807) (cx : Cx pp hp mp ob base W0 w S most v A φ av bw Y a16 c18 a19 c21 VA BA kd to ct s1 (.slice aR RL.length cR) n) (R : Value → World → Prop) (hR : ∀ w', Next W0.heap.size pp hp mp most W0 w' (n + 1) → R (.bool true) w') : PlayCollect pp ob a16 VA.length c18 a19 BA.length c21 w R := by
  unfold PlayCollect
  have hobl := lt_of_block cx.opb
  have hpp := lt_of_block cx.pr.blk
  have hbl := cx.bel.size
  have han := cx.an
  have hac := cx.ac
  have lowp := cx.lowp
  refine box fun w128 at128 hb128 hs128 => ?_
  refine ⟨aR, RL.length, cR, cell_of_block (block_below hb128 hobl cx.opb) rfl, ?_⟩
  refine ⟨fun us w2 => ∃ (j : Nat) (ks : Array Value), j ≤ RL.length ∧ us = [.int .i64 j] ∧ w2.heap[w.heap.size]? = some (.cells ks 100 (0, 0)) ∧ ks.size = 8 ∧ (∀ i, i < 8 → ∃ b, ks.toList[i]? = some (.bool b)) ∧ Chg (fun j => j = w.heap.size) w128 w2,
    fun us _ => match us with | [.int _ j] => RL.length - j.toNat | _ => 0, ⟨0, _, Nat.zero_le _, rfl, at128, rfl, fun i hi => ⟨false, ?_⟩, Chg.refl _ _⟩, ?_⟩
  · match i, hi with
    | 0, _ => rfl
    | 1, _ => rfl
    | 2, _ => rfl
    | 3, _ => rfl
    | 4, _ => rfl
    | 5, _ => rfl
    | 6, _ => rfl
    | 7, _ => rfl
    | i + 8, h => omega
  rintro _ us w134 ⟨j, ks, hj, rfl, hks, hk8, hkb, hch⟩
  have hcs := hch.size
  have cw : Chg (fun j => j = w.heap.size) w w134 := (Chg.of_below hb128 fun k hk _ => hk).trans hch fun _ _ h => h
  have b134 : Below W0.heap.size W0 w134 := cx.bel.trans (cw.below hbl fun k hk e => by omega)
  refine ⟨_, rfl, ifD (fun hlt => ?_) (fun hge => ?_)⟩
  · have hj' : j < RL.length := by omega
    obtain ⟨b, o, rfl, hb, hc⟩ := hRL j hj'
    refine ⟨b, o, rfl, by omega, hlt, _, (b134.cell (p := ⟨b, o + j * 1, none⟩) hb).trans hc, ?_⟩
    obtain ⟨k, hk, ek⟩ := and7 RL[j]
    rw [ek]
    refine ⟨by omega, by omega, setStep hks (by rw [hk8]; simp; omega) rfl fun w141 at141 same141 hs141 chg141 => ?_⟩
    rw [w64 (by omega) (by omega)]
    have e1 : setAt ks.toList (0 + ((k : Nat) : Int).toNat * 1) [.bool true] = ks.toList.set k (.bool true) := by
      show List.set _ _ _ = _
      congr 1
      rw [Int.toNat_natCast]; omega
    rw [e1] at at141
    refine ⟨⟨j + 1, _, hj', rfl, at141, by simp [hk8], fun i hi => ?_, hch.trans chg141 fun _ _ h => h⟩, by simp only; omega⟩
    obtain ⟨b0, hb0⟩ := hkb i hi
    rw [List.toList_toArray, List.getElem?_set]
    split
    · rw [if_pos (by rw [Array.length_toList]; omega)]; exact ⟨true, rfl⟩
    · exact ⟨b0, hb0⟩
  · have pr' : Pr W0.heap.size pp hp mp w134 S most v A φ av bw Y := cx.pr.chg cw (fun k e hm => by have := (cx.pr.is.mine_lt hm).2; omega) (fun k e hy => by have := cx.pr.rf.lt k hy; omega) (by omega)
    refine collTail_spec (n := n + 1) pr' b134 (by omega) (by omega) hks hkb (by omega) (fun k hk => ?_) R hR
    have := cw.size
    rcases hk with h | h | h
    · have := cx.lowm k h; omega
    · have := cx.lowy k h; omega
    · omega
end

set_option maxHeartbeats 1000000 in
theorem play_spec {pp hp mp n : Nat} {W0 w : World} {S : List St} {most : Int} {v : Value} {A : RA} {φ : Nat → Nat} {av : List Val} {bw : List RV} {Y : Nat → Prop} {G : Nat → Value} (hE : Vn.Errs W0 G) (h : Pr W0.heap.size pp hp mp w S most v A φ av bw Y) (hb0 : Below W0.heap.size W0 w) (hn : A.length ≤ n) (hn2 : cellsR A ≤ 9 * n) (hn1 : n ≤ 1000)
    (kd to ct : Int) (hct : ct ≤ 9223372036854775807) (L : List (Bool × Int)) (hl : L.length ≤ 12) (aL : Option Addr) (cL : Nat) (hL : ∀ j (h : j < L.length), ∃ b o, aL = some ⟨b, o, none⟩ ∧ b < W0.heap.size ∧ cellsAt W0 b (o + j * 2) [.bool L[j].1, .int .i64 L[j].2])
    (RL : List Int) (aR : Option Addr) (cR : Nat) (hRL : Isl W0.heap.size W0 aR RL) (hRl : RL.length ≤ 9223372036854775807) :
    Calls Tryd.prog 19 #[.pointer (some ⟨pp, 0, none⟩), .agg #[.int .i64 kd, .int .i64 to, .int .i64 ct, .slice aL L.length cL, .slice aR RL.length cR]] w fun e w' => e = .returned (.bool true) ∧ Next W0.heap.size pp hp mp most W0 w' (n + 1) := by
  refine (Vg.play.calls (R := fun x w' => x = .bool true ∧ Next W0.heap.size pp hp mp most W0 w' (n + 1)) ?_).mono (fun x w' ⟨v, h1, h2, h3⟩ => ⟨by rw [h1, h2], h3⟩)
  unfold Vg.play.W
  have hpp := lt_of_block h.blk
  have hbl := hb0.size
  refine box fun w10 at10 hb10 hs10 => ?_
  have h10 := h.below hb10
  have b10 := hb0.trans (hb10.mono hbl)
  refine ⟨aL, L.length, cL, cell_of_block at10 rfl, (pargs_spec h10.blk h10.la h10.vr L hl aL cL fun j hj => ?_).mono ?_⟩
  · obtain ⟨b, o, e, hb, hc⟩ := hL j hj
    exact ⟨b, o, e, by omega, cellsAt_below b10 hb hc⟩
  rintro _ w14 ⟨VA, BA, a16, c18, a19, c21, rfl, hvl, hvv, hb14, two⟩
  have s14 := hb14.size
  have at14 := block_below hb14 (by omega) at10
  have h14 := h10.below hb14
  have b14 := b10.trans (hb14.mono (by omega))
  refine ⟨a16, VA.length, c18, a19, BA.length, c21, rfl, kd, cell_of_block at14 rfl, ?_⟩
  have cx : Cx pp hp mp w.heap.size w10.heap.size W0 w14 S most v A φ av bw Y a16 c18 a19 c21 VA BA kd to ct (.slice aL L.length cL) (.slice aR RL.length cR) n :=
    { pr := h14
      two := two
      vv := hvv
      opb := at14
      hob := by omega
      hbase := s14
      lowm := fun k hk => (h.is.mine_lt hk).2
      lowy := fun k hk => h.rf.lt k hk
      lowp := hpp
      bel := b14
      vl := by omega
      an := hn
      ac := hn2
      n1 := hn1
      ct1 := hct }
  exact ifE (fun _ => playAlloc_spec hE cx (fun x w' => x = .bool true ∧ Next W0.heap.size pp hp mp most W0 w' (n + 1)) fun w' h => ⟨rfl, h⟩) fun _ => ifE (fun _ => playSame_spec cx (fun x w' => x = .bool true ∧ Next W0.heap.size pp hp mp most W0 w' (n + 1)) fun w' h => ⟨rfl, h⟩) fun _ =>
    ifE (fun _ => playCollect_spec RL hRL hRl cx (fun x w' => x = .bool true ∧ Next W0.heap.size pp hp mp most W0 w' (n + 1)) fun w' h => ⟨rfl, h⟩) fun _ => ifE (fun _ => playInt_spec cx (fun x w' => x = .bool true ∧ Next W0.heap.size pp hp mp most W0 w' (n + 1)) fun w' h => ⟨rfl, h⟩) fun _ => ⟨rfl, cx.next⟩
end Go.Proofs.YtfenhbjamohdgaaDoor.Vf
end

/- part H6A -/
section
namespace Go.Proofs.YtfenhbjamohdgaaDoor.Vr
open Go.Vx Go.Av Go.Vx.Hp Go.RowKit

theorem Rf.new {mp : Nat} {w : World} {m : Int} (h : w.heap[mp]? = some (.cells #[.int .i64 m, .slice none 0 0] 61 (0, 0))) : Rf mp w m [] (fun b => b = mp) := by
  let β : Nat → Value := fun i => if i = 0 then .pointer (some ⟨mp, 0, none⟩) else .slice none 0 0
  have hlt := lt_of_block h
  have has : ∀ i b, Has β i (getO (mkS (RO m [])) i) b → i = 0 ∧ b = mp := fun i b hb => by
    match i, hb with
    | 0, hb => have := hb.2; simp [β, vblk] at this; exact ⟨rfl, this.symm⟩
    | i + 1, hb => have := hb.2; simp [β, vblk] at this
  refine ⟨⟨fun _ _ => False, β, ⟨fun _ _ h => h.elim, fun g hg => (by cases hg), fun i => ?_, fun g cs hg => (by cases hg), fun i j b hij hi hj => ?_, fun i b o _ h => h.elim⟩, rfl, fun i b hb => (has i b hb).2, fun _ _ h => h.elim⟩, fun b hb => by rw [hb]; exact hlt⟩
  · match i with
    | 0 =>
      refine ⟨mp, 61, _, rfl, h, .cons (.fz _ _ (.int _ _)) (.cons (.own 1 none 0 0 (show 1 < 2 by decide) fun t z fz l e => rfl) .nil), fun v hv => ?_⟩
      simp only [List.mem_cons, List.not_mem_nil, or_false] at hv
      rcases hv with rfl | rfl <;> rfl
    | 1 => exact .inr ⟨[], World.ownsRow_nil _ _ _ _, .nil, fun r hr => (by cases hr), by decide, fun h => (by cases h)⟩
    | i + 2 => trivial
  · have h1 := (has i b hi).1
    have h2 := (has j b hj).1
    omega
end Go.Proofs.YtfenhbjamohdgaaDoor.Vr

namespace Go.Proofs.YtfenhbjamohdgaaDoor.Vf
open Go.Vx Go.Vx.Hp Go.RowKit Vr

/-- what both reach, counted -/
theorem reach_same {φ : Nat → Nat} {S : List St} {A : RA} (hi : Iso φ S A) {V : List Val} {B : List RV} (hv : VRs φ A V B) {Z : Mov} (hc : Cnt S V Z []) {P : Nat → Bool} (hP : ∀ k, P k = true ↔ RR A B k) : sumR A 0 P = tot Z := by
  have hv1 : ∀ b ∈ B, ∃ a ∈ V, VR φ A a b := fun b hb => hv.mem_right hb
  have hv2 : ∀ a ∈ V, ∃ b ∈ B, VR φ A a b := fun a ha => hv.mem_left ha
  refine hi.sum Z P hc.mv fun k _ => ?_
  rw [hP]
  constructor
  · intro hk
    obtain ⟨h1, h2⟩ := hi.rr_live hv1 k hk
    exact ⟨h1, pos_mem.2 (hc.all _ h2)⟩
  · rintro ⟨hl, hp⟩
    obtain ⟨t, ht⟩ := pos_mem.1 hp
    obtain ⟨j, h1, h2, h3⟩ := hi.rch_rr hv2 _ (hc.rch _ ht)
    have : j = k := hi.inj j k h2 hl h1
    subst this; exact h3

structure OpM where
  kd : Int
  to : Int
  ct : Int
  L : List (Bool × Int)
  aL : Option Addr
  cL : Nat
  RL : List Int
  aR : Option Addr
  cR : Nat
structure OpM.Ok (W0 : World) (x : OpM) : Prop where
  ct1 : x.ct ≤ 9223372036854775807
  args : ∀ j (h : j < x.L.length), ∃ b o, x.aL = some ⟨b, o, none⟩ ∧ b < W0.heap.size ∧ cellsAt W0 b (o + j * 2) [.bool x.L[j].1, .int .i64 x.L[j].2]
  roots : Isl W0.heap.size W0 x.aR x.RL
  rl : x.RL.length ≤ 9223372036854775807
def OpM.cs (x : OpM) : List Value := [.int .i64 x.kd, .int .i64 x.to, .int .i64 x.ct, .slice x.aL x.L.length x.cL, .slice x.aR x.RL.length x.cR]

def av0 : List Val := List.replicate 8 ⟨false, 0⟩
def bw0 (i : Nat) : List RV := List.replicate i ⟨-1, 0⟩ ++ List.replicate (8 - i) ⟨0, 0⟩
theorem av0_len : av0.length = 8 := rfl
theorem bw0_len {i : Nat} (h : i ≤ 8) : (bw0 i).length = 8 := by simp [bw0]; omega
theorem bw0_set {i : Nat} (h : i < 8) : (bw0 i).set i ⟨-1, 0⟩ = bw0 (i + 1) := by
  have := set_app (List.replicate i (⟨-1, 0⟩ : RV)) (List.replicate (8 - i) ⟨0, 0⟩) 0 ⟨-1, 0⟩
  rw [List.length_replicate, Nat.add_zero] at this
  unfold bw0
  rw [this, show 8 - i = (8 - (i + 1)) + 1 by omega, List.replicate_succ, List.set_cons_zero, List.replicate_succ', List.append_assoc]; rfl
theorem vr0 {φ : Nat → Nat} {A : RA} : VRs φ A av0 (bw0 8) := VRs.of rfl fun i a b ha hb => by
  have h1 := List.eq_of_mem_replicate (List.mem_of_getElem? ha)
  have h2 : b = ⟨-1, 0⟩ := List.eq_of_mem_replicate (n := 8) (by have := List.mem_of_getElem? hb; simpa [bw0] using this)
  subst h1 h2
  exact .inl ⟨rfl, rfl⟩

theorem Next.mono {L0 pp hp mp n m : Nat} {most : Int} {W0 w : World} (h : Next L0 pp hp mp most W0 w n) (hm : n ≤ m) : Next L0 pp hp mp most W0 w m := by
  obtain ⟨S, v, A, φ, av, bw, Y, h1, h2, h3, h4⟩ := h
  exact ⟨S, v, A, φ, av, bw, Y, h1, h2, by omega, by omega⟩
theorem Next.bel {L0 pp hp mp n : Nat} {most : Int} {W0 w : World} (h : Next L0 pp hp mp most W0 w n) : Below L0 W0 w := by
  obtain ⟨S, v, A, φ, av, bw, Y, h1, h2, h3, h4⟩ := h
  exact h2
theorem Pr.ref {L0 pp hp mp B : Nat} {w w' : World} {S : List St} {most : Int} {v : Value} {A : RA} {φ : Nat → Nat} {av : List Val} {bw : List RV} {Y Y' : Nat → Prop} (h : Pr L0 pp hp mp w S most v A φ av bw Y) (r1 : Rf mp w' most A Y') (r2 : ∀ b, Y' b → Y b ∨ B ≤ b) (r3 : Chg Y w w') (hL : L0 ≤ w.heap.size) (hB : ∀ k, Mine hp S v k ∨ k = pp → k < B) (hLB : L0 ≤ B) : Pr L0 pp hp mp w' S most v A φ av bw Y' ∧ Below L0 w w' := by
  have hpp := lt_of_block h.blk
  refine ⟨{ h with is := ?_, rf := r1, blk := ?_, py := ?_, my := ?_, ly := ?_ }, r3.below hL fun j hj hy => by have := h.ly j hy; omega⟩
  · exact h.is.kept (fun j hj => r3.block j (h.is.mine_lt hj).2 fun hy => h.my j hy hj) r3.size
  · exact (r3.block pp hpp h.py).trans h.blk
  · intro hy
    rcases r2 pp hy with h' | h'
    · exact h.py h'
    · have := hB pp (.inr rfl); omega
  · intro j hy hm
    rcases r2 j hy with h' | h'
    · exact h.my j h' hm
    · have := hB j (.inl hm); omega
  · intro j hy
    rcases r2 j hy with h' | h'
    · exact h.ly j h'
    · omega

set_option maxHeartbeats 4000000 in
theorem HeapPlays_spec {W0 : World} {G : Nat → Value} (hE : Vn.Errs W0 G) {tE : Nat} {aH aS : Addr} {E2 : Value} (hg : Glob W0 tE aH (.iface tE (.pointer (some aS))) E2) (hT : ErrTy tE) (n : Int) (X : List OpM) (hX : ∀ x ∈ X, x.Ok W0) (hXl : X.length ≤ 9223372036854775807) (a2 : Option Addr) (c4 : Nat)
    (ha : ∀ j (h : j < X.length), ∃ b o, a2 = some ⟨b, o, none⟩ ∧ b < W0.heap.size ∧ cellsAt W0 b (o + j * 5) X[j].cs) :
    Calls Tryd.prog 7 #[.int .i64 n, .slice a2 X.length c4] W0 fun e w' => e = .returned (.bool true) ∧ Below W0.heap.size W0 w' := by
  refine (Vg.HeapPlays.calls (R := fun x w' => x = .bool true ∧ Below W0.heap.size W0 w') ?_).mono (fun x w' ⟨v, h1, h2, h3⟩ => ⟨by rw [h1, h2], h3⟩)
  unfold Vg.HeapPlays.W
  have hsz := hg.size
  have bad : ∀ w5, Below W0.heap.size W0 w5 → n < 0 ∨ 1048576 < n → Calls Tryd.prog 9 #[.int .i64 n] w5 fun e w8 => e = .returned (.tuple #[.pointer none, .iface tE (.pointer (some aS))]) ∧ Below W0.heap.size W0 w8 ∧ w8.cell? ⟨1, 0, none⟩ = some (.iface tE (.pointer (some aS))) := fun w5 hb h => by
    have g5 := hg.kept (hb.mono hsz)
    have := hb.size
    refine (New_bad n w5 _ g5.state (by omega) h).mono fun e w8 ⟨h1, h2⟩ => ?_
    have b8 := hb.trans (h2.mono this)
    exact ⟨h1, b8, (hg.kept (b8.mono hsz)).state⟩
  refine (alive_spec hg hT).mono ?_
  rintro _ w5 ⟨rfl, hb5⟩
  have s5 := hb5.size
  refine ⟨_, rfl, ifN (fun h => nomatch h) (fun _ => ?_)⟩
  by_cases hn : n < 0 ∨ 1048576 < n
  · refine (bad w5 hb5 hn).mono ?_
    rintro _ w8 ⟨rfl, hb8, hc8⟩
    refine ⟨_, _, rfl, ifD (fun _ => ⟨_, hc8, true, hT.eq _ _ _ _, rfl, hb8⟩) (fun h0 => ifD (fun _ => ⟨_, hc8, true, hT.eq _ _ _ _, rfl, hb8⟩) (fun h1 => absurd hn (by omega)))⟩
  · refine (New_ok n w5 (by omega) (by omega)).mono ?_
    rintro _ w8 ⟨rfl, hb8', h8⟩
    have hb8 := hb5.trans (hb8'.mono s5)
    have s8 := hb8'.size
    have hp8 := lt_of_block h8.blk
    refine ⟨_, _, rfl, ifD (fun h => absurd (Or.inl h) hn) (fun _ => ifD (fun h => absurd (Or.inr h) hn) (fun _ => ⟨true, .inl ⟨rfl, rfl⟩, ifN (fun h => nomatch h) (fun _ => ?_)⟩))⟩
    refine ifB (fun h => nomatch h) (fun _ => ?_)
    refine box fun w17 at17 hb17 hs17 => box fun w18 at18 hb18 hs18 => ?_
    have at17' := block_below hb18 (by omega) at17
    have b18 : Below w8.heap.size w8 w18 := hb17.trans (hb18.mono (by omega))
    have h18 := h8.below b18
    have hb18' := hb8.trans (b18.mono (by omega))
    have at18' : w18.heap[w17.heap.size]? = some (.cells (pcells w5.heap.size w8.heap.size av0 (bw0 0)) 66 (0, 0)) := at18
    refine ⟨fun us w2 => ∃ i : Nat, i ≤ 8 ∧ us = [.int .i64 i] ∧ w2.heap[w17.heap.size]? = some (.cells (pcells w5.heap.size w8.heap.size av0 (bw0 i)) 66 (0, 0)) ∧ Chg (fun j => j = w17.heap.size) w18 w2,
      fun us _ => match us with | [.int _ i] => 8 - i.toNat | _ => 0, ⟨0, by omega, rfl, at18', Chg.refl _ _⟩, ?_⟩
    rintro _ us w21 ⟨i, hi, rfl, at21, c21⟩
    have s21 := c21.size
    refine ⟨_, rfl, ifD (fun hlt => ?_) (fun hge => ?_)⟩
    · have hi8 : i < 8 := by omega
      refine drewStep fun w25 e25 hb25 => ⟨w17.heap.size, 0, rfl, (RInt_spec 0 w25).mono ?_⟩
      rintro _ w28 ⟨rfl, hb28⟩
      have s25 : w25.heap.size = w21.heap.size := by rw [e25]
      have b28 : Below w21.heap.size w21 w28 := hb25.trans (hb28.mono (by omega))
      have at28 := block_below b28 (lt_of_block at21) at21
      refine ⟨_, _, rfl, by omega, by omega, setStep at28 (by rw [pcells_size av0_len (bw0_len hi)]; simp; omega) rfl fun w32 at32 same32 hs32 chg32 => ?_⟩
      have at32' : w32.heap[w17.heap.size]? = some (.cells (pcells w5.heap.size w8.heap.size av0 ((bw0 i).set i ⟨-1, 0⟩)) 66 (0, 0)) := by
        rw [at32]; exact congrArg _ (congrArg (fun z => Obj.cells z 66 (0, 0)) (pcells_w av0_len (by rw [bw0_len hi]; omega) ⟨-1, 0⟩))
      rw [bw0_set hi8] at at32'
      rw [w64 (by omega) (by omega)]
      exact ⟨⟨i + 1, by omega, rfl, at32', (c21.trans (Chg.of_below b28 fun k hk _ => hk) fun _ _ h => h).trans chg32 fun _ _ h => h⟩, by simp only; omega⟩
    · have : i = 8 := by omega
      subst this
      have mlt : ∀ j, Mine w5.heap.size [] (.slice none 0 0) j → j < w8.heap.size := fun j hj => (h8.mine_lt hj).2
      have pr21 : Pr W0.heap.size w17.heap.size w5.heap.size w8.heap.size w21 [] n (.slice none 0 0) [] (fun _ => 0) av0 (bw0 8) (fun b => b = w8.heap.size) :=
        { is := h18.kept (fun j hj => c21.block j (by have := mlt j hj; omega) (by have := mlt j hj; omega)) c21.size
          rf := Rf.new ((c21.block w8.heap.size (by omega) (by omega)).trans at17')
          blk := at21
          la := av0_len
          vr := vr0
          iso := Iso.nil
          bd := ⟨fun s hs => (by cases hs), Iso.nil (φ := fun _ => 0).old, by simp, by simp [cellsR]⟩
          used := rfl
          pm := fun hm => by have := mlt _ hm; omega
          py := by omega
          my := fun k hk hm => by have := mlt k hm; omega
          lh := s5
          lp := by omega
          ly := fun k hk => by omega }
      have next21 : Next W0.heap.size w17.heap.size w5.heap.size w8.heap.size n W0 w21 0 := ⟨_, _, _, _, _, _, _, pr21, hb18'.trans (c21.below (by omega) fun k hk e => by omega), by simp, by simp [cellsR]⟩
      refine ⟨fun us w2 => ∃ i : Nat, i ≤ X.length ∧ us = [.int .i64 i] ∧ i ≤ 121 ∧ Next W0.heap.size w17.heap.size w5.heap.size w8.heap.size n W0 w2 i, fun us _ => match us with | [.int _ i] => X.length - i.toNat | _ => 0, ⟨0, Nat.zero_le _, rfl, by omega, next21⟩, ?_⟩
      rintro _ us w35 ⟨i, hi, rfl, hi121, hnext⟩
      have hbW := hnext.bel
      have s35 := hbW.size
      refine ⟨_, rfl, ifD (fun hlt => ?_) (fun _ => ⟨rfl, hbW⟩)⟩
      have hi' : i < X.length := by omega
      obtain ⟨b, o, rfl, hb, hc⟩ := ha i hi'
      have hx := hX _ (List.getElem_mem hi')
      generalize X[i] = x at hc hx
      refine ⟨b, o, rfl, by omega, hlt, x.kd, x.to, x.ct, x.aL, x.L.length, x.cL, x.aR, x.RL.length, x.cR, cellsAt_below hbW hb hc, copyStep rfl rfl fun w51 at51 hb51 hs51 => ?_⟩
      have b51 := hbW.trans (hb51.mono s35)
      refine ifD (fun _ => ⟨rfl, b51⟩) (fun h120 => ⟨_, _, _, cell_of_block at51 rfl, ifD (fun h12 => ?_) (fun h12 => ?_)⟩)
      · rw [w64 (by omega) (by omega)]
        exact ⟨⟨i + 1, hi', rfl, by omega, (hnext.below hb51 s35).mono (by omega)⟩, by simp only; omega⟩
      refine drewStep fun w55 e55 hb55 => ?_
      have at55 : w55.heap[w35.heap.size]? = _ := e55 ▸ at51
      obtain ⟨S, v, A, φ, av, bw, Y, pr, hbw, hA1, hA2⟩ := (hnext.below hb51 s35).below hb55 (by omega)
      refine ⟨x.kd, x.to, x.ct, x.aL, x.L.length, x.cL, x.aR, x.RL.length, x.cR, cellsAt_of_block at55 x.cs 0 rfl, (play_spec hE pr hbw hA1 hA2 (by omega) x.kd x.to x.ct hx.ct1 x.L (by omega) x.aL x.cL hx.args x.RL x.aR x.cR hx.roots hx.rl).mono ?_⟩
      rintro _ w65 ⟨rfl, hnx⟩
      clear pr hbw hA1 hA2
      obtain ⟨S, v, A, φ, av, bw, Y, pr, hbw, hA1, hA2⟩ := hnx
      have s65 := hbw.size
      refine ⟨_, rfl, ifN (fun h => nomatch h) (fun _ => ⟨w17.heap.size, 0, rfl, _, cell_of_block pr.blk rfl, (Used_spec pr.is).mono ?_⟩)⟩
      rintro _ w71 ⟨rfl, rfl⟩
      refine ⟨_, rfl, ⟨cell_of_block pr.blk rfl, trivial⟩, (RfUsed pr.rf pr.bd).mono ?_⟩
      rintro _ w74 ⟨rfl, hpost⟩
      obtain ⟨Y', r1, r2, r3⟩ := hpost.none fun _ h => h.elim
      obtain ⟨pr74, b74⟩ := pr.ref r1 r2 r3 s65 (fun k hk => hk.elim (fun h => (pr.is.mine_lt h).2) fun h => h ▸ lt_of_block pr.blk) s65
      have hb74 := hbw.trans b74
      refine ⟨_, rfl, ifNE (fun h => absurd (by rw [pr.used]) h) (fun _ => (Cells_spec pr74.is).mono ?_)⟩
      rintro _ w77 ⟨rfl, rfl⟩
      refine ⟨_, rfl, ifNE (fun h => absurd rfl h) (fun _ => ?_)⟩
      have s74 := hb74.size
      refine box fun w80 at80 hb80 hs80 => box fun w81 at81 hb81 hs81 => ?_
      have at80' := block_below hb81 (by omega) at80
      have b81 : Below w74.heap.size w74 w81 := hb80.trans (hb81.mono (by omega))
      have mlt : ∀ k, Mine w5.heap.size S v k ∨ k = w17.heap.size → k < w74.heap.size := fun k hk => hk.elim (fun h => (pr74.is.mine_lt h).2) fun h => h ▸ lt_of_block pr74.blk
      have ylt : ∀ k, Y' k → k < w74.heap.size := fun k hk => pr74.rf.lt k hk
      have la := pr74.la
      have lb := pr74.lb
      have own81 : w81.ownsRow w80.heap.size 63 2 (.slice (some ⟨w80.heap.size, 0, none⟩) 0 0) 0 (rflat (bw.take 0)) := ⟨by simp [rflat], .inr ⟨w80.heap.size, 0, _, rfl, Nat.le_refl _, at81, Nat.le_refl _, by simp [maxLen], by simp, by simp [rflat]⟩⟩
      refine ⟨fun us w2 => ∃ (k : Nat) (a : Option Addr) (c : Nat) (l : List (Int × Value)), k ≤ 8 ∧ us = [.slice a k c, .int .i64 k] ∧ w2.ownsRow w80.heap.size 63 2 (.slice a k c) k (rflat (bw.take k)) ∧ Pr W0.heap.size w17.heap.size w5.heap.size w8.heap.size w2 S n v A φ av bw Y' ∧ MMap w2 w74.heap.size .i64 l ∧ Seen φ l ∧ Below W0.heap.size W0 w2 ∧ w81.heap.size ≤ w2.heap.size,
        fun us _ => match us with | [_, .int _ k] => 8 - k.toNat | _ => 0, ⟨0, _, _, [], by omega, rfl, own81, pr74.below b81, ⟨#[], 0, at80', rfl⟩, (fun p hp => by cases hp), hb74.trans (b81.mono s74), Nat.le_refl _⟩, ?_⟩
      rintro _ us w84 ⟨k, a87, c89, l, hk, rfl, own84, pr84, map84, seen84, b84, s84⟩
      have hb84s := b84.size
      refine ⟨_, _, _, _, rfl, ifD (fun hlt8 => ?_) (fun hge8 => ?_)⟩
      · have hk8 : k < 8 := by omega
        refine drewStep fun w91 e91 hb91 => ?_
        have s91 : w91.heap.size = w84.heap.size := by rw [e91]
        have pr91 := pr84.below hb91
        obtain ⟨es, ck, hm84, he84⟩ := map84
        obtain ⟨y, hy, hxy⟩ := pr91.vr.pick (i := k) (by omega)
        have cw := pblk_w pr91.blk la hy
        have hf : y.st + 1 < ((A.length + 2 : Nat) : Int) := by
          rcases pr91.b_ok pr91.vr y (List.mem_of_getElem? hy) with e | ⟨j, e, hj⟩
          · rw [e]; omega
          · rw [e]; simp only; omega
        have mbm : ¬ Mine w5.heap.size S v w74.heap.size := fun h => by have := mlt _ (.inl h); omega
        have mby : ¬ Y' w74.heap.size := fun h => by have := ylt _ h; omega
        have mbp : w17.heap.size ≠ w74.heap.size := fun e => by have := mlt _ (.inr rfl); omega
        refine ⟨w17.heap.size, 0, rfl, by omega, by omega, _, _, pblk_v pr91.blk (by omega), w17.heap.size, 0, rfl, by omega, by omega, _, _, cw, (alike_spec pr91.iso mbm mby mbp (A.length + 2) w91 _ y l pr91.pw hf hxy ⟨es, ck, block_below hb91 (lt_of_block hm84) hm84, he84⟩ seen84).mono ?_⟩
        rintro _ w100 ⟨rfl, c100, l', map100, seen100⟩
        have s100 := c100.size
        have pr100 := pr91.chg c100 (fun k e h => mbm (e ▸ h)) (fun k e h => mby (e ▸ h)) (fun e => mbp e)
        refine ⟨_, rfl, ifN (fun h => nomatch h) (fun _ => ⟨w17.heap.size, 0, rfl, by omega, by omega, _, _, pblk_w pr100.blk la hy, box fun w107 at107 hb107 hs107 => ?_⟩)⟩
        have own91 := own_below own84 hb91 (Nat.le_refl _)
        have own100 := own_block own91 fun g hg => c100.block g (own91.lt g hg).2 fun e => by have := (own91.lt g hg).1; omega
        have own107 := own_below own100 hb107 (Nat.le_refl _)
        obtain ⟨a1, k1, c1, w111, hr, rfl, ho, hgr, hnx⟩ := append_own (P := Tryd.prog) (ty := 70) Vg.ty70 rfl Vg.ty63 (by decide) own107 (m := 1) (c := 1) (news := [.int .i64 y.st, .int .i64 y.n]) rfl (cellsAt_of_block at107 [.int .i64 y.st, .int .i64 y.n] 0 rfl) rfl (by dsimp only; omega) (by omega) (by omega)
        refine ⟨_, _, _, w111, hr, ?_⟩
        rw [w64 (by omega) (by omega)]
        have b111 : Below w80.heap.size w107 w111 := own_grown own107 hgr (Nat.le_refl _) (by omega)
        have s111 := b111.size
        obtain ⟨es2, ck2, hm2, he2⟩ := map100
        have c111 : Chg (fun j => w80.heap.size ≤ j) w107 w111 := ⟨b111.os, b111.tape, b111.output, b111.size, fun j hj hn => b111.block j (by omega)⟩
        have pr111 := (pr100.below hb107).chg c111 (fun k e h => by have := mlt _ (.inl h); omega) (fun k e h => by have := ylt _ h; omega) (by have := mlt _ (.inr rfl); omega)
        refine ⟨⟨k + 1, a1, c1, l', hk8, rfl, ?_, pr111, ⟨es2, ck2, b111.block _ (by omega) |>.trans (block_below hb107 (lt_of_block hm2) hm2), he2⟩, seen100, ?_, by omega⟩, by simp only; omega⟩
        · rw [take_succ hy, rflat, List.flatMap_append]; exact ho
        · exact b84.trans ((hb91.mono hb84s).trans ((c100.below (by omega) fun j hj e => by omega).trans ((hb107.mono (by omega)).trans (b111.mono (by omega)))))
      · have : k = 8 := by omega
        subst this
        have hV : cellsAt w84 w17.heap.size 2 (vflat av) := cellsAt_of_block pr84.blk _ 2 (by simp [pcells])
        have hreach := Reach_ok pr84.is (some ⟨w17.heap.size, 2, none⟩) 8 av (by omega) (fun _ => ⟨_, _, rfl, hV⟩) fun z hz => by
          obtain ⟨y, _, hv⟩ := pr84.vr.mem_left hz
          exact pr84.iso.good hv
        rw [la] at hreach
        refine ⟨w17.heap.size, 0, rfl, hreach.mono ?_⟩
        rintro _ w114 ⟨Z, rfl, hb114, hcnt⟩
        have s114 := hb114.size
        have pr114 := pr84.below hb114
        have own114 := own_below own84 hb114 (Nat.le_refl _)
        rw [show bw.take 8 = bw by rw [← lb, List.take_length]] at own114
        have hs : Rsl w114 a87 bw := fun _ => by
          obtain ⟨hxl, ⟨e, h0⟩ | ⟨g, cap, cur, e, _, hh, _, _, _, ht⟩⟩ := own114
          · omega
          · simp only [Value.slice.injEq] at e
            obtain ⟨rfl, _, rfl⟩ := e
            refine ⟨g, 0, rfl, cellsAt_of_block hh _ 0 ?_⟩
            rw [List.drop_zero, hxl]; exact ht
        have hrow : ∀ b o, a87 = some ⟨b, o, none⟩ → w80.heap.size ≤ b := fun b o e => (own114.lt b (by rw [e]; rfl)).1
        obtain ⟨hcl, hcm⟩ : 8 ≤ c89 ∧ c89 ≤ maxLen := by
          obtain ⟨_, _, e, h1, h2⟩ := own_slice own114
          simp only [Value.slice.injEq] at e
          obtain ⟨_, _, rfl⟩ := e
          exact ⟨h1, h2⟩
        have hcall := RfReach pr114.rf pr114.bd a87 c89 bw hs (pr114.b_ok pr114.vr) (by omega) (by omega) hcm fun b o e hy => by have := hrow b o e; have := ylt b hy; omega
        rw [lb] at hcall
        refine ⟨_, _, rfl, true, .inl ⟨rfl, rfl⟩, ifN (fun h => nomatch h) (fun _ => ⟨w17.heap.size, 0, rfl, _, cell_of_block pr114.blk rfl, hcall.mono ?_⟩)⟩
        rintro _ w122 ⟨P, rfl, hP, Y2, q1, q2, q3⟩
        have hsame := reach_same pr84.iso pr84.vr hcnt hP
        refine ⟨_, rfl, ifNE (fun h => absurd (by rw [hsame]) h) (fun _ => ?_)⟩
        obtain ⟨pr122, b122⟩ := pr114.ref (B := w74.heap.size) q1 (fun b hb => by
          rcases q2 b hb with h | h | ⟨o, _, o', e, _⟩
          · exact .inl h
          · exact .inr (by omega)
          · exact .inr (by have := hrow b o' e; omega)) q3 (by omega) mlt s74
        rw [w64 (by omega) (by omega)]
        exact ⟨⟨i + 1, hi', rfl, by omega, S, v, A, φ, av, bw, Y2, pr122, (b84.trans (hb114.mono hb84s)).trans b122, hA1, hA2⟩, by simp only; omega⟩
end Go.Proofs.YtfenhbjamohdgaaDoor.Vf
end
