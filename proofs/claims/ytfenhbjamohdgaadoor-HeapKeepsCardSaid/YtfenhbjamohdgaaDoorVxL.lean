/- Small laws for proofs over the executor's forms. -/
import Derived.Test.YtfenhbjamohdgaaDoorVxG
import Derived.Lib.AppendStr
import Derived.Laws.BytesString
import Derived.Laws.AppendOwn
namespace Go.Vx
open Go.RowKit

/-! ### tests -/
theorem ifB {b : Bool} {p q : Prop} (h1 : b = true → p) (h2 : b = false → q) : cond b p q := by cases b with | true => exact h1 rfl | false => exact h2 rfl
theorem ifD {c : Prop} [Decidable c] {p q : Prop} (h1 : c → p) (h2 : ¬ c → q) : cond (decide c) p q := ifB (fun h => h1 (of_decide_eq_true h)) (fun h => h2 (of_decide_eq_false h))
theorem ifN {b : Bool} {p q : Prop} (h1 : b = false → p) (h2 : b = true → q) : cond (!b) p q := by cases b with | true => exact h2 rfl | false => exact h1 rfl
theorem ifE {a b : Int} {p q : Prop} (h1 : a = b → p) (h2 : a ≠ b → q) : cond (a == b) p q := ifB (fun h => h1 (eq_of_beq h)) (fun h => h2 (fun e => by rw [e] at h; simp at h))
theorem ifNE {a b : Int} {p q : Prop} (h1 : a ≠ b → p) (h2 : a = b → q) : cond (a != b) p q := ifB (fun h => h1 (fun e => by rw [e] at h; simp at h)) (fun h => h2 (by simpa using h))

/-! ### numbers -/
theorem w64 {x : Int} (h0 : -9223372036854775808 ≤ x) (h1 : x ≤ 9223372036854775807) : IntKind.i64.wrap x = x := by
  unfold IntKind.wrap; simp [IntKind.signed, IntKind.bits]; omega
theorem w8 {x : Int} (h0 : 0 ≤ x) (h1 : x ≤ 255) : IntKind.u8.wrap x = x := by
  unfold IntKind.wrap; simp [IntKind.signed, IntKind.bits]; omega
theorem wu64 {x : Int} (h0 : 0 ≤ x) (h1 : x < 18446744073709551616) : IntKind.u64.wrap x = x := by
  unfold IntKind.wrap; simp [IntKind.signed, IntKind.bits]; omega
theorem w8_mod (x : Int) : IntKind.u8.wrap x = x % 256 := by
  unfold IntKind.wrap; simp [IntKind.signed, IntKind.bits]
theorem wu64_mod (x : Int) : IntKind.u64.wrap x = x % 18446744073709551616 := by
  unfold IntKind.wrap; simp [IntKind.signed, IntKind.bits]

/-! ### cells -/
theorem cellsAt_of_block {w : World} {b : Nat} {cs : Array Value} {t : TypeId} {fr : Nat × Nat} (h : w.heap[b]? = some (.cells cs t fr)) : ∀ (vs : List Value) (o : Nat), (cs.toList.drop o).take vs.length = vs → cellsAt w b o vs
  | [], _, _ => trivial
  | v :: vs, o, hv => by
    have h1 : cs.toList[o]? = some v := by
      have := congrArg (fun l => l[0]?) hv
      simpa [List.getElem?_take, List.getElem?_drop] using this
    refine ⟨?_, cellsAt_of_block h vs (o + 1) ?_⟩
    · simp only [World.cell?, h]; simpa using h1
    · have h2 : cs.toList.drop o = v :: cs.toList.drop (o + 1) := by
        have hlt : o < cs.toList.length := (List.getElem?_eq_some_iff.1 h1).1
        rw [List.drop_eq_getElem_cons hlt]
        congr 1
        exact (List.getElem?_eq_some_iff.1 h1).2
      rw [h2] at hv
      simpa using hv

theorem cell_of_block {w : World} {b o : Nat} {cs : Array Value} {t : TypeId} {fr : Nat × Nat} {v : Value} (h : w.heap[b]? = some (.cells cs t fr)) (hv : cs.toList[o]? = some v) : w.cell? ⟨b, o, none⟩ = some v := by
  simp only [World.cell?, h]; simpa using hv

theorem cellsAt_mono {w w' : World} {b : Nat} (h : ∀ o, w'.cell? ⟨b, o, none⟩ = w.cell? ⟨b, o, none⟩) : ∀ {vs : List Value} {o : Nat}, cellsAt w b o vs → cellsAt w' b o vs
  | [], _, _ => trivial
  | _ :: _, o, ⟨h1, h2⟩ => ⟨(h o).trans h1, cellsAt_mono h h2⟩

theorem cellsAt_below {B : Nat} {w w' : World} (hb : Below B w w') {b o : Nat} {vs : List Value} (hlt : b < B) (h : cellsAt w b o vs) : cellsAt w' b o vs :=
  cellsAt_mono (fun o => hb.cell (p := ⟨b, o, none⟩) hlt) h

theorem cellsAt_cell {w : World} {b : Nat} : ∀ {vs : List Value} {o : Nat}, cellsAt w b o vs → ∀ {j : Nat} {v : Value}, vs[j]? = some v → w.cell? ⟨b, o + j, none⟩ = some v
  | u :: us, o, ⟨h1, h2⟩, j, v, hv => by
    cases j with
    | zero => simp at hv; subst hv; exact h1
    | succ j =>
      have := cellsAt_cell h2 (j := j) (by simpa using hv)
      rw [show o + (j + 1) = o + 1 + j by omega]; exact this

theorem alloc_block (w : World) (o : Obj) : (w.alloc o).heap[w.heap.size]? = some o := by
  show (w.heap.push o)[w.heap.size]? = _
  simp
theorem alloc_size (w : World) (o : Obj) : (w.alloc o).heap.size = w.heap.size + 1 := by
  show (w.heap.push o).size = _
  simp
theorem below_alloc (w : World) (o : Obj) : Below w.heap.size w (w.alloc o) := (Below.refl _ _).alloc (Nat.le_refl _) o
theorem drew_heap (w : World) : w.drew.heap = w.heap := rfl
theorem below_drew (w : World) : Below w.heap.size w w.drew := (Below.refl _ _).drew
theorem block_below {B : Nat} {w w' : World} (hb : Below B w w') {b : Nat} {o : Obj} (hlt : b < B) (h : w.heap[b]? = some o) : w'.heap[b]? = some o := (hb.block b hlt).trans h
theorem cell_below {B : Nat} {w w' : World} (hb : Below B w w') {b o : Nat} {v : Value} (hlt : b < B) (h : w.cell? ⟨b, o, none⟩ = some v) : w'.cell? ⟨b, o, none⟩ = some v := (hb.cell (p := ⟨b, o, none⟩) hlt).trans h

/-! ### a new variable that is filled at once -/
theorem setL_size (b : Nat) : ∀ (vs : List Value) (o : Nat) (w : World), (setL w b o vs).heap.size = w.heap.size
  | [], _, _ => rfl
  | v :: vs, o, w => by rw [setL, setL_size b vs]; simp [World.setCell]

theorem canSt_of_block {w : World} {b : Nat} {cs : Array Value} {t : TypeId} (h : w.heap[b]? = some (.cells cs t (0, 0))) : ∀ (vs : List Value) (o : Nat), o + vs.length ≤ cs.size → (vs.all fun v => v.oneCell') = true → canSt w b o vs
  | [], _, _, _ => trivial
  | v :: vs, o, hl, h1 => by
    simp only [List.all_cons, Bool.and_eq_true, List.length_cons] at h1 hl
    refine ⟨⟨⟨cs[o]'(by omega), ?_⟩, ?_, h1.1⟩, canSt_of_block h vs (o + 1) (by omega) h1.2⟩
    · simp only [World.cell?, h]; simp
    · simp [World.frozen?, h]

theorem setL_block {b : Nat} {t : TypeId} : ∀ (vs : List Value) (o : Nat) (w : World) (cs : Array Value), w.heap[b]? = some (.cells cs t (0, 0)) → (setL w b o vs).heap[b]? = some (.cells (setAt cs.toList o vs).toArray t (0, 0)) ∧ ∀ k, k ≠ b → (setL w b o vs).heap[k]? = w.heap[k]?
  | [], o, w, cs, h => ⟨by simpa [setL, setAt] using h, fun _ _ => rfl⟩
  | v :: vs, o, w, cs, h => by
    have hb : (w.setCell ⟨b, o, none⟩ v).heap[b]? = some (.cells (cs.setIfInBounds o v) t (0, 0)) := by
      simp only [World.setCell, Array.getElem?_modify, if_true, h]; simp
    obtain ⟨h1, h2⟩ := setL_block vs (o + 1) _ _ hb
    refine ⟨?_, fun k hk => (h2 k hk).trans (Below.heap_setCell w ⟨b, o, none⟩ v k hk)⟩
    rw [setL, h1]
    simp [setAt]

theorem setL_streams {b : Nat} : ∀ (vs : List Value) (o : Nat) (w : World), (setL w b o vs).os = w.os ∧ (setL w b o vs).tape = w.tape ∧ (setL w b o vs).output = w.output
  | [], _, _ => ⟨rfl, rfl, rfl⟩
  | v :: vs, o, w => by
    obtain ⟨h1, h2, h3⟩ := setL_streams (b := b) vs (o + 1) (w.setCell ⟨b, o, none⟩ v)
    exact ⟨h1, h2, h3⟩

theorem below_setL {B b : Nat} {w : World} (vs : List Value) (o : Nat) {cs : Array Value} {t : TypeId} (h : w.heap[b]? = some (.cells cs t (0, 0))) (hb : B ≤ b) : Below B w (setL w b o vs) := by
  obtain ⟨h1, h2, h3⟩ := setL_streams (b := b) vs o w
  exact ⟨h1, h2, h3, Nat.le_of_eq (setL_size b vs o w).symm, fun k hk => (setL_block vs o w cs h).2 k (by omega)⟩

theorem setAt_all (vs : List Value) : ∀ (pre cs : List Value), cs.length = vs.length → setAt (pre ++ cs) pre.length vs = pre ++ vs := by
  induction vs with
  | nil => intro pre cs h; rw [List.eq_nil_of_length_eq_zero h]; rfl
  | cons v vs ih =>
    intro pre cs h
    cases cs with
    | nil => simp at h
    | cons c cs =>
      simp only [setAt]
      have e : (pre ++ c :: cs).set pre.length v = (pre ++ [v]) ++ cs := by simp
      rw [e]
      have := ih (pre ++ [v]) cs (by simpa using h)
      rw [List.length_append, List.length_singleton] at this
      rw [this]; simp

/-- a variable of n cells, made and filled -/
theorem copy_var (w : World) (zs vs : List Value) (t : TypeId) (hl : zs.length = vs.length) (h1 : (vs.all fun v => v.oneCell') = true) :
    canSt (w.alloc (.cells zs.toArray t)) w.heap.size 0 vs ∧ (setL (w.alloc (.cells zs.toArray t)) w.heap.size 0 vs).heap[w.heap.size]? = some (.cells vs.toArray t (0, 0)) ∧
      Below w.heap.size w (setL (w.alloc (.cells zs.toArray t)) w.heap.size 0 vs) ∧ (setL (w.alloc (.cells zs.toArray t)) w.heap.size 0 vs).heap.size = w.heap.size + 1 := by
  have hb := alloc_block w (.cells zs.toArray t)
  refine ⟨canSt_of_block hb vs 0 (by simp [hl]) h1, ?_, (below_alloc w _).trans (below_setL vs 0 hb (Nat.le_refl _)), by rw [setL_size, alloc_size]⟩
  rw [(setL_block vs 0 _ _ hb).1]
  have := setAt_all vs [] zs hl
  simp only [List.nil_append, List.length_nil] at this
  rw [this]

/-- a new block, and what follows over it -/
theorem box {w : World} {o : Obj} {G : World → Prop} (h : ∀ w', w'.heap[w.heap.size]? = some o → Below w.heap.size w w' → w'.heap.size = w.heap.size + 1 → G w') : withW (World.alloc w o) G :=
  h _ (alloc_block w o) (below_alloc w o) (alloc_size w o)

/-- a draw -/
theorem drewStep {w : World} {G : World → Prop} (h : ∀ w', w'.heap = w.heap → Below w.heap.size w w' → G w') : withW (World.drew w) G := h _ rfl (below_drew w)

/-- a variable made and filled, and what follows over it -/
theorem copyStep {w : World} {cs : Array Value} {vs : List Value} {t : TypeId} {G : World → Prop} (hl : cs.toList.length = vs.length) (h1 : (vs.all fun v => v.oneCell') = true)
    (h : ∀ w', w'.heap[w.heap.size]? = some (.cells vs.toArray t (0, 0)) → Below w.heap.size w w' → w'.heap.size = w.heap.size + 1 → G w') :
    withW (World.alloc w (.cells cs t)) fun x => canSt x w.heap.size 0 vs ∧ withW (setL x w.heap.size 0 vs) G := by
  obtain ⟨a, b, c, d⟩ := copy_var w cs.toList vs t hl h1
  exact ⟨a, h _ b c d⟩

/-! ### slices of one's own -/
theorem own_block {w w' : World} {base e size n : Nat} {v : Value} {xs : List Value} (h : w.ownsRow base e size v n xs) (hk : ∀ g, v.ownBlock = some g → w'.heap[g]? = w.heap[g]?) : w'.ownsRow base e size v n xs := by
  obtain ⟨h1, h2⟩ := h
  refine ⟨h1, ?_⟩
  rcases h2 with h2 | ⟨g, cap, cur, hv, hg, hh, r⟩
  · exact .inl h2
  · exact .inr ⟨g, cap, cur, hv, hg, by rw [hk g (by rw [hv]; rfl)]; exact hh, r⟩

theorem own_below {B : Nat} {w w' : World} {base e size n : Nat} {v : Value} {xs : List Value} (h : w.ownsRow base e size v n xs) (hb : Below B w w') (hB : w.heap.size ≤ B) : w'.ownsRow base e size v n xs :=
  own_block h fun g hg => hb.block g (Nat.lt_of_lt_of_le (h.lt g hg).2 hB)

theorem own_slice {w : World} {base e size n : Nat} {v : Value} {xs : List Value} (h : w.ownsRow base e size v n xs) : ∃ a c, v = .slice a n c ∧ n ≤ c ∧ c ≤ maxLen := by
  obtain ⟨_, ⟨rfl, rfl⟩ | ⟨g, cap, cur, rfl, _, _, h1, h2, _⟩⟩ := h
  · exact ⟨none, 0, rfl, Nat.le_refl _, by simp⟩
  · exact ⟨_, _, rfl, h1, h2⟩

theorem own_grown {B : Nat} {w w' : World} {base e size n : Nat} {v : Value} {xs : List Value} (h : w.ownsRow base e size v n xs) (hg : w.grownBy w' v.ownBlock) (hB : B ≤ base) (hw : B ≤ w.heap.size) : Below B w w' :=
  ⟨hg.os, hg.tape, hg.output, hg.size, fun k hk => hg.block k (by omega) fun he => by have := (h.lt k he.symm).1; omega⟩

/-- the block of what was grown: the old one, or a new one -/
def Nxt (n : Nat) (v v' : Value) : Prop := v'.ownBlock = v.ownBlock ∨ ∃ k, n ≤ k ∧ v'.ownBlock = some k

theorem Nxt.refl (n : Nat) (v : Value) : Nxt n v v := .inl rfl
theorem Nxt.trans {n n' : Nat} {a b c : Value} (h : Nxt n a b) (k : Nxt n' b c) (hn : n ≤ n') : Nxt n a c := by
  rcases k with k | ⟨j, k1, k2⟩
  · rcases h with h | ⟨i, h1, h2⟩
    · exact .inl (k.trans h)
    · exact .inr ⟨i, h1, k.trans h2⟩
  · exact .inr ⟨j, by omega, k2⟩

theorem grown_next {w w1 w2 : World} {v v1 : Value} (h : w.grownBy w1 v.ownBlock) (h1 : w1.grownBy w2 v1.ownBlock) (hn : Nxt w.heap.size v v1) : w.grownBy w2 v.ownBlock :=
  ⟨h1.os.trans h.os, h1.tape.trans h.tape, h1.output.trans h.output, Nat.le_trans h.size h1.size, fun k hk hne => by
    have hs := h.size
    refine (h1.block k (by omega) fun he => ?_).trans (h.block k hk hne)
    rcases hn with hn | ⟨j, hj, hn⟩
    · exact hne (he.trans hn)
    · rw [hn] at he
      have := Option.some.inj he
      omega⟩

theorem grown_below {w w1 : World} {r : Option Nat} (h : Below w.heap.size w w1) : w.grownBy w1 r := ⟨h.os, h.tape, h.output, h.size, fun k hk _ => h.block k hk⟩

theorem grown_then {w w1 w2 : World} {r : Option Nat} (h : w.grownBy w1 r) (h1 : Below w1.heap.size w1 w2) : w.grownBy w2 r :=
  ⟨h1.os.trans h.os, h1.tape.trans h.tape, h1.output.trans h.output, Nat.le_trans h.size h1.size, fun k hk hne => (h1.block k (by have := h.size; omega)).trans (h.block k hk hne)⟩

theorem then_grown {w w1 w2 : World} {r : Option Nat} (h : Below w.heap.size w w1) (h1 : w1.grownBy w2 r) : w.grownBy w2 r :=
  ⟨h1.os.trans h.os, h1.tape.trans h.tape, h1.output.trans h.output, Nat.le_trans h.size h1.size, fun k hk hne => (h1.block k (by have := h.size; omega) hne).trans (h.block k hk)⟩

theorem grown_block {w w1 : World} {r : Option Nat} (h : w.grownBy w1 r) {b : Nat} {o : Obj} (hb : w.heap[b]? = some o) (hne : some b ≠ r) : w1.heap[b]? = some o := by
  refine (h.block b ?_ hne).trans hb
  rcases Nat.lt_or_ge b w.heap.size with h1 | h1
  · exact h1
  · rw [Array.getElem?_eq_none h1] at hb; cases hb

theorem own_ne {w : World} {base e size n : Nat} {v : Value} {xs : List Value} (h : w.ownsRow base e size v n xs) {b : Nat} (hb : w.heap.size ≤ b) : some b ≠ v.ownBlock := fun he => by
  have := (h.lt b he.symm).2; omega

/-- 'append(b, x, ..)' onto a slice of one's own, of elements that lie in memory -/
theorem append_own {P : Program} {w : World} {base t ty el : Nat} {yt ye : Ty} (hyt : yt.Ok P t) (ht : yt.tk = .sl el) (hye : ye.Ok P el) (hsz : 0 < ye.size) {v : Value} {n : Nat} {xs : List Value} (hown : w.ownsRow base el ye.size v n xs)
    {b f m c : Nat} {news : List Value} (hl : news.length = m * ye.size) (hc : cellsAt w b f news) (h1 : (news.all fun u => u.oneCell') = true) (hbytes : (n + m) * ye.bytes ≤ 140737488355328) (hn : n + m ≤ 140737488355328) (hbase : base ≤ w.heap.size) :
    ∃ (a : Option Addr) (k d : Nat) (w' : World), Runs P (Builtin.append_ #[t, t] ty #[v, .slice (some ⟨b, f, none⟩) m c]) w (.slice a k d) w' ∧ k = n + m ∧ w'.ownsRow base el ye.size (.slice a k d) k (xs ++ news) ∧ w.grownBy w' v.ownBlock ∧ Nxt w.heap.size v (.slice a k d) := by
  obtain ⟨i, hi, hi1, hi2, z, hz, hzl⟩ := run_info hye
  have htk := hyt.tk
  rw [ht] at htk
  have hnews : ∀ j u, news[j]? = some u → w.cell? ((⟨b, f, none⟩ : Addr).add j) = some u := fun j u hu => by rw [add_none]; exact cellsAt_cell hc hu
  have hone : ∀ u ∈ news, u.oneCell' = true := fun u hu => List.all_eq_true.1 h1 u hu
  obtain ⟨v', w', hr, ho, hg, hnil⟩ := run_append_own (P := P) (w := w) base t ty el i z ye.size ye.bytes htk hi hz hi1 hi2 (by rw [← Array.length_toList, hzl, hye.zs]) hsz v n xs hown ⟨b, f, none⟩ m c news hl
    hnews hone (by simp only [maxLen]; omega) hbytes hbase
  obtain ⟨a, d, rfl, _⟩ := own_slice ho
  refine ⟨a, n + m, d, w', hr, rfl, ho, hg, ?_⟩
  obtain ⟨hxl, ⟨rfl, rfl⟩ | ⟨g, cap, cur, rfl, hgb, hgh, hnc, hcm, hcs, htake⟩⟩ := hown
  · rcases Nat.eq_zero_or_pos m with rfl | hm
    · rw [hnil.2 ⟨rfl, rfl⟩]; exact .inl rfl
    · have := run_append_nil (P := P) (w := w) t ty el i z htk hi hz ⟨b, f, none⟩ m c news (hi1 ▸ hl) hnews hm (by omega) (by rw [hi2]; rw [Nat.zero_add] at hbytes; omega)
      rw [hr] at this
      simp only [Result.ok.injEq] at this
      rw [this.1]
      exact .inr ⟨w.heap.size, Nat.le_refl _, rfl⟩
  · by_cases hroom : n + m ≤ cap
    · have := run_append_room (P := P) (w := w) t ty el i htk hi g n cap cur hgh ⟨b, f, none⟩ m c news (hi1 ▸ hl) hnews hone hroom (by rw [hi1, hcs, hl, ← Nat.add_mul]; exact Nat.mul_le_mul_right _ hroom)
      rw [hr] at this
      simp only [Result.ok.injEq] at this
      rw [this.1]
      exact .inl rfl
    · have := run_append_grow (P := P) (w := w) t ty el i z htk hi hz ⟨g, 0, none⟩ n cap xs (hi1 ▸ hxl) (fun j u hu => by
          rw [add_none, Nat.zero_add]
          rw [← htake, List.getElem?_take] at hu
          split at hu
          · exact cell_of_block hgh hu
          · cases hu) ⟨b, f, none⟩ m c news (hi1 ▸ hl) hnews (by omega) (by omega) (growslice_fits (by omega) (by rw [hi2]; exact hbytes))
      rw [hr] at this
      simp only [Result.ok.injEq] at this
      rw [this.1]
      exact .inr ⟨w.heap.size, Nat.le_refl _, rfl⟩

/-- 'append(b, s...)' of a string -/
theorem append_str {P : Program} {w : World} {base t u ty el : Nat} {yt yu ye : Ty} (hyt : yt.Ok P t) (ht : yt.tk = .sl el) (hyu : yu.Ok P u) (hu : yu.tk = .str) (hye : ye.Ok P el) (hzero : (P.info? el).bind (·.zero) = some (.int .u8 0)) (hsz : ye.size = 1) (hby : ye.bytes = 1)
    {v : Value} {n : Nat} {xs : List Value} (hown : w.ownsRow base el 1 v n xs) (s : ByteArray) (hbytes : n + s.size ≤ 140737488355328) (hbase : base ≤ w.heap.size) :
    ∃ (a : Option Addr) (k d : Nat) (w' : World), Runs P (Builtin.append_ #[t, u] ty #[v, .string s]) w (.slice a k d) w' ∧ k = n + s.size ∧ w'.ownsRow base el 1 (.slice a k d) k (xs ++ Lib.strCells s) ∧ w.grownBy w' v.ownBlock ∧ Nxt w.heap.size v (.slice a k d) := by
  obtain ⟨i, hi, hi1, hi2, z, hz, hzl⟩ := run_info hye
  have htk := hyt.tk
  rw [ht] at htk
  have huk := hyu.tk
  rw [hu] at huk
  obtain rfl : z = .int .u8 0 := by
    rw [hi] at hzero
    simp only [Option.bind_some, hz, Option.some.injEq] at hzero
    exact hzero
  obtain ⟨v', w', hr, ho, hg, hnil⟩ := Lib.run_append_own_string (P := P) (w := w) base t u ty el i htk huk hi hz (hi1.trans hsz) (hi2.trans hby) v n xs hown s (by simp only [maxLen]; omega) hbytes hbase
  obtain ⟨a, d, rfl, _⟩ := own_slice ho
  refine ⟨a, n + s.size, d, w', hr, rfl, ho, hg, ?_⟩
  obtain ⟨hxl, ⟨rfl, rfl⟩ | ⟨g, cap, cur, rfl, hgb, hgh, hnc, hcm, hcs, htake⟩⟩ := hown
  · rcases Nat.eq_zero_or_pos s.size with hm | hm
    · rw [hnil.2 ⟨rfl, hm⟩]; exact .inl rfl
    · have := run_append_nil_string (P := P) (w := w) t u ty el i _ htk huk hi hz s hm (by omega) (by rw [hi2, hby]; omega)
      rw [hr] at this
      simp only [Result.ok.injEq] at this
      rw [this.1]
      exact .inr ⟨w.heap.size, Nat.le_refl _, rfl⟩
  · by_cases hroom : n + s.size ≤ cap
    · have := Lib.run_append_room_string (P := P) (w := w) t u ty el i htk huk hi (hi1.trans hsz) g n cap cur hgh s hroom (by rw [hcs]; omega)
      rw [hr] at this
      simp only [Result.ok.injEq] at this
      rw [this.1]
      exact .inl rfl
    · have := Lib.run_append_grow_string (P := P) (w := w) t u ty el i _ htk huk hi hz ⟨g, 0, none⟩ n cap xs (by rw [hi1, hsz]; exact hxl) (fun j u hu => by
          rw [add_none, Nat.zero_add]
          rw [← htake, List.getElem?_take] at hu
          split at hu
          · exact cell_of_block hgh hu
          · cases hu) s (by omega) (by omega) (growslice_fits (by omega) (by rw [hi2, hby]; omega))
      rw [hr] at this
      simp only [Result.ok.injEq] at this
      rw [this.1]
      exact .inr ⟨w.heap.size, Nat.le_refl _, rfl⟩

/-! ### bytes and strings -/
/-- cells that hold bytes -/
def bv (l : List UInt8) : List Value := l.map fun b => .int .u8 (b.toNat : Int)
theorem bv_append (a b : List UInt8) : bv (a ++ b) = bv a ++ bv b := by simp [bv]
theorem bv_length (l : List UInt8) : (bv l).length = l.length := by simp [bv]
theorem strCells_bv (s : ByteArray) : Lib.strCells s = bv s.data.toList := rfl
theorem bv_one (l : List UInt8) : ((bv l).all fun v => v.oneCell') = true := by
  induction l with
  | nil => rfl
  | cons a r ih => simp only [bv, List.map_cons, List.all_cons, Bool.and_eq_true] at ih ⊢; exact ⟨rfl, ih⟩

theorem fold_push : ∀ (l : List UInt8) (acc : ByteArray), (l.map fun b => (b.toNat : Int)).foldl (fun r n => r.push (UInt8.ofNat n.toNat)) acc = ⟨acc.data ++ l.toArray⟩
  | [], acc => by simp
  | b :: l, acc => by
    simp only [List.map_cons, List.foldl_cons]
    rw [fold_push l]
    have : UInt8.ofNat ((b.toNat : Int).toNat) = b := by rw [Int.toNat_natCast]; exact UInt8.ofNat_toNat
    rw [this]
    congr 1
    apply Array.ext'
    simp [ByteArray.push]

theorem conv_bytes {P : Program} {w : World} {t u e : Nat} {yt yu ye : Ty} (hyt : yt.Ok P t) (ht : yt.tk = .sl e) (hyu : yu.Ok P u) (hu : yu.tk = .str) (hye : ye.Ok P e) (he : ye.tk = .int .u8) {b o c : Nat} {l : List UInt8} (h : cellsAt w b o (bv l)) :
    Runs P (convert t u (.slice (some ⟨b, o, none⟩) l.length c)) w (.string ⟨l.toArray⟩) w := by
  have htk := hyt.tk
  rw [ht] at htk
  have huk := hyu.tk
  rw [hu] at huk
  have hek := hye.tk
  rw [he] at hek
  have hld := run_loadFrom P w b (bv l) o 0 #[] (by simpa using h)
  rw [bv_length] at hld
  have hrun := run_bytesToString (P := P) w ⟨b, o, none⟩ l.length c (l.map fun b => (b.toNat : Int)) (by
    simp only [loadCells, hld]
    simp [bv])
  rw [fold_push] at hrun
  unfold Runs
  simp only [convert, Sem.run_bind, run_under (show P.underlying t = _ from htk), run_under (show P.underlying u = _ from huk), run_under (show P.underlying e = _ from hek), Result.andThen_ok]
  rw [hrun]
  congr 2
  simp

theorem conv_nil {P : Program} {w : World} {t u e : Nat} {yt yu ye : Ty} (hyt : yt.Ok P t) (ht : yt.tk = .sl e) (hyu : yu.Ok P u) (hu : yu.tk = .str) (hye : ye.Ok P e) (he : ye.tk = .int .u8) {n c : Nat} :
    Runs P (convert t u (.slice none n c)) w (.string ByteArray.empty) w := by
  have htk := hyt.tk
  rw [ht] at htk
  have huk := hyu.tk
  rw [hu] at huk
  have hek := hye.tk
  rw [he] at hek
  unfold Runs
  simp [convert, run_under (show P.underlying t = _ from htk), run_under (show P.underlying u = _ from huk), run_under (show P.underlying e = _ from hek), Conv.bytesToString]

theorem own_cells {w : World} {base e n : Nat} {v : Value} {xs : List Value} (h : w.ownsRow base e 1 v n xs) : (v = .slice none 0 0 ∧ n = 0 ∧ xs = []) ∨ ∃ g c, v = .slice (some ⟨g, 0, none⟩) n c ∧ base ≤ g ∧ cellsAt w g 0 xs ∧ xs.length = n := by
  obtain ⟨hl, ⟨rfl, rfl⟩ | ⟨g, cap, cur, rfl, hg, hh, h1, h2, h3, h4⟩⟩ := h
  · exact .inl ⟨rfl, rfl, List.eq_nil_of_length_eq_zero (by simpa using hl)⟩
  · refine .inr ⟨g, cap, rfl, hg, cellsAt_of_block hh xs 0 ?_, by simpa using hl⟩
    rw [List.drop_zero, hl, h4]

/-- 'string(b)' of a slice of one's own -/
theorem conv_own {P : Program} {w : World} {base t u e n : Nat} {yt yu ye : Ty} (hyt : yt.Ok P t) (ht : yt.tk = .sl e) (hyu : yu.Ok P u) (hu : yu.tk = .str) (hye : ye.Ok P e) (he : ye.tk = .int .u8) {v : Value} {l : List UInt8} (h : w.ownsRow base e 1 v n (bv l)) :
    Runs P (convert t u v) w (.string ⟨l.toArray⟩) w := by
  rcases own_cells h with ⟨rfl, rfl, hx⟩ | ⟨g, c, rfl, _, hc, hl⟩
  · have : l = [] := by simpa [bv] using hx
    subst this
    exact conv_nil hyt ht hyu hu hye he
  · rw [bv_length] at hl
    subst hl
    exact conv_bytes hyt ht hyu hu hye he hc

end Go.Vx
