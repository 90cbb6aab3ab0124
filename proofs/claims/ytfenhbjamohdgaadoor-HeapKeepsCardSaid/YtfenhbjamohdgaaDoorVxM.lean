/- Equality of errors; appends from slices that came in. -/
import Derived.Test.YtfenhbjamohdgaaDoorVxL
import Derived.LaidEql
import Derived.Deep.Upon
namespace Go.Vx
open Go.RowKit

theorem err_same {P : Program} {w : World} {ti tp te : TypeId} {ms : Array (String × TypeId)} {i j : TypeInfo} {xo yo : Operand} {a : Addr}
    (hi : P.underlying ti = some (.interface ms)) (hp : P.underlying tp = some (.pointer te)) (hinfo : P.info? tp = some i) (hcomp : i.comparable = true) (hte : P.info? te = some j) :
    Runs P (semEq .eql ti xo yo (.iface tp (.pointer (some a))) (.iface tp (.pointer (some a)))) w (.bool true) w := by
  unfold Runs semEq
  rw [show eqGuard .eql ti xo yo (.iface tp (.pointer (some a))) (.iface tp (.pointer (some a))) = pure () from rfl]
  simpa using run_eql_iface_ptr_same w a hi hp hinfo hcomp hte

theorem err_neq {P : Program} {w : World} {ti tp te : TypeId} {ms : Array (String × TypeId)} {i j : TypeInfo} {xo yo : Operand} {a : Addr}
    (hi : P.underlying ti = some (.interface ms)) (hp : P.underlying tp = some (.pointer te)) (hinfo : P.info? tp = some i) (hcomp : i.comparable = true) (hte : P.info? te = some j) :
    Runs P (semEq .neq ti xo yo (.iface tp (.pointer (some a))) (.iface tp (.pointer (some a)))) w (.bool false) w := by
  unfold Runs semEq
  rw [show eqGuard .neq ti xo yo (.iface tp (.pointer (some a))) (.iface tp (.pointer (some a))) = pure () from rfl]
  simp only [binOp]
  simp [Op.equal, Op.maxDepth, run_equalIn_iface_ptr_same w 9998 a hi hp hinfo hcomp hte]

theorem err_nil {P : Program} {w : World} {ti tp : TypeId} {ms : Array (String × TypeId)} {xo yo : Operand} {v : Value} (hi : P.underlying ti = some (.interface ms)) :
    Runs P (semEq .eql ti xo yo .nilIface (.iface tp v)) w (.bool false) w := by
  unfold Runs semEq
  rw [show eqGuard .eql ti xo yo .nilIface (.iface tp v) = pure () from rfl]
  simpa using run_eql_iface_nil_left w tp v hi

theorem conv_empty {P : Program} {w : World} {t u e : Nat} {yt yu ye : Ty} (hyt : yt.Ok P t) (ht : yt.tk = .sl e) (hyu : yu.Ok P u) (hu : yu.tk = .str) (hye : ye.Ok P e) (he : ye.tk = .int .u8) {a : Option Addr} {c : Nat} :
    Runs P (convert t u (.slice a 0 c)) w (.string ⟨#[]⟩) w := by
  cases a with
  | none => exact conv_nil hyt ht hyu hu hye he
  | some a =>
    have htk := hyt.tk
    rw [ht] at htk
    have huk := hyu.tk
    rw [hu] at huk
    have hek := hye.tk
    rw [he] at hek
    have hrun := run_bytesToString (P := P) w a 0 c [] (by simp [loadCells, loadCellsFrom])
    unfold Runs
    simp only [convert, Sem.run_bind, run_under (show P.underlying t = _ from htk), run_under (show P.underlying u = _ from huk), run_under (show P.underlying e = _ from hek), Result.andThen_ok]
    rw [hrun]
    rfl

theorem append_empty {P : Program} {w : World} {t ty el : Nat} {yt ye : Ty} (hyt : yt.Ok P t) (ht : yt.tk = .sl el) (hye : ye.Ok P el) {a : Option Addr} {n c : Nat} (hnc : n ≤ c) {a' : Option Addr} {c' : Nat} :
    Runs P (Builtin.append_ #[t, t] ty #[.slice a n c, .slice a' 0 c']) w (.slice a n c) w := by
  obtain ⟨i, hi, hi1, hi2, z, hz, hzl⟩ := run_info hye
  have htk := hyt.tk
  rw [ht] at htk
  unfold Runs
  cases a <;> cases a' <;> simp [Builtin.append_, run_underlying htk, sizeOf, typeInfo, hi, Builtin.lenOf, hnc, Builtin.firstCells, storeCells, loadCells, loadCellsFrom]

/-- 'append(b, xs...)' of a slice that came in -/
theorem append_in {P : Program} {w : World} {base t ty el : Nat} {yt ye : Ty} (hyt : yt.Ok P t) (ht : yt.tk = .sl el) (hye : ye.Ok P el) (hsz : 0 < ye.size) {v : Value} {n : Nat} {xs : List Value} (hown : w.ownsRow base el ye.size v n xs)
    {a : Option Addr} {m c : Nat} {news : List Value} (hl : news.length = m * ye.size) (hc : 0 < m → ∃ b f, a = some ⟨b, f, none⟩ ∧ cellsAt w b f news) (h1 : (news.all fun u => u.oneCell') = true) (hbytes : (n + m) * ye.bytes ≤ 140737488355328) (hn : n + m ≤ 140737488355328) (hbase : base ≤ w.heap.size) :
    ∃ (a1 : Option Addr) (k d : Nat) (w' : World), Runs P (Builtin.append_ #[t, t] ty #[v, .slice a m c]) w (.slice a1 k d) w' ∧ k = n + m ∧ w'.ownsRow base el ye.size (.slice a1 k d) k (xs ++ news) ∧ w.grownBy w' v.ownBlock ∧ Nxt w.heap.size v (.slice a1 k d) := by
  rcases Nat.eq_zero_or_pos m with rfl | hm
  · obtain ⟨a0, c0, rfl, hle, _⟩ := own_slice hown
    rw [Nat.zero_mul] at hl
    have : news = [] := List.eq_nil_of_length_eq_zero hl
    subst this
    refine ⟨a0, n, c0, w, append_empty hyt ht hye hle, rfl, by rw [List.append_nil]; exact hown, ⟨rfl, rfl, rfl, Nat.le_refl _, fun _ _ _ => rfl⟩, .inl rfl⟩
  · obtain ⟨b, f, rfl, hc'⟩ := hc hm
    exact append_own hyt ht hye hsz hown hl hc' h1 hbytes hn hbase

end Go.Vx
