/- Data: the program's reader of bytes. -/
import Derived.Test.YtkplhlciocbecaaDoorD1J
namespace Go.Vx.Da
open Go.RowKit

theorem gtrans {r : Option Nat} {w w1 w2 : World} (h : w.grownBy w1 r) (h1 : w1.grownBy w2 r) : w.grownBy w2 r :=
  ⟨h1.os.trans h.os, h1.tape.trans h.tape, h1.output.trans h.output, Nat.le_trans h.size h1.size, fun k hk hne => (h1.block k (by have := h.size; omega) hne).trans (h.block k hk hne)⟩
theorem gbelow {r : Option Nat} {w w1 w2 : World} {lo : Nat} (h : w.grownBy w1 r) (h1 : Below lo w1 w2) (hlo : w.heap.size ≤ lo) : w.grownBy w2 r :=
  ⟨h1.os.trans h.os, h1.tape.trans h.tape, h1.output.trans h.output, Nat.le_trans h.size h1.size, fun k hk hne => (h1.block k (by omega)).trans (h.block k hk hne)⟩
/-- a change of a block that is no older one -/
theorem gset {r : Option Nat} {w w1 w2 : World} {b : Nat} (h : w.grownBy w1 r) (h1 : w1.grownBy w2 (some b)) (hs : ∀ k, k ≠ b → w2.heap[k]? = w1.heap[k]?) (hb : w.heap.size ≤ b ∨ r = some b) : w.grownBy w2 r :=
  ⟨h1.os.trans h.os, h1.tape.trans h.tape, h1.output.trans h.output, Nat.le_trans h.size h1.size, fun k hk hne => (hs k (by
    rcases hb with hb | hb
    · omega
    · intro e; exact hne (by rw [e, hb]))).trans (h.block k hk hne)⟩

/-- the reader in variable r: what it has still to read, and how many nodes it has read -/
def Rd (B r : Nat) (w : World) (L : List UInt8) (q : Int) : Prop := B ≤ r ∧ ∃ a c, w.heap[r]? = some (.cells #[.slice a L.length c, .int .i64 q] 53 (0, 0)) ∧ Bsl B w a L c ∧ c ≤ maxLen

theorem Rd.kept {B r : Nat} {w w' : World} {L : List UInt8} {q : Int} (h : Rd B r w L q) (hr : w'.heap[r]? = w.heap[r]?) (hb : ∀ k, k < B → w'.heap[k]? = w.heap[k]?) : Rd B r w' L q := by
  obtain ⟨h0, a, c, h1, h2, h3⟩ := h
  exact ⟨h0, a, c, hr.trans h1, h2.kept hb, h3⟩

def RdPost (w : World) (B r k : Nat) (l : List UInt8) (p q : Int) (v : Value) (w' : World) : Prop :=
  w.grownBy w' (some r) ∧ ((∃ d rest vs, gr k l = some (d, rest) ∧ p + depth d ≤ 201 ∧ q + nodes d ≤ 4096 ∧ v = .tuple #[.agg vs.toArray, .bool true] ∧ RepI (fun b => w.heap.size ≤ b ∧ b < w'.heap.size) w' d vs ∧ Rd B r w' rest (q + nodes d)) ∨
    ((∀ d rest, gr k l = some (d, rest) → 201 < p + depth d ∨ 4096 < q + nodes d) ∧ ∃ n, v = .tuple #[.agg #[.bool false, .int .i64 n, .string ⟨#[]⟩, .slice none 0 0], .bool false]))

theorem or_byte {n b i : Nat} (hi : i < 8) (hn : n < 256 ^ i) (hb : b < 256) :
    IntKind.u64.wrap ((BitVec.ofInt IntKind.u64.bits (n : Int) ||| BitVec.ofInt IntKind.u64.bits (IntKind.u64.wrap ((IntKind.u64.wrap (b : Int)) * 2 ^ min ((IntKind.i64.wrap (8 * (i : Int))) : Int).toNat IntKind.u64.bits))).toNat : Nat) = ((n + b * 256 ^ i : Nat) : Int) := by
  have hp : (256 : Nat) ^ i = 2 ^ (8 * i) := by rw [Nat.pow_mul]
  have hpi : 256 ^ i ≤ 256 ^ 7 := Nat.pow_le_pow_right (by omega) (by omega)
  have h7 : (256 : Nat) ^ 7 = 72057594037927936 := by decide
  have hmul : b * 256 ^ i ≤ 255 * 256 ^ i := Nat.mul_le_mul_right _ (by omega)
  have e0 : min (IntKind.i64.wrap (8 * (i : Int))).toNat IntKind.u64.bits = 8 * i := by
    rw [w64 (by omega) (by omega)]
    have : IntKind.u64.bits = 64 := rfl
    omega
  rw [e0, wu64 (x := (b : Int)) (by omega) (by omega)]
  have e1 : ((b : Int) * 2 ^ (8 * i)) = ((b * 256 ^ i : Nat) : Int) := by rw [hp]; simp
  rw [e1, wu64 (x := ((b * 256 ^ i : Nat) : Int)) (by omega) (by omega)]
  have e2 : ∀ m : Nat, BitVec.ofInt IntKind.u64.bits (m : Int) = BitVec.ofNat 64 m := fun m => BitVec.ofInt_natCast 64 m
  have e3 : (BitVec.ofInt IntKind.u64.bits (n : Int) ||| BitVec.ofInt IntKind.u64.bits ((b * 256 ^ i : Nat) : Int)).toNat = n + b * 256 ^ i := by
    rw [e2, e2]
    show (BitVec.ofNat 64 n ||| BitVec.ofNat 64 (b * 256 ^ i)).toNat = _
    rw [BitVec.toNat_or, BitVec.toNat_ofNat, BitVec.toNat_ofNat, Nat.mod_eq_of_lt (by omega), Nat.mod_eq_of_lt (by omega), hp, Nat.mul_comm, Nat.or_comm, ← Nat.two_pow_add_eq_or_of_lt (by rw [← hp]; exact hn)]
    omega
  rw [e3, wu64 (by omega) (by omega)]
end Go.Vx.Da

namespace Go.Proofs.YtkplhlciocbecaaDoor.Vf
open Go.Vx Go.Vx.Da Go.RowKit

theorem take_spec (n : Nat) (B r : Nat) (w : World) (L : List UInt8) (q : Int) (h : Rd B r w L q) (hn : n ≤ 255) :
    Calls Tryd.prog 29 #[.pointer (some ⟨r, 0, none⟩), .int .i64 (n : Int)] w fun e w' => (L.length < n ∧ e = .returned (.tuple #[.slice none 0 0, .bool false]) ∧ w = w') ∨
      (n ≤ L.length ∧ ∃ a1, e = .returned (.tuple #[.slice a1 n n, .bool true]) ∧ Bsl B w' a1 (L.take n) n ∧ Rd B r w' (L.drop n) q ∧ w.grownBy w' (some r) ∧ w'.heap.size = w.heap.size ∧ ∀ k, k ≠ r → w'.heap[k]? = w.heap[k]?) := by
  obtain ⟨hr, a, c, hb, hs, hc⟩ := h
  refine (Vg.take.calls (R := fun v w' => (L.length < n ∧ v = .tuple #[.slice none 0 0, .bool false] ∧ w = w') ∨
      (n ≤ L.length ∧ ∃ a1, v = .tuple #[.slice a1 n n, .bool true] ∧ Bsl B w' a1 (L.take n) n ∧ Rd B r w' (L.drop n) q ∧ w.grownBy w' (some r) ∧ w'.heap.size = w.heap.size ∧ ∀ k, k ≠ r → w'.heap[k]? = w.heap[k]?)) ?_).mono ?_
  · unfold Vg.take.W
    refine ⟨_, _, rfl, _, _, _, cell_of_block hb rfl, ifD (fun h => .inl ⟨by omega, rfl, rfl⟩) (fun h => ?_)⟩
    have hcc := hs.1
    refine ⟨_, _, rfl, _, _, _, cell_of_block hb rfl, by omega, by omega, by omega, _, _, rfl, _, _, _, cell_of_block hb rfl, by omega, by omega, _, _, rfl, ?_⟩
    rw [Int.toNat_natCast]
    refine setStep hb (by simp) rfl fun w19 at19 same19 hsz19 hg19 => .inr ⟨by omega, _, rfl, ?_, ⟨hr, cutA a n c 1, c - n, ?_, (hs.cut n).kept fun k hk => same19 k (by omega), by omega⟩, hg19, hsz19, same19⟩
    · exact (hs.head n n (Nat.le_refl _) (by omega)).kept fun k hk => same19 k (by omega)
    · rw [List.length_drop]; exact at19
  · rintro e w' ⟨v, rfl, ⟨h1, rfl, h2⟩ | ⟨h1, a1, rfl, h2⟩⟩
    · exact .inl ⟨h1, rfl, h2⟩
    · exact .inr ⟨h1, a1, rfl, h2⟩

end Go.Proofs.YtkplhlciocbecaaDoor.Vf
