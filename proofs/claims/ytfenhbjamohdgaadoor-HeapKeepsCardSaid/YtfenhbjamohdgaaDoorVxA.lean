/- An executor over the model's code that keeps numbers, bools and strings apart: its definitions. -/
import Derived.OrdersHeld
import Derived.Tactics
import Derived.Below
import Derived.KernelRfl
import Derived.Deep.Draws
import Derived.Laws.IdiomCopy
namespace Go.Vx

/-! ### what is told of types -/
inductive TK where
  | bool | int (k : IntKind) | str | ptr (e : Nat) | sl (e : Nat) | agg (fs : List (Nat × Nat)) | arr (n e : Nat) | iface | map (k e : Nat) | fn | tuple (ts : List Nat) | other

/-- the form of one cell's value -/
inductive Sh where
  | bool | int (k : IntKind) | str | ptr | sl | any

structure Ty where
  tk : TK
  size : Nat
  bytes : Nat
  zero : List Value
  sh : List Sh

abbrev Tys := List (Nat × Ty)

def look : Tys → Nat → Option Ty
  | [], _ => none
  | (i, y) :: r, t => cond (Nat.beq i t) (some y) (look r t)

def TK.ok (P : Program) (t : Nat) : TK → Prop
  | .bool => P.underlying t = some .bool
  | .int k => P.underlying t = some (.int k)
  | .str => P.underlying t = some .string
  | .ptr e => P.underlying t = some (.pointer e)
  | .sl e => P.underlying t = some (.slice e)
  | .agg fs => ∃ f, P.underlying t = some (.struct f) ∧ f.toList.map (fun x => (x.offset, x.type)) = fs
  | .arr n e => P.underlying t = some (.array n e)
  | .iface => ∃ ms, P.underlying t = some (.interface ms)
  | .map k e => P.underlying t = some (.map k e)
  | .fn => ∃ a b c, P.underlying t = some (.func a b c)
  | .tuple _ | .other => True

structure Ty.Ok (P : Program) (t : Nat) (y : Ty) : Prop where
  tk : y.tk.ok P t
  info : (P.info? t).map (fun i => (i.size, i.bytes)) = some (y.size, y.bytes)
  zero : (P.info? t).bind (fun i => i.zero.map (fun z => z.cells.toList)) = some y.zero
  zs : y.zero.length = y.size

def AllOk (P : Program) : Tys → Prop
  | [] => True
  | (i, y) :: r => y.Ok P i ∧ AllOk P r

theorem ok_of_look {P : Program} : ∀ {tys : Tys}, AllOk P tys → ∀ {t y}, look tys t = some y → y.Ok P t
  | (i, z) :: r, h, t, y, hl => by
    simp only [look] at hl
    cases hb : Nat.beq i t with
    | true => rw [hb] at hl; cases hl; exact Nat.eq_of_beq_eq_true hb ▸ h.1
    | false => rw [hb] at hl; exact ok_of_look h.2 hl

/-! ### slots -/
abbrev Env := Nat → Value
def Env.put (e : Env) : Option Nat → Value → Env
  | none, _ => e
  | some d, v => fun t => cond (Nat.beq t d) v (e t)

def ev (e : Env) : Operand → Value
  | .tmp t => e t
  | .const v => v
  | .global g => .pointer (some ⟨g, 0, none⟩)
  | .func f => .func (.func f) #[] #[]

/-! ### forms -/
def Sh.ex : Sh → (Value → Prop) → Prop
  | .bool, K => ∃ b : Bool, K (.bool b)
  | .int k, K => ∃ n : Int, K (.int k n)
  | .str, K => ∃ s : ByteArray, K (.string s)
  | .ptr, K => ∃ a : Option Addr, K (.pointer a)
  | .sl, K => ∃ (a : Option Addr) (n c : Nat), K (.slice a n c)
  | .any, K => ∃ v : Value, K v

def exL : List Sh → (List Value → Prop) → Prop
  | [], K => K []
  | s :: r, K => s.ex fun v => exL r fun vs => K (v :: vs)

theorem Sh.ex_elim {s : Sh} {K : Value → Prop} (h : s.ex K) : ∃ v, K v := by
  cases s
  · exact ⟨_, h.choose_spec⟩
  · exact ⟨_, h.choose_spec⟩
  · exact ⟨_, h.choose_spec⟩
  · exact ⟨_, h.choose_spec⟩
  · obtain ⟨a, n, c, h⟩ := h; exact ⟨_, h⟩
  · exact h

theorem Sh.ex_mono {s : Sh} {K K' : Value → Prop} (hk : ∀ v, K v → K' v) (h : s.ex K) : s.ex K' := by
  cases s
  · exact h.imp fun _ => hk _
  · exact h.imp fun _ => hk _
  · exact h.imp fun _ => hk _
  · exact h.imp fun _ => hk _
  · exact h.imp fun _ => Exists.imp fun _ => Exists.imp fun _ => hk _
  · exact h.imp fun _ => hk _

theorem exL_elim : ∀ {l : List Sh} {K : List Value → Prop}, exL l K → ∃ vs, vs.length = l.length ∧ K vs
  | [], _, h => ⟨[], rfl, h⟩
  | s :: r, K, h => by
    obtain ⟨v, h⟩ := Sh.ex_elim h
    obtain ⟨vs, hl, h⟩ := exL_elim h
    exact ⟨v :: vs, by simp [hl], h⟩

theorem exL_mono : ∀ {l : List Sh} {K K' : List Value → Prop}, (∀ v, K v → K' v) → exL l K → exL l K'
  | [], _, _, hk, h => hk _ h
  | _ :: _, _, _, hk, h => Sh.ex_mono (fun _ => exL_mono fun _ => hk _) h

/-! ### cells -/
def cellsAt (w : World) (b : Nat) : Nat → List Value → Prop
  | _, [] => True
  | o, v :: vs => w.cell? ⟨b, o, none⟩ = some v ∧ cellsAt w b (o + 1) vs

def canSt (w : World) (b : Nat) : Nat → List Value → Prop
  | _, [] => True
  | o, v :: vs => ((∃ u, w.cell? ⟨b, o, none⟩ = some u) ∧ w.frozen? ⟨b, o, none⟩ = false ∧ v.oneCell' = true) ∧ canSt w b (o + 1) vs

def setL (w : World) (b : Nat) : Nat → List Value → World
  | _, [] => w
  | o, v :: vs => setL (w.setCell ⟨b, o, none⟩ v) b (o + 1) vs

def newP (w : World) : Value := .pointer (some ⟨w.heap.size, 0, none⟩)

def withW (w : World) (G : World → Prop) : Prop := G w

/-- a run that ends well -/
def Runs {α : Type} (P : Program) (s : Sem α) (w : World) (a : α) (w' : World) : Prop := s.run P w = .ok a w'

def IsNil (v : Value) (r : Bool) : Prop := (v = .nilIface ∧ r = true) ∨ (∃ t x, v = .iface t x ∧ r = false)

def cutA (a : Option Addr) (l m size : Nat) : Option Addr := if m = l then a else a.map (·.add (l * size))

def zerosA (zero : List Value) (n : Nat) : Array Value := (Array.range (n * zero.length)).map (zero.toArray[· % zero.toArray.size]!)

/-! ### operations on values -/
def intBin (op : BinOp) (k : IntKind) (a b : Int) : Option Value :=
  match op with
  | .add => some (.int k (k.wrap (a + b)))
  | .sub => some (.int k (k.wrap (a - b)))
  | .mul => some (.int k (k.wrap (a * b)))
  | .eql => some (.bool (a == b))
  | .neq => some (.bool (a != b))
  | .lss => some (.bool (decide (a < b)))
  | .leq => some (.bool (decide (a ≤ b)))
  | .gtr => some (.bool (decide (a > b)))
  | .geq => some (.bool (decide (a ≥ b)))
  | .and => some (.int k (k.wrap (BitVec.ofInt k.bits a &&& BitVec.ofInt k.bits b).toNat))
  | .or => some (.int k (k.wrap (BitVec.ofInt k.bits a ||| BitVec.ofInt k.bits b).toNat))
  | .xor => some (.int k (k.wrap (BitVec.ofInt k.bits a ^^^ BitVec.ofInt k.bits b).toNat))
  | .andNot => some (.int k (k.wrap (BitVec.ofInt k.bits a &&& ~~~BitVec.ofInt k.bits b).toNat))
  | _ => none

/-- the operations whose operands are numbers, with what they ask -/
def intW (op : BinOp) (k k' : IntKind) (a b : Int) (K : Value → Prop) : Prop :=
  match op with
  | .shl => 0 ≤ b ∧ K (.int k (k.wrap (a * 2 ^ min b.toNat k.bits)))
  | .shr => 0 ≤ b ∧ K (.int k (a.fdiv (2 ^ min b.toNat k.bits)))
  | .quo => k = k' ∧ b ≠ 0 ∧ K (.int k (k.wrap (a.tdiv b)))
  | .rem => k = k' ∧ b ≠ 0 ∧ K (.int k (a.tmod b))
  | _ => if k = k' then (match intBin op k a b with | some v => K v | none => False) else False

def strBin (op : BinOp) (a b : ByteArray) (K : Value → Prop) : Prop :=
  match op with
  | .add => ((a.size + b.size : Nat) : Int) ≤ IntKind.i64.max ∧ K (.string (a ++ b))
  | .eql => K (.bool (a.toList == b.toList))
  | .neq => K (.bool !(a.toList == b.toList))
  | .lss => K (.bool (Op.bytesLess a.toList b.toList))
  | .leq => K (.bool (Op.bytesLess a.toList b.toList || a.toList == b.toList))
  | .gtr => K (.bool !(Op.bytesLess a.toList b.toList || a.toList == b.toList))
  | .geq => K (.bool !(Op.bytesLess a.toList b.toList))
  | _ => False

def semEq (op : BinOp) (t : Nat) (xo yo : Operand) (x y : Value) : Sem Value := do eqGuard op t xo yo x y; binOp op t x y

def flip (op : BinOp) (b : Bool) : Bool := match op with | .neq => !b | _ => b

def isEq : BinOp → Bool
  | .eql | .neq => true
  | _ => false

/-- does this comparison look into memory, or need the model's own run? -/
def eqNeeds (tys : Tys) (op : BinOp) (t : Nat) (yo : Operand) : Bool :=
  cond (isEq op) (match look tys t with
    | some y => match y.tk with
      | .bool => false
      | .int _ => false
      | .str => false
      | .sl _ => false
      | .map _ _ => false
      | .ptr _ => match yo with
        | .const (.pointer none) => false
        | _ => true
      | .iface => match yo with
        | .const .nilIface => false
        | _ => true
      | _ => true
    | none => true) false

def nilEqP (tys : Tys) (op : BinOp) (t : Nat) (yo : Operand) (x : Value) (K : Value → Prop) : Prop :=
  match yo with
  | .const .nilIface => cond (isEq op) (match look tys t with | some ⟨.iface, _, _, _, _⟩ => ∃ r, IsNil x r ∧ K (.bool (flip op r)) | _ => False) False
  | _ => False

def binV (tys : Tys) (op : BinOp) (t : Nat) (x y : Value) (K : Value → Prop) : Prop :=
  match x with
  | .int k a => match y with
    | .int k' b => intW op k k' a b K
    | _ => False
  | .string a => match y with
    | .string b => strBin op a b K
    | _ => False
  | .bool a => match y with
    | .bool b => cond (isEq op) (match look tys t with | some ⟨.bool, _, _, _, _⟩ => K (.bool (flip op (a == b))) | _ => False) False
    | _ => False
  | .pointer a => match y with
    | .pointer none => cond (isEq op) (match look tys t with | some ⟨.ptr _, _, _, _, _⟩ => K (.bool (flip op a.isNone)) | _ => False) False
    | _ => False
  | .slice a _ _ => match y with
    | .slice none _ _ => cond (isEq op) (match look tys t with | some ⟨.sl _, _, _, _, _⟩ => K (.bool (flip op a.isNone)) | _ => False) False
    | _ => False
  | .map a => match y with
    | .map none => cond (isEq op) (match look tys t with | some ⟨.map _ _, _, _, _, _⟩ => K (.bool (flip op a.isNone)) | _ => False) False
    | _ => False
  | _ => False

def isNilC : Operand → Bool
  | .const .nilIface => true
  | _ => false

def binP (tys : Tys) (op : BinOp) (t : Nat) (yo : Operand) (x y : Value) (K : Value → Prop) : Prop :=
  cond (isNilC yo) (nilEqP tys op t yo x K) (binV tys op t x y K)

/-- is this conversion one of numbers, or of texts? -/
def convPure (tys : Tys) (s d : Nat) : Bool :=
  match look tys s with
  | some ys => match look tys d with
    | some yd => match yd.tk with
      | .int _ => match ys.tk with
        | .int _ => true
        | _ => false
      | .str => match ys.tk with
        | .str => true
        | _ => false
      | _ => false
    | none => false
  | none => false

def convP (tys : Tys) (s d : Nat) (x : Value) (K : Value → Prop) : Prop :=
  match look tys s with
  | some ys => match look tys d with
    | some yd => match yd.tk with
      | .int k => match x with
        | .int _ n => match ys.tk with
          | .int _ => K (.int k (k.wrap n))
          | _ => False
        | _ => False
      | .str => match x with
        | .string a => match ys.tk with
          | .str => K (.string a)
          | _ => False
        | _ => False
      | _ => False
    | none => False
  | none => False

def convW (P : Program) (tys : Tys) (s d : Nat) (x : Value) (w : World) (K : Value → World → Prop) : Prop :=
  match look tys d with
  | some yd => match yd.tk with
    | .sl _ => ∃ (a : Option Addr) (n c : Nat) (w' : World), Runs P (convert s d x) w (.slice a n c) w' ∧ K (.slice a n c) w'
    | _ => False
  | none => False

def toStr (tys : Tys) (d : Nat) : Bool :=
  match look tys d with
  | some yd => match yd.tk with
    | .str => true
    | _ => false
  | none => false

def sliceW (tys : Tys) (t : Nat) (x : Value) (lo hi mx : Option Value) (K : Value → Prop) : Prop :=
  match x with
  | .string s => match look tys t with
    | some ⟨.str, _, _, _, _⟩ => match mx with
      | some _ => False
      | none => match hi with
        | none => match lo with
          | none => K (.string (s.extract 0 s.size))
          | some (.int _ l) => 0 ≤ l ∧ l ≤ s.size ∧ K (.string (s.extract l.toNat s.size))
          | _ => False
        | some (.int _ h) => match lo with
          | none => 0 ≤ h ∧ h ≤ s.size ∧ K (.string (s.extract 0 h.toNat))
          | some (.int _ l) => 0 ≤ l ∧ l ≤ h ∧ h ≤ s.size ∧ K (.string (s.extract l.toNat h.toNat))
          | _ => False
        | _ => False
    | _ => False
  | .slice a n c => match look tys t with
    | some ⟨.sl el, _, _, _, _⟩ => match look tys el with
      | some ye => match mx with
        | none => match hi with
          | none => match lo with
            | none => K (.slice (cutA a 0 c ye.size) n c)
            | some (.int _ l) => 0 ≤ l ∧ l ≤ n ∧ K (.slice (cutA a l.toNat c ye.size) (n - l.toNat) (c - l.toNat))
            | _ => False
          | some (.int _ h) => match lo with
            | none => 0 ≤ h ∧ h ≤ c ∧ K (.slice (cutA a 0 c ye.size) h.toNat c)
            | some (.int _ l) => 0 ≤ l ∧ l ≤ h ∧ h ≤ c ∧ K (.slice (cutA a l.toNat c ye.size) (h.toNat - l.toNat) (c - l.toNat))
            | _ => False
          | _ => False
        | some (.int _ m) => match hi with
          | some (.int _ h) => match lo with
            | none => 0 ≤ h ∧ h ≤ m ∧ m ≤ c ∧ K (.slice (cutA a 0 m.toNat ye.size) h.toNat m.toNat)
            | some (.int _ l) => 0 ≤ l ∧ l ≤ h ∧ h ≤ m ∧ m ≤ c ∧ K (.slice (cutA a l.toNat m.toNat ye.size) (h.toNat - l.toNat) (m.toNat - l.toNat))
            | _ => False
          | _ => False
        | _ => False
      | none => False
    | _ => False
  | _ => False

/-- a built-in function that looks at nothing but its operands -/
def builtPure (tys : Tys) (b : Builtin) (ts : Array TypeId) : Bool :=
  match b with
  | .len => match look tys (ts.toList.headD 0) with
    | some ⟨.str, _, _, _, _⟩ => true
    | some ⟨.sl _, _, _, _, _⟩ => true
    | _ => false
  | .cap => true
  | .min => true
  | .max => true
  | _ => false

def builtP (tys : Tys) (b : Builtin) (ts : Array TypeId) (args : List Value) (K : Value → Prop) : Prop :=
  match b with
  | .len => match args with
    | [.string s] => match look tys (ts.toList.headD 0) with
      | some ⟨.str, _, _, _, _⟩ => cond (Nat.beq ts.size 1) (K (.int .i64 s.size)) False
      | _ => False
    | [.slice _ n _] => match look tys (ts.toList.headD 0) with
      | some ⟨.sl _, _, _, _, _⟩ => cond (Nat.beq ts.size 1) (K (.int .i64 n)) False
      | _ => False
    | _ => False
  | .cap => match args with
    | [.slice _ _ c] => match look tys (ts.toList.headD 0) with
      | some ⟨.sl _, _, _, _, _⟩ => cond (Nat.beq ts.size 1) (K (.int .i64 c)) False
      | _ => False
    | _ => False
  | .min => match args with
    | [.int k x, .int _ y] => K (.int k (if y < x then y else x))
    | _ => False
  | .max => match args with
    | [.int k x, .int _ y] => K (.int k (if x < y then y else x))
    | _ => False
  | _ => False

def builtW (P : Program) (b : Builtin) (ts : Array TypeId) (rt : Nat) (args : List Value) (w : World) (K : Value → World → Prop) : Prop :=
  match b with
  | .append => ∃ (a : Option Addr) (n c : Nat) (w' : World), Runs P (Builtin.append_ ts rt args.toArray) w (.slice a n c) w' ∧ K (.slice a n c) w'
  | .copy => ∃ (n : Int) (w' : World), Runs P (Builtin.copy_ ts rt args.toArray) w (.int .i64 n) w' ∧ K (.int .i64 n) w'
  | .delete => ∃ (v : Value) (w' : World), Runs P (Builtin.delete_ ts rt args.toArray) w v w' ∧ K v w'
  | _ => False

/-- the forms of a type's values (of a tuple's parts) -/
def shOf (tys : Tys) (t : Nat) : List Sh := match look tys t with | some y => y.sh | none => []

/-- a result of a type: one value, a struct, a tuple -/
def exT1 (tys : Tys) (t : Nat) (K : Value → Prop) : Prop :=
  match look tys t with
  | some y => match y.tk with
    | .agg _ => exL y.sh fun vs => K (.agg vs.toArray)
    | .arr _ _ => exL y.sh fun vs => K (.agg vs.toArray)
    | _ => match y.sh with
      | [s] => s.ex K
      | _ => False
  | none => False

def exTs (tys : Tys) : List Nat → (List Value → Prop) → Prop
  | [], K => K []
  | t :: r, K => exT1 tys t fun v => exTs tys r fun vs => K (v :: vs)

def exT (tys : Tys) (t : Nat) (K : Value → Prop) : Prop :=
  match look tys t with
  | some ⟨.tuple ts, _, _, _, _⟩ => exTs tys ts fun vs => K (.tuple vs.toArray)
  | _ => exT1 tys t K

/-- what functions hand back: of each its results' types -/
abbrev Fns := List (Nat × List Nat)
def lookF : Fns → Nat → Option (List Nat)
  | [], _ => none
  | (i, y) :: r, t => cond (Nat.beq i t) (some y) (lookF r t)

def retW (tys : Tys) (rs : List Nat) (K : Value → World → Prop) (e : Ending) (w : World) : Prop :=
  match rs with
  | [] => e = .returned (.tuple #[]) ∧ K (.tuple #[]) w
  | [t] => exT1 tys t fun v => e = .returned v ∧ K v w
  | rs => exTs tys rs fun vs => e = .returned (.tuple vs.toArray) ∧ K (.tuple vs.toArray) w

def callW (P : Program) (tys : Tys) (fns : Fns) (f : Value) (args : List Value) (w : World) (K : Value → World → Prop) : Prop :=
  match f with
  | .func (.func g) first captured => match lookF fns g with
    | some rs => Calls P g (first ++ args.toArray ++ captured) w (retW tys rs K)
    | none => False
  | _ => False

/-- the cells of a built value -/
def placesOf (tys : Tys) (fs : List (Nat × Nat)) : List (Nat × Nat) := fs.map fun (o, t) => (o, match look tys t with | some y => y.size | none => 0)

def setAt (cs : List Value) : Nat → List Value → List Value
  | _, [] => cs
  | i, v :: vs => setAt (cs.set i v) (i + 1) vs

def fillL (place : Nat → Option (Nat × Nat)) : List Value → List (Nat × Value) → Option (List Value)
  | cells, [] => some cells
  | cells, (i, v) :: rest => match place i with
    | none => none
    | some (off, size) => cond (Nat.beq v.cells.toList.length size && Nat.ble (off + v.cells.toList.length) cells.length) (fillL place (setAt cells off v.cells.toList) rest) none

def repL (n : Nat) (z : List Value) : List Value := match n with | 0 => [] | n + 1 => z ++ repL n z

def partW (tys : Tys) (t : Nat) (cs : List Value) (off : Nat) (K : Value → Prop) : Prop :=
  match look tys t with
  | some y => match y.tk with
    | .agg _ => K (.agg ((cs.drop off).take y.size).toArray)
    | .arr _ _ => K (.agg ((cs.drop off).take y.size).toArray)
    | .tuple _ => False
    | .other => False
    | _ => match cs[off]? with
      | some v => K v
      | none => False
  | none => False

/-- loads: the forms of the cells of a variable of type t, at a place -/
def loadW (tys : Tys) (t : Nat) (b o : Nat) (w : World) (K : List Value → Value → Prop) : Prop :=
  match look tys t with
  | some y => match y.tk with
    | .agg _ => cond (Nat.beq y.sh.length y.size) (exL y.sh fun vs => cellsAt w b o vs ∧ K vs (.agg vs.toArray)) False
    | .arr _ _ => cond (Nat.beq y.sh.length y.size) (exL y.sh fun vs => cellsAt w b o vs ∧ K vs (.agg vs.toArray)) False
    | .tuple _ => False
    | .other => False
    | _ => match y.sh with
      | [s] => s.ex fun v => w.cell? ⟨b, o, none⟩ = some v ∧ K [v] v
      | _ => False
  | none => False

/-- how an operation stands to memory -/
inductive QK where
  | pure | load | event

def kindOf (tys : Tys) (op : Op) : QK :=
  match op with
  | .move _ => .pure
  | .assign _ => .pure
  | .pick .. => .pure
  | .build .. => .pure
  | .nilCheck _ => .pure
  | .unOp .. => .pure
  | .makeInterface .. => .pure
  | .makeFunc .. => .pure
  | .slice .. => .pure
  | .fieldAddr .. => .pure
  | .field .. => .pure
  | .indexAddr .. => .pure
  | .index .. => .pure
  | .extract .. => .pure
  | .binOp op t _ y _ => cond (eqNeeds tys op t y) .load .pure
  | .convert s d _ => cond (convPure tys s d) .pure (cond (toStr tys d) .load .event)
  | .lookup .. => .load
  | .typeAssert .. => .load
  | .call c => match c.callee with
    | .builtin b => cond (builtPure tys b c.argTypes) .pure (match b with | .len => .load | _ => .event)
    | _ => .event
  | .load .. => .load
  | _ => .event

def pureW (P : Program) (tys : Tys) (o : Oper) (ρ : Operand → Value) (K : Value → Prop) : Prop :=
  match o.op with
  | .move x => K (ρ x)
  | .assign x => K (ρ x)
  | .pick c x y => match ρ c with
    | .bool b => cond b (K (ρ x)) (K (ρ y))
    | _ => False
  | .build t parts => match look tys t with
    | some y => match y.tk with
      | .agg fs => match fillL (fun i => (placesOf tys fs)[i]?) y.zero (parts.toList.map fun (i, x) => (i, ρ x)) with
        | some cs => cond (fs.all fun f => (look tys f.2).isSome) (K (.agg cs.toArray)) False
        | none => False
      | _ => False
    | none => False
  | .nilCheck x => match ρ x with
    | .pointer a => ∃ b f, a = some ⟨b, f, none⟩ ∧ K (.pointer (some ⟨b, f, none⟩))
    | .func (.func g) p q => K (.func (.func g) p q)
    | _ => False
  | .binOp op t x y _ => binP tys op t y (ρ x) (ρ y) K
  | .unOp op _ x => match op with
    | .not => match ρ x with
      | .bool b => K (.bool (!b))
      | _ => False
    | .neg => match ρ x with
      | .int k n => K (.int k (k.wrap (0 - n)))
      | _ => False
    | _ => False
  | .convert s d x => convP tys s d (ρ x) K
  | .makeInterface t x => match look tys t with
    | some y => match y.tk with
      | .iface => False
      | .tuple _ => False
      | .other => False
      | _ => K (.iface t (ρ x))
    | none => False
  | .makeFunc fn first captured => K (.func fn (first.toList.map ρ).toArray (captured.toList.map ρ).toArray)
  | .slice t x lo hi mx => sliceW tys t (ρ x) (lo.map ρ) (hi.map ρ) (mx.map ρ) K
  | .fieldAddr s x i => match ρ x with
    | .pointer (some ⟨b, f, none⟩) => match look tys s with
      | some y => match y.tk with
        | .agg fs => match fs[i]? with
          | some (off, ft) => match look tys ft with
            | some yf => cond (Nat.beq yf.size 0) False (K (.pointer (some ⟨b, f + off, none⟩)))
            | none => False
          | none => False
        | _ => False
      | none => False
    | _ => False
  | .field s x i => match ρ x with
    | .agg cs => match look tys s with
      | some y => match y.tk with
        | .agg fs => match fs[i]? with
          | some (off, ft) => partW tys ft cs.toList off K
          | none => False
        | _ => False
      | none => False
    | _ => False
  | .indexAddr t x i => match ρ i with
    | .int _ j => match look tys t with
      | some y => match y.tk with
        | .sl el => match look tys el with
          | some ye => match ρ x with
            | .slice a n _ => ∃ b f, a = some ⟨b, f, none⟩ ∧ 0 ≤ j ∧ j < n ∧ K (.pointer (some ⟨b, f + j.toNat * ye.size, none⟩))
            | _ => False
          | none => False
        | .arr n el => match look tys el with
          | some ye => match ρ x with
            | .pointer (some ⟨b, f, none⟩) => 0 ≤ j ∧ j < n ∧ K (.pointer (some ⟨b, f + j.toNat * ye.size, none⟩))
            | _ => False
          | none => False
        | _ => False
      | none => False
    | _ => False
  | .index t x i => match ρ i with
    | .int _ j => match look tys t with
      | some y => match y.tk with
        | .str => match ρ x with
          | .string s => 0 ≤ j ∧ ∃ c : UInt8, s[j.toNat]? = some c ∧ K (.int .u8 c.toNat)
          | _ => False
        | .arr n el => match look tys el with
          | some ye => match ρ x with
            | .agg cs => 0 ≤ j ∧ j < n ∧ ∃ v, (∀ w, Runs P (part el cs (j.toNat * ye.size)) w v w) ∧ K v
            | _ => False
          | none => False
        | _ => False
      | none => False
    | _ => False
  | .extract x i => match ρ x with
    | .tuple vs => match vs.toList[i]? with
      | some v => K v
      | none => False
    | _ => False
  | .call c => match c.callee with
    | .builtin b => builtP tys b c.argTypes (c.args.toList.map ρ) K
    | _ => False
  | _ => False

def eventW (P : Program) (tys : Tys) (fns : Fns) (o : Oper) (ρ : Operand → Value) (w : World) (K : Value → World → Prop) : Prop :=
  match o.op with
  | .alloc t => match look tys t with
    | some y => K (newP w) (w.alloc (.cells y.zero.toArray t))
    | none => False
  | .box t x => K (newP w) (w.alloc (.cells (ρ x).cells.toList.toArray t))
  | .buildSlice t len parts => match look tys t with
    | some ⟨.sl el, _, _, _, _⟩ => match look tys el with
      | some ye => cond (Nat.ble (len * ye.size) 4096) (match fillL (fun i => some (i * ye.size, ye.size)) (repL len ye.zero) (parts.toList.map fun (i, x) => (i, ρ x)) with
        | some cs => K (.slice (some ⟨w.heap.size, 0, none⟩) len len) (w.alloc (.cells cs.toArray el))
        | none => False) False
      | none => False
    | _ => False
  | .store t x v => match ρ x with
    | .pointer (some ⟨b, f, none⟩) => match look tys t with
      | some y => cond (Nat.beq (ρ v).cells.toList.length y.size) (canSt w b f (ρ v).cells.toList ∧ K undef (setL w b f (ρ v).cells.toList)) False
      | none => False
    | _ => False
  | .convert s d x => convW P tys s d (ρ x) w K
  | .makeMap _ none => K (.map (some w.heap.size)) (w.alloc (.map #[] 0))
  | .makeSlice t l c => match look tys t with
    | some ⟨.sl el, _, _, _, _⟩ => match look tys el with
      | some ye => match ρ l with
        | .int .i64 n => match ρ c with
          | .int .i64 m => 0 ≤ n ∧ n ≤ m ∧ m ≤ 140737488355328 ∧ ye.bytes * m ≤ 140737488355328 ∧ K (.slice (some ⟨w.heap.size, 0, none⟩) n.toNat m.toNat) (w.alloc (.cells (zerosA ye.zero m.toNat) el))
          | _ => False
        | _ => False
      | none => False
    | _ => False
  | .mapUpdate t m k x => ∃ w', Runs P (Instr.mapUpdate t (ρ m) (ρ k) (ρ x)) w () w' ∧ K undef w'
  | .insert t m k x => ∃ w', Runs P (Instr.mapUpdate t (ρ m) (ρ k) (ρ x)) w () w' ∧ K undef w'
  | .mapEntry t m k => ∃ (v : Value) (w' : World), Runs P (Instr.mapEntry t (ρ m) (ρ k)) w v w' ∧ K v w'
  | .entryStore t m s x => ∃ w', Runs P (Instr.entryStore t (ρ m) (ρ s) (ρ x)) w () w' ∧ K undef w'
  | .range t x => ∃ (v : Value) (w' : World), Runs P (Instr.range t (ρ x)) w v w' ∧ K v w'
  | .next it s => ∃ w', exT tys o.type fun v => Runs P (Instr.next (ρ it) s o.type) w v w' ∧ K v w'
  | .entry it => ∃ (v : Value) (w' : World), Runs P (Instr.entry (ρ it)) w v w' ∧ K v w'
  | .call c => match c.callee with
    | .value f => callW P tys fns (ρ f) (c.args.toList.map ρ) w K
    | .builtin b => builtW P b c.argTypes o.type (c.args.toList.map ρ) w K
    | _ => False
  | _ => False

/-- what looks into memory, with the condition under which it sees the same -/
def ldW (P : Program) (tys : Tys) (o : Oper) (ρ : Operand → Value) (w : World) (K : (World → Prop) → Value → Prop) : Prop :=
  match o.op with
  | .load t x => match ρ x with
    | .pointer (some ⟨b, f, none⟩) => loadW tys t b f w fun vs v => K (fun w' => cellsAt w' b f vs) v
    | _ => False
  | .binOp op t x y _ => ∃ r : Bool, Runs P (semEq op t x y (ρ x) (ρ y)) w (.bool r) w ∧ K (fun w' => Runs P (semEq op t x y (ρ x) (ρ y)) w' (.bool r) w') (.bool r)
  | .convert s d x => ∃ r : ByteArray, Runs P (convert s d (ρ x)) w (.string r) w ∧ K (fun w' => Runs P (convert s d (ρ x)) w' (.string r) w') (.string r)
  | .lookup t x i ok => exT tys o.type fun v => Runs P (Instr.lookup t (ρ x) (ρ i) ok) w v w ∧ K (fun w' => Runs P (Instr.lookup t (ρ x) (ρ i) ok) w' v w') v
  | .typeAssert x xt t ok => exT tys o.type fun v => Runs P (Instr.typeAssert (ρ x) xt t ok) w v w ∧ K (fun w' => Runs P (Instr.typeAssert (ρ x) xt t ok) w' v w') v
  | .call c => match c.callee with
    | .builtin .len => ∃ n : Int, Runs P (Builtin.len_ c.argTypes o.type (c.args.toList.map ρ).toArray) w (.int .i64 n) w ∧ K (fun w' => Runs P (Builtin.len_ c.argTypes o.type (c.args.toList.map ρ).toArray) w' (.int .i64 n) w') (.int .i64 n)
    | _ => False
  | _ => False

def opW (P : Program) (tys : Tys) (fns : Fns) (o : Oper) (ρ : Operand → Value) (w : World) (K : Value → World → Prop) : Prop :=
  match kindOf tys o.op with
  | .pure => pureW P tys o ρ fun v => K v w
  | .load => ldW P tys o ρ w fun _ v => K v w
  | .event => eventW P tys fns o ρ w K

/-! ### regions -/
def slotOf (ops : Array Oper) (j : Nat) : Option Nat := match ops.toList[j]? with | some o => o.dst | none => none

def guardW (ops : Array Oper) (o : Oper) (e : Env) (yes no : Env → Prop) : Prop :=
  match o.guard with
  | none => yes e
  | some (j, want) => match slotOf ops j with
    | none => False
    | some s => match e s with
      | .bool b => cond b (cond want (yes (e.put (some s) (.bool true))) (no (e.put (some s) (.bool true)))) (cond want (no (e.put (some s) (.bool false))) (yes (e.put (some s) (.bool false))))
      | _ => no e

def regW (P : Program) (tys : Tys) (fns : Fns) (ops : Array Oper) : List Oper → Env → World → (Env → World → Prop) → Prop
  | [], e, w, K => K e w
  | o :: r, e, w, K => guardW ops o e
      (fun e' => opW P tys fns o (ev e') w fun v w' => regW P tys fns ops r (e'.put o.dst v) w' K)
      (fun e' => regW P tys fns ops r (e'.put o.dst undef) w K)

/-- does operation j wait for operation i? -/
def downB (ops : List Oper) : Nat → Nat → Nat → Bool
  | 0, _, _ => false
  | n + 1, j, i => match ops[j]? with
    | some o => o.after.toList.any fun x => Region.binds .any x && (Nat.beq x.on i || downB ops n x.on i)
    | none => false

def hasB (l : List Nat) (i : Nat) : Bool := l.any fun j => Nat.beq j i

abbrev Pend := List (Nat × (World → Prop))
def keepW (ops : List Oper) (j : Nat) (w : World) (p : Prop) : Pend → Prop
  | [] => p
  | (i, c) :: r => cond (downB ops ops.length j i) (keepW ops j w p r) (c w ∧ keepW ops j w p r)

def drawW (P : Program) (tys : Tys) (fns : Fns) (ops : Array Oper) : List Nat → Pend → Env → World → (Env → World → Prop) → Prop
  | [], _, e, w, K => K e w
  | i :: r, pend, e, w, K => match ops.toList[i]? with
    | none => False
    | some o => guardW ops o e
        (fun e' => match kindOf tys o.op with
          | .pure => pureW P tys o (ev e') fun v => drawW P tys fns ops r pend (e'.put o.dst v) w K
          | .load => ldW P tys o (ev e') w fun c v => drawW P tys fns ops r ((i, c) :: pend) (e'.put o.dst v) w K
          | .event => eventW P tys fns o (ev e') w fun v w' => keepW ops.toList i w' (drawW P tys fns ops r pend (e'.put o.dst v) w' K) pend)
        (fun e' => drawW P tys fns ops r pend (e'.put o.dst undef) w K)

def drawOk (tys : Tys) (ops : Array Oper) : List Nat → Array Bool → Bool
  | [], listed => (Region.ready .any ops listed).isEmpty
  | i :: r, listed => (Region.ready .any ops listed).contains i && (match ops[i]? with
    | some o => (match kindOf tys o.op with
      | .event => (Region.ready .any ops listed == [i])
      | _ => Region.free .any ops listed i)
    | none => false) && drawOk tys ops r (listed.setIfInBounds i true)

/-! ### code -/
structure Hints where
  orders : List (Nat × List Nat)      -- of a region that draws: the order in which it is gone through
  loops : List (Nat × List (Nat × Sh))      -- of a loop, by its first region's number: what changes in it

def lookO {α : Type} : List (Nat × α) → Nat → Option α
  | [], _ => none
  | (i, y) :: r, t => cond (Nat.beq i t) (some y) (lookO r t)

def firstReg : Code → Nat
  | .region id _ _ => id
  | .seq a _ => firstReg a
  | .cond _ a _ => firstReg a
  | .block _ a => firstReg a
  | .loop a => firstReg a
  | _ => 0

def dstsOf (ops : Array Oper) : List Nat := ops.toList.flatMap fun o => (match o.dst with | some d => [d] | none => []) ++ (match o.guard with | some (j, _) => (match slotOf ops j with | some s => [s] | none => []) | none => [])

def assigned (hs : Hints) : Code → List Nat
  | .region _ ops _ => dstsOf ops
  | .seq a b => assigned hs a ++ assigned hs b
  | .cond c a b => (match c with | .tmp t => [t] | _ => []) ++ (assigned hs a ++ assigned hs b)
  | .block _ a => assigned hs a
  | .loop a => assigned hs a ++ (match lookO hs.loops (firstReg a) with | some l => l.map (·.1) | none => [])
  | _ => []

def mixE (e : Env) (S : List (Nat × Sh)) (vs : List Value) (asg : List Nat) (junk : Env) : Env :=
  match S, vs with
  | (t, _) :: r, v :: vs => Env.put (mixE e r vs asg junk) (some t) v
  | _, _ => fun t => cond (hasB asg t) (junk t) (e t)

def cW (P : Program) (tys : Tys) (fns : Fns) (hs : Hints) : Code → (Exit → Env → World → Prop) → Env → World → Prop
  | .skip, Q, e, w => Q .normal e w
  | .ret, Q, e, w => Q .ret e w
  | .exit id, Q, e, w => Q (.exit id) e w
  | .region id ops draw, Q, e, w => cond draw
      (match lookO hs.orders id with | some l => drawW P tys fns ops l [] e w.drew (fun e w => Q .normal e w) | none => False)
      (regW P tys fns ops ops.toList e w (fun e w => Q .normal e w))
  | .seq a b, Q, e, w => cW P tys fns hs a (fun ex e w => match ex with
      | .normal => cW P tys fns hs b Q e w
      | ex => Q ex e w) e w
  | .cond c a b, Q, e, w => match ev e c with
    | .bool t => match c with
      | .tmp s => cond t (cW P tys fns hs a Q (e.put (some s) (.bool true)) w) (cW P tys fns hs b Q (e.put (some s) (.bool false)) w)
      | _ => cond t (cW P tys fns hs a Q e w) (cW P tys fns hs b Q e w)
    | _ => False
  | .block id a, Q, e, w => cW P tys fns hs a (fun ex e w => match ex with
      | .exit i => cond (Nat.beq i id) (Q .normal e w) (Q (.exit i) e w)
      | ex => Q ex e w) e w
  | .loop a, Q, e, w => match lookO hs.loops (firstReg a) with
    | some S => ∃ (I : List Value → World → Prop) (μ : List Value → World → Nat), I (S.map fun s => e s.1) w ∧
        ∀ (junk : Env) (vs : List Value) (w : World), I vs w → exL (S.map (·.2)) fun us => vs = us ∧
          cW P tys fns hs a (fun ex e' w' => match ex with
            | .normal => I (S.map fun s => e' s.1) w' ∧ μ (S.map fun s => e' s.1) w' < μ us w
            | ex => Q ex e' w') (mixE e S us (assigned hs a) junk) w
    | none => False
  | _, _, _, _ => False

/-! ### functions -/
def resL (tys : Tys) (e : Env) (w : World) : List ResultVar → (List Value → Prop) → Prop
  | [], K => K []
  | .tmp t :: r, K => resL tys e w r fun vs => K (e t :: vs)
  | .cell t ty :: r, K => match e t with
    | .pointer (some ⟨b, f, none⟩) => loadW tys ty b f w fun _ v => resL tys e w r fun vs => K (v :: vs)
    | _ => False

def oneOr : List Value → Value
  | [v] => v
  | vs => .tuple vs.toArray

/-- the fixed conditions on a function's code -/
def codeOk (tys : Tys) (hs : Hints) (n : Nat) : Code → Bool
  | .region id ops draw => ((dstsOf ops).all fun d => Nat.ble (d + 1) n) && cond draw (match lookO hs.orders id with
    | some l => Nat.ble l.length ops.size && Region.noSelect ops && drawOk tys ops l (Array.replicate ops.size false)
    | none => false) true
  | .seq a b => codeOk tys hs n a && codeOk tys hs n b
  | .cond c a b => (match c with | .tmp t => Nat.ble (t + 1) n | _ => true) && (codeOk tys hs n a && codeOk tys hs n b)
  | .block _ a => codeOk tys hs n a
  | .loop a => codeOk tys hs n a
  | _ => true

def fnW (P : Program) (tys : Tys) (fns : Fns) (hs : Hints) (fn : Func) (args : List Value) (w : World) (R : Value → World → Prop) : Prop :=
  match fn.body with
  | some c => cW P tys fns hs c (fun ex e w => match ex with
      | .normal => resL tys e w fn.results.toList fun vs => R (oneOr vs) w
      | .ret => resL tys e w fn.results.toList fun vs => R (oneOr vs) w
      | _ => False) (fun t => args.getD t undef) w
  | none => False

end Go.Vx
