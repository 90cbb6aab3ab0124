/- Maps whose keys are ints, with whatever values of one cell. -/
import Derived.OrdersHeld
import Derived.Tactics
import Derived.Below
import Derived.KernelRfl
import Derived.Deep.Draws
import Derived.Laws.IdiomCopy
import Derived.Laws.Strings
import Derived.Laws.IdiomArrays
import Derived.Lib.AppendStr
import Derived.Laws.BytesString
import Derived.Laws.AppendOwn
import Derived.LaidEql
import Derived.Deep.Upon
import Derived.MapKept
/- part VxA -/
section
namespace Go.Vx

/-! ### what is told of types -/
inductive TK where
  | bool | int (k : IntKind) | str | ptr (e : Nat) | sl (e : Nat) | agg (fs : List (Nat × Nat)) | arr (n e : Nat) | iface | map (k e : Nat) | fn | tuple (ts : List Nat) | other

/-- the form of one cell's value -/
inductive Sh where
  | bool | int (k : IntKind) | str | ptr | sl | any

structure Ty where
  tk : TK
  size : Nat
  bytes : Nat
  zero : List Value
  sh : List Sh

abbrev Tys := List (Nat × Ty)

def look : Tys → Nat → Option Ty
  | [], _ => none
  | (i, y) :: r, t => cond (Nat.beq i t) (some y) (look r t)

def TK.ok (P : Program) (t : Nat) : TK → Prop
  | .bool => P.underlying t = some .bool
  | .int k => P.underlying t = some (.int k)
  | .str => P.underlying t = some .string
  | .ptr e => P.underlying t = some (.pointer e)
  | .sl e => P.underlying t = some (.slice e)
  | .agg fs => ∃ f, P.underlying t = some (.struct f) ∧ f.toList.map (fun x => (x.offset, x.type)) = fs
  | .arr n e => P.underlying t = some (.array n e)
  | .iface => ∃ ms, P.underlying t = some (.interface ms)
  | .map k e => P.underlying t = some (.map k e)
  | .fn => ∃ a b c, P.underlying t = some (.func a b c)
  | .tuple _ | .other => True

structure Ty.Ok (P : Program) (t : Nat) (y : Ty) : Prop where
  tk : y.tk.ok P t
  info : (P.info? t).map (fun i => (i.size, i.bytes)) = some (y.size, y.bytes)
  zero : (P.info? t).bind (fun i => i.zero.map (fun z => z.cells.toList)) = some y.zero
  zs : y.zero.length = y.size

def AllOk (P : Program) : Tys → Prop
  | [] => True
  | (i, y) :: r => y.Ok P i ∧ AllOk P r

theorem ok_of_look {P : Program} : ∀ {tys : Tys}, AllOk P tys → ∀ {t y}, look tys t = some y → y.Ok P t
  | (i, z) :: r, h, t, y, hl => by
    simp only [look] at hl
    cases hb : Nat.beq i t with
    | true => rw [hb] at hl; cases hl; exact Nat.eq_of_beq_eq_true hb ▸ h.1
    | false => rw [hb] at hl; exact ok_of_look h.2 hl

/-! ### slots -/
abbrev Env := Nat → Value
def Env.put (e : Env) : Option Nat → Value → Env
  | none, _ => e
  | some d, v => fun t => cond (Nat.beq t d) v (e t)

def ev (e : Env) : Operand → Value
  | .tmp t => e t
  | .const v => v
  | .global g => .pointer (some ⟨g, 0, none⟩)
  | .func f => .func (.func f) #[] #[]

/-! ### forms -/
def Sh.ex : Sh → (Value → Prop) → Prop
  | .bool, K => ∃ b : Bool, K (.bool b)
  | .int k, K => ∃ n : Int, K (.int k n)
  | .str, K => ∃ s : ByteArray, K (.string s)
  | .ptr, K => ∃ a : Option Addr, K (.pointer a)
  | .sl, K => ∃ (a : Option Addr) (n c : Nat), K (.slice a n c)
  | .any, K => ∃ v : Value, K v

def exL : List Sh → (List Value → Prop) → Prop
  | [], K => K []
  | s :: r, K => s.ex fun v => exL r fun vs => K (v :: vs)

theorem Sh.ex_elim {s : Sh} {K : Value → Prop} (h : s.ex K) : ∃ v, K v := by
  cases s
  · exact ⟨_, h.choose_spec⟩
  · exact ⟨_, h.choose_spec⟩
  · exact ⟨_, h.choose_spec⟩
  · exact ⟨_, h.choose_spec⟩
  · obtain ⟨a, n, c, h⟩ := h; exact ⟨_, h⟩
  · exact h

theorem Sh.ex_mono {s : Sh} {K K' : Value → Prop} (hk : ∀ v, K v → K' v) (h : s.ex K) : s.ex K' := by
  cases s
  · exact h.imp fun _ => hk _
  · exact h.imp fun _ => hk _
  · exact h.imp fun _ => hk _
  · exact h.imp fun _ => hk _
  · exact h.imp fun _ => Exists.imp fun _ => Exists.imp fun _ => hk _
  · exact h.imp fun _ => hk _

theorem exL_elim : ∀ {l : List Sh} {K : List Value → Prop}, exL l K → ∃ vs, vs.length = l.length ∧ K vs
  | [], _, h => ⟨[], rfl, h⟩
  | s :: r, K, h => by
    obtain ⟨v, h⟩ := Sh.ex_elim h
    obtain ⟨vs, hl, h⟩ := exL_elim h
    exact ⟨v :: vs, by simp [hl], h⟩

theorem exL_mono : ∀ {l : List Sh} {K K' : List Value → Prop}, (∀ v, K v → K' v) → exL l K → exL l K'
  | [], _, _, hk, h => hk _ h
  | _ :: _, _, _, hk, h => Sh.ex_mono (fun _ => exL_mono fun _ => hk _) h

/-! ### cells -/
def cellsAt (w : World) (b : Nat) : Nat → List Value → Prop
  | _, [] => True
  | o, v :: vs => w.cell? ⟨b, o, none⟩ = some v ∧ cellsAt w b (o + 1) vs

def canSt (w : World) (b : Nat) : Nat → List Value → Prop
  | _, [] => True
  | o, v :: vs => ((∃ u, w.cell? ⟨b, o, none⟩ = some u) ∧ w.frozen? ⟨b, o, none⟩ = false ∧ v.oneCell' = true) ∧ canSt w b (o + 1) vs

def setL (w : World) (b : Nat) : Nat → List Value → World
  | _, [] => w
  | o, v :: vs => setL (w.setCell ⟨b, o, none⟩ v) b (o + 1) vs

def newP (w : World) : Value := .pointer (some ⟨w.heap.size, 0, none⟩)

def withW (w : World) (G : World → Prop) : Prop := G w

/-- a run that ends well -/
def Runs {α : Type} (P : Program) (s : Sem α) (w : World) (a : α) (w' : World) : Prop := s.run P w = .ok a w'

def IsNil (v : Value) (r : Bool) : Prop := (v = .nilIface ∧ r = true) ∨ (∃ t x, v = .iface t x ∧ r = false)

def cutA (a : Option Addr) (l m size : Nat) : Option Addr := if m = l then a else a.map (·.add (l * size))

def zerosA (zero : List Value) (n : Nat) : Array Value := (Array.range (n * zero.length)).map (zero.toArray[· % zero.toArray.size]!)

/-! ### operations on values -/
def intBin (op : BinOp) (k : IntKind) (a b : Int) : Option Value :=
  match op with
  | .add => some (.int k (k.wrap (a + b)))
  | .sub => some (.int k (k.wrap (a - b)))
  | .mul => some (.int k (k.wrap (a * b)))
  | .eql => some (.bool (a == b))
  | .neq => some (.bool (a != b))
  | .lss => some (.bool (decide (a < b)))
  | .leq => some (.bool (decide (a ≤ b)))
  | .gtr => some (.bool (decide (a > b)))
  | .geq => some (.bool (decide (a ≥ b)))
  | .and => some (.int k (k.wrap (BitVec.ofInt k.bits a &&& BitVec.ofInt k.bits b).toNat))
  | .or => some (.int k (k.wrap (BitVec.ofInt k.bits a ||| BitVec.ofInt k.bits b).toNat))
  | .xor => some (.int k (k.wrap (BitVec.ofInt k.bits a ^^^ BitVec.ofInt k.bits b).toNat))
  | .andNot => some (.int k (k.wrap (BitVec.ofInt k.bits a &&& ~~~BitVec.ofInt k.bits b).toNat))
  | _ => none

/-- the operations whose operands are numbers, with what they ask -/
def intW (op : BinOp) (k k' : IntKind) (a b : Int) (K : Value → Prop) : Prop :=
  match op with
  | .shl => 0 ≤ b ∧ K (.int k (k.wrap (a * 2 ^ min b.toNat k.bits)))
  | .shr => 0 ≤ b ∧ K (.int k (a.fdiv (2 ^ min b.toNat k.bits)))
  | .quo => k = k' ∧ b ≠ 0 ∧ K (.int k (k.wrap (a.tdiv b)))
  | .rem => k = k' ∧ b ≠ 0 ∧ K (.int k (a.tmod b))
  | _ => if k = k' then (match intBin op k a b with | some v => K v | none => False) else False

def strBin (op : BinOp) (a b : ByteArray) (K : Value → Prop) : Prop :=
  match op with
  | .add => ((a.size + b.size : Nat) : Int) ≤ IntKind.i64.max ∧ K (.string (a ++ b))
  | .eql => K (.bool (a.toList == b.toList))
  | .neq => K (.bool !(a.toList == b.toList))
  | .lss => K (.bool (Op.bytesLess a.toList b.toList))
  | .leq => K (.bool (Op.bytesLess a.toList b.toList || a.toList == b.toList))
  | .gtr => K (.bool !(Op.bytesLess a.toList b.toList || a.toList == b.toList))
  | .geq => K (.bool !(Op.bytesLess a.toList b.toList))
  | _ => False

def semEq (op : BinOp) (t : Nat) (xo yo : Operand) (x y : Value) : Sem Value := do eqGuard op t xo yo x y; binOp op t x y

def flip (op : BinOp) (b : Bool) : Bool := match op with | .neq => !b | _ => b

def isEq : BinOp → Bool
  | .eql | .neq => true
  | _ => false

/-- does this comparison look into memory, or need the model's own run? -/
def eqNeeds (tys : Tys) (op : BinOp) (t : Nat) (yo : Operand) : Bool :=
  cond (isEq op) (match look tys t with
    | some y => match y.tk with
      | .bool => false
      | .int _ => false
      | .str => false
      | .sl _ => false
      | .map _ _ => false
      | .ptr _ => match yo with
        | .const (.pointer none) => false
        | _ => true
      | .iface => match yo with
        | .const .nilIface => false
        | _ => true
      | _ => true
    | none => true) false

def nilEqP (tys : Tys) (op : BinOp) (t : Nat) (yo : Operand) (x : Value) (K : Value → Prop) : Prop :=
  match yo with
  | .const .nilIface => cond (isEq op) (match look tys t with | some ⟨.iface, _, _, _, _⟩ => ∃ r, IsNil x r ∧ K (.bool (flip op r)) | _ => False) False
  | _ => False

def binV (tys : Tys) (op : BinOp) (t : Nat) (x y : Value) (K : Value → Prop) : Prop :=
  match x with
  | .int k a => match y with
    | .int k' b => intW op k k' a b K
    | _ => False
  | .string a => match y with
    | .string b => strBin op a b K
    | _ => False
  | .bool a => match y with
    | .bool b => cond (isEq op) (match look tys t with | some ⟨.bool, _, _, _, _⟩ => K (.bool (flip op (a == b))) | _ => False) False
    | _ => False
  | .pointer a => match y with
    | .pointer none => cond (isEq op) (match look tys t with | some ⟨.ptr _, _, _, _, _⟩ => K (.bool (flip op a.isNone)) | _ => False) False
    | _ => False
  | .slice a _ _ => match y with
    | .slice none _ _ => cond (isEq op) (match look tys t with | some ⟨.sl _, _, _, _, _⟩ => K (.bool (flip op a.isNone)) | _ => False) False
    | _ => False
  | .map a => match y with
    | .map none => cond (isEq op) (match look tys t with | some ⟨.map _ _, _, _, _, _⟩ => K (.bool (flip op a.isNone)) | _ => False) False
    | _ => False
  | _ => False

def isNilC : Operand → Bool
  | .const .nilIface => true
  | _ => false

def binP (tys : Tys) (op : BinOp) (t : Nat) (yo : Operand) (x y : Value) (K : Value → Prop) : Prop :=
  cond (isNilC yo) (nilEqP tys op t yo x K) (binV tys op t x y K)

/-- is this conversion one of numbers, or of texts? -/
def convPure (tys : Tys) (s d : Nat) : Bool :=
  match look tys s with
  | some ys => match look tys d with
    | some yd => match yd.tk with
      | .int _ => match ys.tk with
        | .int _ => true
        | _ => false
      | .str => match ys.tk with
        | .str => true
        | _ => false
      | _ => false
    | none => false
  | none => false

def convP (tys : Tys) (s d : Nat) (x : Value) (K : Value → Prop) : Prop :=
  match look tys s with
  | some ys => match look tys d with
    | some yd => match yd.tk with
      | .int k => match x with
        | .int _ n => match ys.tk with
          | .int _ => K (.int k (k.wrap n))
          | _ => False
        | _ => False
      | .str => match x with
        | .string a => match ys.tk with
          | .str => K (.string a)
          | _ => False
        | _ => False
      | _ => False
    | none => False
  | none => False

def convW (P : Program) (tys : Tys) (s d : Nat) (x : Value) (w : World) (K : Value → World → Prop) : Prop :=
  match look tys d with
  | some yd => match yd.tk with
    | .sl _ => ∃ (a : Option Addr) (n c : Nat) (w' : World), Runs P (convert s d x) w (.slice a n c) w' ∧ K (.slice a n c) w'
    | _ => False
  | none => False

def toStr (tys : Tys) (d : Nat) : Bool :=
  match look tys d with
  | some yd => match yd.tk with
    | .str => true
    | _ => false
  | none => false

def sliceW (tys : Tys) (t : Nat) (x : Value) (lo hi mx : Option Value) (K : Value → Prop) : Prop :=
  match x with
  | .string s => match look tys t with
    | some ⟨.str, _, _, _, _⟩ => match mx with
      | some _ => False
      | none => match hi with
        | none => match lo with
          | none => K (.string (s.extract 0 s.size))
          | some (.int _ l) => 0 ≤ l ∧ l ≤ s.size ∧ K (.string (s.extract l.toNat s.size))
          | _ => False
        | some (.int _ h) => match lo with
          | none => 0 ≤ h ∧ h ≤ s.size ∧ K (.string (s.extract 0 h.toNat))
          | some (.int _ l) => 0 ≤ l ∧ l ≤ h ∧ h ≤ s.size ∧ K (.string (s.extract l.toNat h.toNat))
          | _ => False
        | _ => False
    | _ => False
  | .slice a n c => match look tys t with
    | some ⟨.sl el, _, _, _, _⟩ => match look tys el with
      | some ye => match mx with
        | none => match hi with
          | none => match lo with
            | none => K (.slice (cutA a 0 c ye.size) n c)
            | some (.int _ l) => 0 ≤ l ∧ l ≤ n ∧ K (.slice (cutA a l.toNat c ye.size) (n - l.toNat) (c - l.toNat))
            | _ => False
          | some (.int _ h) => match lo with
            | none => 0 ≤ h ∧ h ≤ c ∧ K (.slice (cutA a 0 c ye.size) h.toNat c)
            | some (.int _ l) => 0 ≤ l ∧ l ≤ h ∧ h ≤ c ∧ K (.slice (cutA a l.toNat c ye.size) (h.toNat - l.toNat) (c - l.toNat))
            | _ => False
          | _ => False
        | some (.int _ m) => match hi with
          | some (.int _ h) => match lo with
            | none => 0 ≤ h ∧ h ≤ m ∧ m ≤ c ∧ K (.slice (cutA a 0 m.toNat ye.size) h.toNat m.toNat)
            | some (.int _ l) => 0 ≤ l ∧ l ≤ h ∧ h ≤ m ∧ m ≤ c ∧ K (.slice (cutA a l.toNat m.toNat ye.size) (h.toNat - l.toNat) (m.toNat - l.toNat))
            | _ => False
          | _ => False
        | _ => False
      | none => False
    | _ => False
  | .pointer (some ⟨b, f, none⟩) => match look tys t with
    | some ⟨.arr n el, _, _, _, _⟩ => match look tys el with
      | some _ => match mx with
        | none => match hi with
          | none => match lo with
            | none => K (.slice (some ⟨b, f, none⟩) n n)
            | _ => False
          | _ => False
        | _ => False
      | none => False
    | _ => False
  | _ => False

/-- a built-in function that looks at nothing but its operands -/
def builtPure (tys : Tys) (b : Builtin) (ts : Array TypeId) : Bool :=
  match b with
  | .len => match look tys (ts.toList.headD 0) with
    | some ⟨.str, _, _, _, _⟩ => true
    | some ⟨.sl _, _, _, _, _⟩ => true
    | _ => false
  | .cap => true
  | .min => true
  | .max => true
  | _ => false

def builtP (tys : Tys) (b : Builtin) (ts : Array TypeId) (args : List Value) (K : Value → Prop) : Prop :=
  match b with
  | .len => match args with
    | [.string s] => match look tys (ts.toList.headD 0) with
      | some ⟨.str, _, _, _, _⟩ => cond (Nat.beq ts.size 1) (K (.int .i64 s.size)) False
      | _ => False
    | [.slice _ n _] => match look tys (ts.toList.headD 0) with
      | some ⟨.sl _, _, _, _, _⟩ => cond (Nat.beq ts.size 1) (K (.int .i64 n)) False
      | _ => False
    | _ => False
  | .cap => match args with
    | [.slice _ _ c] => match look tys (ts.toList.headD 0) with
      | some ⟨.sl _, _, _, _, _⟩ => cond (Nat.beq ts.size 1) (K (.int .i64 c)) False
      | _ => False
    | _ => False
  | .min => match args with
    | [.int k x, .int _ y] => K (.int k (if y < x then y else x))
    | _ => False
  | .max => match args with
    | [.int k x, .int _ y] => K (.int k (if x < y then y else x))
    | _ => False
  | _ => False

def builtW (P : Program) (b : Builtin) (ts : Array TypeId) (rt : Nat) (args : List Value) (w : World) (K : Value → World → Prop) : Prop :=
  match b with
  | .append => ∃ (a : Option Addr) (n c : Nat) (w' : World), Runs P (Builtin.append_ ts rt args.toArray) w (.slice a n c) w' ∧ K (.slice a n c) w'
  | .copy => ∃ (n : Int) (w' : World), Runs P (Builtin.copy_ ts rt args.toArray) w (.int .i64 n) w' ∧ K (.int .i64 n) w'
  | .delete => ∃ (v : Value) (w' : World), Runs P (Builtin.delete_ ts rt args.toArray) w v w' ∧ K v w'
  | _ => False

/-- the forms of a type's values (of a tuple's parts) -/
def shOf (tys : Tys) (t : Nat) : List Sh := match look tys t with | some y => y.sh | none => []

/-- a result of a type: one value, a struct, a tuple -/
def exT1 (tys : Tys) (t : Nat) (K : Value → Prop) : Prop :=
  match look tys t with
  | some y => match y.tk with
    | .agg _ => exL y.sh fun vs => K (.agg vs.toArray)
    | .arr _ _ => exL y.sh fun vs => K (.agg vs.toArray)
    | _ => match y.sh with
      | [s] => s.ex K
      | _ => False
  | none => False

def exTs (tys : Tys) : List Nat → (List Value → Prop) → Prop
  | [], K => K []
  | t :: r, K => exT1 tys t fun v => exTs tys r fun vs => K (v :: vs)

def exT (tys : Tys) (t : Nat) (K : Value → Prop) : Prop :=
  match look tys t with
  | some ⟨.tuple ts, _, _, _, _⟩ => exTs tys ts fun vs => K (.tuple vs.toArray)
  | _ => exT1 tys t K

/-- what functions hand back: of each its results' types -/
abbrev Fns := List (Nat × List Nat)
def lookF : Fns → Nat → Option (List Nat)
  | [], _ => none
  | (i, y) :: r, t => cond (Nat.beq i t) (some y) (lookF r t)

def retW (tys : Tys) (rs : List Nat) (K : Value → World → Prop) (e : Ending) (w : World) : Prop :=
  match rs with
  | [] => e = .returned (.tuple #[]) ∧ K (.tuple #[]) w
  | [t] => exT1 tys t fun v => e = .returned v ∧ K v w
  | rs => exTs tys rs fun vs => e = .returned (.tuple vs.toArray) ∧ K (.tuple vs.toArray) w

/-- what functions hand back, and what is asked where one throws (none: none does) -/
structure Fx where
  l : Fns
  T : Option (List PanicEntry → World → Prop)
instance fxOf : Coe Fns Fx := ⟨fun l => ⟨l, none⟩⟩
def Fx.thr (f : Fx) : List PanicEntry → World → Prop := match f.T with
  | some T => T
  | none => fun _ _ => False
def callW (P : Program) (tys : Tys) (fns : Fx) (f : Value) (args : List Value) (w : World) (K : Value → World → Prop) : Prop :=
  match f with
  | .func (.func g) first captured => match lookF fns.l g with
    | some rs => match fns.T with
      | none => Calls P g (first ++ args.toArray ++ captured) w (retW tys rs K)
      | some T => Calls P g (first ++ args.toArray ++ captured) w fun e w' => retW tys rs K e w' ∨ ∃ c, e = .panicked c ∧ T c w'
    | none => False
  | _ => False

/-- the cells of a built value -/
def placesOf (tys : Tys) (fs : List (Nat × Nat)) : List (Nat × Nat) := fs.map fun (o, t) => (o, match look tys t with | some y => y.size | none => 0)

def setAt (cs : List Value) : Nat → List Value → List Value
  | _, [] => cs
  | i, v :: vs => setAt (cs.set i v) (i + 1) vs

def fillL (place : Nat → Option (Nat × Nat)) : List Value → List (Nat × Value) → Option (List Value)
  | cells, [] => some cells
  | cells, (i, v) :: rest => match place i with
    | none => none
    | some (off, size) => cond (Nat.beq v.cells.toList.length size && Nat.ble (off + v.cells.toList.length) cells.length) (fillL place (setAt cells off v.cells.toList) rest) none

/-- values of one cell each, put into their places -/
def fill1 : List Value → List (Nat × Value) → Option (List Value)
  | cells, [] => some cells
  | cells, (i, v) :: rest => cond (Nat.ble (i + 1) cells.length) (fill1 (cells.set i v) rest) none
def allOne : List Value → Prop
  | [] => True
  | v :: r => v.cells.toList = [v] ∧ allOne r
theorem fill1_fillL : ∀ {ps : List (Nat × Value)} {cells out : List Value}, allOne (ps.map (·.2)) → fill1 cells ps = some out → fillL (fun i => some (i * 1, 1)) cells ps = some out
  | [], _, _, _, h => h
  | (i, v) :: r, cells, out, ho, h => by
    obtain ⟨h1, h2⟩ := ho
    unfold fill1 at h
    cases hb : Nat.ble (i + 1) cells.length with
    | false => rw [hb] at h; cases h
    | true =>
      rw [hb] at h
      have hi := Nat.le_of_ble_eq_true hb
      have hl : Nat.ble (i * 1 + 1) cells.length = true := Nat.ble_eq_true_of_le (by omega)
      have h1' : v.cells.toList = [v] := h1
      show (cond (Nat.beq v.cells.toList.length 1 && Nat.ble (i * 1 + v.cells.toList.length) cells.length) (fillL (fun i => some (i * 1, 1)) (setAt cells (i * 1) v.cells.toList) r) none) = _
      rw [h1']
      show (cond (true && Nat.ble (i * 1 + 1) cells.length) (fillL (fun i => some (i * 1, 1)) (cells.set (i * 1) v) r) none) = _
      rw [hl, Nat.mul_one]
      exact fill1_fillL h2 h
theorem fillL_fill1 : ∀ {ps : List (Nat × Value)} {cells out : List Value}, allOne (ps.map (·.2)) → fillL (fun i => some (i * 1, 1)) cells ps = some out → fill1 cells ps = some out
  | [], _, _, _, h => h
  | (i, v) :: r, cells, out, ho, h => by
    obtain ⟨h1, h2⟩ := ho
    have h1' : v.cells.toList = [v] := h1
    replace h : (cond (Nat.beq v.cells.toList.length 1 && Nat.ble (i * 1 + v.cells.toList.length) cells.length) (fillL (fun i => some (i * 1, 1)) (setAt cells (i * 1) v.cells.toList) r) none) = some out := h
    rw [h1'] at h
    replace h : (cond (true && Nat.ble (i * 1 + 1) cells.length) (fillL (fun i => some (i * 1, 1)) (cells.set (i * 1) v) r) none) = some out := h
    rw [Nat.mul_one] at h
    unfold fill1
    cases hb : Nat.ble (i + 1) cells.length with
    | false => rw [hb] at h; cases h
    | true => rw [hb] at h; exact fillL_fill1 h2 h
def isIf : TK → Bool
  | .iface => true
  | _ => false

def repL (n : Nat) (z : List Value) : List Value := match n with | 0 => [] | n + 1 => z ++ repL n z

def partW (tys : Tys) (t : Nat) (cs : List Value) (off : Nat) (K : Value → Prop) : Prop :=
  match look tys t with
  | some y => match y.tk with
    | .agg _ => K (.agg ((cs.drop off).take y.size).toArray)
    | .arr _ _ => K (.agg ((cs.drop off).take y.size).toArray)
    | .tuple _ => False
    | .other => False
    | _ => match cs[off]? with
      | some v => K v
      | none => False
  | none => False

/-- loads: the forms of the cells of a variable of type t, at a place -/
def loadW (tys : Tys) (t : Nat) (b o : Nat) (w : World) (K : List Value → Value → Prop) : Prop :=
  match look tys t with
  | some y => match y.tk with
    | .agg _ => cond (Nat.beq y.sh.length y.size) (exL y.sh fun vs => cellsAt w b o vs ∧ K vs (.agg vs.toArray)) False
    | .arr _ _ => cond (Nat.beq y.sh.length y.size) (exL y.sh fun vs => cellsAt w b o vs ∧ K vs (.agg vs.toArray)) False
    | .tuple _ => False
    | .other => False
    | _ => match y.sh with
      | [s] => s.ex fun v => w.cell? ⟨b, o, none⟩ = some v ∧ K [v] v
      | _ => False
  | none => False

/-- how an operation stands to memory -/
inductive QK where
  | pure | load | event

def kindOf (tys : Tys) (op : Op) : QK :=
  match op with
  | .move _ => .pure
  | .assign _ => .pure
  | .pick .. => .pure
  | .build .. => .pure
  | .nilCheck _ => .pure
  | .unOp .. => .pure
  | .makeInterface .. => .pure
  | .makeFunc .. => .pure
  | .slice .. => .pure
  | .fieldAddr .. => .pure
  | .field .. => .pure
  | .indexAddr .. => .pure
  | .index .. => .pure
  | .extract .. => .pure
  | .binOp op t _ y _ => cond (eqNeeds tys op t y) .load .pure
  | .convert s d _ => cond (convPure tys s d) .pure (cond (toStr tys d) .load .event)
  | .lookup .. => .load
  | .typeAssert .. => .load
  | .call c => match c.callee with
    | .builtin b => cond (builtPure tys b c.argTypes) .pure (match b with | .len => .load | _ => .event)
    | _ => .event
  | .load .. => .load
  | _ => .event

def pureW (P : Program) (tys : Tys) (o : Oper) (ρ : Operand → Value) (K : Value → Prop) : Prop :=
  match o.op with
  | .move x => K (ρ x)
  | .assign x => K (ρ x)
  | .pick c x y => match ρ c with
    | .bool b => cond b (K (ρ x)) (K (ρ y))
    | _ => False
  | .build t parts => match look tys t with
    | some y => match y.tk with
      | .agg fs => match fillL (fun i => (placesOf tys fs)[i]?) y.zero (parts.toList.map fun (i, x) => (i, ρ x)) with
        | some cs => cond (fs.all fun f => (look tys f.2).isSome) (K (.agg cs.toArray)) False
        | none => False
      | _ => False
    | none => False
  | .nilCheck x => match ρ x with
    | .pointer a => ∃ b f, a = some ⟨b, f, none⟩ ∧ K (.pointer (some ⟨b, f, none⟩))
    | .func (.func g) p q => K (.func (.func g) p q)
    | _ => False
  | .binOp op t x y _ => binP tys op t y (ρ x) (ρ y) K
  | .unOp op _ x => match op with
    | .not => match ρ x with
      | .bool b => K (.bool (!b))
      | _ => False
    | .neg => match ρ x with
      | .int k n => K (.int k (k.wrap (0 - n)))
      | _ => False
    | _ => False
  | .convert s d x => convP tys s d (ρ x) K
  | .makeInterface t x => match look tys t with
    | some y => match y.tk with
      | .iface => False
      | .tuple _ => False
      | .other => False
      | _ => K (.iface t (ρ x))
    | none => False
  | .makeFunc fn first captured => K (.func fn (first.toList.map ρ).toArray (captured.toList.map ρ).toArray)
  | .slice t x lo hi mx => sliceW tys t (ρ x) (lo.map ρ) (hi.map ρ) (mx.map ρ) K
  | .fieldAddr s x i => match ρ x with
    | .pointer (some ⟨b, f, none⟩) => match look tys s with
      | some y => match y.tk with
        | .agg fs => match fs[i]? with
          | some (off, ft) => match look tys ft with
            | some yf => cond (Nat.beq yf.size 0) False (K (.pointer (some ⟨b, f + off, none⟩)))
            | none => False
          | none => False
        | _ => False
      | none => False
    | _ => False
  | .field s x i => match ρ x with
    | .agg cs => match look tys s with
      | some y => match y.tk with
        | .agg fs => match fs[i]? with
          | some (off, ft) => partW tys ft cs.toList off K
          | none => False
        | _ => False
      | none => False
    | _ => False
  | .indexAddr t x i => match ρ i with
    | .int _ j => match look tys t with
      | some y => match y.tk with
        | .sl el => match look tys el with
          | some ye => match ρ x with
            | .slice a n _ => ∃ b f, a = some ⟨b, f, none⟩ ∧ 0 ≤ j ∧ j < n ∧ K (.pointer (some ⟨b, f + j.toNat * ye.size, none⟩))
            | _ => False
          | none => False
        | .arr n el => match look tys el with
          | some ye => match ρ x with
            | .pointer (some ⟨b, f, none⟩) => 0 ≤ j ∧ j < n ∧ K (.pointer (some ⟨b, f + j.toNat * ye.size, none⟩))
            | _ => False
          | none => False
        | _ => False
      | none => False
    | _ => False
  | .index t x i => match ρ i with
    | .int _ j => match look tys t with
      | some y => match y.tk with
        | .str => match ρ x with
          | .string s => 0 ≤ j ∧ ∃ c : UInt8, s[j.toNat]? = some c ∧ K (.int .u8 c.toNat)
          | _ => False
        | .arr n el => match look tys el with
          | some ye => match ρ x with
            | .agg cs => 0 ≤ j ∧ j < n ∧ ∃ v, (∀ w, Runs P (part el cs (j.toNat * ye.size)) w v w) ∧ K v
            | _ => False
          | none => False
        | _ => False
      | none => False
    | _ => False
  | .extract x i => match ρ x with
    | .tuple vs => match vs.toList[i]? with
      | some v => K v
      | none => False
    | _ => False
  | .call c => match c.callee with
    | .builtin b => builtP tys b c.argTypes (c.args.toList.map ρ) K
    | _ => False
  | _ => False

def eventW (P : Program) (tys : Tys) (fns : Fx) (o : Oper) (ρ : Operand → Value) (w : World) (K : Value → World → Prop) : Prop :=
  match o.op with
  | .alloc t => match look tys t with
    | some y => K (newP w) (w.alloc (.cells y.zero.toArray t))
    | none => False
  | .box t x => K (newP w) (w.alloc (.cells (ρ x).cells.toList.toArray t))
  | .buildSlice t len parts => match look tys t with
    | some ⟨.sl el, _, _, _, _⟩ => match look tys el with
      | some ye => cond (Nat.ble (len * ye.size) 4096) (cond (isIf ye.tk && Nat.beq ye.size 1)
          (allOne ((parts.toList.map fun (i, x) => (i, ρ x)).map (·.2)) ∧ (match fill1 (repL len ye.zero) (parts.toList.map fun (i, x) => (i, ρ x)) with
            | some cs => K (.slice (some ⟨w.heap.size, 0, none⟩) len len) (w.alloc (.cells cs.toArray el))
            | none => False))
          (match fillL (fun i => some (i * ye.size, ye.size)) (repL len ye.zero) (parts.toList.map fun (i, x) => (i, ρ x)) with
        | some cs => K (.slice (some ⟨w.heap.size, 0, none⟩) len len) (w.alloc (.cells cs.toArray el))
        | none => False)) False
      | none => False
    | _ => False
  | .store t x v => match ρ x with
    | .pointer (some ⟨b, f, none⟩) => match look tys t with
      | some y => cond (Nat.beq (ρ v).cells.toList.length y.size) (canSt w b f (ρ v).cells.toList ∧ K undef (setL w b f (ρ v).cells.toList)) False
      | none => False
    | _ => False
  | .convert s d x => convW P tys s d (ρ x) w K
  | .makeMap _ none => K (.map (some w.heap.size)) (w.alloc (.map #[] 0))
  | .makeSlice t l c => match look tys t with
    | some ⟨.sl el, _, _, _, _⟩ => match look tys el with
      | some ye => match ρ l with
        | .int .i64 n => match ρ c with
          | .int .i64 m => 0 ≤ n ∧ n ≤ m ∧ m ≤ 140737488355328 ∧ ye.bytes * m ≤ 140737488355328 ∧ K (.slice (some ⟨w.heap.size, 0, none⟩) n.toNat m.toNat) (w.alloc (.cells (zerosA ye.zero m.toNat) el))
          | _ => False
        | _ => False
      | none => False
    | _ => False
  | .mapUpdate t m k x => ∃ w', Runs P (Instr.mapUpdate t (ρ m) (ρ k) (ρ x)) w () w' ∧ K undef w'
  | .insert t m k x => ∃ w', Runs P (Instr.mapUpdate t (ρ m) (ρ k) (ρ x)) w () w' ∧ K undef w'
  | .mapEntry t m k => ∃ (v : Value) (w' : World), Runs P (Instr.mapEntry t (ρ m) (ρ k)) w v w' ∧ K v w'
  | .entryStore t m s x => ∃ w', Runs P (Instr.entryStore t (ρ m) (ρ s) (ρ x)) w () w' ∧ K undef w'
  | .range t x => ∃ (v : Value) (w' : World), Runs P (Instr.range t (ρ x)) w v w' ∧ K v w'
  | .next it s => ∃ w', exT tys o.type fun v => Runs P (Instr.next (ρ it) s o.type) w v w' ∧ K v w'
  | .entry it => ∃ (v : Value) (w' : World), Runs P (Instr.entry (ρ it)) w v w' ∧ K v w'
  | .call c => match c.callee with
    | .value f => callW P tys fns (ρ f) (c.args.toList.map ρ) w K
    | .builtin b => builtW P b c.argTypes o.type (c.args.toList.map ρ) w K
    | _ => False
  | .panic x => match ρ x with
    | .iface t v => fns.thr [{ v := .iface t v, recovered := false }] w
    | _ => False
  | _ => False

/-- what looks into memory, with the condition under which it sees the same -/
def ldW (P : Program) (tys : Tys) (o : Oper) (ρ : Operand → Value) (w : World) (K : (World → Prop) → Value → Prop) : Prop :=
  match o.op with
  | .load t x => match ρ x with
    | .pointer (some ⟨b, f, none⟩) => loadW tys t b f w fun vs v => K (fun w' => cellsAt w' b f vs) v
    | _ => False
  | .binOp op t x y _ => ∃ r : Bool, Runs P (semEq op t x y (ρ x) (ρ y)) w (.bool r) w ∧ K (fun w' => Runs P (semEq op t x y (ρ x) (ρ y)) w' (.bool r) w') (.bool r)
  | .convert s d x => ∃ r : ByteArray, Runs P (convert s d (ρ x)) w (.string r) w ∧ K (fun w' => Runs P (convert s d (ρ x)) w' (.string r) w') (.string r)
  | .lookup t x i ok => exT tys o.type fun v => Runs P (Instr.lookup t (ρ x) (ρ i) ok) w v w ∧ K (fun w' => Runs P (Instr.lookup t (ρ x) (ρ i) ok) w' v w') v
  | .typeAssert x xt t ok => exT tys o.type fun v => Runs P (Instr.typeAssert (ρ x) xt t ok) w v w ∧ K (fun w' => Runs P (Instr.typeAssert (ρ x) xt t ok) w' v w') v
  | .call c => match c.callee with
    | .builtin .len => ∃ n : Int, Runs P (Builtin.len_ c.argTypes o.type (c.args.toList.map ρ).toArray) w (.int .i64 n) w ∧ K (fun w' => Runs P (Builtin.len_ c.argTypes o.type (c.args.toList.map ρ).toArray) w' (.int .i64 n) w') (.int .i64 n)
    | _ => False
  | _ => False

def opW (P : Program) (tys : Tys) (fns : Fx) (o : Oper) (ρ : Operand → Value) (w : World) (K : Value → World → Prop) : Prop :=
  match kindOf tys o.op with
  | .pure => pureW P tys o ρ fun v => K v w
  | .load => ldW P tys o ρ w fun _ v => K v w
  | .event => eventW P tys fns o ρ w K

/-! ### regions -/
def slotOf (ops : Array Oper) (j : Nat) : Option Nat := match ops.toList[j]? with | some o => o.dst | none => none

def guardW (ops : Array Oper) (o : Oper) (e : Env) (yes no : Env → Prop) : Prop :=
  match o.guard with
  | none => yes e
  | some (j, want) => match slotOf ops j with
    | none => False
    | some s => match e s with
      | .bool b => cond b (cond want (yes (e.put (some s) (.bool true))) (no (e.put (some s) (.bool true)))) (cond want (no (e.put (some s) (.bool false))) (yes (e.put (some s) (.bool false))))
      | _ => no e

def regW (P : Program) (tys : Tys) (fns : Fx) (ops : Array Oper) : List Oper → Env → World → (Env → World → Prop) → Prop
  | [], e, w, K => K e w
  | o :: r, e, w, K => guardW ops o e
      (fun e' => opW P tys fns o (ev e') w fun v w' => regW P tys fns ops r (e'.put o.dst v) w' K)
      (fun e' => regW P tys fns ops r (e'.put o.dst undef) w K)

/-- does operation j wait for operation i? -/
def downB (ops : List Oper) : Nat → Nat → Nat → Bool
  | 0, _, _ => false
  | n + 1, j, i => match ops[j]? with
    | some o => o.after.toList.any fun x => Region.binds .any x && (Nat.beq x.on i || downB ops n x.on i)
    | none => false

def hasB (l : List Nat) (i : Nat) : Bool := l.any fun j => Nat.beq j i

abbrev Pend := List (Nat × (World → Prop))
def keepW (ops : List Oper) (j : Nat) (w : World) (p : Prop) : Pend → Prop
  | [] => p
  | (i, c) :: r => cond (downB ops ops.length j i) (keepW ops j w p r) (c w ∧ keepW ops j w p r)

/-- the orders in which a region that draws is gone through: where more than one event is ready, each of them -/
inductive DOrd where
  | nil
  | one (i : Nat) (r : DOrd)
  | alt (a b : DOrd)
def DOrd.size : DOrd → Nat
  | .nil => 0
  | .one _ r => r.size + 1
  | .alt a b => max a.size b.size
def DOrd.hasHead (i : Nat) : DOrd → Bool
  | .nil => false
  | .one j _ => Nat.beq j i
  | .alt a b => cond (a.hasHead i) true (b.hasHead i)
def seqO : List Nat → DOrd
  | [] => .nil
  | i :: r => .one i (seqO r)

def drawW (P : Program) (tys : Tys) (fns : Fx) (ops : Array Oper) : DOrd → Pend → Env → World → (Env → World → Prop) → Prop
  | .nil, _, e, w, K => K e w
  | .one i r, pend, e, w, K => match ops.toList[i]? with
    | none => False
    | some o => guardW ops o e
        (fun e' => match kindOf tys o.op with
          | .pure => pureW P tys o (ev e') fun v => drawW P tys fns ops r pend (e'.put o.dst v) w K
          | .load => ldW P tys o (ev e') w fun c v => drawW P tys fns ops r ((i, c) :: pend) (e'.put o.dst v) w K
          | .event => eventW P tys fns o (ev e') w fun v w' => keepW ops.toList i w' (drawW P tys fns ops r pend (e'.put o.dst v) w' K) pend)
        (fun e' => drawW P tys fns ops r pend (e'.put o.dst undef) w K)
  | .alt x y, pend, e, w, K => drawW P tys fns ops x pend e w K ∧ drawW P tys fns ops y pend e w K

def isEv : QK → Bool
  | .event => true
  | _ => false

def drawOk (tys : Tys) (ops : Array Oper) : Bool → DOrd → Array Bool → Bool
  | inn, .nil, listed => !inn && (Region.ready .any ops listed).isEmpty
  | inn, .one i r, listed => (Region.ready .any ops listed).contains i && (match ops[i]? with
    | some o => cond (isEv (kindOf tys o.op)) (inn || (Region.ready .any ops listed == [i])) (!inn && Region.free .any ops listed i)
    | none => false) && drawOk tys ops false r (listed.setIfInBounds i true)
  | inn, .alt x y, listed => (inn || (Region.ready .any ops listed).all fun i => DOrd.hasHead i (.alt x y)) && drawOk tys ops true x listed && drawOk tys ops true y listed

/-! ### code -/
structure Hints where
  orders : List (Nat × DOrd)      -- of a region that draws: the order in which it is gone through
  loops : List (Nat × List (Nat × Sh))      -- of a loop, by its first region's number: what changes in it

def lookO {α : Type} : List (Nat × α) → Nat → Option α
  | [], _ => none
  | (i, y) :: r, t => cond (Nat.beq i t) (some y) (lookO r t)

def firstReg : Code → Nat
  | .region id _ _ => id
  | .seq a _ => firstReg a
  | .cond _ a _ => firstReg a
  | .block _ a => firstReg a
  | .loop a => firstReg a
  | _ => 0

def dstsOf (ops : Array Oper) : List Nat := ops.toList.flatMap fun o => (match o.dst with | some d => [d] | none => []) ++ (match o.guard with | some (j, _) => (match slotOf ops j with | some s => [s] | none => []) | none => [])

def assigned (hs : Hints) : Code → List Nat
  | .region _ ops _ => dstsOf ops
  | .seq a b => assigned hs a ++ assigned hs b
  | .cond c a b => (match c with | .tmp t => [t] | _ => []) ++ (assigned hs a ++ assigned hs b)
  | .block _ a => assigned hs a
  | .loop a => assigned hs a ++ (match lookO hs.loops (firstReg a) with | some l => l.map (·.1) | none => [])
  | _ => []

def mixE (e : Env) (S : List (Nat × Sh)) (vs : List Value) (asg : List Nat) (junk : Env) : Env :=
  match S, vs with
  | (t, _) :: r, v :: vs => Env.put (mixE e r vs asg junk) (some t) v
  | _, _ => fun t => cond (hasB asg t) (junk t) (e t)

def cW (P : Program) (tys : Tys) (fns : Fx) (hs : Hints) : Code → (Exit → Env → World → Prop) → Env → World → Prop
  | .skip, Q, e, w => Q .normal e w
  | .ret, Q, e, w => Q .ret e w
  | .exit id, Q, e, w => Q (.exit id) e w
  | .region id ops draw, Q, e, w => cond draw
      (match lookO hs.orders id with | some l => drawW P tys fns ops l [] e w.drew (fun e w => Q .normal e w) | none => False)
      (regW P tys fns ops ops.toList e w (fun e w => Q .normal e w))
  | .seq a b, Q, e, w => cW P tys fns hs a (fun ex e w => match ex with
      | .normal => cW P tys fns hs b Q e w
      | ex => Q ex e w) e w
  | .cond c a b, Q, e, w => match ev e c with
    | .bool t => match c with
      | .tmp s => cond t (cW P tys fns hs a Q (e.put (some s) (.bool true)) w) (cW P tys fns hs b Q (e.put (some s) (.bool false)) w)
      | _ => cond t (cW P tys fns hs a Q e w) (cW P tys fns hs b Q e w)
    | _ => False
  | .block id a, Q, e, w => cW P tys fns hs a (fun ex e w => match ex with
      | .exit i => cond (Nat.beq i id) (Q .normal e w) (Q (.exit i) e w)
      | ex => Q ex e w) e w
  | .loop a, Q, e, w => match lookO hs.loops (firstReg a) with
    | some S => ∃ (I : List Value → World → Prop) (μ : List Value → World → Nat), I (S.map fun s => e s.1) w ∧
        ∀ (junk : Env) (vs : List Value) (w : World), I vs w → exL (S.map (·.2)) fun us => vs = us ∧
          cW P tys fns hs a (fun ex e' w' => match ex with
            | .normal => I (S.map fun s => e' s.1) w' ∧ μ (S.map fun s => e' s.1) w' < μ us w
            | ex => Q ex e' w') (mixE e S us (assigned hs a) junk) w
    | none => False
  | _, _, _, _ => False

/-! ### functions -/
def resL (tys : Tys) (e : Env) (w : World) : List ResultVar → (List Value → Prop) → Prop
  | [], K => K []
  | .tmp t :: r, K => resL tys e w r fun vs => K (e t :: vs)
  | .cell t ty :: r, K => match e t with
    | .pointer (some ⟨b, f, none⟩) => loadW tys ty b f w fun _ v => resL tys e w r fun vs => K (v :: vs)
    | _ => False

def oneOr : List Value → Value
  | [v] => v
  | vs => .tuple vs.toArray

/-- the fixed conditions on a function's code -/
def codeOk (tys : Tys) (hs : Hints) (n : Nat) : Code → Bool
  | .region id ops draw => ((dstsOf ops).all fun d => Nat.ble (d + 1) n) && cond draw (match lookO hs.orders id with
    | some l => Nat.ble l.size ops.size && Region.noSelect ops && drawOk tys ops false l (Array.replicate ops.size false)
    | none => false) true
  | .seq a b => codeOk tys hs n a && codeOk tys hs n b
  | .cond c a b => (match c with | .tmp t => Nat.ble (t + 1) n | _ => true) && (codeOk tys hs n a && codeOk tys hs n b)
  | .block _ a => codeOk tys hs n a
  | .loop a => codeOk tys hs n a
  | _ => true

def fnW (P : Program) (tys : Tys) (fns : Fx) (hs : Hints) (fn : Func) (args : List Value) (w : World) (R : Value → World → Prop) : Prop :=
  match fn.body with
  | some c => cW P tys fns hs c (fun ex e w => match ex with
      | .normal => resL tys e w fn.results.toList fun vs => R (oneOr vs) w
      | .ret => resL tys e w fn.results.toList fun vs => R (oneOr vs) w
      | _ => False) (fun t => args.getD t undef) w
  | none => False

end Go.Vx
end

/- part VxB -/
section
namespace Go.Vx

variable {P : Program} {tys : Tys} {fns : Fns} {w : World}

def FnsOk (P : Program) : Fns → Prop
  | [] => True
  | (i, _) :: r => (∃ fn, P.funcs[i]? = some fn ∧ (fn.name == "runtime.NumGoroutine") = false ∧ fn.body.isNone = false) ∧ FnsOk P r

theorem fn_of_look : ∀ {fns : Fns}, FnsOk P fns → ∀ {g rs}, lookF fns g = some rs → ∃ fn, P.funcs[g]? = some fn ∧ (fn.name == "runtime.NumGoroutine") = false ∧ fn.body.isNone = false
  | (i, z) :: r, h, t, y, hl => by
    simp only [lookF] at hl
    cases hb : Nat.beq i t with
    | true => exact Nat.eq_of_beq_eq_true hb ▸ h.1
    | false => rw [hb] at hl; exact fn_of_look h.2 hl

section types
variable {t : Nat} {y : Ty}
theorem run_under {d : TypeDesc} (h : P.underlying t = some d) : (underlying t).run P w = .ok d w := by
  simp [underlying, h]
theorem run_info (h : y.Ok P t) : ∃ i, P.info? t = some i ∧ i.size = y.size ∧ i.bytes = y.bytes ∧ ∃ z, i.zero = some z ∧ z.cells.toList = y.zero := by
  have h1 := h.info; have h2 := h.zero
  cases hi : P.info? t with
  | none => rw [hi] at h1; cases h1
  | some i =>
    rw [hi] at h1 h2
    simp only [Option.map_some, Option.some.injEq, Prod.mk.injEq] at h1
    cases hz : i.zero with
    | none => simp [hz] at h2
    | some z => exact ⟨i, rfl, h1.1, h1.2, z, hz, by simpa [hz] using h2⟩
theorem run_typeInfo (h : y.Ok P t) : ∃ i, (typeInfo t).run P w = .ok i w ∧ i.size = y.size ∧ i.bytes = y.bytes := by
  obtain ⟨i, h1, h2, h3, _⟩ := run_info h
  exact ⟨i, by simp [typeInfo, h1], h2, h3⟩
theorem run_sizeOf (h : y.Ok P t) : (sizeOf t).run P w = .ok y.size w := by
  obtain ⟨i, h1, h2, _⟩ := run_info h
  simp [sizeOf, typeInfo, h1, h2]
theorem run_zero (h : y.Ok P t) : ∃ z, (zeroValue t).run P w = .ok z w ∧ z.cells.toList = y.zero := by
  obtain ⟨i, h1, _, _, z, h2, h3⟩ := run_info h
  exact ⟨z, by simp [zeroValue, typeInfo, h1, h2], h3⟩
end types

theorem run_isAgg_yes {t : Nat} {fs : List (Nat × Nat)} (h : (TK.agg fs).ok P t) : (isAgg t).run P w = .ok true w := by
  obtain ⟨f, hf, _⟩ := h
  simp [isAgg, run_under hf]
theorem run_isAgg_arr {t n e : Nat} (h : (TK.arr n e).ok P t) : (isAgg t).run P w = .ok true w := by
  simp [isAgg, run_under (show P.underlying t = _ from h)]
def TK.plain : TK → Bool
  | .agg _ | .arr _ _ | .tuple _ | .other => false
  | _ => true
theorem run_isAgg_no {t : Nat} {k : TK} (h : k.ok P t) (hp : k.plain = true) : (isAgg t).run P w = .ok false w := by
  cases k <;> simp [TK.plain] at hp <;> simp only [TK.ok] at h
  case iface => obtain ⟨_, h⟩ := h; simp [isAgg, run_under h]
  case fn => obtain ⟨_, _, _, h⟩ := h; simp [isAgg, run_under h]
  all_goals simp [isAgg, run_under h]

theorem add_none (b f n : Nat) : (⟨b, f, none⟩ : Addr).add n = ⟨b, f + n, none⟩ := by
  unfold Addr.add
  by_cases h : n = 0
  · subst h; simp
  · simp [h]

/-! ### loads and stores -/
theorem run_loadFrom (P : Program) (w : World) (b : Nat) : ∀ (vs : List Value) (f i : Nat) (acc : Array Value), cellsAt w b (f + i) vs →
    (loadCellsFrom ⟨b, f, none⟩ i vs.length acc).run P w = .ok (acc ++ vs.toArray) w
  | [], f, i, acc, _ => by simp [loadCellsFrom]
  | v :: vs, f, i, acc, h => by
    obtain ⟨h1, h2⟩ := h
    have ih := run_loadFrom P w b vs f (i + 1) (acc.push v) (by simpa [Nat.add_assoc] using h2)
    simp only [List.length_cons, loadCellsFrom, add_none, Sem.run_bind, run_load, h1, Result.andThen_ok, ih]
    simp

theorem run_load_agg {t b f : Nat} {vs : List Value} {y : Ty} (hy : y.Ok P t) (ha : (isAgg t).run P w = .ok true w) (hl : vs.length = y.size) (h : cellsAt w b f vs) :
    (Instr.loadAt t (.pointer (some ⟨b, f, none⟩))).run P w = .ok (.agg vs.toArray) w := by
  have := run_loadFrom P w b vs f 0 #[] (by simpa using h)
  simp [Instr.loadAt, Instr.sureAddr, loadVar, ha, run_sizeOf hy, loadCells, ← hl, this]

theorem run_load_one {t b f : Nat} {v : Value} (ha : (isAgg t).run P w = .ok false w) (h : w.cell? ⟨b, f, none⟩ = some v) :
    (Instr.loadAt t (.pointer (some ⟨b, f, none⟩))).run P w = .ok v w := by
  simp [Instr.loadAt, Instr.sureAddr, loadVar, ha, h]

theorem loadW_run {t b f : Nat} {K : List Value → Value → Prop} (hT : AllOk P tys) (h : loadW tys t b f w K) :
    ∃ vs v, cellsAt w b f vs ∧ K vs v ∧ ∀ w', cellsAt w' b f vs → (Instr.loadAt t (.pointer (some ⟨b, f, none⟩))).run P w' = .ok v w' := by
  unfold loadW at h
  cases hl : look tys t with
  | none => rw [hl] at h; exact h.elim
  | some y =>
    rw [hl] at h; dsimp only at h
    have hy := ok_of_look hT hl
    have htk := hy.tk
    cases hk : y.tk with
    | agg fs =>
      rw [hk] at h; dsimp only at h
      cases hb : Nat.beq y.sh.length y.size with
      | false => rw [hb] at h; exact h.elim
      | true =>
        rw [hb] at h
        obtain ⟨vs, hlen, hc, hK⟩ := exL_elim h
        exact ⟨vs, _, hc, hK, fun w' hc' => run_load_agg hy (run_isAgg_yes (hk ▸ htk)) (hlen.trans (Nat.eq_of_beq_eq_true hb)) hc'⟩
    | arr n e =>
      rw [hk] at h; dsimp only at h
      cases hb : Nat.beq y.sh.length y.size with
      | false => rw [hb] at h; exact h.elim
      | true =>
        rw [hb] at h
        obtain ⟨vs, hlen, hc, hK⟩ := exL_elim h
        exact ⟨vs, _, hc, hK, fun w' hc' => run_load_agg hy (run_isAgg_arr (hk ▸ htk)) (hlen.trans (Nat.eq_of_beq_eq_true hb)) hc'⟩
    | tuple ts => rw [hk] at h; exact h.elim
    | other => rw [hk] at h; exact h.elim
    | _ =>
      rw [hk] at h htk; dsimp only at h
      split at h
      · obtain ⟨v, hc, hK⟩ := Sh.ex_elim h
        exact ⟨[v], v, ⟨hc, trivial⟩, hK, fun w' hc' => run_load_one (run_isAgg_no htk rfl) hc'.1⟩
      · exact h.elim

theorem canSt_set {w : World} {b : Nat} {u : Value} {g : Nat} : ∀ (vs : List Value) (o : Nat), canSt w b o vs → canSt (w.setCell ⟨b, g, none⟩ u) b o vs
  | [], _, _ => trivial
  | v :: vs, o, ⟨⟨⟨x, h1⟩, h2, h3⟩, h⟩ => by
    refine ⟨⟨?_, ?_, h3⟩, canSt_set vs (o + 1) h⟩
    · exact (RowKit.cell?_setCell_some h1)
    · rw [World.frozen?_setCell]; exact h2

theorem run_store_cell {P : Program} {w : World} {b o : Nat} {v : Value} (h : ∃ u, w.cell? ⟨b, o, none⟩ = some u) (hf : w.frozen? ⟨b, o, none⟩ = false) (ho : v.oneCell' = true) :
    (store ⟨b, o, none⟩ v).run P w = .ok () (w.setCell ⟨b, o, none⟩ v) := by
  obtain ⟨u, h⟩ := h
  cases v <;> simp [Value.oneCell'] at ho <;> simp [store, Sem.run, h, hf]

theorem run_storeL (P : Program) (b : Nat) : ∀ (vs : List Value) (f i : Nat) (w : World), canSt w b (f + i) vs →
    (storeCells ⟨b, f, none⟩ vs i).run P w = .ok () (setL w b (f + i) vs)
  | [], _, _, _, _ => by simp [storeCells, setL]
  | v :: vs, f, i, w, ⟨⟨h1, h2, h3⟩, h⟩ => by
    have ih := run_storeL P b vs f (i + 1) _ (canSt_set (u := v) (g := f + i) vs (f + i + 1) h)
    simp only [storeCells, add_none, Sem.run_bind, run_store_cell h1 h2 h3, Result.andThen_ok, setL]
    exact ih

theorem run_storeAt {t b f : Nat} {v : Value} {y : Ty} (hy : y.Ok P t) (hl : v.cells.toList.length = y.size) (h : canSt w b f v.cells.toList) :
    (Instr.storeAt t (.pointer (some ⟨b, f, none⟩)) v).run P w = .ok () (setL w b f v.cells.toList) := by
  have := run_storeL P b v.cells.toList f 0 w (by simpa using h)
  simp only [Instr.storeAt, Instr.sureAddr, storeVar, Sem.run_bind, Sem.run_pure, Result.andThen_ok, run_sizeOf hy]
  rw [Array.length_toList] at hl
  simp [hl, this]

end Go.Vx
end

/- part VxC -/
section
namespace Go.Vx

variable {P : Program} {tys : Tys} {fns : Fns} {w : World}

theorem guard_none {op : BinOp} {t : Nat} {xo yo : Operand} {x y : Value} (h : ∀ cs, x ≠ .agg cs) (h2 : x = .nilIface → ∃ v, yo = .const v) :
    (eqGuard op t xo yo x y).run P w = .ok () w := by
  unfold eqGuard
  cases op <;> try (simp; done)
  all_goals
    cases x <;> try (simp; done)
    case agg cs => exact absurd rfl (h cs)
    case nilIface =>
      obtain ⟨v, rfl⟩ := h2 rfl
      cases y <;> simp

theorem run_intBin {op : BinOp} {t : Nat} {k : IntKind} {a b : Int} {v : Value} (h : intBin op k a b = some v) : (binOp op t (.int k a) (.int k b)).run P w = .ok v w := by
  cases op <;> simp only [intBin, Option.some.injEq, reduceCtorEq] at h <;> subst h <;> simp [binOp, Op.intArith, Op.intCmp, Op.intBits]

theorem intW_gen {op : BinOp} {t : Nat} {k k' : IntKind} {a b : Int} {K : Value → Prop} (h : if k = k' then (match intBin op k a b with | some v => K v | none => False) else False) :
    ∃ v, K v ∧ ∀ w, (binOp op t (.int k a) (.int k' b)).run P w = .ok v w := by
  by_cases hk : k = k'
  · subst hk
    rw [if_pos rfl] at h
    cases hv : intBin op k a b with
    | none => rw [hv] at h; exact h.elim
    | some v => rw [hv] at h; exact ⟨v, h, fun w => run_intBin hv⟩
  · rw [if_neg hk] at h; exact h.elim

theorem intW_run {op : BinOp} {t : Nat} {k k' : IntKind} {a b : Int} {K : Value → Prop} (h : intW op k k' a b K) : ∃ v, K v ∧ ∀ w, (binOp op t (.int k a) (.int k' b)).run P w = .ok v w := by
  unfold intW at h
  cases op
  case shl => obtain ⟨h1, h2⟩ := h; exact ⟨_, h2, fun w => by simp [binOp, Op.shift, show ¬ b < 0 by omega]⟩
  case shr => obtain ⟨h1, h2⟩ := h; exact ⟨_, h2, fun w => by simp [binOp, Op.shift, show ¬ b < 0 by omega]⟩
  case quo => obtain ⟨rfl, h1, h2⟩ := h; exact ⟨_, h2, fun w => by simp [binOp, Op.intDiv, h1]⟩
  case rem => obtain ⟨rfl, h1, h2⟩ := h; exact ⟨_, h2, fun w => by simp [binOp, Op.intDiv, h1]⟩
  all_goals exact intW_gen h

theorem strBin_run {op : BinOp} {t : Nat} {a b : ByteArray} {K : Value → Prop} (h : strBin op a b K) : ∃ v, K v ∧ ∀ w, (binOp op t (.string a) (.string b)).run P w = .ok v w := by
  unfold strBin at h
  cases op <;> try exact h.elim
  case add =>
    obtain ⟨h1, h2⟩ := h
    have h1' : (a.size : Int) + (b.size : Int) ≤ 9223372036854775807 := by
      have e : IntKind.i64.max = 9223372036854775807 := by decide
      rw [e] at h1; omega
    exact ⟨_, h2, fun w => by simp [binOp, Op.stringOp, h1']⟩
  all_goals exact ⟨_, h, fun w => by simp [binOp, Op.stringOp]⟩

theorem isEq_cases {op : BinOp} (h : isEq op = true) : op = .eql ∨ op = .neq := by cases op <;> simp [isEq] at h <;> simp

theorem cond_false_elim {b : Bool} {p : Prop} (h : cond b p False) : b = true ∧ p := by cases b <;> simp_all

theorem run_eq_of {op : BinOp} {t : Nat} {x y : Value} {r : Bool} (hop : isEq op = true) (hx : ∀ k n, x ≠ .int k n) (hs : ∀ s, x ≠ .string s) (hf : ∀ k n, x ≠ .float k n) (hc : ∀ k n m, x ≠ .complex k n m)
    (h : (Op.equal t x y).run P w = .ok r w) : (binOp op t x y).run P w = .ok (.bool (flip op r)) w := by
  rcases isEq_cases hop with rfl | rfl <;> cases x <;> first | (exfalso; first | exact hx _ _ rfl | exact hs _ rfl | exact hf _ _ rfl | exact hc _ _ _ rfl) | (cases y <;> simp [binOp, flip, h])

theorem equal_bool {t : Nat} {a b : Bool} (h : P.underlying t = some .bool) : (Op.equal t (.bool a) (.bool b)).run P w = .ok (a == b) w := by
  have g : ∀ d, (Op.equalIn (d + 1) t (.bool a) (.bool b)).run P w = .ok (a == b) w := fun d => by simp [Op.equalIn, run_under h]
  exact g 9999
theorem equal_ptr {t e : Nat} {a : Option Addr} (h : P.underlying t = some (.pointer e)) : (Op.equal t (.pointer a) (.pointer none)).run P w = .ok a.isNone w := by
  have g : ∀ d, (Op.equalIn (d + 1) t (.pointer a) (.pointer none)).run P w = .ok a.isNone w := fun d => by cases a <;> simp [Op.equalIn, run_under h]
  exact g 9999
theorem equal_slice {t e : Nat} {a : Option Addr} {n c m k : Nat} (h : P.underlying t = some (.slice e)) : (Op.equal t (.slice a n c) (.slice none m k)).run P w = .ok a.isNone w := by
  have g : ∀ d, (Op.equalIn (d + 1) t (.slice a n c) (.slice none m k)).run P w = .ok a.isNone w := fun d => by cases a <;> simp [Op.equalIn, run_under h]
  exact g 9999
theorem equal_map {t e k : Nat} {a : Option Nat} (h : P.underlying t = some (.map k e)) : (Op.equal t (.map a) (.map none)).run P w = .ok a.isNone w := by
  have g : ∀ d, (Op.equalIn (d + 1) t (.map a) (.map none)).run P w = .ok a.isNone w := fun d => by cases a <;> simp [Op.equalIn, run_under h]
  exact g 9999
theorem equal_nils {t : Nat} {ms : Array (String × TypeId)} (h : P.underlying t = some (.interface ms)) : (Op.equal t .nilIface .nilIface).run P w = .ok true w := by
  have g : ∀ d, (Op.equalIn (d + 1) t .nilIface .nilIface).run P w = .ok true w := fun d => by simp [Op.equalIn, run_under h]
  exact g 9999
theorem equal_nil {t u : Nat} {x : Value} {ms : Array (String × TypeId)} (h : P.underlying t = some (.interface ms)) : (Op.equal t (.iface u x) .nilIface).run P w = .ok false w := by
  have g : ∀ d, (Op.equalIn (d + 1) t (.iface u x) .nilIface).run P w = .ok false w := fun d => by simp [Op.equalIn, run_under h]
  exact g 9999

theorem semEq_of {op : BinOp} {t : Nat} {xo yo : Operand} {x y v : Value} (h : ∀ cs, x ≠ .agg cs) (h2 : x = .nilIface → ∃ v, yo = .const v) (hb : (binOp op t x y).run P w = .ok v w) :
    (semEq op t xo yo x y).run P w = .ok v w := by
  simp only [semEq, Sem.run_bind, guard_none h h2, Result.andThen_ok]; exact hb

theorem binP_run {op : BinOp} {t : Nat} {xo yo : Operand} {x y : Value} {ρ : Operand → Value} {K : Value → Prop} (hT : AllOk P tys) (hy : ρ yo = y) (hρ : ∀ v, ρ (.const v) = v) (h : binP tys op t yo x y K) :
    ∃ v, K v ∧ ∀ w, (semEq op t xo yo x y).run P w = .ok v w := by
  have other : nilEqP tys op t yo x K → ∃ v, K v ∧ ∀ w, (semEq op t xo yo x y).run P w = .ok v w := by
    clear h
    intro h
    unfold nilEqP at h
    split at h
    · rw [hρ] at hy
      obtain ⟨hop, h⟩ := cond_false_elim h
      split at h
      · rename_i hl
        obtain ⟨ms, htk⟩ := (ok_of_look hT hl).tk
        obtain ⟨r, hn, hK⟩ := h
        refine ⟨_, hK, fun w => ?_⟩
        subst hy
        rcases hn with ⟨rfl, rfl⟩ | ⟨u, z, rfl, rfl⟩
        · exact semEq_of (by simp) (fun _ => ⟨_, rfl⟩) (run_eq_of hop (by simp) (by simp) (by simp) (by simp) (equal_nils htk))
        · exact semEq_of (by simp) (fun _ => ⟨_, rfl⟩) (run_eq_of hop (by simp) (by simp) (by simp) (by simp) (equal_nil htk))
      · exact h.elim
    · exact h.elim
  unfold binP at h
  cases hnc : isNilC yo with
  | true => rw [hnc] at h; exact other h
  | false =>
  rw [hnc] at h
  replace h : binV tys op t x y K := h
  unfold binV at h
  cases x with
  | int k a =>
    cases y with
    | int k' b =>
      obtain ⟨v, h2, h1⟩ := intW_run (P := P) (t := t) h
      exact ⟨v, h2, fun w => semEq_of (by simp) (by simp) (h1 w)⟩
    | _ => exact False.elim h
  | string a =>
    cases y with
    | string b =>
      obtain ⟨v, h2, h1⟩ := strBin_run (P := P) (t := t) h
      exact ⟨v, h2, fun w => semEq_of (by simp) (by simp) (h1 w)⟩
    | _ => exact False.elim h
  | bool a =>
    cases y with
    | bool b =>
      obtain ⟨hop, h⟩ := cond_false_elim h
      split at h
      · rename_i hl
        have htk : P.underlying t = _ := (ok_of_look hT hl).tk
        exact ⟨_, h, fun w => semEq_of (by simp) (by simp) (run_eq_of hop (by simp) (by simp) (by simp) (by simp) (equal_bool htk))⟩
      · exact False.elim h
    | _ => exact False.elim h
  | pointer a =>
    cases y with
    | pointer b =>
      cases b with
      | none =>
        obtain ⟨hop, h⟩ := cond_false_elim h
        split at h
        · rename_i hl
          have htk : P.underlying t = _ := (ok_of_look hT hl).tk
          exact ⟨_, h, fun w => semEq_of (by simp) (by simp) (run_eq_of hop (by simp) (by simp) (by simp) (by simp) (equal_ptr htk))⟩
        · exact False.elim h
      | some b => exact False.elim h
    | _ => exact False.elim h
  | slice a _ _ =>
    cases y with
    | slice b _ _ =>
      cases b with
      | none =>
        obtain ⟨hop, h⟩ := cond_false_elim h
        split at h
        · rename_i hl
          have htk : P.underlying t = _ := (ok_of_look hT hl).tk
          exact ⟨_, h, fun w => semEq_of (by simp) (by simp) (run_eq_of hop (by simp) (by simp) (by simp) (by simp) (equal_slice htk))⟩
        · exact False.elim h
      | some b => exact False.elim h
    | _ => exact False.elim h
  | map a =>
    cases y with
    | map b =>
      cases b with
      | none =>
        obtain ⟨hop, h⟩ := cond_false_elim h
        split at h
        · rename_i hl
          have htk : P.underlying t = _ := (ok_of_look hT hl).tk
          exact ⟨_, h, fun w => semEq_of (by simp) (by simp) (run_eq_of hop (by simp) (by simp) (by simp) (by simp) (equal_map htk))⟩
        · exact False.elim h
      | some b => exact False.elim h
    | _ => exact False.elim h
  | _ => exact False.elim h

theorem convP_run {s d : Nat} {x : Value} {K : Value → Prop} (hT : AllOk P tys) (h : convP tys s d x K) : ∃ v, K v ∧ ∀ w, (convert s d x).run P w = .ok v w := by
  unfold convP at h
  split at h
  · rename_i ys hs
    split at h
    · rename_i yd hd
      have ts := (ok_of_look hT hs).tk
      have td := (ok_of_look hT hd).tk
      split at h
      · rename_i k hk
        rw [hk] at td
        have td' : P.underlying d = _ := td
        split at h
        · split at h
          · rename_i k' hk'
            rw [hk'] at ts
            have ts' : P.underlying s = _ := ts
            exact ⟨_, h, fun w => by simp [convert, run_under ts', run_under td', Conv.intToInt]⟩
          · exact h.elim
        · exact h.elim
      · rename_i hk
        rw [hk] at td
        have td' : P.underlying d = _ := td
        split at h
        · split at h
          · rename_i hk'
            rw [hk'] at ts
            have ts' : P.underlying s = _ := ts
            exact ⟨_, h, fun w => by simp [convert, run_under ts', run_under td']⟩
          · exact h.elim
        · exact h.elim
      · exact h.elim
    · exact h.elim
  · exact h.elim

theorem convW_run {s d : Nat} {x : Value} {K : Value → World → Prop} (h : convW P tys s d x w K) : ∃ v w', (convert s d x).run P w = .ok v w' ∧ K v w' := by
  unfold convW at h
  split at h
  · split at h
    · obtain ⟨a, n, c, w', h1, h2⟩ := h
      exact ⟨_, _, h1, h2⟩
    · exact h.elim
  · exact h.elim

theorem run_sbound {y : Nat} {code : BoundsCode} {k : IntKind} {n : Int} (h0 : 0 ≤ n) (h1 : n ≤ y) : (Instr.sliceBound (.int k n) y code).run P w = .ok n.toNat w := by
  simp [Instr.sliceBound, asIntOf, h0, h1]

theorem cutA_map (a : Option Addr) (l m s : Nat) : (if m = l then a else Option.map (fun x => x.add (l * s)) a) = cutA a l m s := rfl

theorem sliceW_run {t : Nat} {x : Value} {lo hi mx : Option Value} {K : Value → Prop} (hT : AllOk P tys) (h : sliceW tys t x lo hi mx K) : ∃ v, K v ∧ ∀ w, (Instr.sliceAt t x lo hi mx).run P w = .ok v w := by
  unfold sliceW at h
  split at h
  · -- strings
    rename_i s
    split at h
    · rename_i hl
      have ht : P.underlying t = _ := (ok_of_look hT hl).tk
      split at h
      · exact h.elim
      · split at h
        · split at h
          · exact ⟨_, h, fun w => by simp [Instr.sliceAt, Instr.slice, Instr.sliceBounds, run_under ht]⟩
          · obtain ⟨h0, h1, h⟩ := h
            exact ⟨_, h, fun w => by simp [Instr.sliceAt, Instr.slice, Instr.sliceBounds, run_under ht, run_sbound h0 h1]⟩
          · exact h.elim
        · rename_i k hh
          split at h
          · obtain ⟨h0, h1, h⟩ := h
            exact ⟨_, h, fun w => by simp [Instr.sliceAt, Instr.slice, Instr.sliceBounds, run_under ht, run_sbound h0 h1]⟩
          · obtain ⟨h0, h1, h2, h⟩ := h
            exact ⟨_, h, fun w => by simp [Instr.sliceAt, Instr.slice, Instr.sliceBounds, run_under ht, run_sbound (Int.le_trans h0 h1) h2, run_sbound h0 (show _ ≤ ((Int.toNat _ : Nat) : Int) by rw [Int.toNat_of_nonneg (Int.le_trans h0 h1)]; exact h1)]⟩
          · exact h.elim
        · exact h.elim
    · exact h.elim
  · rename_i a n c
    split at h
    · rename_i el _ _ _ _ hl
      have ht : P.underlying t = _ := (ok_of_look hT hl).tk
      split at h
      · rename_i ye he
        have hs := fun w => run_sizeOf (w := w) (ok_of_look hT he)
        split at h
        · split at h
          · split at h
            · exact ⟨_, h, fun w => by simp only [Instr.sliceAt, Instr.slice, Instr.sliceBounds, Sem.run_bind, run_under ht, Result.andThen_ok, hs, Sem.run_pure, cutA_map]; rfl⟩
            · obtain ⟨h0, h1, h⟩ := h
              exact ⟨_, h, fun w => by simp [Instr.sliceAt, Instr.slice, Instr.sliceBounds, run_under ht, hs, run_sbound h0 h1]; rfl⟩
            · exact h.elim
          · split at h
            · obtain ⟨h0, h1, h⟩ := h
              exact ⟨_, h, fun w => by simp only [Instr.sliceAt, Instr.slice, Instr.sliceBounds, Sem.run_bind, run_under ht, Result.andThen_ok, hs, Sem.run_pure, cutA_map, run_sbound h0 h1, if_true]; rfl⟩
            · obtain ⟨h0, h1, h2, h⟩ := h
              exact ⟨_, h, fun w => by simp [Instr.sliceAt, Instr.slice, Instr.sliceBounds, run_under ht, hs, run_sbound (Int.le_trans h0 h1) h2, run_sbound h0 (show _ ≤ ((Int.toNat _ : Nat) : Int) by rw [Int.toNat_of_nonneg (Int.le_trans h0 h1)]; exact h1)]; rfl⟩
            · exact h.elim
          · exact h.elim
        · split at h
          · split at h
            · obtain ⟨h0, h1, h2, h⟩ := h
              exact ⟨_, h, fun w => by simp only [Instr.sliceAt, Instr.slice, Instr.sliceBounds, Sem.run_bind, run_under ht, Result.andThen_ok, hs, Sem.run_pure, cutA_map, if_true, run_sbound (Int.le_trans h0 h1) h2, run_sbound h0 (show _ ≤ ((Int.toNat _ : Nat) : Int) by rw [Int.toNat_of_nonneg (Int.le_trans h0 h1)]; exact h1)]; rfl⟩
            · obtain ⟨h0, h1, h2, h3, h⟩ := h
              exact ⟨_, h, fun w => by simp [Instr.sliceAt, Instr.slice, Instr.sliceBounds, run_under ht, hs, run_sbound (Int.le_trans h0 (Int.le_trans h1 h2)) h3, run_sbound (Int.le_trans h0 h1) (show _ ≤ ((Int.toNat _ : Nat) : Int) by rw [Int.toNat_of_nonneg (Int.le_trans h0 (Int.le_trans h1 h2))]; exact h2), run_sbound h0 (show _ ≤ ((Int.toNat _ : Nat) : Int) by rw [Int.toNat_of_nonneg (Int.le_trans h0 h1)]; exact h1)]; rfl⟩
            · exact h.elim
          · exact h.elim
        · exact h.elim
      · exact h.elim
    · exact h.elim
  · rename_i b f
    split at h
    · rename_i n el _ _ _ _ hl
      have ht : P.underlying t = _ := (ok_of_look hT hl).tk
      split at h
      · rename_i ye he
        have hs := fun w => run_sizeOf (w := w) (ok_of_look hT he)
        split at h
        · split at h
          · split at h
            · refine ⟨_, h, fun w => ?_⟩
              simp only [Instr.sliceAt, Instr.sliceBounds, Instr.sureAddr, Sem.run_bind, run_under ht, Result.andThen_ok, hs, Sem.run_pure, Nat.sub_zero]
              simp [Addr.add]
            · exact h.elim
          · exact h.elim
        · exact h.elim
      · exact h.elim
    · exact h.elim
  · exact h.elim

end Go.Vx
end

/- part VxD -/
section
namespace Go.Vx

variable {P : Program} {tys : Tys} {fns : Fns} {w : World}

/-! ### built values -/
theorem setAt_length (vs : List Value) : ∀ (cs : List Value) (i : Nat), (setAt cs i vs).length = cs.length := by
  induction vs with
  | nil => intro cs i; rfl
  | cons v vs ih => intro cs i; simp [setAt, ih]

theorem fold_setAt (vs : List Value) : ∀ (cs : Array Value) (off k : Nat), ((vs.zipIdx k).foldl (fun (cs : Array Value) (p : Value × Nat) => cs.setIfInBounds (off + p.2) p.1) cs).toList = setAt cs.toList (off + k) vs := by
  induction vs with
  | nil => intro cs off k; rfl
  | cons v vs ih =>
    intro cs off k
    simp only [List.zipIdx_cons, List.foldl_cons, setAt]
    rw [ih]
    simp [Nat.add_assoc]

theorem fill_of {place place' : Nat → Option (Nat × Nat)} (hp : ∀ i x, place' i = some x → place i = some x) : ∀ (rest : List (Nat × Value)) (cs : Array Value) (out : List Value), fillL place' cs.toList rest = some out → Instr.fill place cs rest = some out.toArray
  | [], cs, out, h => by simp only [fillL, Option.some.injEq] at h; subst h; simp [Instr.fill]
  | (i, v) :: rest, cs, out, h => by
    simp only [fillL] at h
    cases hi : place' i with
    | none => rw [hi] at h; cases h
    | some x =>
      obtain ⟨off, size⟩ := x
      rw [hi] at h
      dsimp only at h
      cases hb : (Nat.beq v.cells.toList.length size && Nat.ble (off + v.cells.toList.length) cs.toList.length) with
      | false => rw [hb] at h; cases h
      | true =>
        rw [hb] at h
        rw [Bool.and_eq_true] at hb
        have h1 := Nat.eq_of_beq_eq_true hb.1
        have h2 := Nat.le_of_ble_eq_true hb.2
        simp only [Instr.fill, hp _ _ hi]
        have e : (v.cells.size ≠ size || off + v.cells.size > cs.size) = false := by
          simp only [Array.length_toList] at h1 h2
          simp [h1]; omega
        rw [if_neg (by simpa using e)]
        refine fill_of hp rest _ out ?_
        have := fold_setAt v.cells.toList cs off 0
        rw [← Array.foldl_toList, Array.toList_zipIdx, this]
        exact h

theorem repL_get (z : List Value) (n : Nat) : (repL n z).length = n * z.length := by
  induction n with
  | zero => simp [repL]
  | succ n ih => simp [repL, ih, Nat.add_mul, Nat.add_comm]

theorem repL_at (z : List Value) : ∀ (n i : Nat), i < n * z.length → (repL n z)[i]? = z[i % z.length]? := by
  intro n
  induction n with
  | zero => intro i hi; simp at hi
  | succ n ih =>
    intro i hi
    simp only [repL]
    by_cases h : i < z.length
    · rw [List.getElem?_append_left h, Nat.mod_eq_of_lt h]
    · rw [List.getElem?_append_right (by omega), ih _ (by rw [Nat.add_mul] at hi; omega), ← Nat.mod_eq_sub_mod (by omega)]

theorem zeros_eq (z : List Value) (n : Nat) (hz : n * z.length ≠ 0) (za : Array Value) (hza : za.toList = z) : ((Array.range (n * z.length)).map fun i => za[i % za.size]!).toList = repL n z := by
  have hl : za.size = z.length := by rw [← hza]; simp
  refine List.ext_getElem? fun i => ?_
  by_cases hi : i < n * z.length
  · rw [repL_at z n i hi]
    have hpos : 0 < z.length := Nat.pos_of_ne_zero fun h => hz (by rw [h, Nat.mul_zero])
    have hlt : i % z.length < z.length := Nat.mod_lt _ hpos
    simp only [Array.toList_map, Array.toList_range, List.getElem?_map, List.getElem?_range hi, Option.map_some, hl]
    rw [List.getElem?_eq_getElem hlt, getElem!_pos za (i % z.length) (by omega)]
    simp [← hza]
  · rw [List.getElem?_eq_none (by simp; omega), List.getElem?_eq_none (by rw [repL_get]; omega)]

theorem run_build {t : Nat} {y : Ty} {fs : List (Nat × Nat)} {parts : Array (Nat × Value)} {out : List Value} (hT : AllOk P tys) (hy : y.Ok P t) (hk : y.tk = .agg fs)
    (h : fillL (fun i => (placesOf tys fs)[i]?) y.zero parts.toList = some out) (hsz : ∀ (i o u : Nat), fs[i]? = some (o, u) → ∃ yu, look tys u = some yu) : (Instr.build t parts).run P w = .ok (.agg out.toArray) w := by
  obtain ⟨z, hz, hzl⟩ := run_zero (w := w) hy
  have htk := hy.tk
  rw [hk] at htk
  obtain ⟨f, hf, hfs⟩ := htk
  have hmap : (f.mapM (fun x => do pure (x.offset, ← sizeOf x.type) : Field → Sem (Nat × Nat))).run P w = .ok (placesOf tys fs).toArray w := by
    have hl : ∀ (l : List Field) (acc : List (Nat × Nat)), (∀ x ∈ l, ∃ yu, look tys x.type = some yu) →
        (l.mapM (fun x => do pure (x.offset, ← sizeOf x.type) : Field → Sem (Nat × Nat))).run P w = .ok (placesOf tys (l.map fun x => (x.offset, x.type))) w := by
      intro l _
      induction l with
      | nil => intro _; simp [placesOf]
      | cons x l ih =>
        intro hx
        obtain ⟨yu, hu⟩ := hx x (by simp)
        have ih' := ih (fun x hx' => hx x (by simp [hx']))
        simp only [List.mapM_cons, Sem.run_bind, run_sizeOf (ok_of_look hT hu), Result.andThen_ok, Sem.run_pure, ih']
        simp [placesOf, hu]
    have := hl f.toList [] (fun x hx => by
      obtain ⟨i, hi⟩ := List.getElem?_of_mem hx
      exact hsz i x.offset x.type (by rw [← hfs, List.getElem?_map, hi]; rfl))
    rw [Array.mapM_eq_mapM_toList, Sem.run_map, this, hfs]
    simp
  have hfill := fill_of (place := fun i => (placesOf tys fs).toArray[i]?) (place' := fun i => (placesOf tys fs)[i]?) (fun i x hx => by simpa using hx) parts.toList z.cells out (by rw [hzl]; exact h)
  have he : (((placesOf tys fs).toArray[·]?) : Nat → Option (Nat × Nat)) = fun i => (placesOf tys fs).toArray[i]? := rfl
  simp only [Instr.build, Sem.run_bind, hz, Result.andThen_ok, run_under hf, hmap]
  rw [hfill]
  simp

theorem run_buildSlice {t el len : Nat} {ye : Ty} {parts : Array (Nat × Value)} {out : List Value} (ht : P.underlying t = some (.slice el)) (he : ye.Ok P el) (hb : len * ye.size ≤ 4096)
    (h : fillL (fun i => some (i * ye.size, ye.size)) (repL len ye.zero) parts.toList = some out) :
    (Instr.buildSlice t len parts).run P w = .ok (.slice (some ⟨w.heap.size, 0, none⟩) len len) (w.alloc (.cells out.toArray el)) := by
  obtain ⟨z, hz, hzl⟩ := run_zero (w := w) he
  have hzs : ye.zero.length = ye.size := he.zs
  have hb' : ¬ len * ye.size > 2 ^ 24 := by omega
  simp only [Instr.buildSlice, Sem.run_bind, run_under ht, Result.andThen_ok, run_sizeOf he, Sem.run_ite, if_neg hb', Sem.run_pure]
  by_cases hn : len * ye.size = 0
  · have e0 : repL len ye.zero = [] := List.eq_nil_of_length_eq_zero (by rw [repL_get, hzs]; exact hn)
    have := fill_of (place := fun i => some (i * ye.size, ye.size)) (place' := fun i => some (i * ye.size, ye.size)) (fun i x hx => hx) parts.toList #[] out (by rw [← e0]; exact h)
    have e1 : ∀ (g : Nat → Value), Array.map g (Array.range 0) = #[] := fun g => by simp
    simp only [hn, if_true, e1, this]
    rfl
  · rw [if_neg hn]
    simp only [hz, Result.andThen_ok]
    have e0 := zeros_eq ye.zero len (by rw [hzs]; exact hn) z.cells hzl
    rw [hzs] at e0
    have := fill_of (place := fun i => some (i * ye.size, ye.size)) (place' := fun i => some (i * ye.size, ye.size)) (fun i x hx => hx) parts.toList ((Array.range (len * ye.size)).map fun i => z.cells[i % z.cells.size]!) out (by rw [e0]; exact h)
    rw [this]
    rfl

theorem run_makeSlice {t el : Nat} {ye : Ty} {n m : Int} (ht : P.underlying t = some (.slice el)) (he : ye.Ok P el) (h0 : 0 ≤ n) (h1 : n ≤ m) (h2 : m ≤ 140737488355328) (h3 : ye.bytes * m ≤ 140737488355328) :
    (Instr.makeSlice t (.int .i64 n) (.int .i64 m)).run P w = .ok (.slice (some ⟨w.heap.size, 0, none⟩) n.toNat m.toNat) (w.alloc (.cells (zerosA ye.zero m.toNat) el)) := by
  obtain ⟨i, hi, hi1, hi2⟩ := run_typeInfo (w := w) he
  obtain ⟨z, hz, hzl⟩ := run_zero (w := w) he
  have w1 : IntKind.i64.wrap n = n := by unfold IntKind.wrap; simp [IntKind.signed, IntKind.bits]; omega
  have w2 : IntKind.i64.wrap m = m := by unfold IntKind.wrap; simp [IntKind.signed, IntKind.bits]; omega
  have hzs : z.cells = ye.zero.toArray := by rw [← hzl]
  have c : (decide (m < 0) || decide ((i.bytes : Int) * m > 2 ^ 48) || decide (n < 0) || decide (n > m)) = false := by
    rw [hi2]; simp; omega
  simp only [Instr.makeSlice, Sem.run_bind, run_under ht, Result.andThen_ok, asInt, asIntOf, Sem.run_pure, hi, w1, w2, Sem.run_ite]
  rw [if_neg (by simpa using c)]
  simp only [Result.andThen_ok, run_askRoom, run_sizeOf he, hz]
  by_cases hn : m.toNat * ye.size = 0
  · have e : zerosA ye.zero m.toNat = #[] := by simp [zerosA, he.zs, hn]
    have e1 : ∀ (g : Nat → Value), Array.map g (Array.range 0) = #[] := fun g => by simp
    rw [e]
    simp only [hn, if_true, e1]
    rfl
  · have e : zerosA ye.zero m.toNat = (Array.range (m.toNat * ye.size)).map fun i => z.cells[i % z.cells.size]! := by simp [zerosA, he.zs, hzs]
    rw [e, if_neg hn]
    rfl

theorem run_fieldAddr {s b f i off ft : Nat} {y yf : Ty} {fs : List (Nat × Nat)} (hy : y.Ok P s) (hk : y.tk = .agg fs) (hi : fs[i]? = some (off, ft)) (hf : yf.Ok P ft) (h0 : Nat.beq yf.size 0 = false) :
    (Instr.fieldAt s (.pointer (some ⟨b, f, none⟩)) i).run P w = .ok (.pointer (some ⟨b, f + off, none⟩)) w := by
  have htk := hy.tk
  rw [hk] at htk
  obtain ⟨fl, hfl, hfs⟩ := htk
  rw [← hfs, List.getElem?_map] at hi
  have hi' : fl[i]? = fl.toList[i]? := by simp
  cases hx : fl.toList[i]? with
  | none => rw [hx] at hi; cases hi
  | some x =>
    rw [hx] at hi hi'
    simp only [Option.map_some, Option.some.injEq, Prod.mk.injEq] at hi
    obtain ⟨rfl, rfl⟩ := hi
    have hne : yf.size ≠ 0 := fun e => by rw [e] at h0; cases h0
    simp [Instr.fieldAt, run_under hfl, hi', Instr.sureAddr, fieldPlace, run_sizeOf hf, hne, add_none]

theorem partW_run {ft off : Nat} {cs : Array Value} {K : Value → Prop} (hT : AllOk P tys) (h : partW tys ft cs.toList off K) : ∃ v, K v ∧ ∀ w, (part ft cs off).run P w = .ok v w := by
  unfold partW at h
  split at h
  · rename_i y hl
    have hy := ok_of_look hT hl
    have htk := hy.tk
    have ext : ((cs.toList.drop off).take y.size).toArray = cs.extract off (off + y.size) := by
      apply Array.ext'
      simp [List.take_drop]
    rw [ext] at h
    cases hk : y.tk with
    | agg fs => rw [hk] at h htk; exact ⟨.agg (cs.extract off (off + y.size)), h, fun w => by simp [part, run_isAgg_yes htk, run_sizeOf hy]⟩
    | arr n e => rw [hk] at h htk; exact ⟨.agg (cs.extract off (off + y.size)), h, fun w => by simp [part, run_isAgg_arr htk, run_sizeOf hy]⟩
    | tuple ts => rw [hk] at h; exact h.elim
    | other => rw [hk] at h; exact h.elim
    | _ =>
      rw [hk] at h htk
      dsimp only at h
      split at h
      · rename_i v hv
        have hv' : cs[off]? = some v := by simpa using hv
        exact ⟨v, h, fun w => by simp [part, run_isAgg_no htk rfl, hv']⟩
      · exact h.elim
  · exact h.elim

theorem run_indexAddr {t el n c b f : Nat} {k : IntKind} {j : Int} {ye : Ty} (ht : P.underlying t = some (.slice el)) (he : ye.Ok P el) (h0 : 0 ≤ j) (h1 : j < n) :
    (Instr.indexAt t (.slice (some ⟨b, f, none⟩) n c) (.int k j)).run P w = .ok (.pointer (some ⟨b, f + j.toNat * ye.size, none⟩)) w := by
  simp [Instr.indexAt, asIntOf, run_under ht, h0, h1, run_sizeOf he, add_none]

theorem run_indexAddr_arr {t el n b f : Nat} {k : IntKind} {j : Int} {ye : Ty} (ht : P.underlying t = some (.array n el)) (he : ye.Ok P el) (h0 : 0 ≤ j) (h1 : j < n) :
    (Instr.indexAt t (.pointer (some ⟨b, f, none⟩)) (.int k j)).run P w = .ok (.pointer (some ⟨b, f + j.toNat * ye.size, none⟩)) w := by
  simp [Instr.indexAt, Instr.sureAddr, asIntOf, run_under ht, h0, h1, run_sizeOf he, add_none]

theorem run_index_str {t : Nat} {s : ByteArray} {k : IntKind} {j : Int} {c : UInt8} (ht : P.underlying t = some .string) (h0 : 0 ≤ j) (hc : s[j.toNat]? = some c) :
    (Instr.index t (.string s) (.int k j)).run P w = .ok (.int .u8 c.toNat) w := by
  simp [Instr.index, asIntOf, run_under ht, h0, hc]

theorem run_index_arr {t el n : Nat} {cs : Array Value} {k : IntKind} {j : Int} {ye : Ty} {v : Value} (ht : P.underlying t = some (.array n el)) (he : ye.Ok P el) (h0 : 0 ≤ j) (h1 : j < n) (hv : (part el cs (j.toNat * ye.size)).run P w = .ok v w) :
    (Instr.index t (.agg cs) (.int k j)).run P w = .ok v w := by
  simp [Instr.index, asIntOf, run_under ht, h0, h1, run_sizeOf he, hv]

theorem val_next {s : Sem Value} {v : Value} {w w' : World} (h : s.run P w = .ok v w') : (do pure (.value (← s)) : Sem Next).run P w = .ok (.value v) w' := by
  simp [h]

theorem builtP_run {b : Builtin} {ts : Array TypeId} {rt : Nat} {cs : Array Bool} {args : List Value} {K : Value → Prop} (hT : AllOk P tys) (h : builtP tys b ts args K) :
    ∃ v, K v ∧ ∀ w, (builtin b ts rt cs args.toArray).run P w = .ok (.value v) w := by
  have h0 : ∀ {y : Ty}, look tys (ts.toList.headD 0) = some y → Nat.beq ts.size 1 = true → ∃ t, ts[0]? = some t ∧ y.tk.ok P t := by
    intro y hl hn
    have hn := Nat.eq_of_beq_eq_true hn
    have : 0 < ts.size := by omega
    refine ⟨ts[0], by simp, ?_⟩
    have e : ts.toList.headD 0 = ts[0] := by
      have : ts.toList[0]? = some ts[0] := by simp
      cases hx : ts.toList with
      | nil => rw [hx] at this; cases this
      | cons a r => rw [hx] at this; simpa using this
    exact e ▸ (ok_of_look hT hl).tk
  unfold builtP at h
  split at h
  · split at h
    · split at h
      · rename_i hl
        obtain ⟨hn, h⟩ := cond_false_elim h
        obtain ⟨t, ht, hk⟩ := h0 hl hn
        exact ⟨_, h, fun w => by simp [builtin, Builtin.len_, ht, run_under (show P.underlying t = _ from hk), goInt]⟩
      · exact h.elim
    · split at h
      · rename_i hl
        obtain ⟨hn, h⟩ := cond_false_elim h
        obtain ⟨t, ht, hk⟩ := h0 hl hn
        exact ⟨_, h, fun w => by simp [builtin, Builtin.len_, ht, run_under (show P.underlying t = _ from hk), goInt]⟩
      · exact h.elim
    · exact h.elim
  · split at h
    · split at h
      · rename_i hl
        obtain ⟨hn, h⟩ := cond_false_elim h
        obtain ⟨t, ht, hk⟩ := h0 hl hn
        exact ⟨_, h, fun w => by simp [builtin, Builtin.cap_, ht, run_under (show P.underlying t = _ from hk), goInt]⟩
      · exact h.elim
    · exact h.elim
  · split at h
    · exact ⟨_, h, fun w => by simp [builtin, Builtin.min_, Builtin.min2]⟩
    · exact h.elim
  · split at h
    · exact ⟨_, h, fun w => by simp [builtin, Builtin.max_, Builtin.max2]⟩
    · exact h.elim
  · exact h.elim

end Go.Vx
end

/- part VxE -/
section
namespace Go.Vx

variable {P : Program} {tys : Tys} {fns : Fx} {w : World}

/-- what an operation comes to -/
def OpRes (P : Program) (T : List PanicEntry → World → Prop) (o : Oper) (ρ : Operand → Value) (w : World) (K : Value → World → Prop) : Prop :=
  (∃ v w', (execOp ρ o).run P w = .ok (.value v) w' ∧ K v w') ∨ (∃ w', (execOp ρ o).run P w = .ok .skip w' ∧ K undef w') ∨
  (∃ f args, (execOp ρ o).run P w = .ok (.enter f args) w ∧ Calls P f args w fun e w' => (∃ v, e = .returned v ∧ K v w') ∨ ∃ c, e = .panicked c ∧ T c w') ∨
  (∃ v w', (execOp ρ o).run P w = .halt (.panic v) w' ∧ T [{ v, recovered := false }] w')

theorem OpRes.wp {T : List PanicEntry → World → Prop} {o : Oper} {a : Act} {K : Value → World → Prop} {next : Act → World → Prop} {Q : Exit → Act → World → Prop} (hX : ∀ c w', T c w' → Q (.panic c) a w') (h : ∀ v w', K v w' → next (a.put o.dst v) w') (hr : OpRes P T o a.eval w K) : o.wp P a w next Q := by
  unfold Oper.wp
  rcases hr with ⟨v, w', h1, h2⟩ | ⟨w', h1, h2⟩ | ⟨f, args, h1, h2⟩ | ⟨v, w', h1, h2⟩ <;> rw [h1]
  · exact h _ _ h2
  · exact h _ _ h2
  · refine h2.mono fun e w' h3 => ?_
    rcases h3 with ⟨v, h3, h4⟩ | ⟨c, h3, h4⟩
    · subst h3
      exact h _ _ h4
    · subst h3
      exact hX _ _ h4
  · exact hX _ _ h2

theorem map_ops {ρ : Operand → Value} (l : Array Operand) : (l.toList.map ρ).toArray = l.map ρ := by
  apply Array.ext'
  simp

theorem map_snd {ρ : Operand → Value} (parts : Array (Nat × Operand)) : (parts.map fun (i, x) => (i, ρ x)).toList = parts.toList.map fun (i, x) => (i, ρ x) := by simp

theorem pureW_run {o : Oper} {ρ : Operand → Value} {K : Value → Prop} (hT : AllOk P tys) (hρ : ∀ v, ρ (.const v) = v) (h : pureW P tys o ρ K) : ∃ v, K v ∧ ∀ w, (execOp ρ o).run P w = .ok (.value v) w := by
  obtain ⟨dst, op, type, pos, after, guard⟩ := o
  cases op <;> simp only [pureW] at h
  case move x => exact ⟨_, h, fun w => by simp [execOp]⟩
  case assign x => exact ⟨_, h, fun w => by simp [execOp]⟩
  case pick c x y =>
    split at h
    · rename_i b hb
      refine ⟨if b then ρ x else ρ y, by cases b <;> simpa using h, fun w => ?_⟩
      cases b <;> simp [execOp, hb, asBool]
    · exact h.elim
  case build t parts =>
    split at h
    · rename_i y hl
      split at h
      · rename_i fs hk
        split at h
        · rename_i cs hf
          obtain ⟨hall, h⟩ := cond_false_elim h
          refine ⟨_, h, fun w => val_next (run_build (w := w) hT (ok_of_look hT hl) hk (by rw [map_snd]; exact hf) ?_)⟩
          intro i o u hi
          have := List.all_eq_true.1 hall (o, u) (List.mem_of_getElem? hi)
          exact Option.isSome_iff_exists.1 this
        · exact h.elim
      · exact h.elim
    · exact h.elim
  case nilCheck x =>
    split at h
    · rename_i a ha
      obtain ⟨b, f, rfl, h⟩ := h
      exact ⟨_, h, fun w => by simp [execOp, ha]⟩
    · rename_i ha
      exact ⟨_, h, fun w => by simp [execOp, ha]⟩
    · exact h.elim
  case binOp op t x y yt =>
    obtain ⟨v, h1, h2⟩ := binP_run (P := P) (xo := x) hT rfl hρ h
    exact ⟨v, h1, fun w => val_next (h2 w)⟩
  case unOp op t x =>
    cases op
    all_goals dsimp only at h
    case not =>
      split at h
      · rename_i b hb; exact ⟨_, h, fun w => val_next (by simp [Op.unary, hb])⟩
      · exact h.elim
    case neg =>
      split at h
      · rename_i k n hb; exact ⟨_, h, fun w => val_next (by simp [Op.unary, hb, Op.intArith])⟩
      · exact h.elim
    all_goals exact h.elim
  case convert s d x =>
    obtain ⟨v, h1, h2⟩ := convP_run hT h
    exact ⟨v, h1, fun w => val_next (h2 w)⟩
  case makeInterface t x =>
    split at h
    · rename_i y hl
      have hy := ok_of_look hT hl
      have htk := hy.tk
      refine ⟨.iface t (ρ x), by split at h <;> first | exact h | exact False.elim h, fun w => val_next ?_⟩
      cases hk : y.tk <;> rw [hk] at h htk <;> first | exact False.elim h | skip
      case agg => obtain ⟨f, hf, _⟩ := htk; simp [Instr.makeInterface, run_under hf]
      case map => simp [Instr.makeInterface, run_under (show P.underlying t = _ from htk)]
      case fn => obtain ⟨_, _, _, hf⟩ := htk; simp [Instr.makeInterface, run_under hf]
      all_goals simp [Instr.makeInterface, run_under (show P.underlying t = _ from htk)]
    · exact h.elim
  case makeFunc fn first captured =>
    rw [map_ops, map_ops] at h
    exact ⟨_, h, fun w => val_next rfl⟩
  case slice t x lo hi mx =>
    obtain ⟨v, h1, h2⟩ := sliceW_run (P := P) hT h
    exact ⟨v, h1, fun w => val_next (h2 w)⟩
  case fieldAddr s x i =>
    split at h
    · rename_i b f hx
      split at h
      · rename_i y hl
        split at h
        · rename_i fs hk
          split at h
          · rename_i off ft hi
            split at h
            · rename_i yf hf
              cases hb : Nat.beq yf.size 0 with
              | true => rw [hb] at h; exact h.elim
              | false =>
                rw [hb] at h
                exact ⟨_, h, fun w => val_next (by rw [hx]; exact run_fieldAddr (ok_of_look hT hl) hk hi (ok_of_look hT hf) hb)⟩
            · exact h.elim
          · exact h.elim
        · exact h.elim
      · exact h.elim
    · exact h.elim
  case field s x i =>
    split at h
    · rename_i cs hx
      split at h
      · rename_i y hl
        split at h
        · rename_i fs hk
          split at h
          · rename_i off ft hi
            obtain ⟨v, h1, h2⟩ := partW_run (P := P) hT h
            refine ⟨v, h1, fun w => val_next ?_⟩
            have htk := (ok_of_look hT hl).tk
            rw [hk] at htk
            obtain ⟨fl, hfl, hfs⟩ := htk
            rw [← hfs, List.getElem?_map] at hi
            have hi' : fl[i]? = fl.toList[i]? := by simp
            cases hx' : fl.toList[i]? with
            | none => rw [hx'] at hi; cases hi
            | some z =>
              rw [hx'] at hi hi'
              simp only [Option.map_some, Option.some.injEq, Prod.mk.injEq] at hi
              obtain ⟨rfl, rfl⟩ := hi
              simp [Instr.field, run_under hfl, hi', hx, asAgg, h2]
          · exact h.elim
        · exact h.elim
      · exact h.elim
    · exact h.elim
  case indexAddr t x i =>
    split at h
    · rename_i k j hj
      split at h
      · rename_i y hl
        have htk := (ok_of_look hT hl).tk
        split at h
        · rename_i el hk
          rw [hk] at htk
          split at h
          · rename_i ye he
            split at h
            · rename_i a n c hx
              obtain ⟨b, f, rfl, h0, h1, h⟩ := h
              exact ⟨_, h, fun w => val_next (by rw [hx, hj]; exact run_indexAddr htk (ok_of_look hT he) h0 h1)⟩
            · exact h.elim
          · exact h.elim
        · rename_i n el hk
          rw [hk] at htk
          split at h
          · rename_i ye he
            split at h
            · rename_i b f hx
              obtain ⟨h0, h1, h⟩ := h
              exact ⟨_, h, fun w => val_next (by rw [hx, hj]; exact run_indexAddr_arr htk (ok_of_look hT he) h0 h1)⟩
            · exact h.elim
          · exact h.elim
        · exact h.elim
      · exact h.elim
    · exact h.elim
  case index t x i =>
    split at h
    · rename_i k j hj
      split at h
      · rename_i y hl
        have htk := (ok_of_look hT hl).tk
        split at h
        · rename_i hk
          rw [hk] at htk
          split at h
          · rename_i s hx
            obtain ⟨h0, c, hc, h⟩ := h
            exact ⟨_, h, fun w => val_next (by rw [hx, hj]; exact run_index_str htk h0 hc)⟩
          · exact h.elim
        · rename_i n el hk
          rw [hk] at htk
          split at h
          · rename_i ye he
            split at h
            · rename_i cs hx
              obtain ⟨h0, h1, v, hv, h⟩ := h
              exact ⟨_, h, fun w => val_next (by rw [hx, hj]; exact run_index_arr htk (ok_of_look hT he) h0 h1 (hv w))⟩
            · exact h.elim
          · exact h.elim
        · exact h.elim
      · exact h.elim
    · exact h.elim
  case extract x i =>
    split at h
    · rename_i vs hx
      split at h
      · rename_i v hv
        refine ⟨v, h, fun w => val_next ?_⟩
        have hv' : vs[i]? = some v := by simpa using hv
        simp [Instr.extract, hx, hv']
      · exact h.elim
    · exact h.elim
  case call c =>
    split at h
    · rename_i b hb
      obtain ⟨v, h1, h2⟩ := builtP_run (P := P) (rt := type) (cs := c.args.map fun | .const _ => true | _ => false) hT h
      refine ⟨v, h1, fun w => ?_⟩
      have := h2 w
      rw [map_ops] at this
      simp only [execOp, resolve, hb, invoke, Sem.run_bind, Sem.run_pure, Result.andThen_ok]
      exact this
    · exact h.elim
  all_goals exact h.elim

theorem exT1_elim {t : Nat} {K : Value → Prop} (h : exT1 tys t K) : ∃ v, K v := by
  unfold exT1 at h
  split at h
  · split at h
    · obtain ⟨vs, _, h⟩ := exL_elim h; exact ⟨_, h⟩
    · obtain ⟨vs, _, h⟩ := exL_elim h; exact ⟨_, h⟩
    · split at h
      · exact Sh.ex_elim h
      · exact h.elim
  · exact h.elim

theorem exTs_elim : ∀ {ts : List Nat} {K : List Value → Prop}, exTs tys ts K → ∃ vs, K vs
  | [], _, h => ⟨[], h⟩
  | t :: r, K, h => by
    obtain ⟨v, h⟩ := exT1_elim h
    obtain ⟨vs, h⟩ := exTs_elim h
    exact ⟨v :: vs, h⟩

theorem exT_elim {t : Nat} {K : Value → Prop} (h : exT tys t K) : ∃ v, K v := by
  unfold exT at h
  split at h
  · obtain ⟨vs, h⟩ := exTs_elim h; exact ⟨_, h⟩
  · exact exT1_elim h

theorem retW_elim {rs : List Nat} {K : Value → World → Prop} {e : Ending} {w : World} (h : retW tys rs K e w) : ∃ v, e = .returned v ∧ K v w := by
  unfold retW at h
  split at h
  · exact ⟨_, h.1, h.2⟩
  · obtain ⟨v, h1, h2⟩ := exT1_elim h; exact ⟨v, h1, h2⟩
  · obtain ⟨vs, h1, h2⟩ := exTs_elim h; exact ⟨_, h1, h2⟩

theorem unit_next {s : Sem Unit} {w w' : World} (h : s.run P w = .ok () w') : (do s; pure .skip : Sem Next).run P w = .ok .skip w' := by
  simp [h]

theorem eventW_run {o : Oper} {ρ : Operand → Value} {K : Value → World → Prop} (hT : AllOk P tys) (hF : FnsOk P fns.l) (h : eventW P tys fns o ρ w K) : OpRes P fns.thr o ρ w K := by
  obtain ⟨dst, op, type, pos, after, guard⟩ := o
  have V : ∀ {s : Sem Value} {v : Value} {w' : World}, execOp ρ ⟨dst, op, type, pos, after, guard⟩ = (do pure (.value (← s)) : Sem Next) → s.run P w = .ok v w' → K v w' → OpRes P fns.thr ⟨dst, op, type, pos, after, guard⟩ ρ w K :=
    fun he h1 h2 => .inl ⟨_, _, by rw [he]; exact val_next h1, h2⟩
  have U : ∀ {s : Sem Unit} {w' : World}, execOp ρ ⟨dst, op, type, pos, after, guard⟩ = (do s; pure .skip : Sem Next) → s.run P w = .ok () w' → K undef w' → OpRes P fns.thr ⟨dst, op, type, pos, after, guard⟩ ρ w K :=
    fun he h1 h2 => .inr (.inl ⟨_, by rw [he]; exact unit_next h1, h2⟩)
  cases op <;> simp only [eventW] at h
  case alloc t =>
    split at h
    · rename_i y hl
      obtain ⟨z, hz, hzl⟩ := run_zero (w := w) (ok_of_look hT hl)
      refine V rfl (s := Instr.alloc t true (.tuple #[])) ?_ h
      have e : y.zero.toArray = z.cells := by rw [← hzl]
      simp only [Instr.alloc, Sem.run_bind, hz, Result.andThen_ok, newVar, newRow, newP, e]; rfl
    · exact h.elim
  case box t x =>
    refine V rfl (s := Instr.box t (ρ x)) ?_ h
    simp only [Instr.box, newVar, newRow, newP, Array.toArray_toList]; rfl
  case buildSlice t len parts =>
    split at h
    · rename_i el _ _ _ _ hl
      split at h
      · rename_i ye he
        obtain ⟨hb, h⟩ := cond_false_elim h
        cases hif : (isIf ye.tk && Nat.beq ye.size 1) with
        | true =>
          rw [hif] at h
          simp only [cond_true] at h
          obtain ⟨ho, h⟩ := h
          have h1 : ye.size = 1 := Nat.eq_of_beq_eq_true (Bool.and_eq_true_iff.1 hif).2
          split at h
          · rename_i cs hf
            exact V rfl (run_buildSlice (ok_of_look hT hl).tk (ok_of_look hT he) (Nat.le_of_ble_eq_true hb) (by rw [map_snd, h1]; exact fill1_fillL ho hf)) h
          · exact h.elim
        | false =>
          rw [hif] at h
          simp only [cond_false] at h
          split at h
          · rename_i cs hf
            exact V rfl (run_buildSlice (ok_of_look hT hl).tk (ok_of_look hT he) (Nat.le_of_ble_eq_true hb) (by rw [map_snd]; exact hf)) h
          · exact h.elim
      · exact h.elim
    · exact h.elim
  case store t x v =>
    split at h
    · rename_i b f hx
      split at h
      · rename_i y hl
        obtain ⟨hb, hc, h⟩ := cond_false_elim h
        exact U rfl (by rw [hx]; exact run_storeAt (ok_of_look hT hl) (Nat.eq_of_beq_eq_true hb) hc) h
      · exact h.elim
    · exact h.elim
  case convert s d x =>
    obtain ⟨v, w', h1, h2⟩ := convW_run h
    exact V rfl h1 h2
  case makeMap t r =>
    cases r with
    | none => exact V rfl (s := Instr.makeMap t none) (by simp only [Instr.makeMap]; rfl) h
    | some r => exact h.elim
  case makeSlice t l c =>
    split at h
    · rename_i el _ _ _ _ hl
      split at h
      · rename_i ye he
        split at h
        · rename_i n hn
          split at h
          · rename_i m hm
            obtain ⟨h0, h1, h2, h3, h⟩ := h
            exact V rfl (by rw [hn, hm]; exact run_makeSlice (ok_of_look hT hl).tk (ok_of_look hT he) h0 h1 h2 h3) h
          · exact h.elim
        · exact h.elim
      · exact h.elim
    · exact h.elim
  case mapUpdate t m k x => obtain ⟨w', h1, h2⟩ := h; exact U rfl h1 h2
  case insert t m k x => obtain ⟨w', h1, h2⟩ := h; exact U rfl h1 h2
  case mapEntry t m k => obtain ⟨v, w', h1, h2⟩ := h; exact V rfl h1 h2
  case entryStore t m s x => obtain ⟨w', h1, h2⟩ := h; exact U rfl h1 h2
  case range t x => obtain ⟨v, w', h1, h2⟩ := h; exact V rfl h1 h2
  case next it s => obtain ⟨w', h⟩ := h; obtain ⟨v, h1, h2⟩ := exT_elim h; exact V rfl h1 h2
  case entry it => obtain ⟨v, w', h1, h2⟩ := h; exact V rfl h1 h2
  case call c =>
    split at h
    · rename_i f hf
      unfold callW at h
      split at h
      · rename_i g first captured hv
        split at h
        · rename_i rs hr
          obtain ⟨fn, h1, h2, h3⟩ := fn_of_look hF hr
          refine .inr (.inr (.inl ⟨g, first ++ (c.args.toList.map ρ).toArray ++ captured, ?_, ?_⟩))
          rotate_left
          · unfold Fx.thr
            cases hT' : fns.T with
            | none => rw [hT'] at h; exact h.mono fun e w' h => .inl (retW_elim h)
            | some T => rw [hT'] at h; exact h.mono fun e w' h => h.imp retW_elim id
          rw [map_ops]
          simp only [execOp, resolve, hf, hv, Deferred.ofValue, invoke, callFunc, Sem.run_bind, Sem.run_pure, Result.andThen_ok, run_program, h1, h2, h3, Bool.false_eq_true, if_false]
        · exact h.elim
      · exact h.elim
    · rename_i b hb
      have B : ∀ {s : Sem Value} {v : Value} {w' : World}, (∀ cs, builtin b c.argTypes type cs (c.args.map ρ) = (do pure (.value (← s)) : Sem Next)) → s.run P w = .ok v w' → K v w' → OpRes P fns.thr ⟨dst, .call c, type, pos, after, guard⟩ ρ w K := by
        intro s v w' he h1 h2
        refine .inl ⟨v, w', ?_, h2⟩
        simp only [execOp, resolve, hb, invoke, Sem.run_bind, Sem.run_pure, Result.andThen_ok]
        rw [he]; exact val_next h1
      have ea := map_ops (ρ := ρ) c.args
      unfold builtW at h
      split at h
      · obtain ⟨x, n, m, w', h1, h2⟩ := h; rw [ea] at h1; exact B (fun _ => rfl) h1 h2
      · obtain ⟨n, w', h1, h2⟩ := h; rw [ea] at h1; exact B (fun _ => rfl) h1 h2
      · obtain ⟨v, w', h1, h2⟩ := h; rw [ea] at h1; exact B (fun _ => rfl) h1 h2
      · exact h.elim
    · exact h.elim
  case panic x =>
    split at h
    · rename_i t v hx
      refine .inr (.inr (.inr ⟨.iface t v, w, ?_, h⟩))
      simp only [execOp, hx]
      rfl
    · exact h.elim
  all_goals exact h.elim

theorem ldW_run {o : Oper} {ρ : Operand → Value} {K : (World → Prop) → Value → Prop} (hT : AllOk P tys) (h : ldW P tys o ρ w K) :
    ∃ (c : World → Prop) (v : Value), c w ∧ K c v ∧ ∀ w', c w' → (execOp ρ o).run P w' = .ok (.value v) w' := by
  obtain ⟨dst, op, type, pos, after, guard⟩ := o
  cases op <;> simp only [ldW] at h
  case load t x =>
    split at h
    · rename_i b f hx
      obtain ⟨vs, v, h1, h2, h3⟩ := loadW_run (P := P) hT h
      exact ⟨_, v, h1, h2, fun w' hc => val_next (by rw [hx]; exact h3 w' hc)⟩
    · exact h.elim
  case binOp op t x y yt =>
    obtain ⟨r, h1, h2⟩ := h
    refine ⟨_, _, ?_, h2, ?_⟩
    · exact h1
    · intro w' hc; exact val_next hc
  case convert s d x =>
    obtain ⟨r, h1, h2⟩ := h
    refine ⟨_, _, ?_, h2, ?_⟩
    · exact h1
    · intro w' hc; exact val_next hc
  case lookup t x i ok =>
    obtain ⟨v, h1, h2⟩ := exT_elim h
    refine ⟨_, _, ?_, h2, ?_⟩
    · exact h1
    · intro w' hc; exact val_next hc
  case typeAssert x xt t ok =>
    obtain ⟨v, h1, h2⟩ := exT_elim h
    refine ⟨_, _, ?_, h2, ?_⟩
    · exact h1
    · intro w' hc; exact val_next hc
  case call c =>
    split at h
    · rename_i hb
      obtain ⟨n, h1, h2⟩ := h
      refine ⟨_, _, ?_, h2, ?_⟩
      · exact h1
      intro w' hc
      simp only [execOp, resolve, hb, invoke, Sem.run_bind, Sem.run_pure, Result.andThen_ok]
      rw [map_ops] at hc
      exact val_next hc
    · exact h.elim
  all_goals exact h.elim

theorem opW_run {o : Oper} {ρ : Operand → Value} {K : Value → World → Prop} (hT : AllOk P tys) (hF : FnsOk P fns.l) (hρ : ∀ v, ρ (.const v) = v) (h : opW P tys fns o ρ w K) : OpRes P fns.thr o ρ w K := by
  unfold opW at h
  split at h
  · obtain ⟨v, h1, h2⟩ := pureW_run hT hρ h
    exact .inl ⟨v, w, h2 w, h1⟩
  · obtain ⟨c, v, h1, h2, h3⟩ := ldW_run (P := P) hT h
    exact .inl ⟨v, w, h3 w h1, h2⟩
  · exact eventW_run hT hF h

end Go.Vx
end

/- part VxF -/
section
namespace Go.Vx

variable {P : Program} {tys : Tys} {fns : Fx} {w : World}

structure Rel (n : Nat) (e : Env) (a : Act) : Prop where
  size : a.tmps.size = n
  at_ : ∀ t, a.tmps.getD t undef = e t
  defers : a.defers = []

theorem Rel.eval {n : Nat} {e : Env} {a : Act} (h : Rel n e a) : a.eval = ev e := by
  funext x
  cases x with
  | tmp t => exact h.at_ t
  | const v => rfl
  | global g => rfl
  | func f => rfl

theorem Rel.put {n : Nat} {e : Env} {a : Act} (h : Rel n e a) (d : Option Nat) (v : Value) (hd : ∀ x, d = some x → x < n) : Rel n (e.put d v) (a.put d v) := by
  cases d with
  | none => exact h
  | some d =>
    have hlt : d < a.tmps.size := h.size ▸ hd d rfl
    refine ⟨by simp [Act.put, h.size], fun t => ?_, h.defers⟩
    have := h.at_ t
    simp only [Act.put, Env.put]
    by_cases e1 : t = d
    · subst e1
      have : Nat.beq t t = true := by simp
      rw [this]
      simp [Array.getD_eq_getD_getElem?, hlt]
    · have e2 : Nat.beq t d = false := by
        cases hb : Nat.beq t d with
        | false => rfl
        | true => exact absurd (Nat.eq_of_beq_eq_true hb) e1
      rw [e2]
      simp only [Array.getD_eq_getD_getElem?] at this ⊢
      rw [Array.getElem?_setIfInBounds_ne (Ne.symm e1)]
      exact this

theorem Rel.same {n : Nat} {e e' : Env} {a : Act} (h : Rel n e a) (he : ∀ t, e' t = e t) : Rel n e' a := ⟨h.size, fun t => (h.at_ t).trans (he t).symm, h.defers⟩

theorem put_same {e : Env} {s : Nat} {v : Value} (h : e s = v) (t : Nat) : (e.put (some s) v) t = e t := by
  simp only [Env.put]
  cases hb : Nat.beq t s with
  | false => rfl
  | true => rw [Nat.eq_of_beq_eq_true hb]; exact h.symm

theorem put_ne {e : Env} {d : Option Nat} {v : Value} {t : Nat} (h : d ≠ some t) : (e.put d v) t = e t := by
  cases d with
  | none => rfl
  | some d =>
    simp only [Env.put]
    cases hb : Nat.beq t d with
    | false => rfl
    | true => exact absurd (congrArg some (Nat.eq_of_beq_eq_true hb).symm) h

theorem wanted_some {n : Nat} {e : Env} {a : Act} {ops : Array Oper} {o : Oper} {j s : Nat} {want b : Bool} (h : Rel n e a) (hg : o.guard = some (j, want)) (hs : slotOf ops j = some s) (hb : e s = .bool b) :
    Region.wanted o (yielded ops a.tmps) = (b == want) := by
  have h1 : ((ops[j]?).bind (·.dst)) = some s := by
    unfold slotOf at hs
    rw [← Array.getElem?_toList]
    cases hj : ops.toList[j]? with
    | none => rw [hj] at hs; cases hs
    | some o => rw [hj] at hs; exact hs
  have h2 := h.at_ s
  rw [hb] at h2
  have h3 : a.tmps[s]? = some (.bool b) := by
    rw [Array.getD_eq_getD_getElem?] at h2
    cases hx : a.tmps[s]? with
    | none => rw [hx] at h2; cases h2
    | some v => rw [hx] at h2; exact congrArg some h2
  unfold Region.wanted yielded
  rw [hg]
  simp only [h1, Option.bind_some, h3]
  cases b <;> cases want <;> rfl

theorem wanted_no {n : Nat} {e : Env} {a : Act} {ops : Array Oper} {o : Oper} {j s : Nat} {want : Bool} (h : Rel n e a) (hg : o.guard = some (j, want)) (hs : slotOf ops j = some s) (hb : ∀ b, e s ≠ .bool b) :
    Region.wanted o (yielded ops a.tmps) = false := by
  have h1 : ((ops[j]?).bind (·.dst)) = some s := by
    unfold slotOf at hs
    rw [← Array.getElem?_toList]
    cases hj : ops.toList[j]? with
    | none => rw [hj] at hs; cases hs
    | some o => rw [hj] at hs; exact hs
  have h2 := h.at_ s
  unfold Region.wanted yielded
  rw [hg]
  simp only [h1, Option.bind_some]
  rw [Array.getD_eq_getD_getElem?] at h2
  cases hx : a.tmps[s]? with
  | none => rfl
  | some v =>
    rw [hx] at h2
    simp only [Option.getD_some] at h2
    cases v with
    | bool b => exact absurd h2.symm (hb b)
    | _ => rfl

theorem guard_elim {n : Nat} {e : Env} {a : Act} {ops : Array Oper} {o : Oper} {yes no : Env → Prop} (hr : Rel n e a) (h : guardW ops o e yes no) :
    ∃ e', Rel n e' a ∧ (∀ t, e' t = e t) ∧ ((Region.wanted o (yielded ops a.tmps) = true ∧ yes e') ∨ (Region.wanted o (yielded ops a.tmps) = false ∧ no e')) := by
  unfold guardW at h
  split at h
  · rename_i hg
    exact ⟨e, hr, fun _ => rfl, .inl ⟨by simp [Region.wanted, hg], h⟩⟩
  · rename_i j want hg
    split at h
    · exact h.elim
    · rename_i s hs
      split at h
      · rename_i b hb
        have hw := wanted_some hr hg hs hb
        refine ⟨e.put (some s) (.bool b), hr.same (put_same hb), put_same hb, ?_⟩
        cases b <;> cases want <;> simp only [cond_true, cond_false] at h <;> rw [hw]
        · exact .inl ⟨rfl, h⟩
        · exact .inr ⟨rfl, h⟩
        · exact .inr ⟨rfl, h⟩
        · exact .inl ⟨rfl, h⟩
      · rename_i hb
        exact ⟨e, hr, fun _ => rfl, .inr ⟨wanted_no hr hg hs hb, h⟩⟩

/-- what is left of the slots that a region doesn't write -/
def Frm (l : List Nat) (e e' : Env) : Prop := ∀ t, t ∉ l → e' t = e t

theorem Frm.refl (l : List Nat) (e : Env) : Frm l e e := fun _ _ => rfl
theorem Frm.step {l : List Nat} {e e1 e' : Env} {d : Option Nat} {v : Value} (h : Frm l (e1.put d v) e') (h1 : ∀ t, e1 t = e t) (hd : ∀ x, d = some x → x ∈ l) : Frm l e e' := fun t ht => by
  rw [h t ht, put_ne (fun hh => ht (hd t hh)), h1 t]

theorem regW_wp {ops : Array Oper} {n : Nat} {L : List Nat} {e0 : Env} {K : Env → World → Prop} {Q : Exit → Act → World → Prop} (hT : AllOk P tys) (hF : FnsOk P fns.l) (hX : ∀ c e a w, Rel n e a → Frm L e0 e → fns.thr c w → Q (.panic c) a w) : ∀ (l : List Oper) (e : Env) (a : Act) (w : World),
    (∀ o ∈ l, ∀ d, o.dst = some d → d < n ∧ d ∈ L) → Rel n e a → Frm L e0 e → (∀ e' a' w', Rel n e' a' → Frm L e e' → K e' w' → Q .normal a' w') → regW P tys fns ops l e w K → wpList P ops Q l a w
  | [], e, a, w, _, hr, _, hQ, h => hQ e a w hr (Frm.refl _ _) h
  | o :: r, e, a, w, hd, hr, hf0, hQ, h => by
    simp only [regW] at h
    obtain ⟨e1, hr1, he1, hc⟩ := guard_elim hr h
    have hd' := fun o ho => hd o (List.mem_cons_of_mem _ ho)
    have hdo : ∀ d, o.dst = some d → d < n := fun d h => (hd o (by simp) d h).1
    have hdl : ∀ d, o.dst = some d → d ∈ L := fun d h => (hd o (by simp) d h).2
    have hf1 : Frm L e0 e1 := fun t ht => (he1 t).trans (hf0 t ht)
    have hfp : ∀ v, Frm L e0 (e1.put o.dst v) := fun v t ht => (put_ne (fun hh => ht (hdl t hh))).trans (hf1 t ht)
    unfold wpList
    rcases hc with ⟨hw, h⟩ | ⟨hw, h⟩
    · rw [if_pos hw]
      have hres := opW_run hT hF (fun _ => rfl) h
      rw [← hr1.eval] at hres
      exact .inl (hres.wp (fun c w' hc => hX c _ _ w' hr1 hf1 hc) fun v w' hk => regW_wp hT hF hX r _ _ _ hd' (hr1.put _ _ hdo) (hfp _) (fun e' a' w'' h1 h2 h3 => hQ e' a' w'' h1 (h2.step he1 hdl) h3) hk)
    · rw [if_neg (by simp [hw])]
      exact regW_wp hT hF hX r _ _ _ hd' (hr1.put _ _ hdo) (hfp _) (fun e' a' w'' h1 h2 h3 => hQ e' a' w'' h1 (h2.step he1 hdl) h3) h

/-! ### regions that draw their order -/
abbrev Obl := List (Nat × (World → Prop))
def wpAnyO (P : Program) (ops : Array Oper) (Q : Exit → Act → World → Prop) (O : Obl) : Nat → Array Bool → Act → World → Prop
  | 0, listed, a, w => Region.ready .any ops listed = [] ∧ Q .normal a w
  | fuel + 1, listed, a, w =>
    (Region.ready .any ops listed = [] → Q .normal a w) ∧
    ∀ i ∈ Region.ready .any ops listed, wpOp P ops Q i (fun a' w' => (∀ p ∈ O, downB ops.toList ops.toList.length i p.1 = false → p.2 w → p.2 w') ∧ wpAnyO P ops Q O fuel (listed.setIfInBounds i true) a' w') a w

section
variable {ops : Array Oper} {Q : Exit → Act → World → Prop}
theorem wpAny_of_O {O : Obl} : ∀ (fuel : Nat) (listed : Array Bool) (a : Act) (w : World), wpAnyO P ops Q O fuel listed a w → wpAny P .any ops Q fuel listed a w
  | 0, _, _, _, h => h
  | fuel + 1, _, _, _, h => ⟨h.1, fun i hi => wpOp_mono (fun a' w' h' => wpAny_of_O fuel _ a' w' h'.2) (h.2 i hi)⟩

/-- whatever has come up, what it waits for has come up -/
def Closed (ops : Array Oper) (listed : Array Bool) : Prop := ∀ j o, ops[j]? = some o → listed.getD j false = true → ∀ e ∈ o.after, Region.binds .any e = true → listed.getD e.on false = true

theorem Closed.start : Closed ops (Array.replicate ops.size false) := by
  intro j o _ h
  rw [Array.getD_eq_getD_getElem?, Array.getElem?_replicate] at h
  split at h <;> cases h

theorem getD_set (listed : Array Bool) (i j : Nat) (h : listed.getD j false = true) : (listed.setIfInBounds i true).getD j false = true := by
  rw [Array.getD_eq_getD_getElem?] at h ⊢
  by_cases e : i = j
  · subst e
    rw [Array.getElem?_setIfInBounds_self]
    split
    · rfl
    · rename_i hn
      rw [Array.getElem?_eq_none (by omega)] at h
      cases h
  · rw [Array.getElem?_setIfInBounds_ne e]; exact h

theorem Closed.set {listed : Array Bool} {i : Nat} (h : Closed ops listed) (hi : i ∈ Region.ready .any ops listed) : Closed ops (listed.setIfInBounds i true) := by
  intro j o hj hl e he hb
  obtain ⟨_, oi, hoi, hall⟩ := mem_ready.1 hi
  by_cases hji : j = i
  · subst hji
    rw [hoi] at hj; cases hj
    exact getD_set _ _ _ (hall e he hb)
  · refine getD_set _ _ _ (h j o hj ?_ e he hb)
    rw [Array.getD_eq_getD_getElem?, Array.getElem?_setIfInBounds_ne (Ne.symm hji)] at hl
    rw [Array.getD_eq_getD_getElem?]; exact hl

theorem down_listed {listed : Array Bool} (hc : Closed ops listed) {i : Nat} : ∀ (n j : Nat), downB ops.toList n j i = true →
    (∀ o, ops[j]? = some o → ∀ e ∈ o.after, Region.binds .any e = true → listed.getD e.on false = true) → listed.getD i false = true
  | 0, _, h, _ => by simp [downB] at h
  | n + 1, j, h, hj => by
    simp only [downB] at h
    split at h
    · rename_i o ho
      have ho' : ops[j]? = some o := by rw [← Array.getElem?_toList]; exact ho
      obtain ⟨x, hx, hb⟩ := List.any_eq_true.1 h
      rw [Bool.and_eq_true, Bool.or_eq_true] at hb
      have hx' : x ∈ o.after := Array.mem_toList_iff.1 hx
      have hl := hj o ho' x hx' hb.1
      rcases hb.2 with hb2 | hb2
      · rw [← Nat.eq_of_beq_eq_true hb2]; exact hl
      · exact down_listed hc n x.on hb2 fun o' ho'' e he heb => hc x.on o' ho'' hl e he heb
    · cases h

theorem not_down {listed : Array Bool} (hc : Closed ops listed) {i j : Nat} (hj : j ∈ Region.ready .any ops listed) (hi : i ∈ Region.ready .any ops listed) : ∀ n, downB ops.toList n j i = false := by
  intro n
  cases hd : downB ops.toList n j i with
  | false => rfl
  | true =>
    obtain ⟨_, oj, hoj, hall⟩ := mem_ready.1 hj
    have h1 := down_listed hc n j hd (fun o ho e he hb => by rw [hoj] at ho; cases ho; exact hall e he hb)
    have h0 := (mem_ready.1 hi).1
    rcases Nat.lt_or_ge i listed.size with h' | h'
    · simp [h'] at h0 h1; rw [h0] at h1; cases h1
    · simp [Array.getElem?_eq_none h'] at h1

theorem wpAnyO_first {i : Nat} {oi : Oper} {v : Value} {c : World → Prop} {O : Obl} (hi : ops[i]? = some oi) (hsel : ∀ (j : Nat) (o : Oper) cs b, ops[j]? = some o → o.op ≠ .select cs b)
    (hQ : ∀ c a w, Q (.panic c) (a.put oi.dst v) w → Q (.panic c) a w) :
    ∀ (fuel : Nat) (listed : Array Bool) (a : Act) (w : World), Closed ops listed →
      (∀ j oj, ops[j]? = some oj → j ≠ i → listed.getD j true = false → (∀ e ∈ oj.after, Region.binds .any e = true → e.on ≠ i) → oi.apart ops oj = true) →
      i ∈ Region.ready .any ops listed → YieldsIf P ops c oi v a → c w →
      wpAnyO P ops Q ((i, c) :: O) fuel (listed.setIfInBounds i true) (a.put oi.dst v) w → wpAnyO P ops Q O (fuel + 1) listed a w := by
  have drop : ∀ (fuel : Nat) (listed : Array Bool) (a : Act) (w : World), wpAnyO P ops Q ((i, c) :: O) fuel listed a w → wpAnyO P ops Q O fuel listed a w := by
    intro fuel
    induction fuel with
    | zero => exact fun _ _ _ h => h
    | succ fuel ih => exact fun listed a w h => ⟨h.1, fun j hj => wpOp_mono (fun a' w' h' => ⟨fun p hp => h'.1 p (List.mem_cons_of_mem _ hp), ih _ _ _ h'.2⟩) (h.2 j hj)⟩
  intro fuel
  induction fuel with
  | zero =>
    intro listed a w hc _ hr hy hS H
    refine ⟨fun h => (by rw [h] at hr; cases hr), fun j hj => ?_⟩
    by_cases hji : j = i
    · subst hji; exact hy.wpOp hi hS ⟨fun _ _ _ h => h, drop _ _ _ _ H⟩
    · have := ready_mono hj hji
      rw [H.1] at this
      cases this
  | succ fuel ih =>
    intro listed a w hc hfree hr hy hS H
    refine ⟨fun h => (by rw [h] at hr; cases hr), fun j hj => ?_⟩
    by_cases hji : j = i
    · subst hji; exact hy.wpOp hi hS ⟨fun _ _ _ h => h, drop _ _ _ _ H⟩
    · have h1 := H.2 j (ready_mono hj hji)
      obtain ⟨hjun, oj, hoj, hall⟩ := mem_ready.1 hj
      have hnot : ∀ e ∈ oj.after, Region.binds .any e = true → e.on ≠ i := fun e he hb heq => by
        have h1 := hall e he hb
        have h0 := (mem_ready.1 hr).1
        rw [heq] at h1
        rcases Nat.lt_or_ge i listed.size with h' | h'
        · simp [h'] at h0 h1; rw [h0] at h1; cases h1
        · simp [Array.getElem?_eq_none h'] at h1
      have h2 := wpOp_putIf hoj (hfree j oj hoj hji hjun hnot) (fun cs b => hsel i oi cs b hi) (fun cs b => hsel j oj cs b hoj) hQ hy h1
      have hfree' : ∀ k ok, ops[k]? = some ok → k ≠ i → (listed.setIfInBounds j true).getD k true = false →
          (∀ e ∈ ok.after, Region.binds .any e = true → e.on ≠ i) → oi.apart ops ok = true := fun k ok hk hki hun hno => by
        refine hfree k ok hk hki ?_ hno
        by_cases hjk : j = k
        · subst hjk; exact hjun
        · rw [getD_set_ne true hjk] at hun; exact hun
      refine wpOp_mono (fun a' w' h3 => ?_) h2
      obtain ⟨h3a, h3b, h3c⟩ := h3
      have hcw : c w' := h3b (i, c) (by simp) (not_down hc hj hr _) hS
      refine ⟨fun p hp => h3b p (List.mem_cons_of_mem _ hp), ih (listed.setIfInBounds j true) a' w' (hc.set hj) hfree' (ready_mono hr (Ne.symm hji)) h3a hcw ?_⟩
      rw [Array.setIfInBounds_comm _ _ hji]
      exact h3c

theorem keepW_elim {l : List Oper} {j : Nat} {w' : World} {p : Prop} : ∀ {pend : Pend}, keepW l j w' p pend → p ∧ ∀ x ∈ pend, downB l l.length j x.1 = false → x.2 w'
  | [], h => ⟨h, by simp⟩
  | (i, c) :: r, h => by
    simp only [keepW] at h
    cases hd : downB l l.length j i with
    | true =>
      rw [hd] at h
      obtain ⟨h1, h2⟩ := keepW_elim h
      refine ⟨h1, fun x hx hx2 => ?_⟩
      rcases List.mem_cons.1 hx with rfl | hx
      · rw [hd] at hx2; cases hx2
      · exact h2 x hx hx2
    | false =>
      rw [hd] at h
      obtain ⟨h1, h2⟩ := keepW_elim h.2
      refine ⟨h1, fun x hx hx2 => ?_⟩
      rcases List.mem_cons.1 hx with rfl | hx
      · exact h.1
      · exact h2 x hx hx2

theorem event_wp {n : Nat} {L : List Nat} {e0 : Env} {K : Env → World → Prop} (hT : AllOk P tys) (hF : FnsOk P fns.l) (hX : ∀ c e a w, Rel n e a → Frm L e0 e → fns.thr c w → Q (.panic c) a w) {i : Nat} {r : DOrd} {m : Nat} {listed : Array Bool} {pend : Pend} {e : Env} {a : Act} {w : World} {o : Oper}
    (ho' : ops[i]? = some o) (hkk : kindOf tys o.op = .event) (hdo : ∀ d, o.dst = some d → d < n) (hdl : ∀ d, o.dst = some d → d ∈ L) (hr : Rel n e a) (hf0 : Frm L e0 e)
    (h : guardW ops o e
        (fun e' => match kindOf tys o.op with
          | .pure => pureW P tys o (ev e') fun v => drawW P tys fns ops r pend (e'.put o.dst v) w K
          | .load => ldW P tys o (ev e') w fun c v => drawW P tys fns ops r ((i, c) :: pend) (e'.put o.dst v) w K
          | .event => eventW P tys fns o (ev e') w fun v w' => keepW ops.toList i w' (drawW P tys fns ops r pend (e'.put o.dst v) w' K) pend)
        (fun e' => drawW P tys fns ops r pend (e'.put o.dst undef) w K))
    (IH : ∀ (e1 : Env) (a1 : Act) (w1 : World), Rel n e1 a1 → Frm L e e1 → drawW P tys fns ops r pend e1 w1 K → wpAnyO P ops Q pend m (listed.setIfInBounds i true) a1 w1) :
    wpOp P ops Q i (fun a' w' => (∀ p ∈ pend, downB ops.toList ops.toList.length i p.1 = false → p.2 w → p.2 w') ∧ wpAnyO P ops Q pend m (listed.setIfInBounds i true) a' w') a w := by
  obtain ⟨e1, hr1, he1, hcase⟩ := guard_elim hr h
  have hfrm : ∀ v, Frm L e (e1.put o.dst v) := fun v => (Frm.refl L (e1.put o.dst v)).step he1 hdl
  unfold wpOp
  rw [ho']
  dsimp only
  rcases hcase with ⟨hw, h⟩ | ⟨hw, h⟩
  · rw [if_pos hw]
    rw [hkk] at h
    have hres := eventW_run hT hF h
    rw [← hr1.eval] at hres
    refine .inl (hres.wp (fun c w' hc => hX c _ _ w' hr1 (fun t ht => (he1 t).trans (hf0 t ht)) hc) fun v w' hkp => ?_)
    obtain ⟨h1, h2⟩ := keepW_elim hkp
    exact ⟨fun p hp hdn _ => h2 p hp hdn, IH _ _ _ (hr1.put _ _ hdo) (hfrm v) h1⟩
  · rw [if_neg (by simp [hw])]
    exact ⟨fun _ _ _ h => h, IH _ _ _ (hr1.put _ _ hdo) (hfrm undef) h⟩

theorem drawW_wp {n : Nat} {L : List Nat} {e0 : Env} {K : Env → World → Prop} (hT : AllOk P tys) (hF : FnsOk P fns.l) (hsel : Region.noSelect ops = true) (hX : ∀ c e a w, Rel n e a → Frm L e0 e → fns.thr c w → Q (.panic c) a w) (hP : ∀ c (a : Act) d v w, (∀ x, d = some x → x ∈ L) → Q (.panic c) (a.put d v) w → Q (.panic c) a w)
    (hd : ∀ (i : Nat) (o : Oper), ops[i]? = some o → ∀ d, o.dst = some d → d < n ∧ d ∈ L) :
    ∀ (l : DOrd) (m : Nat) (listed : Array Bool) (pend : Pend) (e : Env) (a : Act) (w : World), Closed ops listed → Rel n e a → Frm L e0 e → (∀ e' a' w', Rel n e' a' → Frm L e e' → K e' w' → Q .normal a' w') →
    drawW P tys fns ops l pend e w K →
    (drawOk tys ops false l listed = true → l.size ≤ m → wpAnyO P ops Q pend m listed a w) ∧
    (drawOk tys ops true l listed = true → l.size ≤ m + 1 → ∀ i, l.hasHead i = true → wpOp P ops Q i (fun a' w' => (∀ p ∈ pend, downB ops.toList ops.toList.length i p.1 = false → p.2 w → p.2 w') ∧ wpAnyO P ops Q pend m (listed.setIfInBounds i true) a' w') a w)
  | .nil, m, listed, pend, e, a, w, hc, hr, hf0, hQ, h => by
    refine ⟨fun hok _ => ?_, fun hok => by simp [drawOk] at hok⟩
    have hnil : Region.ready .any ops listed = [] := by simpa [drawOk] using hok
    cases m with
    | zero => exact ⟨hnil, hQ e a w hr (Frm.refl _ _) h⟩
    | succ m => exact ⟨fun _ => hQ e a w hr (Frm.refl _ _) h, by rw [hnil]; simp⟩
  | .alt x y, m, listed, pend, e, a, w, hc, hr, hf0, hQ, h => by
    obtain ⟨hx, hy⟩ := h
    have tail : drawOk tys ops true x listed = true → drawOk tys ops true y listed = true → ∀ m, (DOrd.alt x y).size ≤ m + 1 → ∀ i, (DOrd.alt x y).hasHead i = true → wpOp P ops Q i (fun a' w' => (∀ p ∈ pend, downB ops.toList ops.toList.length i p.1 = false → p.2 w → p.2 w') ∧ wpAnyO P ops Q pend m (listed.setIfInBounds i true) a' w') a w := by
      intro ox oy m hs i hi
      have hsx : x.size ≤ m + 1 := Nat.le_trans (Nat.le_max_left _ _) hs
      have hsy : y.size ≤ m + 1 := Nat.le_trans (Nat.le_max_right _ _) hs
      unfold DOrd.hasHead at hi
      cases hb : x.hasHead i with
      | true => exact (drawW_wp hT hF hsel hX hP hd x m listed pend e a w hc hr hf0 hQ hx).2 ox hsx i hb
      | false =>
        rw [hb] at hi
        exact (drawW_wp hT hF hsel hX hP hd y m listed pend e a w hc hr hf0 hQ hy).2 oy hsy i hi
    refine ⟨fun hok hs => ?_, fun hok hs => ?_⟩
    · simp only [drawOk, Bool.false_or, Bool.and_eq_true, List.all_eq_true] at hok
      obtain ⟨⟨hall, ox⟩, oy⟩ := hok
      have hne : x.size = 0 → False := fun h0 => by
        cases x with
        | nil => simp [drawOk] at ox
        | one i r => simp [DOrd.size] at h0
        | alt u v =>
          have : ∀ (t : DOrd), t.size = 0 → drawOk tys ops true t listed = true → False := by
            intro t
            induction t with
            | nil => intro _ h; simp [drawOk] at h
            | one i r _ => intro h0 _; simp [DOrd.size] at h0
            | alt a b iha _ =>
              intro h0 h
              simp only [drawOk, Bool.and_eq_true] at h
              simp only [DOrd.size] at h0
              exact iha (by omega) h.1.2
          exact this _ h0 ox
      cases m with
      | zero =>
        exfalso
        have : x.size ≤ 0 := Nat.le_trans (Nat.le_max_left _ _) hs
        exact hne (by omega)
      | succ m =>
        refine ⟨fun h0 => ?_, fun i hi => tail ox oy m hs i (hall i hi)⟩
        exfalso
        have : ∀ (t : DOrd), drawOk tys ops true t listed = true → Region.ready .any ops listed ≠ [] := by
          intro t
          induction t with
          | nil => intro h; simp [drawOk] at h
          | one i r _ =>
            intro h h0
            simp only [drawOk, Bool.and_eq_true] at h
            rw [h0] at h
            simp at h
          | alt a b iha _ =>
            intro h
            simp only [drawOk, Bool.and_eq_true] at h
            exact iha h.1.2
        exact this x ox h0
    · simp only [drawOk, Bool.true_or, Bool.true_and, Bool.and_eq_true] at hok
      exact tail hok.1 hok.2 m hs
  | .one i r, m, listed, pend, e, a, w, hc, hr, hf0, hQ, h => by
    simp only [drawW] at h
    split at h
    · exact h.elim
    rename_i o ho
    have ho' : ops[i]? = some o := by rw [← Array.getElem?_toList]; exact ho
    have hdo : ∀ d, o.dst = some d → d < n := fun d h => (hd i o ho' d h).1
    have hdl : ∀ d, o.dst = some d → d ∈ L := fun d h => (hd i o ho' d h).2
    have evt : kindOf tys o.op = .event → i ∈ Region.ready .any ops listed → drawOk tys ops false r (listed.setIfInBounds i true) = true → ∀ m, r.size ≤ m →
        wpOp P ops Q i (fun a' w' => (∀ p ∈ pend, downB ops.toList ops.toList.length i p.1 = false → p.2 w → p.2 w') ∧ wpAnyO P ops Q pend m (listed.setIfInBounds i true) a' w') a w := by
      intro hkk hready hrest m hs
      exact event_wp hT hF hX ho' hkk hdo hdl hr hf0 h fun e1 a1 w1 hr1 hf1 h1 =>
        (drawW_wp hT hF hsel hX hP hd r m _ pend e1 a1 w1 (hc.set hready) hr1 (fun t ht => (hf1 t ht).trans (hf0 t ht)) (fun e' a' w' k1 k2 k3 => hQ e' a' w' k1 (fun t ht => (k2 t ht).trans (hf1 t ht)) k3) h1).1 hrest hs
    refine ⟨fun hok hs => ?_, fun hok hs j hj => ?_⟩
    · simp only [drawOk, Bool.and_eq_true] at hok
      obtain ⟨⟨hcont, hk⟩, hrest⟩ := hok
      have hready : i ∈ Region.ready .any ops listed := by simpa using hcont
      rw [ho'] at hk
      dsimp only at hk
      obtain ⟨m, rfl⟩ : ∃ m', m = m' + 1 := ⟨m - 1, by simp only [DOrd.size] at hs; omega⟩
      have hs' : r.size ≤ m := by simp only [DOrd.size] at hs; omega
      have first : ∀ (v : Value) (c : World → Prop), Region.free .any ops listed i = true → YieldsIf P ops c o v a → c w → wpAnyO P ops Q ((i, c) :: pend) m (listed.setIfInBounds i true) (a.put o.dst v) w → wpAnyO P ops Q pend (m + 1) listed a w :=
        fun v c hf hy hcw H => wpAnyO_first ho' (Region.noSelect_spec hsel) (fun c a w hp => hP c a _ _ w hdl hp) _ listed a w hc (Region.free_spec ho' hf) hready hy hcw H
      have more : ∀ (c : World → Prop) (fuel : Nat) (listed : Array Bool) (a : Act) (w : World), (∀ w, c w) → wpAnyO P ops Q pend fuel listed a w → wpAnyO P ops Q ((i, c) :: pend) fuel listed a w := by
        intro c fuel
        induction fuel with
        | zero => exact fun _ _ _ _ h => h
        | succ fuel ih =>
          intro listed a w hcw h
          exact ⟨h.1, fun j hj => wpOp_mono (fun a' w' h' => ⟨fun p hp hdn hpw => by
            rcases List.mem_cons.1 hp with rfl | hp
            · exact hcw w'
            · exact h'.1 p hp hdn hpw, ih _ _ _ hcw h'.2⟩) (h.2 j hj)⟩
      cases hkk : kindOf tys o.op with
      | event =>
        rw [hkk] at hk
        have hone : Region.ready .any ops listed = [i] := by simpa [isEv] using hk
        refine ⟨fun h0 => (by rw [hone] at h0; cases h0), fun j hj => ?_⟩
        rw [hone] at hj
        rw [List.mem_singleton.1 hj]
        exact evt hkk hready hrest m hs'
      | pure =>
        rw [hkk] at hk
        have hk' : Region.free .any ops listed i = true := by simpa [isEv] using hk
        obtain ⟨e1, hr1, he1, hcase⟩ := guard_elim hr h
        have hfp : ∀ v, Frm L e0 (e1.put o.dst v) := fun v t ht => (put_ne (fun hh => ht (hdl t hh))).trans ((he1 t).trans (hf0 t ht))
        have hQ' : ∀ (v : Value) e' a' w', Rel n e' a' → Frm L (e1.put o.dst v) e' → K e' w' → Q .normal a' w' := fun v e' a' w'' h1 h2 h3 => hQ e' a' w'' h1 (h2.step he1 hdl) h3
        rcases hcase with ⟨hw, h⟩ | ⟨hw, h⟩
        · rw [hkk] at h
          obtain ⟨v, h1, h2⟩ := pureW_run hT (fun _ => rfl) h
          rw [← hr1.eval] at h2
          exact first v (fun _ => True) hk' (.inl ⟨hw, fun w' _ => h2 w'⟩) trivial (more _ _ _ _ _ (fun _ => trivial) ((drawW_wp hT hF hsel hX hP hd r m _ pend _ _ w (hc.set hready) (hr1.put _ _ hdo) (hfp _) (hQ' v) h1).1 hrest hs'))
        · exact first undef (fun _ => True) hk' (.inr ⟨hw, rfl⟩) trivial (more _ _ _ _ _ (fun _ => trivial) ((drawW_wp hT hF hsel hX hP hd r m _ pend _ _ w (hc.set hready) (hr1.put _ _ hdo) (hfp _) (hQ' undef) h).1 hrest hs'))
      | load =>
        rw [hkk] at hk
        have hk' : Region.free .any ops listed i = true := by simpa [isEv] using hk
        obtain ⟨e1, hr1, he1, hcase⟩ := guard_elim hr h
        have hfp : ∀ v, Frm L e0 (e1.put o.dst v) := fun v t ht => (put_ne (fun hh => ht (hdl t hh))).trans ((he1 t).trans (hf0 t ht))
        have hQ' : ∀ (v : Value) e' a' w', Rel n e' a' → Frm L (e1.put o.dst v) e' → K e' w' → Q .normal a' w' := fun v e' a' w'' h1 h2 h3 => hQ e' a' w'' h1 (h2.step he1 hdl) h3
        rcases hcase with ⟨hw, h⟩ | ⟨hw, h⟩
        · rw [hkk] at h
          obtain ⟨c, v, h0, h1, h2⟩ := ldW_run (P := P) hT h
          rw [← hr1.eval] at h2
          exact first v c hk' (.inl ⟨hw, h2⟩) h0 ((drawW_wp hT hF hsel hX hP hd r m _ ((i, c) :: pend) _ _ w (hc.set hready) (hr1.put _ _ hdo) (hfp _) (hQ' v) h1).1 hrest hs')
        · exact first undef (fun _ => True) hk' (.inr ⟨hw, rfl⟩) trivial (more _ _ _ _ _ (fun _ => trivial) ((drawW_wp hT hF hsel hX hP hd r m _ pend _ _ w (hc.set hready) (hr1.put _ _ hdo) (hfp _) (hQ' undef) h).1 hrest hs'))
    · simp only [drawOk, Bool.and_eq_true] at hok
      obtain ⟨⟨hcont, hk⟩, hrest⟩ := hok
      have hready : i ∈ Region.ready .any ops listed := by simpa using hcont
      rw [ho'] at hk
      dsimp only at hk
      have hij : i = j := Nat.eq_of_beq_eq_true hj
      subst hij
      have hkk : kindOf tys o.op = .event := by
        cases hkk : kindOf tys o.op with
        | event => rfl
        | pure => rw [hkk] at hk; simp [isEv] at hk
        | load => rw [hkk] at hk; simp [isEv] at hk
      exact evt hkk hready hrest m (by simp only [DOrd.size] at hs; omega)
end

end Go.Vx
end

/- part VxG -/
section
namespace Go.Vx

variable {P : Program} {tys : Tys} {fns : Fx} {hs : Hints} {w : World}

theorem dst_mem {ops : Array Oper} {o : Oper} {d : Nat} (ho : o ∈ ops.toList) (hd : o.dst = some d) : d ∈ dstsOf ops := by
  unfold dstsOf
  exact List.mem_flatMap.2 ⟨o, ho, by simp [hd]⟩

theorem dsts_lt {ops : Array Oper} {n : Nat} (h : ((dstsOf ops).all fun d => Nat.ble (d + 1) n) = true) : ∀ o ∈ ops.toList, ∀ d, o.dst = some d → d < n ∧ d ∈ dstsOf ops := by
  intro o ho d hd
  have hm := dst_mem ho hd
  exact ⟨Nat.le_of_ble_eq_true (List.all_eq_true.1 h d hm), hm⟩

theorem mixE_at (e : Env) (asg : List Nat) (g : Nat → Value) (t : Nat) (hg : hasB asg t = false → (∀ s ∈ ([] : List (Nat × Sh)), s.1 ≠ t) → True) : ∀ (S : List (Nat × Sh)),
    mixE e S (S.map fun s => g s.1) asg g t = if t ∈ S.map (·.1) then g t else cond (hasB asg t) (g t) (e t)
  | [] => by simp [mixE]
  | (s, x) :: r => by
    have ih := mixE_at e asg g t hg r
    simp only [List.map_cons, mixE, Env.put]
    cases hb : Nat.beq t s with
    | true =>
      have := Nat.eq_of_beq_eq_true hb
      subst this
      simp
    | false =>
      have hne : t ≠ s := fun h => by rw [h] at hb; simp at hb
      simp only [cond_false, ih, List.mem_cons, hne, false_or]

theorem hasB_iff {l : List Nat} {t : Nat} : hasB l t = true ↔ t ∈ l := by
  unfold hasB
  rw [List.any_eq_true]
  constructor
  · rintro ⟨x, hx, hb⟩
    exact Nat.eq_of_beq_eq_true hb ▸ hx
  · exact fun h => ⟨t, h, by simp⟩

theorem put_defers (a : Act) (d : Option Nat) (v : Value) : (a.put d v).defers = a.defers := by cases d <;> rfl
theorem cW_wp (hT : AllOk P tys) (hF : FnsOk P fns.l) (hm : P.follows .mixedOrders = true) {n : Nat} : ∀ (c : Code) (Q : Exit → Env → World → Prop) (e : Env) (a : Act) (w : World), codeOk tys hs n c = true → Rel n e a →
    cW P tys fns hs c Q e w → c.wp P (fun ex a' w' => (∃ c, ex = .panic c ∧ a'.defers = [] ∧ fns.thr c w') ∨ ∃ e', Rel n e' a' ∧ Frm (assigned hs c) e e' ∧ Q ex e' w') a w := by
  intro c
  induction c with
  | skip => exact fun Q e a w _ hr h => wp_skip (.inr ⟨e, hr, Frm.refl _ _, h⟩)
  | ret => exact fun Q e a w _ hr h => wp_ret (.inr ⟨e, hr, Frm.refl _ _, h⟩)
  | exit id => exact fun Q e a w _ hr h => wp_exit (.inr ⟨e, hr, Frm.refl _ _, h⟩)
  | region id ops draw =>
    intro Q e a w hok hr h
    simp only [cW] at h
    simp only [codeOk, Bool.and_eq_true] at hok
    obtain ⟨hd, hdraw⟩ := hok
    cases draw with
    | false =>
      simp only [cond_false] at h
      exact wp_region_list (regW_wp hT hF (fun c _ _ _ hr _ hc => .inl ⟨c, rfl, hr.defers, hc⟩) ops.toList e a w (dsts_lt hd) hr (Frm.refl _ _) (fun e' a' w' h1 h2 h3 => .inr ⟨e', h1, h2, h3⟩) h)
    | true =>
      simp only [cond_true] at h hdraw
      split at h
      · rename_i l hl
        rw [hl] at hdraw
        simp only [Bool.and_eq_true] at hdraw
        obtain ⟨⟨hlen, hsel⟩, hdo⟩ := hdraw
        have hlen := Nat.le_of_ble_eq_true hlen
        have hd' : ∀ (i : Nat) (o : Oper), ops[i]? = some o → ∀ d, o.dst = some d → d < n ∧ d ∈ dstsOf ops := fun i o ho => dsts_lt hd o (List.mem_of_getElem? (i := i) (by rw [Array.getElem?_toList]; exact ho))
        have key := drawW_wp (Q := fun ex a' w' => (∃ c, ex = .panic c ∧ a'.defers = [] ∧ fns.thr c w') ∨ (ex = .normal ∧ ∃ e', Rel n e' a' ∧ Frm (dstsOf ops) e e' ∧ Q .normal e' w')) hT hF hsel (fun c _ _ _ hr _ hc => .inl ⟨c, rfl, hr.defers, hc⟩) (fun c a d v w _ hp => .inl (by
          rcases hp with ⟨c', h1, h2, h3⟩ | ⟨h, _⟩
          · exact ⟨c', h1, by rw [put_defers] at h2; exact h2, h3⟩
          · cases h)) hd' l ops.size (Array.replicate ops.size false) [] e a w.drew Closed.start hr (Frm.refl _ _) (fun e' a' w' h1 h2 h3 => .inr ⟨rfl, e', h1, h2, h3⟩) h
        refine wp_mono (wp_region_any hm (wpAny_of_O _ _ _ _ (key.1 hdo hlen))) ?_
        rintro ex a' w' (h | ⟨rfl, h⟩)
        · exact .inl h
        · exact .inr h
      · exact h.elim
  | seq x y ihx ihy =>
    intro Q e a w hok hr h
    simp only [codeOk, Bool.and_eq_true] at hok
    simp only [cW] at h
    refine wp_seq (wp_mono (ihx _ e a w hok.1 hr h) ?_)
    rintro ex a1 w1 (⟨c, rfl, h1, h2⟩ | ⟨e1, hr1, hf1, hq⟩)
    · exact .inl ⟨c, rfl, h1, h2⟩
    have hf1' : Frm (assigned hs (.seq x y)) e e1 := fun t ht => hf1 t (fun h => ht (List.mem_append.2 (.inl h)))
    cases ex with
    | normal =>
      refine wp_mono (ihy _ e1 a1 w1 hok.2 hr1 hq) ?_
      rintro ex a2 w2 (h | ⟨e2, hr2, hf2, hq2⟩)
      · exact .inl h
      exact .inr ⟨e2, hr2, fun t ht => (hf2 t (fun h => ht (List.mem_append.2 (.inr h)))).trans (hf1' t ht), hq2⟩
    | _ => exact .inr ⟨e1, hr1, hf1', hq⟩
  | cond c x y ihx ihy =>
    intro Q e a w hok hr h
    simp only [codeOk, Bool.and_eq_true] at hok
    simp only [cW] at h
    split at h
    · rename_i t ht
      have hev : a.eval c = .bool t := by rw [hr.eval]; exact ht
      split at h
      · rename_i s
        have ht' : e s = .bool t := ht
        cases t with
        | true =>
          refine wp_cond_true hev (wp_mono (ihx Q _ a w hok.2.1 (hr.same (put_same ht')) h) ?_)
          rintro ex a2 w2 (h | ⟨e2, hr2, hf2, hq2⟩)
          · exact .inl h
          exact .inr ⟨e2, hr2, fun t ht => (hf2 t (fun h => ht (by simp [assigned, h]))).trans (put_same ht' t), hq2⟩
        | false =>
          refine wp_cond_false hev (wp_mono (ihy Q _ a w hok.2.2 (hr.same (put_same ht')) h) ?_)
          rintro ex a2 w2 (h | ⟨e2, hr2, hf2, hq2⟩)
          · exact .inl h
          exact .inr ⟨e2, hr2, fun t ht => (hf2 t (fun h => ht (by simp [assigned, h]))).trans (put_same ht' t), hq2⟩
      · cases t with
        | true =>
          refine wp_cond_true hev (wp_mono (ihx Q _ a w hok.2.1 hr h) ?_)
          rintro ex a2 w2 (h | ⟨e2, hr2, hf2, hq2⟩)
          · exact .inl h
          exact .inr ⟨e2, hr2, fun t ht => hf2 t (fun h => ht (by simp [assigned, h])), hq2⟩
        | false =>
          refine wp_cond_false hev (wp_mono (ihy Q _ a w hok.2.2 hr h) ?_)
          rintro ex a2 w2 (h | ⟨e2, hr2, hf2, hq2⟩)
          · exact .inl h
          exact .inr ⟨e2, hr2, fun t ht => hf2 t (fun h => ht (by simp [assigned, h])), hq2⟩
    · exact h.elim
  | block id x ih =>
    intro Q e a w hok hr h
    simp only [cW] at h
    refine wp_block (wp_mono (ih _ e a w hok hr h) ?_)
    rintro ex a1 w1 (⟨c, rfl, h1, h2⟩ | ⟨e1, hr1, hf1, hq⟩)
    · exact .inl ⟨c, rfl, h1, h2⟩
    cases ex with
    | exit i =>
      dsimp only at hq
      simp only [Exit.inBlock]
      split
      · rename_i hi
        subst hi
        have : Nat.beq i i = true := by simp
        rw [this] at hq
        exact .inr ⟨e1, hr1, hf1, hq⟩
      · rename_i hi
        have : Nat.beq i id = false := by
          cases hb : Nat.beq i id with
          | false => rfl
          | true => exact absurd (Nat.eq_of_beq_eq_true hb) hi
        rw [this] at hq
        exact .inr ⟨e1, hr1, hf1, hq⟩
    | _ => exact .inr ⟨e1, hr1, hf1, hq⟩
  | loop x ih =>
    intro Q e a w hok hr h
    simp only [cW] at h
    split at h
    · rename_i S hS
      obtain ⟨I, μ, h0, hround⟩ := h
      have hasg : assigned hs (.loop x) = assigned hs x ++ S.map (·.1) := by simp [assigned, hS]
      let vals : Act → List Value := fun a => S.map fun s => a.tmps.getD s.1 undef
      have key : (Code.loop x).wp P (fun ex a' w' => (∃ c, ex = .panic c ∧ a'.defers = [] ∧ fns.thr c w') ∨ ∃ e', Rel n e' a' ∧ Frm (assigned hs (.loop x)) e e' ∧ Q ex e' w') a w := by
        refine wp_loop (fun a w => I (vals a) w ∧ a.tmps.size = n ∧ a.defers = [] ∧ ∀ t, t ∉ assigned hs (.loop x) → a.tmps.getD t undef = e t) (fun a w => μ (vals a) w) ?_ ?_
        · refine ⟨?_, hr.size, hr.defers, fun t _ => hr.at_ t⟩
          have : vals a = S.map fun s => e s.1 := List.map_congr_left fun s _ => hr.at_ s.1
          rw [this]; exact h0
        · rintro a1 w1 ⟨hI, hsz, hdf, hfr⟩
          let junk : Env := fun t => a1.tmps.getD t undef
          obtain ⟨us, _, hus, hb⟩ := exL_elim (hround junk (vals a1) w1 hI)
          have hrel : Rel n (mixE e S us (assigned hs x) junk) a1 := by
            refine ⟨hsz, fun t => ?_, hdf⟩
            have hmx := mixE_at e (assigned hs x) junk t (fun _ _ => trivial) S
            have : us = S.map fun s => junk s.1 := hus.symm
            rw [this, hmx]
            split
            · rfl
            · rename_i hnS
              cases hh : hasB (assigned hs x) t with
              | true => rfl
              | false =>
                refine hfr t ?_
                rw [hasg, List.mem_append]
                rintro (h | h)
                · rw [hasB_iff.2 h] at hh; cases hh
                · exact hnS h
          refine wp_mono (ih _ _ a1 w1 hok hrel hb) ?_
          rintro ex a2 w2 (⟨c, rfl, h1, h2⟩ | ⟨e2, hr2, hf2, hq⟩)
          · exact .inl ⟨c, rfl, h1, h2⟩
          have hfr2 : Frm (assigned hs (.loop x)) e e2 := fun t ht => by
            rw [hasg, List.mem_append, not_or] at ht
            rw [hf2 t ht.1]
            have := hrel.at_ t
            rw [← this]
            exact hfr t (by rw [hasg, List.mem_append, not_or]; exact ht)
          cases ex with
          | normal =>
            have hv : vals a2 = S.map fun s => e2 s.1 := List.map_congr_left fun s _ => hr2.at_ s.1
            simp only [Exit.then]
            refine ⟨⟨hv ▸ hq.1, hr2.size, hr2.defers, fun t ht => (hr2.at_ t).trans (hfr2 t ht)⟩, ?_⟩
            have hq2 := hq.2
            rw [← hus] at hq2
            rw [hv]; exact hq2
          | _ => exact .inr ⟨e2, hr2, hfr2, hq⟩
      exact key
    · exact h.elim
  | _ => exact fun Q e a w _ _ h => h.elim

def resRow (tmps : Array Value) : ResultVar → Sem Value
  | .tmp t => pure (tmps.getD t undef)
  | .cell x t => do loadVar t (← asAddr (tmps.getD x undef))

theorem resRow_tmp (tmps : Array Value) (t : Nat) (v : Value) (h : tmps.getD t undef = v) : (resRow tmps (.tmp t)).run P w = .ok v w := by
  simp only [resRow, h, Sem.run_pure]
theorem resRow_cell (tmps : Array Value) (x t : Nat) (ad : Addr) (v : Value) (h : tmps.getD x undef = .pointer (some ad)) (hl : (loadVar t ad).run P w = .ok v w) : (resRow tmps (.cell x t)).run P w = .ok v w := by
  simp only [resRow, h, asAddr, Sem.run_bind, Sem.run_pure, Result.andThen_ok, hl]

theorem resL_run (hT : AllOk P tys) {n : Nat} {e : Env} {a : Act} (hr : Rel n e a) : ∀ (l : List ResultVar) (K : List Value → Prop), resL tys e w l K →
    ∃ vs, (l.mapM (resRow a.tmps)).run P w = .ok vs w ∧ K vs
  | [], K, h => ⟨[], by simp, h⟩
  | .tmp t :: r, K, h => by
    obtain ⟨vs, h1, h2⟩ := resL_run hT hr r _ h
    refine ⟨e t :: vs, ?_, h2⟩
    simp only [List.mapM_cons, Sem.run_bind, resRow_tmp _ _ _ (hr.at_ t), Sem.run_pure, Result.andThen_ok, h1]
  | .cell x ty :: r, K, h => by
    simp only [resL] at h
    split at h
    · rename_i b f hx
      obtain ⟨us, v, hc, hK, hrun⟩ := loadW_run (P := P) hT h
      obtain ⟨vs, h1, h2⟩ := resL_run hT hr r _ hK
      refine ⟨v :: vs, ?_, h2⟩
      have := hrun w hc
      simp only [Instr.loadAt, Instr.sureAddr, Sem.run_bind, Sem.run_pure, Result.andThen_ok] at this
      simp only [List.mapM_cons, Sem.run_bind, resRow_cell _ _ _ _ _ ((hr.at_ x).trans hx) this, Sem.run_pure, Result.andThen_ok, h1]
    · exact h.elim

theorem results_eq (fn : Func) (tmps : Array Value) : results fn tmps = (do let vs ← fn.results.mapM (resRow tmps); pure (if h : vs.size = 1 then vs[0] else .tuple vs)) := by
  unfold results
  have : (fun | .tmp t => pure (tmps.getD t undef) | .cell a t => do loadVar t (← asAddr (tmps.getD a undef)) : ResultVar → Sem Value) = resRow tmps := by
    funext r; cases r <;> rfl
  rw [← this]
  rfl

theorem results_run (hT : AllOk P tys) {n : Nat} {e : Env} {a : Act} {fn : Func} {R : Value → Prop} (hr : Rel n e a) (h : resL tys e w fn.results.toList fun vs => R (oneOr vs)) :
    ∃ v, (results fn a.tmps).run P w = .ok v w ∧ R v := by
  obtain ⟨vs, h1, h2⟩ := resL_run (P := P) hT hr _ _ h
  refine ⟨_, ?_, h2⟩
  rw [results_eq, Array.mapM_eq_mapM_toList]
  simp only [Sem.run_bind, Sem.run_map, h1, Result.andThen_ok, Sem.run_pure]
  rcases vs with _ | ⟨v, _ | ⟨u, vs⟩⟩ <;> simp [oneOr]

/-- **A function's run**: what the executor shows of its body holds of every call. -/
theorem fnW_callsT (hT : AllOk P tys) (hF : FnsOk P fns.l) (hm : P.follows .mixedOrders = true) {f : FuncId} {fn : Func} {c : Code} {args : List Value} {R : Value → World → Prop} (hf : P.funcs[f]? = some fn) (hb : fn.body = some c)
    (hok : codeOk tys hs fn.ntmps c = true) (hn : Nat.ble args.length fn.ntmps = true) (h : fnW P tys fns hs fn args w R) : Calls P f args.toArray w fun e w' => (∃ v, e = .returned v ∧ R v w') ∨ ∃ c, e = .panicked c ∧ fns.thr c w' := by
  have hn := Nat.le_of_ble_eq_true hn
  unfold fnW at h
  rw [hb] at h
  dsimp only at h
  refine calls_of_wp hf hb ?_
  have hrel : Rel fn.ntmps (fun t => args.getD t undef) { tmps := args.toArray ++ Array.replicate (fn.ntmps - args.toArray.size) undef, defers := [] } := by
    refine ⟨by simp; omega, fun t => ?_, rfl⟩
    simp only [Array.getD_eq_getD_getElem?, List.getD_eq_getElem?_getD]
    by_cases ht : t < args.length
    · rw [Array.getElem?_append_left (by simpa using ht)]; simp
    · rw [Array.getElem?_append_right (by simpa using ht), List.getElem?_eq_none (by omega), Array.getElem?_replicate]
      split <;> rfl
  refine wp_mono (cW_wp hT hF hm c _ _ _ w hok hrel h) ?_
  rintro ex a' w' (⟨c, rfl, h1, h2⟩ | ⟨e', hr', _, hq⟩)
  · exact ⟨h1, .inr ⟨c, rfl, h2⟩⟩
  cases ex with
  | normal =>
    obtain ⟨v, h1, h2⟩ := results_run (P := P) (R := fun v => R v w') hT hr' hq
    exact ⟨hr'.defers, v, h1, .inl ⟨v, rfl, h2⟩⟩
  | ret =>
    obtain ⟨v, h1, h2⟩ := results_run (P := P) (R := fun v => R v w') hT hr' hq
    exact ⟨hr'.defers, v, h1, .inl ⟨v, rfl, h2⟩⟩
  | _ => exact hq.elim

theorem fnW_calls {fns : Fns} (hT : AllOk P tys) (hF : FnsOk P fns) (hm : P.follows .mixedOrders = true) {f : FuncId} {fn : Func} {c : Code} {args : List Value} {R : Value → World → Prop} (hf : P.funcs[f]? = some fn) (hb : fn.body = some c)
    (hok : codeOk tys hs fn.ntmps c = true) (hn : Nat.ble args.length fn.ntmps = true) (h : fnW P tys fns hs fn args w R) : Calls P f args.toArray w fun e w' => ∃ v, e = .returned v ∧ R v w' :=
  (fnW_callsT (fns := fns) hT hF hm hf hb hok hn h).mono fun _ _ h => h.elim id fun ⟨_, _, h⟩ => h.elim
end Go.Vx
end

/- part VxL -/
section
namespace Go.Vx
open Go.RowKit

/-! ### tests -/
theorem ifB {b : Bool} {p q : Prop} (h1 : b = true → p) (h2 : b = false → q) : cond b p q := by cases b with | true => exact h1 rfl | false => exact h2 rfl
theorem ifD {c : Prop} [Decidable c] {p q : Prop} (h1 : c → p) (h2 : ¬ c → q) : cond (decide c) p q := ifB (fun h => h1 (of_decide_eq_true h)) (fun h => h2 (of_decide_eq_false h))
theorem ifN {b : Bool} {p q : Prop} (h1 : b = false → p) (h2 : b = true → q) : cond (!b) p q := by cases b with | true => exact h2 rfl | false => exact h1 rfl
theorem ifE {a b : Int} {p q : Prop} (h1 : a = b → p) (h2 : a ≠ b → q) : cond (a == b) p q := ifB (fun h => h1 (eq_of_beq h)) (fun h => h2 (fun e => by rw [e] at h; simp at h))
theorem ifNE {a b : Int} {p q : Prop} (h1 : a ≠ b → p) (h2 : a = b → q) : cond (a != b) p q := ifB (fun h => h1 (fun e => by rw [e] at h; simp at h)) (fun h => h2 (by simpa using h))

/-! ### numbers -/
theorem w64 {x : Int} (h0 : -9223372036854775808 ≤ x) (h1 : x ≤ 9223372036854775807) : IntKind.i64.wrap x = x := by
  unfold IntKind.wrap; simp [IntKind.signed, IntKind.bits]; omega
theorem w8 {x : Int} (h0 : 0 ≤ x) (h1 : x ≤ 255) : IntKind.u8.wrap x = x := by
  unfold IntKind.wrap; simp [IntKind.signed, IntKind.bits]; omega
/-! ### cells -/
theorem cellsAt_of_block {w : World} {b : Nat} {cs : Array Value} {t : TypeId} {fr : Nat × Nat} (h : w.heap[b]? = some (.cells cs t fr)) : ∀ (vs : List Value) (o : Nat), (cs.toList.drop o).take vs.length = vs → cellsAt w b o vs
  | [], _, _ => trivial
  | v :: vs, o, hv => by
    have h1 : cs.toList[o]? = some v := by
      have := congrArg (fun l => l[0]?) hv
      simpa [List.getElem?_take, List.getElem?_drop] using this
    refine ⟨?_, cellsAt_of_block h vs (o + 1) ?_⟩
    · simp only [World.cell?, h]; simpa using h1
    · have h2 : cs.toList.drop o = v :: cs.toList.drop (o + 1) := by
        have hlt : o < cs.toList.length := (List.getElem?_eq_some_iff.1 h1).1
        rw [List.drop_eq_getElem_cons hlt]
        congr 1
        exact (List.getElem?_eq_some_iff.1 h1).2
      rw [h2] at hv
      simpa using hv

theorem cell_of_block {w : World} {b o : Nat} {cs : Array Value} {t : TypeId} {fr : Nat × Nat} {v : Value} (h : w.heap[b]? = some (.cells cs t fr)) (hv : cs.toList[o]? = some v) : w.cell? ⟨b, o, none⟩ = some v := by
  simp only [World.cell?, h]; simpa using hv

theorem cellsAt_mono {w w' : World} {b : Nat} (h : ∀ o, w'.cell? ⟨b, o, none⟩ = w.cell? ⟨b, o, none⟩) : ∀ {vs : List Value} {o : Nat}, cellsAt w b o vs → cellsAt w' b o vs
  | [], _, _ => trivial
  | _ :: _, o, ⟨h1, h2⟩ => ⟨(h o).trans h1, cellsAt_mono h h2⟩

theorem cellsAt_cell {w : World} {b : Nat} : ∀ {vs : List Value} {o : Nat}, cellsAt w b o vs → ∀ {j : Nat} {v : Value}, vs[j]? = some v → w.cell? ⟨b, o + j, none⟩ = some v
  | u :: us, o, ⟨h1, h2⟩, j, v, hv => by
    cases j with
    | zero => simp at hv; subst hv; exact h1
    | succ j =>
      have := cellsAt_cell h2 (j := j) (by simpa using hv)
      rw [show o + (j + 1) = o + 1 + j by omega]; exact this

theorem alloc_block (w : World) (o : Obj) : (w.alloc o).heap[w.heap.size]? = some o := by
  show (w.heap.push o)[w.heap.size]? = _
  simp
theorem alloc_size (w : World) (o : Obj) : (w.alloc o).heap.size = w.heap.size + 1 := by
  show (w.heap.push o).size = _
  simp
theorem below_alloc (w : World) (o : Obj) : Below w.heap.size w (w.alloc o) := (Below.refl _ _).alloc (Nat.le_refl _) o
theorem below_drew (w : World) : Below w.heap.size w w.drew := (Below.refl _ _).drew
/-! ### a new variable that is filled at once -/
theorem setL_size (b : Nat) : ∀ (vs : List Value) (o : Nat) (w : World), (setL w b o vs).heap.size = w.heap.size
  | [], _, _ => rfl
  | v :: vs, o, w => by rw [setL, setL_size b vs]; simp [World.setCell]

theorem canSt_of_block {w : World} {b : Nat} {cs : Array Value} {t : TypeId} (h : w.heap[b]? = some (.cells cs t (0, 0))) : ∀ (vs : List Value) (o : Nat), o + vs.length ≤ cs.size → (vs.all fun v => v.oneCell') = true → canSt w b o vs
  | [], _, _, _ => trivial
  | v :: vs, o, hl, h1 => by
    simp only [List.all_cons, Bool.and_eq_true, List.length_cons] at h1 hl
    refine ⟨⟨⟨cs[o]'(by omega), ?_⟩, ?_, h1.1⟩, canSt_of_block h vs (o + 1) (by omega) h1.2⟩
    · simp only [World.cell?, h]; simp
    · simp [World.frozen?, h]

theorem setL_block {b : Nat} {t : TypeId} : ∀ (vs : List Value) (o : Nat) (w : World) (cs : Array Value), w.heap[b]? = some (.cells cs t (0, 0)) → (setL w b o vs).heap[b]? = some (.cells (setAt cs.toList o vs).toArray t (0, 0)) ∧ ∀ k, k ≠ b → (setL w b o vs).heap[k]? = w.heap[k]?
  | [], o, w, cs, h => ⟨by simpa [setL, setAt] using h, fun _ _ => rfl⟩
  | v :: vs, o, w, cs, h => by
    have hb : (w.setCell ⟨b, o, none⟩ v).heap[b]? = some (.cells (cs.setIfInBounds o v) t (0, 0)) := by
      simp only [World.setCell, Array.getElem?_modify, if_true, h]; simp
    obtain ⟨h1, h2⟩ := setL_block vs (o + 1) _ _ hb
    refine ⟨?_, fun k hk => (h2 k hk).trans (Below.heap_setCell w ⟨b, o, none⟩ v k hk)⟩
    rw [setL, h1]
    simp [setAt]

theorem setL_streams {b : Nat} : ∀ (vs : List Value) (o : Nat) (w : World), (setL w b o vs).os = w.os ∧ (setL w b o vs).tape = w.tape ∧ (setL w b o vs).output = w.output
  | [], _, _ => ⟨rfl, rfl, rfl⟩
  | v :: vs, o, w => by
    obtain ⟨h1, h2, h3⟩ := setL_streams (b := b) vs (o + 1) (w.setCell ⟨b, o, none⟩ v)
    exact ⟨h1, h2, h3⟩

/-- a new block, and what follows over it -/
theorem box {w : World} {o : Obj} {G : World → Prop} (h : ∀ w', w'.heap[w.heap.size]? = some o → Below w.heap.size w w' → w'.heap.size = w.heap.size + 1 → G w') : withW (World.alloc w o) G :=
  h _ (alloc_block w o) (below_alloc w o) (alloc_size w o)

/-! ### slices of one's own -/
theorem own_block {w w' : World} {base e size n : Nat} {v : Value} {xs : List Value} (h : w.ownsRow base e size v n xs) (hk : ∀ g, v.ownBlock = some g → w'.heap[g]? = w.heap[g]?) : w'.ownsRow base e size v n xs := by
  obtain ⟨h1, h2⟩ := h
  refine ⟨h1, ?_⟩
  rcases h2 with h2 | ⟨g, cap, cur, hv, hg, hh, r⟩
  · exact .inl h2
  · exact .inr ⟨g, cap, cur, hv, hg, by rw [hk g (by rw [hv]; rfl)]; exact hh, r⟩

theorem own_slice {w : World} {base e size n : Nat} {v : Value} {xs : List Value} (h : w.ownsRow base e size v n xs) : ∃ a c, v = .slice a n c ∧ n ≤ c ∧ c ≤ maxLen := by
  obtain ⟨_, ⟨rfl, rfl⟩ | ⟨g, cap, cur, rfl, _, _, h1, h2, _⟩⟩ := h
  · exact ⟨none, 0, rfl, Nat.le_refl _, by simp⟩
  · exact ⟨_, _, rfl, h1, h2⟩

/-- the block of what was grown: the old one, or a new one -/
def Nxt (n : Nat) (v v' : Value) : Prop := v'.ownBlock = v.ownBlock ∨ ∃ k, n ≤ k ∧ v'.ownBlock = some k

theorem Nxt.trans {n n' : Nat} {a b c : Value} (h : Nxt n a b) (k : Nxt n' b c) (hn : n ≤ n') : Nxt n a c := by
  rcases k with k | ⟨j, k1, k2⟩
  · rcases h with h | ⟨i, h1, h2⟩
    · exact .inl (k.trans h)
    · exact .inr ⟨i, h1, k.trans h2⟩
  · exact .inr ⟨j, by omega, k2⟩

/-- 'append(b, x, ..)' onto a slice of one's own, of elements that lie in memory -/
theorem append_own {P : Program} {w : World} {base t ty el : Nat} {yt ye : Ty} (hyt : yt.Ok P t) (ht : yt.tk = .sl el) (hye : ye.Ok P el) (hsz : 0 < ye.size) {v : Value} {n : Nat} {xs : List Value} (hown : w.ownsRow base el ye.size v n xs)
    {b f m c : Nat} {news : List Value} (hl : news.length = m * ye.size) (hc : cellsAt w b f news) (h1 : (news.all fun u => u.oneCell') = true) (hbytes : (n + m) * ye.bytes ≤ 140737488355328) (hn : n + m ≤ 140737488355328) (hbase : base ≤ w.heap.size) :
    ∃ (a : Option Addr) (k d : Nat) (w' : World), Runs P (Builtin.append_ #[t, t] ty #[v, .slice (some ⟨b, f, none⟩) m c]) w (.slice a k d) w' ∧ k = n + m ∧ w'.ownsRow base el ye.size (.slice a k d) k (xs ++ news) ∧ w.grownBy w' v.ownBlock ∧ Nxt w.heap.size v (.slice a k d) := by
  obtain ⟨i, hi, hi1, hi2, z, hz, hzl⟩ := run_info hye
  have htk := hyt.tk
  rw [ht] at htk
  have hnews : ∀ j u, news[j]? = some u → w.cell? ((⟨b, f, none⟩ : Addr).add j) = some u := fun j u hu => by rw [add_none]; exact cellsAt_cell hc hu
  have hone : ∀ u ∈ news, u.oneCell' = true := fun u hu => List.all_eq_true.1 h1 u hu
  obtain ⟨v', w', hr, ho, hg, hnil⟩ := run_append_own (P := P) (w := w) base t ty el i z ye.size ye.bytes htk hi hz hi1 hi2 (by rw [← Array.length_toList, hzl, hye.zs]) hsz v n xs hown ⟨b, f, none⟩ m c news hl
    hnews hone (by simp only [maxLen]; omega) hbytes hbase
  obtain ⟨a, d, rfl, _⟩ := own_slice ho
  refine ⟨a, n + m, d, w', hr, rfl, ho, hg, ?_⟩
  obtain ⟨hxl, ⟨rfl, rfl⟩ | ⟨g, cap, cur, rfl, hgb, hgh, hnc, hcm, hcs, htake⟩⟩ := hown
  · rcases Nat.eq_zero_or_pos m with rfl | hm
    · rw [hnil.2 ⟨rfl, rfl⟩]; exact .inl rfl
    · have := run_append_nil (P := P) (w := w) t ty el i z htk hi hz ⟨b, f, none⟩ m c news (hi1 ▸ hl) hnews hm (by omega) (by rw [hi2]; rw [Nat.zero_add] at hbytes; omega)
      rw [hr] at this
      simp only [Result.ok.injEq] at this
      rw [this.1]
      exact .inr ⟨w.heap.size, Nat.le_refl _, rfl⟩
  · by_cases hroom : n + m ≤ cap
    · have := run_append_room (P := P) (w := w) t ty el i htk hi g n cap cur hgh ⟨b, f, none⟩ m c news (hi1 ▸ hl) hnews hone hroom (by rw [hi1, hcs, hl, ← Nat.add_mul]; exact Nat.mul_le_mul_right _ hroom)
      rw [hr] at this
      simp only [Result.ok.injEq] at this
      rw [this.1]
      exact .inl rfl
    · have := run_append_grow (P := P) (w := w) t ty el i z htk hi hz ⟨g, 0, none⟩ n cap xs (hi1 ▸ hxl) (fun j u hu => by
          rw [add_none, Nat.zero_add]
          rw [← htake, List.getElem?_take] at hu
          split at hu
          · exact cell_of_block hgh hu
          · cases hu) ⟨b, f, none⟩ m c news (hi1 ▸ hl) hnews (by omega) (by omega) (growslice_fits (by omega) (by rw [hi2]; exact hbytes))
      rw [hr] at this
      simp only [Result.ok.injEq] at this
      rw [this.1]
      exact .inr ⟨w.heap.size, Nat.le_refl _, rfl⟩

/-- 'append(b, s...)' of a string -/
theorem append_str {P : Program} {w : World} {base t u ty el : Nat} {yt yu ye : Ty} (hyt : yt.Ok P t) (ht : yt.tk = .sl el) (hyu : yu.Ok P u) (hu : yu.tk = .str) (hye : ye.Ok P el) (hzero : (P.info? el).bind (·.zero) = some (.int .u8 0)) (hsz : ye.size = 1) (hby : ye.bytes = 1)
    {v : Value} {n : Nat} {xs : List Value} (hown : w.ownsRow base el 1 v n xs) (s : ByteArray) (hbytes : n + s.size ≤ 140737488355328) (hbase : base ≤ w.heap.size) :
    ∃ (a : Option Addr) (k d : Nat) (w' : World), Runs P (Builtin.append_ #[t, u] ty #[v, .string s]) w (.slice a k d) w' ∧ k = n + s.size ∧ w'.ownsRow base el 1 (.slice a k d) k (xs ++ Lib.strCells s) ∧ w.grownBy w' v.ownBlock ∧ Nxt w.heap.size v (.slice a k d) := by
  obtain ⟨i, hi, hi1, hi2, z, hz, hzl⟩ := run_info hye
  have htk := hyt.tk
  rw [ht] at htk
  have huk := hyu.tk
  rw [hu] at huk
  obtain rfl : z = .int .u8 0 := by
    rw [hi] at hzero
    simp only [Option.bind_some, hz, Option.some.injEq] at hzero
    exact hzero
  obtain ⟨v', w', hr, ho, hg, hnil⟩ := Lib.run_append_own_string (P := P) (w := w) base t u ty el i htk huk hi hz (hi1.trans hsz) (hi2.trans hby) v n xs hown s (by simp only [maxLen]; omega) hbytes hbase
  obtain ⟨a, d, rfl, _⟩ := own_slice ho
  refine ⟨a, n + s.size, d, w', hr, rfl, ho, hg, ?_⟩
  obtain ⟨hxl, ⟨rfl, rfl⟩ | ⟨g, cap, cur, rfl, hgb, hgh, hnc, hcm, hcs, htake⟩⟩ := hown
  · rcases Nat.eq_zero_or_pos s.size with hm | hm
    · rw [hnil.2 ⟨rfl, hm⟩]; exact .inl rfl
    · have := run_append_nil_string (P := P) (w := w) t u ty el i _ htk huk hi hz s hm (by omega) (by rw [hi2, hby]; omega)
      rw [hr] at this
      simp only [Result.ok.injEq] at this
      rw [this.1]
      exact .inr ⟨w.heap.size, Nat.le_refl _, rfl⟩
  · by_cases hroom : n + s.size ≤ cap
    · have := Lib.run_append_room_string (P := P) (w := w) t u ty el i htk huk hi (hi1.trans hsz) g n cap cur hgh s hroom (by rw [hcs]; omega)
      rw [hr] at this
      simp only [Result.ok.injEq] at this
      rw [this.1]
      exact .inl rfl
    · have := Lib.run_append_grow_string (P := P) (w := w) t u ty el i _ htk huk hi hz ⟨g, 0, none⟩ n cap xs (by rw [hi1, hsz]; exact hxl) (fun j u hu => by
          rw [add_none, Nat.zero_add]
          rw [← htake, List.getElem?_take] at hu
          split at hu
          · exact cell_of_block hgh hu
          · cases hu) s (by omega) (by omega) (growslice_fits (by omega) (by rw [hi2, hby]; omega))
      rw [hr] at this
      simp only [Result.ok.injEq] at this
      rw [this.1]
      exact .inr ⟨w.heap.size, Nat.le_refl _, rfl⟩

/-! ### bytes and strings -/
/-- cells that hold bytes -/
def bv (l : List UInt8) : List Value := l.map fun b => .int .u8 (b.toNat : Int)
theorem bv_length (l : List UInt8) : (bv l).length = l.length := by simp [bv]
theorem strCells_bv (s : ByteArray) : Lib.strCells s = bv s.data.toList := rfl
theorem fold_push : ∀ (l : List UInt8) (acc : ByteArray), (l.map fun b => (b.toNat : Int)).foldl (fun r n => r.push (UInt8.ofNat n.toNat)) acc = ⟨acc.data ++ l.toArray⟩
  | [], acc => by simp
  | b :: l, acc => by
    simp only [List.map_cons, List.foldl_cons]
    rw [fold_push l]
    have : UInt8.ofNat ((b.toNat : Int).toNat) = b := by rw [Int.toNat_natCast]; exact UInt8.ofNat_toNat
    rw [this]
    congr 1
    apply Array.ext'
    simp [ByteArray.push]

theorem conv_bytes {P : Program} {w : World} {t u e : Nat} {yt yu ye : Ty} (hyt : yt.Ok P t) (ht : yt.tk = .sl e) (hyu : yu.Ok P u) (hu : yu.tk = .str) (hye : ye.Ok P e) (he : ye.tk = .int .u8) {b o c : Nat} {l : List UInt8} (h : cellsAt w b o (bv l)) :
    Runs P (convert t u (.slice (some ⟨b, o, none⟩) l.length c)) w (.string ⟨l.toArray⟩) w := by
  have htk := hyt.tk
  rw [ht] at htk
  have huk := hyu.tk
  rw [hu] at huk
  have hek := hye.tk
  rw [he] at hek
  have hld := run_loadFrom P w b (bv l) o 0 #[] (by simpa using h)
  rw [bv_length] at hld
  have hrun := run_bytesToString (P := P) w ⟨b, o, none⟩ l.length c (l.map fun b => (b.toNat : Int)) (by
    simp only [loadCells, hld]
    simp [bv])
  rw [fold_push] at hrun
  unfold Runs
  simp only [convert, Sem.run_bind, run_under (show P.underlying t = _ from htk), run_under (show P.underlying u = _ from huk), run_under (show P.underlying e = _ from hek), Result.andThen_ok]
  rw [hrun]
  congr 2
  simp

theorem conv_nil {P : Program} {w : World} {t u e : Nat} {yt yu ye : Ty} (hyt : yt.Ok P t) (ht : yt.tk = .sl e) (hyu : yu.Ok P u) (hu : yu.tk = .str) (hye : ye.Ok P e) (he : ye.tk = .int .u8) {n c : Nat} :
    Runs P (convert t u (.slice none n c)) w (.string ByteArray.empty) w := by
  have htk := hyt.tk
  rw [ht] at htk
  have huk := hyu.tk
  rw [hu] at huk
  have hek := hye.tk
  rw [he] at hek
  unfold Runs
  simp [convert, run_under (show P.underlying t = _ from htk), run_under (show P.underlying u = _ from huk), run_under (show P.underlying e = _ from hek), Conv.bytesToString]

end Go.Vx
end

/- part VxM -/
section
namespace Go.Vx
open Go.RowKit

theorem conv_empty {P : Program} {w : World} {t u e : Nat} {yt yu ye : Ty} (hyt : yt.Ok P t) (ht : yt.tk = .sl e) (hyu : yu.Ok P u) (hu : yu.tk = .str) (hye : ye.Ok P e) (he : ye.tk = .int .u8) {a : Option Addr} {c : Nat} :
    Runs P (convert t u (.slice a 0 c)) w (.string ⟨#[]⟩) w := by
  cases a with
  | none => exact conv_nil hyt ht hyu hu hye he
  | some a =>
    have htk := hyt.tk
    rw [ht] at htk
    have huk := hyu.tk
    rw [hu] at huk
    have hek := hye.tk
    rw [he] at hek
    have hrun := run_bytesToString (P := P) w a 0 c [] (by simp [loadCells, loadCellsFrom])
    unfold Runs
    simp only [convert, Sem.run_bind, run_under (show P.underlying t = _ from htk), run_under (show P.underlying u = _ from huk), run_under (show P.underlying e = _ from hek), Result.andThen_ok]
    rw [hrun]
    rfl

theorem append_empty {P : Program} {w : World} {t ty el : Nat} {yt ye : Ty} (hyt : yt.Ok P t) (ht : yt.tk = .sl el) (hye : ye.Ok P el) {a : Option Addr} {n c : Nat} (hnc : n ≤ c) {a' : Option Addr} {c' : Nat} :
    Runs P (Builtin.append_ #[t, t] ty #[.slice a n c, .slice a' 0 c']) w (.slice a n c) w := by
  obtain ⟨i, hi, hi1, hi2, z, hz, hzl⟩ := run_info hye
  have htk := hyt.tk
  rw [ht] at htk
  unfold Runs
  cases a <;> cases a' <;> simp [Builtin.append_, run_underlying htk, sizeOf, typeInfo, hi, Builtin.lenOf, hnc, Builtin.firstCells, storeCells, loadCells, loadCellsFrom]

end Go.Vx
end

/- part VxN -/
section
namespace Go.Vx
open Go.RowKit

theorem cellsAt_same {w w' : World} {b : Nat} (h : w'.heap[b]? = w.heap[b]?) {o : Nat} {vs : List Value} (hc : cellsAt w b o vs) : cellsAt w' b o vs :=
  cellsAt_mono (fun o => by simp only [World.cell?, h]) hc
theorem lt_of_block {w : World} {b : Nat} {o : Obj} (h : w.heap[b]? = some o) : b < w.heap.size := by
  rcases Nat.lt_or_ge b w.heap.size with h1 | h1
  · exact h1
  · rw [Array.getElem?_eq_none h1] at h; cases h

/-- blocks outside M stay -/
structure Chg (M : Nat → Prop) (w w' : World) : Prop where
  os : w'.os = w.os
  tape : w'.tape = w.tape
  output : w'.output = w.output
  size : w.heap.size ≤ w'.heap.size
  block : ∀ k, k < w.heap.size → ¬ M k → w'.heap[k]? = w.heap[k]?

theorem Chg.trans {M M' : Nat → Prop} {w w1 w2 : World} (h : Chg M w w1) (h' : Chg M' w1 w2) (hM : ∀ k, k < w.heap.size → M' k → M k) : Chg M w w2 :=
  ⟨h'.os.trans h.os, h'.tape.trans h.tape, h'.output.trans h.output, Nat.le_trans h.size h'.size, fun k hk hn => (h'.block k (by have := h.size; omega) (fun h2 => hn (hM k hk h2))).trans (h.block k hk hn)⟩
theorem cellsAt_drop {w : World} {b : Nat} : ∀ {vs : List Value} {o : Nat} (n : Nat), cellsAt w b o vs → cellsAt w b (o + n) (vs.drop n)
  | _, _, 0, h => by simpa using h
  | [], _, _ + 1, _ => by simp [cellsAt]
  | _ :: _, o, n + 1, h => by
    have := cellsAt_drop n h.2
    rw [show o + (n + 1) = o + 1 + n by omega]; simpa using this
theorem cellsAt_take {w : World} {b : Nat} : ∀ {vs : List Value} {o : Nat} (n : Nat), cellsAt w b o vs → cellsAt w b o (vs.take n)
  | _, _, 0, _ => by simp [cellsAt]
  | [], _, _ + 1, _ => by simp [cellsAt]
  | _ :: _, _, n + 1, h => ⟨h.1, cellsAt_take n h.2⟩
end Go.Vx
end

/- part VxO -/
section
namespace Go.Vx
open Go.RowKit

def PMap (w : World) (r : Nat) (ps : List Addr) : Prop := ∃ es clock, w.heap[r]? = some (.map es clock) ∧ es.toList.map (fun e => (e.key, e.val)) = ps.map fun p => (Value.pointer (some p), Value.bool true)
/-- places in memory that compare at once -/
def Plain (w : World) (p : Addr) : Prop := ∃ cs t, w.heap[p.block]? = some (.cells cs t (0, 0))

section
variable {P : Program} {w : World} {tp te : TypeId} {j : TypeInfo}

end
end Go.Vx
end

/- part VxQ -/
section
namespace Go.Vx
open Go.RowKit

def MMap (w : World) (r : Nat) (k : IntKind) (l : List (Int × Value)) : Prop := ∃ es clock, w.heap[r]? = some (.map es clock) ∧ es.toList.map (fun e => (e.key, e.val)) = l.map fun p => (Value.int k p.1, p.2)

section
variable {P : Program} {w : World} {tp : TypeId} {k : IntKind}

theorem findNow_mm {q : Int} : ∀ (es : List MapEntry) (l : List (Int × Value)) (i : Nat), es.map (fun e => (e.key, e.val)) = l.map (fun p => (Value.int k p.1, p.2)) →
    (∀ v, l.lookup q = some v → ∃ j, Instr.findNow (.int k) (.int k q) es i = some (some (j, v))) ∧ (l.lookup q = none → Instr.findNow (.int k) (.int k q) es i = some none) := by
  intro es
  induction es with
  | nil =>
    intro l i h
    cases l with
    | nil => exact ⟨fun v h => (by cases h), fun _ => rfl⟩
    | cons z zs => simp at h
  | cons e es ih =>
    intro l i h
    cases l with
    | nil => simp at h
    | cons z zs =>
      simp only [List.map_cons, List.cons.injEq, Prod.mk.injEq] at h
      obtain ⟨⟨hk, hv⟩, hr⟩ := h
      have ih' := ih zs (i + 1) hr
      obtain ⟨z1, z2⟩ := z
      by_cases hqz : q = z1
      · subst hqz
        simp only [List.lookup_cons_self]
        exact ⟨fun v h => by cases h; exact ⟨i, by simp [Instr.findNow, Instr.sameNow, hk, hv]⟩, fun hn => by cases hn⟩
      · have hbz : (q == z1) = false := by simpa using hqz
        simp only [List.lookup_cons, hbz]
        refine ⟨fun v hm => ?_, fun hn => ?_⟩
        · obtain ⟨j, hk'⟩ := ih'.1 v hm
          exact ⟨j, by simp [Instr.findNow, Instr.sameNow, hk, hbz, hk']⟩
        · simp [Instr.findNow, Instr.sameNow, hk, hbz, ih'.2 hn]

theorem check_mm (hp : P.underlying tp = some (.int k)) (z : Int) (e : Bool) (n : Nat) : (Instr.checkKey e (n + 1) tp (.int k z)).run P w = .ok () w := by
  unfold Instr.checkKey
  simp only [Sem.run_bind, run_underlying hp, Result.andThen, Sem.run_pure]

theorem lookup_mm {t kb : TypeId} {z : Value} (ht : P.underlying t = some (.map tp kb)) (hz : (zeroValue kb).run P w = .ok z w) (hp : P.underlying tp = some (.int k)) {q : Int} {r : Nat} {l : List (Int × Value)} (hm : MMap w r k l) (ok : Bool) :
    Runs P (Instr.lookup t (.map (some r)) (.int k q) ok) w (if ok then .tuple #[(l.lookup q).getD z, .bool (l.lookup q).isSome] else (l.lookup q).getD z) w := by
  obtain ⟨es, clock, hb, he⟩ := hm
  have hf := findNow_mm (q := q) es.toList l 0 he
  unfold Runs
  cases hq : l.lookup q with
  | some v =>
    obtain ⟨j, hk⟩ := hf.1 v hq
    simp [Instr.lookup, run_underlying ht, MapKept.run_getObj_map hb, check_mm (P := P) (w := w) hp, MapKept.run_findKey hp hk, Result.andThen]
  | none => simp [Instr.lookup, run_underlying ht, MapKept.run_getObj_map hb, check_mm (P := P) (w := w) hp, MapKept.run_findKey hp (hf.2 hq), hz, Result.andThen]

theorem update_mm {t kb : TypeId} (ht : P.underlying t = some (.map tp kb)) (hp : P.underlying tp = some (.int k)) {q : Int} {v : Value} {r : Nat} {es : Array MapEntry} {clock : Nat} {l : List (Int × Value)} (hb : w.heap[r]? = some (.map es clock)) (he : es.toList.map (fun e => (e.key, e.val)) = l.map fun p => (Value.int k p.1, p.2)) (hn : l.lookup q = none) :
    ∃ w' b, Runs P (Instr.mapUpdate t (.map (some r)) (.int k q) v) w () w' ∧ w'.heap[r]? = some (.map (es.push { key := .int k q, val := v, born := b }) (clock + 1)) ∧ w'.heap.size = w.heap.size ∧ (∀ j, j ≠ r → w'.heap[j]? = w.heap[j]?) ∧ Chg (fun j => j = r) w w' := by
  have hf := (findNow_mm (q := q) es.toList l 0 he).2 hn
  obtain ⟨g1, g2⟩ := MapKept.heap_set (o' := .map (es.push { key := .int k q, val := v, born := clock }) (clock + 1)) hb
  refine ⟨{ w with heap := w.heap.setIfInBounds r (.map (es.push { key := .int k q, val := v, born := clock }) (clock + 1)) }, clock, ?_, g1, by simp, g2, ⟨rfl, rfl, rfl, by simp, fun j _ hj => g2 j hj⟩⟩
  · unfold Runs
    simp [Instr.mapUpdate, run_underlying ht, MapKept.run_getObj_map hb, check_mm (P := P) (w := w) hp, MapKept.run_findKey hp hf, MapKept.run_setObj_map _ hb, Result.andThen]
end

/-- texts as keys -/
def TMap (w : World) (r : Nat) (l : List (ByteArray × Value)) : Prop := ∃ es clock, w.heap[r]? = some (.map es clock) ∧ es.toList.map (fun e => (e.key, e.val)) = l.map fun p => (Value.string p.1, p.2)
def lookT : List (ByteArray × Value) → ByteArray → Option Value
  | [], _ => none
  | (a, v) :: l, q => cond (decide (q = a)) (some v) (lookT l q)
section
variable {P : Program} {w : World} {tp : TypeId}

theorem same_text (a b : ByteArray) : (a == b) = decide (a = b) := by
  cases a; cases b
  rename_i x y
  show (x == y) = _
  rw [Bool.eq_iff_iff]; simp
theorem findNow_mt {q : ByteArray} : ∀ (es : List MapEntry) (l : List (ByteArray × Value)) (i : Nat), es.map (fun e => (e.key, e.val)) = l.map (fun p => (Value.string p.1, p.2)) →
    (∀ v, lookT l q = some v → ∃ j, Instr.findNow .string (.string q) es i = some (some (j, v))) ∧ (lookT l q = none → Instr.findNow .string (.string q) es i = some none) := by
  intro es
  induction es with
  | nil =>
    intro l i h
    cases l with
    | nil => exact ⟨fun v h => (by cases h), fun _ => rfl⟩
    | cons z zs => simp at h
  | cons e es ih =>
    intro l i h
    cases l with
    | nil => simp at h
    | cons z zs =>
      simp only [List.map_cons, List.cons.injEq, Prod.mk.injEq] at h
      obtain ⟨⟨hk, hv⟩, hr⟩ := h
      have ih' := ih zs (i + 1) hr
      obtain ⟨z1, z2⟩ := z
      by_cases hqz : q = z1
      · subst hqz
        simp only [lookT, decide_true, cond_true]
        exact ⟨fun v h => by cases h; exact ⟨i, by simp [Instr.findNow, Instr.sameNow, hk, hv, same_text]⟩, fun hn => by cases hn⟩
      · simp only [lookT, decide_eq_false hqz, cond_false]
        refine ⟨fun v hm => ?_, fun hn => ?_⟩
        · obtain ⟨j, hk'⟩ := ih'.1 v hm
          exact ⟨j, by simp [Instr.findNow, Instr.sameNow, hk, hqz, hk', same_text]⟩
        · simp [Instr.findNow, Instr.sameNow, hk, hqz, ih'.2 hn, same_text]

theorem check_mt (hp : P.underlying tp = some .string) (z : ByteArray) (e : Bool) (n : Nat) : (Instr.checkKey e (n + 1) tp (.string z)).run P w = .ok () w := by
  unfold Instr.checkKey
  simp only [Sem.run_bind, run_underlying hp, Result.andThen, Sem.run_pure]

theorem lookup_mt {t kb : TypeId} {z : Value} (ht : P.underlying t = some (.map tp kb)) (hz : (zeroValue kb).run P w = .ok z w) (hp : P.underlying tp = some .string) {q : ByteArray} {r : Nat} {l : List (ByteArray × Value)} (hm : TMap w r l) (ok : Bool) :
    Runs P (Instr.lookup t (.map (some r)) (.string q) ok) w (if ok then .tuple #[(lookT l q).getD z, .bool (lookT l q).isSome] else (lookT l q).getD z) w := by
  obtain ⟨es, clock, hb, he⟩ := hm
  have hf := findNow_mt (q := q) es.toList l 0 he
  unfold Runs
  cases hq : lookT l q with
  | some v =>
    obtain ⟨j, hk⟩ := hf.1 v hq
    simp [Instr.lookup, run_underlying ht, MapKept.run_getObj_map hb, check_mt (P := P) (w := w) hp, MapKept.run_findKey hp hk, Result.andThen]
  | none => simp [Instr.lookup, run_underlying ht, MapKept.run_getObj_map hb, check_mt (P := P) (w := w) hp, MapKept.run_findKey hp (hf.2 hq), hz, Result.andThen]

theorem update_mt {t kb : TypeId} (ht : P.underlying t = some (.map tp kb)) (hp : P.underlying tp = some .string) {q : ByteArray} {v : Value} {r : Nat} {es : Array MapEntry} {clock : Nat} {l : List (ByteArray × Value)} (hb : w.heap[r]? = some (.map es clock)) (he : es.toList.map (fun e => (e.key, e.val)) = l.map fun p => (Value.string p.1, p.2)) (hn : lookT l q = none) :
    ∃ w' b, Runs P (Instr.mapUpdate t (.map (some r)) (.string q) v) w () w' ∧ w'.heap[r]? = some (.map (es.push { key := .string q, val := v, born := b }) (clock + 1)) ∧ w'.heap.size = w.heap.size ∧ (∀ j, j ≠ r → w'.heap[j]? = w.heap[j]?) ∧ Chg (fun j => j = r) w w' := by
  have hf := (findNow_mt (q := q) es.toList l 0 he).2 hn
  obtain ⟨g1, g2⟩ := MapKept.heap_set (o' := .map (es.push { key := .string q, val := v, born := clock }) (clock + 1)) hb
  refine ⟨{ w with heap := w.heap.setIfInBounds r (.map (es.push { key := .string q, val := v, born := clock }) (clock + 1)) }, clock, ?_, g1, by simp, g2, ⟨rfl, rfl, rfl, by simp, fun j _ hj => g2 j hj⟩⟩
  · unfold Runs
    simp [Instr.mapUpdate, run_underlying ht, MapKept.run_getObj_map hb, check_mt (P := P) (w := w) hp, MapKept.run_findKey hp hf, MapKept.run_setObj_map _ hb, Result.andThen]
end
end Go.Vx
end
