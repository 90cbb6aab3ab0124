/- The second executor: operations that change memory (3). -/
import Derived.Test.YtahagnfdpemmaaaDoorF1
/- part AvA -/
section
namespace Go.Av
open Go.Vx

/-! ### values -/
inductive V where
  | int (k : IntKind) (n : Int) | bool (b : Bool) | str (s : ByteArray)
  | nls | sl (z : Nat) (l : List (List V)) | own (i : Nat)
  | pt (d : Option (List V)) | ptr (i o : Nat) | eptr (i j o : Nat) | gl (g : Nat)
  | err (e : Option Nat)
  | fn (g : Nat) (first caps : List V) | nilf
  | map (i : Nat) | nilm
  | slc (z : Nat) (l : List (List V))      -- data of a slice that has no room behind them
  | yl (l : Nat)      -- the function that a range over a function hands in
  | agg (l : List V) | tup (l : List V)
  | ifc (t : Nat) (l : List V)      -- an interface that holds a struct of data
  | undef | junk

inductive Ob where
  | box (l : List V)
  | lst (e z : Nat) (fz : Bool) (l : List (List V))
  | mp (l : List (V × V))
  | dead
structure Obj where
  ver : Nat
  ob : Ob
abbrev Store := List Obj
abbrev AEnv := Nat → V

/-- shapes of data's cells -/
inductive As where | int (k : IntKind) | bool | str | sl (z : Nat) | pt | err

def As.ex : As → (V → Prop) → Prop
  | .int k, K => ∃ n : Int, K (.int k n)
  | .bool, K => ∃ b : Bool, K (.bool b)
  | .str, K => ∃ s : ByteArray, K (.str s)
  | .sl z, K => ∃ l : List (List V), K (.sl z l)
  | .pt, K => ∃ d : Option (List V), K (.pt d)
  | .err, K => ∃ e : Option Nat, K (.err e)
def As.all : As → (V → Prop) → Prop
  | .int k, K => ∀ n : Int, K (.int k n)
  | .bool, K => ∀ b : Bool, K (.bool b)
  | .str, K => ∀ s : ByteArray, K (.str s)
  | .sl z, K => ∀ l : List (List V), K (.sl z l)
  | .pt, K => ∀ d : Option (List V), K (.pt d)
  | .err, K => ∀ e : Option Nat, K (.err e)
def exA : List As → (List V → Prop) → Prop
  | [], K => K []
  | a :: r, K => a.ex fun v => exA r fun vs => K (v :: vs)
def allA : List As → (List V → Prop) → Prop
  | [], K => K []
  | a :: r, K => a.all fun v => allA r fun vs => K (v :: vs)

def As.is : As → V → Bool
  | .int k, .int k' _ => decide (k = k')
  | .bool, .bool _ => true
  | .str, .str _ => true
  | .sl z, .sl z' _ => Nat.beq z z'
  | .pt, .pt _ => true
  | .err, .err _ => true
  | _, _ => false
def isA : List As → List V → Bool
  | [], [] => true
  | a :: r, v :: vs => a.is v && isA r vs
  | _, _ => false

def cellsV : V → List V
  | .agg l => l
  | v => [v]

/-- the model's constants -/
def ofCell : Value → V
  | .int k n => .int k n
  | .bool b => .bool b
  | .string s => .str s
  | .slice none 0 0 => .nls
  | .pointer none => .pt none
  | .nilIface => .err none
  | .nilFunc => .nilf
  | .map none => .nilm
  | _ => .junk
def ofVal : Value → V
  | .agg cs => .agg (cs.toList.map ofCell)
  | v => ofCell v
/-- numbers and texts, back -/
def toC : V → Value
  | .int k n => .int k n
  | .bool b => .bool b
  | .str s => .string s
  | _ => undef

def aev (e : AEnv) : Operand → V
  | .tmp t => e t
  | .const v => ofVal v
  | .global g => .gl g
  | .func f => .fn f [] []
def AEnv.put (e : AEnv) : Option Nat → V → AEnv
  | none, _ => e
  | some d, v => fun t => cond (Nat.beq t d) v (e t)

/-! ### lists -/
def setV (cs : List V) : Nat → List V → List V
  | _, [] => cs
  | i, v :: vs => setV (cs.set i v) (i + 1) vs
def fillV (place : Nat → Option (Nat × Nat)) : List V → List (Nat × V) → Option (List V)
  | cells, [] => some cells
  | cells, (i, v) :: rest => match place i with
    | none => none
    | some (off, size) => cond (Nat.beq (cellsV v).length size && Nat.ble (off + (cellsV v).length) cells.length) (fillV place (setV cells off (cellsV v)) rest) none
def rowAt (l : List (List V)) (j : Nat) : List V := l.getD j []
def getO (σ : Store) (i : Nat) : Ob := match σ[i]? with | some o => o.ob | none => .dead
def verO (σ : Store) (i : Nat) : Nat := match σ[i]? with | some o => o.ver | none => 0
def putO (σ : Store) (i : Nat) (ob : Ob) : Store := σ.set i ⟨verO σ i + 1, ob⟩
/-- what a map's rows hold at a key -/
def lookV : List (List V) → Int → Option V
  | [], _ => none
  | [.int .i64 a, v] :: l, q => cond (decide (q = a)) (some v) (lookV l q)
  | _ :: l, q => lookV l q
def lookS : List (List V) → ByteArray → Option V
  | [], _ => none
  | [.str a, v] :: l, q => cond (decide (q = a)) (some v) (lookS l q)
  | _ :: l, q => lookS l q
def isDatV : V → Bool
  | .int _ _ => true
  | .bool _ => true
  | .str _ => true
  | .sl _ _ => true
  | .pt _ => true
  | .err _ => true
  | _ => false
def isDatA : V → Bool
  | .agg us => us.all isDatV
  | v => isDatV v
def rowsOf (s : ByteArray) : List (List V) := s.data.toList.map fun b => [.int .u8 (b.toNat : Int)]

/-! ### what is made data -/
def co (σ : Store) : As → V → Option (V × Store)
  | .sl z, .nls => some (.sl z [], σ)
  | .sl z, .own i => match getO σ i with
    | .lst t z' fz l => cond (Nat.beq z z') (some (.sl z l, cond fz σ (putO σ i (.lst t z' true l)))) none
    | _ => none
  | a, v => cond (a.is v) (some (v, σ)) none
def coL (σ : Store) : List As → List V → Option (List V × Store)
  | [], [] => some ([], σ)
  | a :: r, v :: vs => match co σ a v with
    | some (u, σ') => match coL σ' r vs with
      | some (us, σ'') => some (u :: us, σ'')
      | none => none
    | none => none
  | _, _ => none

abbrev Ats := List (Nat × List As)

/-! ### operations on numbers and texts -/
def strEq (a b : ByteArray) : Bool := decide (a = b)
def errEq (a b : Option Nat) : Bool := decide (a = b)
/-- two errors are compared by the model where not both are nil -/
def ernW (a b : Option Nat) (k : Prop) : Prop := match b with
  | some _ => k
  | none => match a with
    | some _ => k
    | none => False
theorem ernW_elim {a b : Option Nat} {k : Prop} (h : ernW a b k) : (a ≠ none ∨ b ≠ none) ∧ k := by
  unfold ernW at h
  cases b with
  | some b => exact ⟨.inr (fun h => by cases h), h⟩
  | none => cases a with
    | some a => exact ⟨.inl (fun h => by cases h), h⟩
    | none => exact h.elim
def eqC : V → V → Bool
  | .int _ a, .int _ b => a == b
  | .bool a, .bool b => a == b
  | .str a, .str b => strEq a b
  | _, _ => false
def eqL : List V → List V → Bool
  | [], [] => true
  | [u], [v] => eqC u v
  | u :: us, v :: vs => eqC u v && eqL us vs
  | _, _ => false

/-- what the seat is: its program, tables; which globals are errors, which types compare cell by cell -/
structure Ax where
  P : Program
  tys : Tys
  ats : Ats
  fns : Fns
  gs : List Nat
  eqs : List Nat
  ift : List Nat
  tabs : List (Nat × Array Value) := []
  zs : List Nat := []      -- int types whose zero value is known
  T : Option (Nat → List V → Store → Prop) := none      -- what is asked where something is thrown
  thrs : List Nat := []      -- functions that may throw

def isTk (tys : Tys) (t : Nat) (p : TK → Bool) : Bool := match Vx.look tys t with | some y => p y.tk | none => false
def TK.isStr : TK → Bool | .str => true | _ => false
def TK.isBool : TK → Bool | .bool => true | _ => false
def TK.isPtr : TK → Bool | .ptr _ => true | _ => false
def TK.isSl : TK → Bool | .sl _ => true | _ => false
def TK.isMap : TK → Bool | .map _ _ => true | _ => false
def TK.isIface : TK → Bool | .iface => true | _ => false

def isNilPtr : Operand → Bool
  | .const (.pointer none) => true
  | _ => false

def abin (ax : Ax) (op : BinOp) (t : Nat) (σ : Store) (yo : Operand) (x y : V) (K : V → Prop) : Prop :=
  match x with
  | .int k a => match y with
    | .int k' b => intW op k k' a b fun v => K (ofCell v)
    | _ => False
  | .str a => match y with
    | .str b => match op with
      | .eql => K (.bool (strEq a b))
      | .neq => K (.bool (!strEq a b))
      | op => strBin op a b fun v => K (ofCell v)
    | _ => False
  | .bool a => match y with
    | .bool b => cond (isEq op && isTk ax.tys t TK.isBool) (K (.bool (Vx.flip op (a == b)))) False
    | _ => False
  | .pt d => match y with
    | .pt none => cond (isEq op && isTk ax.tys t TK.isPtr && isNilPtr yo) (K (.bool (Vx.flip op d.isNone))) False
    | _ => False
  | .ptr _ _ => match y with
    | .pt none => cond (isEq op && isTk ax.tys t TK.isPtr && isNilPtr yo) (K (.bool (Vx.flip op false))) False
    | _ => False
  | .sl _ l => match y with
    | .nls => cond (isEq op && isTk ax.tys t TK.isSl) (∀ b : Bool, (b = true → l = []) → K (.bool (Vx.flip op b))) False
    | _ => False
  | .nls => match y with
    | .nls => cond (isEq op && isTk ax.tys t TK.isSl) (K (.bool (Vx.flip op true))) False
    | _ => False
  | .own i => match y with
    | .nls => match getO σ i with
      | .lst _ _ _ l => cond (isEq op && isTk ax.tys t TK.isSl) (∀ b : Bool, (b = true → l = []) → K (.bool (Vx.flip op b))) False
      | _ => False
    | _ => False
  | .err a => match y with
    | .err _ => cond (isEq op && isTk ax.tys t TK.isIface && isNilC yo) (K (.bool (Vx.flip op a.isNone))) False
    | _ => False
  | _ => False

/-- comparisons that look into memory -/
def aeq (ax : Ax) (op : BinOp) (t : Nat) (x y : V) (K : V → Prop) : Prop :=
  match x with
  | .err a => match y with
    | .err b => cond (isEq op && hasB ax.ift t) (ernW a b (K (.bool (Vx.flip op (errEq a b))))) False
    | _ => False
  | .agg vs => match y with
    | .agg us => match lookO ax.ats t with
      | some as => cond (isEq op && hasB ax.eqs t && isA as vs && isA as us) (K (.bool (Vx.flip op (eqL vs us)))) False
      | none => False
    | _ => False
  | _ => False

/-! ### memory -/
/-- V's of cells that a load of this type may find -/
def fits : Sh → V → Bool
  | .int k, .int k' _ => decide (k = k')
  | .bool, .bool _ => true
  | .str, .str _ => true
  | .ptr, .pt _ => true
  | .ptr, .ptr _ _ => true
  | .ptr, .eptr _ _ _ => true
  | .ptr, .gl _ => true
  | .sl, .sl _ _ => true
  | .sl, .nls => true
  | .sl, .own _ => true
  | .any, .err _ => true
  | .any, .fn _ _ _ => true
  | .any, .nilf => true
  | .any, .map _ => true
  | .any, .nilm => true
  | .any, .yl _ => true
  | _, _ => false
def fitsL : List Sh → List V → Bool
  | [], [] => true
  | s :: r, v :: vs => fits s v && fitsL r vs
  | _, _ => false
/-- what may be written into a cell -/
def isCellV : V → Bool
  | .agg _ => false
  | .tup _ => false
  | .undef => false
  | .junk => false
  | _ => true

def packV (tk : TK) (vs : List V) (K : V → Prop) : Prop :=
  match tk with
  | .agg _ => K (.agg vs)
  | .arr _ _ => K (.agg vs)
  | .tuple _ => False
  | .other => False
  | _ => match vs with
    | [v] => K v
    | _ => False

def aload (ax : Ax) (σ : Store) (t : Nat) (p : V) (K : V → Prop) : Prop :=
  match Vx.look ax.tys t with
  | some y => match p with
    | .ptr i o => match getO σ i with
      | .box l => cond (Nat.beq y.sh.length y.size && fitsL y.sh ((l.drop o).take y.size)) (packV y.tk ((l.drop o).take y.size) K) False
      | _ => False
    | .eptr i j o => match getO σ i with
      | .lst _ _ _ l => match lookO ax.ats t with
        | some as => cond (Nat.beq y.sh.length y.size && Nat.beq as.length y.size) (exA as fun vs => (cond (Nat.beq o 0) (rowAt l j) ((rowAt l j).drop o)).take y.size = vs ∧ cond (fitsL y.sh vs) (packV y.tk vs K) False) False
        | none => False
      | _ => False
    | .pt (some cs) => match lookO ax.ats t with
      | some as => cond (Nat.beq y.sh.length y.size && Nat.beq as.length y.size) (exA as fun vs => cs.take y.size = vs ∧ cond (fitsL y.sh vs) (packV y.tk vs K) False) False
      | none => False
    | .gl g => cond (hasB ax.gs g && Nat.beq y.size 1 && TK.isIface y.tk && fitsL y.sh [.err (some g)]) (K (.err (some g))) False
    | _ => False
  | none => False

def astore (ax : Ax) (σ : Store) (t : Nat) (p v : V) (K : Store → Prop) : Prop :=
  match Vx.look ax.tys t with
  | some y => match p with
    | .ptr i o => match getO σ i with
      | .box l => cond (Nat.beq (cellsV v).length y.size && (cellsV v).all isCellV && Nat.ble (o + y.size) l.length) (K (putO σ i (.box (setV l o (cellsV v))))) False
      | _ => False
    | .eptr i j o => match lookO ax.ats t with
      | some as => match coL σ as (cellsV v) with
        | some (us, σ') => match getO σ' i with
          | .lst el z false l => cond (Nat.beq as.length y.size && Nat.ble (o + y.size) z) (j < l.length ∧ K (putO σ' i (.lst el z false (l.set j (cond (Nat.beq o 0 && Nat.beq y.size z) us (setV (rowAt l j) o us)))))) False
          | _ => False
        | none => False
      | none => False
    | _ => False
  | none => False

/-! ### calls -/
mutual
def idsV : V → List Nat
  | .own i => [i]
  | .ptr i _ => [i]
  | .eptr i _ _ => [i]
  | .map i => [i]
  | .fn _ f c => idsL f ++ idsL c
  | .agg l => idsL l
  | .tup l => idsL l
  | _ => []
def idsL : List V → List Nat
  | [] => []
  | v :: r => idsV v ++ idsL r
end
def reach (σ : Store) : Nat → List Nat → List Nat → List Nat
  | 0, _, acc => acc
  | _ + 1, [], acc => acc
  | n + 1, i :: r, acc => cond (hasB acc i) (reach σ n r acc) (match getO σ i with
    | .box l => reach σ n (idsL l ++ r) (acc ++ [i])
    | _ => reach σ n r (acc ++ [i]))
def idx : List Nat → Nat → Option Nat
  | [], _ => none
  | p :: r, i => cond (Nat.beq p i) (some 0) (match idx r i with | some k => some (k + 1) | none => none)
mutual
def renV (f : Nat → Option Nat) : V → V
  | .own i => match f i with | some k => .own k | none => .junk
  | .ptr i o => match f i with | some k => .ptr k o | none => .junk
  | .eptr i j o => match f i with | some k => .eptr k j o | none => .junk
  | .map i => match f i with | some k => .map k | none => .junk
  | .fn g a c => .fn g (renL f a) (renL f c)
  | .agg l => .agg (renL f l)
  | .tup l => .tup (renL f l)
  | v => v
def renL (f : Nat → Option Nat) : List V → List V
  | [] => []
  | v :: r => renV f v :: renL f r
end
def renOb (f : Nat → Option Nat) : Ob → Ob
  | .box l => .box (renL f l)
  | o => o
/-- from the callee's numbers back -/
def backF (ps : List Nat) (n0 : Nat) (k : Nat) : Option Nat := match ps[k]? with | some i => some i | none => some (n0 + (k - ps.length))
def merge (σ : Store) : List Nat → List Ob → Store
  | p :: ps, o :: os => merge (putO σ p o) ps os
  | _, os => σ ++ os.map fun o => ⟨0, o⟩

inductive Cs where | d (a : As) | l (v : V)
inductive Rs where | c (a : As) | ag (as : List As) | lit (v : V)
inductive Os where | box (cs : List Cs) | lst (e z : Nat) (fz : Bool) | dead
structure Sig where
  pm : List (Option (List As))
  rs : List Rs
  os : List Os
def Cs.ex : Cs → (V → Prop) → Prop
  | .d a, K => a.ex K
  | .l v, K => K v
def exC : List Cs → (List V → Prop) → Prop
  | [], K => K []
  | c :: r, K => c.ex fun v => exC r fun vs => K (v :: vs)
def Rs.ex : Rs → (V → Prop) → Prop
  | .c a, K => a.ex K
  | .ag as, K => exA as fun vs => K (.agg vs)
  | .lit v, K => K v
def exR : List Rs → (List V → Prop) → Prop
  | [], K => K []
  | c :: r, K => c.ex fun v => exR r fun vs => K (v :: vs)
def Os.ex : Os → (Ob → Prop) → Prop
  | .box cs, K => exC cs fun vs => K (.box vs)
  | .lst e z fz, K => ∃ l : List (List V), K (.lst e z fz l)
  | .dead, K => K .dead
def exO : List Os → (List Ob → Prop) → Prop
  | [], K => K []
  | c :: r, K => c.ex fun v => exO r fun vs => K (v :: vs)

def rePack : V → List V → V
  | .agg _, us => .agg us
  | _, us => us.headD .junk
def coP (σ : Store) : List (Option (List As)) → List V → Option (List V × Store)
  | [], [] => some ([], σ)
  | none :: r, v :: vs => match coP σ r vs with
    | some (us, σ') => some (v :: us, σ')
    | none => none
  | some as :: r, v :: vs => match coL σ as (cellsV v) with
    | some (u, σ') => match coP σ' r vs with
      | some (us, σ'') => some (rePack v u :: us, σ'')
      | none => none
    | none => none
  | _, _ => none

def packT : List V → V
  | [v] => v
  | vs => .tup vs

end Go.Av
end

/- part AvB -/
section
namespace Go.Av
open Go.Vx

/-- values that nothing writes: data -/
inductive FV (gs : List Nat) (G : Nat → Value) (w : World) (F : Nat → Nat → Prop) : V → Value → Prop
  | int (k n) : FV gs G w F (.int k n) (.int k n)
  | bool (b) : FV gs G w F (.bool b) (.bool b)
  | str (s) : FV gs G w F (.str s) (.string s)
  | sl (z l a c) (val : Nat → Nat → Value) (h1 : l.length ≤ c) (h2 : c ≤ maxLen) (hz : ∀ e ∈ l, e.length = z)
      (hc : l ≠ [] → ∃ b o, a = some ⟨b, o, none⟩ ∧ ∀ (i : Nat) e (j : Nat) u, l[i]? = some e → e[j]? = some u → w.cell? ⟨b, o + (i * z + j), none⟩ = some (val i j) ∧ F b (o + (i * z + j)))
      (hv : ∀ (i : Nat) e (j : Nat) u, l[i]? = some e → e[j]? = some u → FV gs G w F u (val i j)) : FV gs G w F (.sl z l) (.slice a l.length c)
  | ptn : FV gs G w F (.pt none) (.pointer none)
  | pts (cs b o) (val : Nat → Value) (hc : ∀ (j : Nat) u, cs[j]? = some u → w.cell? ⟨b, o + j, none⟩ = some (val j) ∧ F b (o + j))
      (hv : ∀ (j : Nat) u, cs[j]? = some u → FV gs G w F u (val j)) : FV gs G w F (.pt (some cs)) (.pointer (some ⟨b, o, none⟩))
  | errn : FV gs G w F (.err none) .nilIface
  | errs (g) (h : g ∈ gs) (t x) (hg : G g = .iface t x) : FV gs G w F (.err (some g)) (G g)

def vblk : Value → Option Nat
  | .slice (some a) _ _ => some a.block
  | .pointer (some a) => some a.block
  | .map (some b) => some b
  | _ => none
def Live : Ob → Prop
  | .dead => False
  | _ => True
def Has (β : Nat → Value) (i : Nat) (ob : Ob) (b : Nat) : Prop := Live ob ∧ vblk (β i) = some b
def Mut (β : Nat → Value) (i : Nat) (ob : Ob) (b o : Nat) : Prop := Has β i ob b ∧ match ob with
  | .lst _ z true l => l.length * z ≤ o
  | _ => True

/-- values in slots and in variables of one's own -/
inductive RV (gs : List Nat) (G : Nat → Value) (w : World) (F : Nat → Nat → Prop) (β : Nat → Value) (σ : Store) : V → Value → Prop
  | fz (u v) (h : FV gs G w F u v) : RV gs G w F β σ u v
  | nls : RV gs G w F β σ .nls (.slice none 0 0)
  | nilf : RV gs G w F β σ .nilf .nilFunc
  | nilm : RV gs G w F β σ .nilm (.map none)
  | slc (z l a) (h : FV gs G w F (.sl z l) (.slice a l.length l.length)) : RV gs G w F β σ (.slc z l) (.slice a l.length l.length)
  | yl (l) : RV gs G w F β σ (.yl l) (.func (.yield l) #[] #[])
  | own (i a n c) (hi : i < σ.length) (h : ∀ t z fz l, getO σ i = .lst t z fz l → β i = .slice a n c) : RV gs G w F β σ (.own i) (.slice a n c)
  | ptr (i o b o') (hi : i < σ.length) (h : ∀ l, getO σ i = .box l → β i = .pointer (some ⟨b, 0, none⟩) ∧ o' = o) : RV gs G w F β σ (.ptr i o) (.pointer (some ⟨b, o', none⟩))
  | eptr (i j o b o') (hi : i < σ.length) (h : ∀ t z fz l, getO σ i = .lst t z fz l → (∃ n c, β i = .slice (some ⟨b, 0, none⟩) n c) ∧ o' = j * z + o) : RV gs G w F β σ (.eptr i j o) (.pointer (some ⟨b, o', none⟩))
  | gl (g) : RV gs G w F β σ (.gl g) (.pointer (some ⟨g, 0, none⟩))
  | fn (g f c) (vf vc : List Value) (hf : f.length = vf.length) (h : ∀ (i : Nat) u v, f[i]? = some u → vf[i]? = some v → RV gs G w F β σ u v)
      (hc : c.length = vc.length) (h' : ∀ (i : Nat) u v, c[i]? = some u → vc[i]? = some v → RV gs G w F β σ u v) : RV gs G w F β σ (.fn g f c) (.func (.func g) vf.toArray vc.toArray)
  | map (i b) (hi : i < σ.length) (h : ∀ t z fz l, getO σ i = .lst t z fz l → β i = .map (some b)) : RV gs G w F β σ (.map i) (.map (some b))
  | agg (l) (vs : List Value) (hl : l.length = vs.length) (h : ∀ (i : Nat) u v, l[i]? = some u → vs[i]? = some v → RV gs G w F β σ u v) : RV gs G w F β σ (.agg l) (.agg vs.toArray)
  | tup (l) (vs : List Value) (hl : l.length = vs.length) (h : ∀ (i : Nat) u v, l[i]? = some u → vs[i]? = some v → RV gs G w F β σ u v) : RV gs G w F β σ (.tup l) (.tuple vs.toArray)
  | ifc (t l) (vs : List Value) (hl : l.length = vs.length) (h : ∀ (i : Nat) u v, l[i]? = some u → vs[i]? = some v → FV gs G w F u v) : RV gs G w F β σ (.ifc t l) (.iface t (.agg vs.toArray))
  | undef : RV gs G w F β σ .undef Go.undef
  | junk (v) : RV gs G w F β σ .junk v

def Rl (R : V → Value → Prop) (us : List V) (vs : List Value) : Prop := us.length = vs.length ∧ ∀ (i : Nat) u v, us[i]? = some u → vs[i]? = some v → R u v

theorem Rl.nil {R : V → Value → Prop} : Rl R [] [] := ⟨rfl, fun i u v h => by simp at h⟩
theorem Rl.cons {R : V → Value → Prop} {u : V} {v : Value} {us : List V} {vs : List Value} (h : R u v) (hs : Rl R us vs) : Rl R (u :: us) (v :: vs) :=
  ⟨by simp [hs.1], fun i x y hx hy => by
    cases i with
    | zero => simp at hx hy; subst hx hy; exact h
    | succ i => exact hs.2 i x y (by simpa using hx) (by simpa using hy)⟩
theorem Rl.cons_inv {R : V → Value → Prop} {u : V} {us : List V} {vs : List Value} (h : Rl R (u :: us) vs) : ∃ v vs', vs = v :: vs' ∧ R u v ∧ Rl R us vs' := by
  cases vs with
  | nil => have := h.1; simp at this
  | cons v vs => exact ⟨v, vs, rfl, h.2 0 u v rfl rfl, by have := h.1; simpa using this, fun i x y hx hy => h.2 (i + 1) x y (by simpa using hx) (by simpa using hy)⟩
theorem Rl.nil_inv {R : V → Value → Prop} {vs : List Value} (h : Rl R [] vs) : vs = [] := by
  have := h.1
  exact List.eq_nil_of_length_eq_zero (by simpa using this.symm)
theorem Rl.mono {R R' : V → Value → Prop} (hR : ∀ u v, R u v → R' u v) {us : List V} {vs : List Value} (h : Rl R us vs) : Rl R' us vs := ⟨h.1, fun i u v hu hv => hR u v (h.2 i u v hu hv)⟩
theorem Rl.append {R : V → Value → Prop} {us us' : List V} {vs vs' : List Value} (h : Rl R us vs) (h' : Rl R us' vs') : Rl R (us ++ us') (vs ++ vs') := by
  refine ⟨by rw [List.length_append, List.length_append, h.1, h'.1], fun i u v hu hv => ?_⟩
  rcases Nat.lt_or_ge i us.length with hi | hi
  · rw [List.getElem?_append_left hi] at hu
    rw [List.getElem?_append_left (by rw [← h.1]; exact hi)] at hv
    exact h.2 i u v hu hv
  · rw [List.getElem?_append_right hi] at hu
    rw [List.getElem?_append_right (by rw [← h.1]; exact hi), ← h.1] at hv
    exact h'.2 _ u v hu hv
theorem Rl.take {R : V → Value → Prop} {us : List V} {vs : List Value} (h : Rl R us vs) (n : Nat) : Rl R (us.take n) (vs.take n) :=
  ⟨by simp [h.1], fun i u v hu hv => by
    rw [List.getElem?_take] at hu hv
    split at hu
    · rename_i hi; rw [if_pos hi] at hv; exact h.2 i u v hu hv
    · cases hu⟩
theorem Rl.drop {R : V → Value → Prop} {us : List V} {vs : List Value} (h : Rl R us vs) (n : Nat) : Rl R (us.drop n) (vs.drop n) :=
  ⟨by simp [h.1], fun i u v hu hv => by rw [List.getElem?_drop] at hu hv; exact h.2 _ u v hu hv⟩
theorem Rl.get {R : V → Value → Prop} {us : List V} {vs : List Value} (h : Rl R us vs) {i : Nat} {u : V} (hu : us[i]? = some u) : ∃ v, vs[i]? = some v ∧ R u v := by
  have hi : i < vs.length := by rw [← h.1]; exact (List.getElem?_eq_some_iff.1 hu).1
  exact ⟨vs[i], List.getElem?_eq_getElem hi, h.2 i u _ hu (List.getElem?_eq_getElem hi)⟩
theorem Rl.set {R : V → Value → Prop} {us : List V} {vs : List Value} (h : Rl R us vs) (n : Nat) {u : V} {v : Value} (hr : R u v) : Rl R (us.set n u) (vs.set n v) := by
  refine ⟨by simp [h.1], fun i x y hx hy => ?_⟩
  rw [List.getElem?_set] at hx hy
  split at hx
  · rename_i e; rw [if_pos e] at hy
    split at hx
    · split at hy
      · cases hx; cases hy; exact hr
      · cases hy
    · cases hx
  · rename_i e; rw [if_neg e] at hy; exact h.2 i x y hx hy
theorem Rl.setAt {R : V → Value → Prop} {vs : List V} {xs : List Value} (hv : Rl R vs xs) : ∀ {us : List V} {ys : List Value} (n : Nat), Rl R us ys → Rl R (setV us n vs) (setAt ys n xs) := by
  induction vs generalizing xs with
  | nil => intro us ys n h; rw [hv.nil_inv]; exact h
  | cons v vs ih =>
    intro us ys n h
    obtain ⟨x, xs', rfl, h1, h2⟩ := hv.cons_inv
    exact ih h2 (n + 1) (h.set n h1)

/-- a map's values: data, perhaps of several cells -/
def FVA (gs : List Nat) (G : Nat → Value) (w : World) (F : Nat → Nat → Prop) (u : V) (v : Value) : Prop := FV gs G w F u v ∨ ∃ us vs, u = .agg us ∧ v = .agg vs.toArray ∧ Rl (FV gs G w F) us vs
def keyR : Bool → V → Value → Prop
  | false, u, v => ∃ a, u = .int .i64 a ∧ v = .int .i64 a
  | true, u, v => ∃ s, u = .str s ∧ v = .string s
def MRow (gs : List Nat) (G : Nat → Value) (w : World) (F : Nat → Nat → Prop) (fz : Bool) (row : List V) (e : MapEntry) : Prop := ∃ k u, row = [k, u] ∧ keyR fz k e.key ∧ FVA gs G w F u e.val
/-- rows and entries, one to one -/
def Rows (gs : List Nat) (G : Nat → Value) (w : World) (F : Nat → Nat → Prop) (fz : Bool) : List (List V) → List MapEntry → Prop
  | [], [] => True
  | row :: l, e :: es => MRow gs G w F fz row e ∧ Rows gs G w F fz l es
  | _, _ => False
theorem Rows.append {gs : List Nat} {G : Nat → Value} {w : World} {F : Nat → Nat → Prop} {fz : Bool} {l' : List (List V)} {es' : List MapEntry} : ∀ {l : List (List V)} {es : List MapEntry}, Rows gs G w F fz l es → Rows gs G w F fz l' es' → Rows gs G w F fz (l ++ l') (es ++ es')
  | [], [], _, h => h
  | _ :: _, _ :: _, h, h' => ⟨h.1, Rows.append h.2 h'⟩
  | [], _ :: _, h, _ => h.elim
  | _ :: _, [], h, _ => h.elim
theorem Rows.map {gs : List Nat} {G : Nat → Value} {w w' : World} {F F' : Nat → Nat → Prop} {fz : Bool} (hm : ∀ u v, FV gs G w F u v → FV gs G w' F' u v) : ∀ {l : List (List V)} {es : List MapEntry}, Rows gs G w F fz l es → Rows gs G w' F' fz l es
  | [], [], _ => trivial
  | _ :: _, _ :: _, ⟨⟨k, u, e1, e2, e3⟩, h⟩ => ⟨⟨k, u, e1, e2, e3.elim (fun h => .inl (hm _ _ h)) fun ⟨us, vs, a, b, c⟩ => .inr ⟨us, vs, a, b, c.mono hm⟩⟩, Rows.map hm h⟩
  | [], _ :: _, h => h.elim
  | _ :: _, [], h => h.elim

/-- an object in memory -/
def ObjR (gs : List Nat) (G : Nat → Value) (w : World) (F : Nat → Nat → Prop) (β : Nat → Value) (σ : Store) (i : Nat) : Ob → Prop
  | .box l => ∃ b t cs, β i = .pointer (some ⟨b, 0, none⟩) ∧ w.heap[b]? = some (.cells cs t (0, 0)) ∧ Rl (RV gs G w F β σ) l cs.toList ∧ (∀ v ∈ cs.toList, v.oneCell' = true)
  | .lst t z fz l => (∃ r es clock, β i = .map (some r) ∧ w.heap[r]? = some (.map es clock) ∧ z = 0 ∧ Rows gs G w F fz l es.toList) ∨
    ∃ xs, w.ownsRow 0 t z (β i) l.length xs ∧ Rl (FV gs G w F) l.flatten xs ∧ (∀ r ∈ l, r.length = z) ∧ 0 < z ∧ (fz = true → ∀ b, vblk (β i) = some b → ∀ o, o < l.length * z → F b o)
  | .mp _ => False
  | .dead => True

theorem ObjR.lst_own {gs : List Nat} {G : Nat → Value} {w : World} {F : Nat → Nat → Prop} {β : Nat → Value} {σ : Store} {i t z : Nat} {fz : Bool} {l : List (List V)} (h : ObjR gs G w F β σ i (.lst t z fz l)) {a : Option Addr} {n c : Nat} (e : β i = .slice a n c) :
    ∃ xs, w.ownsRow 0 t z (β i) l.length xs ∧ Rl (FV gs G w F) l.flatten xs ∧ (∀ r ∈ l, r.length = z) ∧ 0 < z ∧ (fz = true → ∀ b, vblk (β i) = some b → ∀ o, o < l.length * z → F b o) := by
  rcases h with ⟨r, es, clock, h, _⟩ | h
  · rw [e] at h; cases h
  · exact h
theorem ObjR.lst_pos {gs : List Nat} {G : Nat → Value} {w : World} {F : Nat → Nat → Prop} {β : Nat → Value} {σ : Store} {i t z : Nat} {fz : Bool} {l : List (List V)} (h : ObjR gs G w F β σ i (.lst t z fz l)) (e : 0 < z) :
    ∃ xs, w.ownsRow 0 t z (β i) l.length xs ∧ Rl (FV gs G w F) l.flatten xs ∧ (∀ r ∈ l, r.length = z) ∧ 0 < z ∧ (fz = true → ∀ b, vblk (β i) = some b → ∀ o, o < l.length * z → F b o) := by
  rcases h with ⟨r, es, clock, _, _, h, _⟩ | h
  · omega
  · exact h

theorem ObjR.lst_map {gs : List Nat} {G : Nat → Value} {w : World} {F : Nat → Nat → Prop} {β : Nat → Value} {σ : Store} {i t z : Nat} {fz : Bool} {l : List (List V)} (h : ObjR gs G w F β σ i (.lst t z fz l)) {b : Nat} (e : β i = .map (some b)) :
    ∃ es clock, w.heap[b]? = some (.map es clock) ∧ z = 0 ∧ Rows gs G w F fz l es.toList := by
  rcases h with ⟨r, es, clock, h, k⟩ | ⟨xs, h, _⟩
  · rw [e] at h; cases h; exact ⟨es, clock, k⟩
  · rw [e] at h
    obtain ⟨_, ⟨h, _⟩ | ⟨_, _, _, h, _⟩⟩ := h <;> cases h
theorem rows_mm {gs : List Nat} {G : Nat → Value} {w : World} {F : Nat → Nat → Prop} : ∀ (l : List (List V)) (es : List MapEntry), Rows gs G w F false l es →
    ∃ pl : List (Int × Value), es.map (fun e => (e.key, e.val)) = pl.map (fun p => (Value.int .i64 p.1, p.2)) ∧ pl.length = l.length ∧ ∀ q, (∀ u, lookV l q = some u → ∃ v, pl.lookup q = some v ∧ FVA gs G w F u v) ∧ (lookV l q = none → pl.lookup q = none)
  | [], [], _ => ⟨[], rfl, rfl, fun q => ⟨fun u h => (by cases h), fun _ => rfl⟩⟩
  | [], e :: es, h => h.elim
  | row :: l, [], h => h.elim
  | row :: l, e :: es, ⟨⟨k, u, e1, ⟨a, ek, hk⟩, hv⟩, h⟩ => by
    subst e1 ek
    obtain ⟨pl, p1, p2, p3⟩ := rows_mm l es h
    refine ⟨(a, e.val) :: pl, by simp [p1, hk], by simp [p2], fun q => ?_⟩
    have hl : lookV ([.int .i64 a, u] :: l) q = cond (decide (q = a)) (some u) (lookV l q) := rfl
    rw [hl]
    by_cases hq : q = a
    · subst hq
      rw [decide_eq_true rfl, cond_true, List.lookup_cons_self]
      exact ⟨fun u' h => (by cases h; exact ⟨_, rfl, hv⟩), fun h => (by cases h)⟩
    · rw [decide_eq_false hq, cond_false, List.lookup_cons, show (q == a) = false by simpa using hq]
      exact p3 q
theorem rows_mt {gs : List Nat} {G : Nat → Value} {w : World} {F : Nat → Nat → Prop} : ∀ (l : List (List V)) (es : List MapEntry), Rows gs G w F true l es →
    ∃ pl : List (ByteArray × Value), es.map (fun e => (e.key, e.val)) = pl.map (fun p => (Value.string p.1, p.2)) ∧ pl.length = l.length ∧ ∀ q, (∀ u, lookS l q = some u → ∃ v, lookT pl q = some v ∧ FVA gs G w F u v) ∧ (lookS l q = none → lookT pl q = none)
  | [], [], _ => ⟨[], rfl, rfl, fun q => ⟨fun u h => (by cases h), fun _ => rfl⟩⟩
  | [], e :: es, h => h.elim
  | row :: l, [], h => h.elim
  | row :: l, e :: es, ⟨⟨k, u, e1, ⟨a, ek, hk⟩, hv⟩, h⟩ => by
    subst e1 ek
    obtain ⟨pl, p1, p2, p3⟩ := rows_mt l es h
    refine ⟨(a, e.val) :: pl, by simp [p1, hk], by simp [p2], fun q => ?_⟩
    have hl : lookS ([.str a, u] :: l) q = cond (decide (q = a)) (some u) (lookS l q) := rfl
    rw [hl, show lookT ((a, e.val) :: pl) q = cond (decide (q = a)) (some e.val) (lookT pl q) from rfl]
    by_cases hq : q = a
    · subst hq
      rw [decide_eq_true rfl, cond_true, cond_true]
      exact ⟨fun u' h => (by cases h; exact ⟨_, rfl, hv⟩), fun h => (by cases h)⟩
    · rw [decide_eq_false hq, cond_false, cond_false]
      exact p3 q
theorem rows_len {gs : List Nat} {G : Nat → Value} {w : World} {F : Nat → Nat → Prop} {fz : Bool} : ∀ (l : List (List V)) (es : List MapEntry), Rows gs G w F fz l es → es.length = l.length
  | [], [], _ => rfl
  | _ :: l, _ :: es, h => by simp [rows_len l es h.2]
  | [], _ :: _, h => h.elim
  | _ :: _, [], h => h.elim

structure Sim (gs : List Nat) (G : Nat → Value) (w : World) (F : Nat → Nat → Prop) (β : Nat → Value) (σ : Store) : Prop where
  lt : ∀ b o, F b o → b < w.heap.size
  glob : ∀ g ∈ gs, w.cell? ⟨g, 0, none⟩ = some (G g) ∧ F g 0 ∧ (∀ i, ¬ Has β i (getO σ i) g) ∧ ∃ t b, G g = .iface t (.pointer (some b)) ∧ b.block < w.heap.size ∧ Plain w b ∧ ∀ i, ¬ Has β i (getO σ i) b.block
  obj : ∀ i, ObjR gs G w F β σ i (getO σ i)
  tab : ∀ g cs, G g = .agg cs → g < w.heap.size ∧ (∃ t p, w.heap[g]? = some (.cells cs t p)) ∧ ∀ i, ¬ Has β i (getO σ i) g
  sep : ∀ i j b, i ≠ j → Has β i (getO σ i) b → ¬ Has β j (getO σ j) b
  dis : ∀ i b o, Mut β i (getO σ i) b o → ¬ F b o

def obLe : Ob → Ob → Prop
  | _, .dead => True
  | .box l, .box l' => l.length = l'.length
  | .lst t z _ _, .lst t' z' _ _ => t = t' ∧ z = z'
  | .mp _, .mp _ => True
  | _, _ => False
theorem obLe.refl (o : Ob) : obLe o o := by cases o <;> simp [obLe]
theorem obLe.trans {a b c : Ob} (h : obLe a b) (k : obLe b c) : obLe a c := by
  cases a <;> cases b <;> cases c <;> simp_all [obLe]

structure Step (w : World) (F : Nat → Nat → Prop) (β : Nat → Value) (σ : Store) (w' : World) (F' : Nat → Nat → Prop) (β' : Nat → Value) (σ' : Store) : Prop where
  os : w'.os = w.os
  tape : w'.tape = w.tape
  output : w'.output = w.output
  size : w.heap.size ≤ w'.heap.size
  fcell : ∀ b o, F b o → F' b o ∧ w'.cell? ⟨b, o, none⟩ = w.cell? ⟨b, o, none⟩
  cell : ∀ b o, b < w.heap.size → (∀ i, ¬ Mut β i (getO σ i) b o) → w'.cell? ⟨b, o, none⟩ = w.cell? ⟨b, o, none⟩
  block : ∀ b, b < w.heap.size → (∀ i, ¬ Has β i (getO σ i) b) → w'.heap[b]? = w.heap[b]?
  newF : ∀ b o, F' b o → F b o ∨ w.heap.size ≤ b ∨ ∃ i, Mut β i (getO σ i) b o
  newH : ∀ i b, Has β' i (getO σ' i) b → w.heap.size ≤ b ∨ ∃ j, Has β j (getO σ j) b
  newM : ∀ i b o, Mut β' i (getO σ' i) b o → w.heap.size ≤ b ∨ ∃ j, Mut β j (getO σ j) b o
  len : σ.length ≤ σ'.length
  ext : ∀ i, i < σ.length → β' i = β i ∧ obLe (getO σ i) (getO σ' i)
  ver : ∀ i, i < σ.length → verO σ i ≤ verO σ' i ∧ (verO σ' i = verO σ i → getO σ' i = getO σ i ∧ ∀ b, Has β i (getO σ i) b → w'.heap[b]? = w.heap[b]?)

theorem Step.refl (w : World) (F : Nat → Nat → Prop) (β : Nat → Value) (σ : Store) : Step w F β σ w F β σ :=
  ⟨rfl, rfl, rfl, Nat.le_refl _, fun _ _ h => ⟨h, rfl⟩, fun _ _ _ _ => rfl, fun _ _ _ => rfl, fun _ _ h => .inl h, fun i _ h => .inr ⟨i, h⟩, fun i _ _ h => .inr ⟨i, h⟩, Nat.le_refl _, fun _ _ => ⟨rfl, obLe.refl _⟩, fun _ _ => ⟨Nat.le_refl _, fun _ => ⟨rfl, fun _ _ => rfl⟩⟩⟩

theorem Step.trans {w F β σ w1 F1 β1 σ1 w2 F2 β2 σ2} (h : Step w F β σ w1 F1 β1 σ1) (k : Step w1 F1 β1 σ1 w2 F2 β2 σ2) : Step w F β σ w2 F2 β2 σ2 where
  os := k.os.trans h.os
  tape := k.tape.trans h.tape
  output := k.output.trans h.output
  size := Nat.le_trans h.size k.size
  fcell b o hf := ⟨(k.fcell b o (h.fcell b o hf).1).1, (k.fcell b o (h.fcell b o hf).1).2.trans (h.fcell b o hf).2⟩
  cell b o hb hm := by
    refine (k.cell b o (Nat.lt_of_lt_of_le hb h.size) fun i hi => ?_).trans (h.cell b o hb hm)
    rcases h.newM i b o hi with h1 | ⟨j, h1⟩
    · omega
    · exact hm j h1
  block b hb hm := by
    refine (k.block b (Nat.lt_of_lt_of_le hb h.size) fun i hi => ?_).trans (h.block b hb hm)
    rcases h.newH i b hi with h1 | ⟨j, h1⟩
    · omega
    · exact hm j h1
  newF b o hf := by
    rcases k.newF b o hf with h1 | h1 | ⟨i, h1⟩
    · exact h.newF b o h1
    · exact .inr (.inl (Nat.le_trans h.size h1))
    · rcases h.newM i b o h1 with h2 | h2
      · exact .inr (.inl h2)
      · exact .inr (.inr h2)
  newH i b hf := by
    rcases k.newH i b hf with h1 | ⟨j, h1⟩
    · exact .inl (Nat.le_trans h.size h1)
    · exact h.newH j b h1
  newM i b o hf := by
    rcases k.newM i b o hf with h1 | ⟨j, h1⟩
    · exact .inl (Nat.le_trans h.size h1)
    · exact h.newM j b o h1
  len := Nat.le_trans h.len k.len
  ext i hi := by
    have h1 := h.ext i hi
    have h2 := k.ext i (Nat.lt_of_lt_of_le hi h.len)
    exact ⟨h2.1.trans h1.1, h1.2.trans h2.2⟩
  ver i hi := by
    have h0 := h.ext i hi
    obtain ⟨h1, h1'⟩ := h.ver i hi
    obtain ⟨h2, h2'⟩ := k.ver i (Nat.lt_of_lt_of_le hi h.len)
    refine ⟨Nat.le_trans h1 h2, fun e => ?_⟩
    obtain ⟨e1, f1⟩ := h1' (by omega)
    obtain ⟨e2, f2⟩ := h2' (by omega)
    refine ⟨e2.trans e1, fun b hb => (f2 b ?_).trans (f1 b hb)⟩
    rw [e1, show Has β1 i (getO σ i) b ↔ Has β i (getO σ i) b by unfold Has; rw [h0.1]]
    exact hb

section mono
variable {gs : List Nat} {G : Nat → Value} {w w' : World} {F F' : Nat → Nat → Prop} {β β' : Nat → Value} {σ σ' : Store}

theorem FV.mono (hF : ∀ b o, F b o → F' b o ∧ w'.cell? ⟨b, o, none⟩ = w.cell? ⟨b, o, none⟩) {u : V} {v : Value} (h : FV gs G w F u v) : FV gs G w' F' u v := by
  induction h with
  | int k n => exact .int k n
  | bool b => exact .bool b
  | str s => exact .str s
  | sl z l a c val h1 h2 hz hc hv ih =>
    refine .sl z l a c val h1 h2 hz (fun hne => ?_) ih
    obtain ⟨b, o, e, hc⟩ := hc hne
    refine ⟨b, o, e, fun i e j u hi hj => ?_⟩
    obtain ⟨k1, k2⟩ := hc i e j u hi hj
    exact ⟨(hF _ _ k2).2.trans k1, (hF _ _ k2).1⟩
  | ptn => exact .ptn
  | pts cs b o val hc hv ih =>
    refine .pts cs b o val (fun j u hj => ?_) ih
    obtain ⟨k1, k2⟩ := hc j u hj
    exact ⟨(hF _ _ k2).2.trans k1, (hF _ _ k2).1⟩
  | errn => exact .errn
  | errs g h t x hg => exact .errs g h t x hg

/-- what carries values from a state to another one -/
structure Carry (w : World) (F : Nat → Nat → Prop) (β : Nat → Value) (σ : Store) (w' : World) (F' : Nat → Nat → Prop) (β' : Nat → Value) (σ' : Store) : Prop where
  f : ∀ b o, F b o → F' b o ∧ w'.cell? ⟨b, o, none⟩ = w.cell? ⟨b, o, none⟩
  len : σ.length ≤ σ'.length
  ext : ∀ i, i < σ.length → β' i = β i ∧ obLe (getO σ i) (getO σ' i)

theorem Step.carry (h : Step w F β σ w' F' β' σ') : Carry w F β σ w' F' β' σ' := ⟨h.fcell, h.len, h.ext⟩

theorem RV.mono (h : Carry w F β σ w' F' β' σ') {u : V} {v : Value} (hv : RV gs G w F β σ u v) : RV gs G w' F' β' σ' u v := by
  induction hv with
  | fz u v hv => exact .fz u v (hv.mono h.f)
  | nls => exact .nls
  | nilf => exact .nilf
  | nilm => exact .nilm
  | slc z l a hv => exact .slc z l a (hv.mono h.f)
  | yl l => exact .yl l
  | own i a n c hi hl =>
    refine .own i a n c (Nat.lt_of_lt_of_le hi h.len) fun t z fz l e => ?_
    obtain ⟨e1, e2⟩ := h.ext i hi
    rw [e] at e2
    rw [e1]
    cases ho : getO σ i <;> rw [ho] at e2 <;> simp [obLe] at e2
    exact hl _ _ _ _ ho
  | ptr i o b o' hi hl =>
    refine .ptr i o b o' (Nat.lt_of_lt_of_le hi h.len) fun l e => ?_
    obtain ⟨e1, e2⟩ := h.ext i hi
    rw [e] at e2
    rw [e1]
    cases ho : getO σ i <;> rw [ho] at e2 <;> simp [obLe] at e2
    exact hl _ ho
  | eptr i j o b o' hi hl =>
    refine .eptr i j o b o' (Nat.lt_of_lt_of_le hi h.len) fun t z fz l e => ?_
    obtain ⟨e1, e2⟩ := h.ext i hi
    rw [e] at e2
    rw [e1]
    cases ho : getO σ i <;> rw [ho] at e2 <;> simp [obLe] at e2
    obtain ⟨rfl, rfl⟩ := e2
    exact hl _ _ _ _ ho
  | gl g => exact .gl g
  | fn g f c vf vc hf h1 hc h2 ih1 ih2 => exact .fn g f c vf vc hf ih1 hc ih2
  | map i b hi hl =>
    refine .map i b (Nat.lt_of_lt_of_le hi h.len) fun t z fz l e => ?_
    obtain ⟨e1, e2⟩ := h.ext i hi
    rw [e] at e2
    rw [e1]
    cases ho : getO σ i <;> rw [ho] at e2 <;> simp [obLe] at e2
    obtain ⟨rfl, rfl⟩ := e2
    exact hl _ _ _ _ ho
  | agg l vs hl h1 ih => exact .agg l vs hl ih
  | tup l vs hl h1 ih => exact .tup l vs hl ih
  | ifc t l vs hl h1 => exact .ifc t l vs hl fun i u v hu hv => (h1 i u v hu hv).mono h.f
  | undef => exact .undef
  | junk v => exact .junk v
end mono

/-! ### what a function comes to -/
def mkS (obs : List Ob) : Store := obs.map fun o => ⟨0, o⟩
def mkS1 (obs : List Ob) : Store := obs.map fun o => ⟨1, o⟩

/-- which errors differ, and that the model compares them so -/
structure ErrOk (P : Program) (gs ift : List Nat) (tabs : List (Nat × Array Value)) (G : Nat → Value) : Prop where
  tab : ∀ p ∈ tabs, G p.1 = .agg p.2
  eq : ∀ t ∈ ift, ∀ (op : BinOp) (xo yo : Operand) (w : World) (a b : Option Nat) (va vb : Value), isEq op = true → (a ≠ none ∨ b ≠ none) →
    (∀ g, a = some g → g ∈ gs ∧ ∃ u p, G g = .iface u (.pointer (some p)) ∧ Plain w p) → (∀ g, b = some g → g ∈ gs ∧ ∃ u p, G g = .iface u (.pointer (some p)) ∧ Plain w p) →
    va = (match a with | some g => G g | none => .nilIface) → vb = (match b with | some g => G g | none => .nilIface) →
    Runs P (semEq op t xo yo va vb) w (.bool (Vx.flip op (errEq a b))) w

def SCalls (ax : Ax) (N : Nat) (args : List V) (obs : List Ob) (K : List V → List Ob → Prop) : Prop :=
  ∀ (G : Nat → Value) (w : World) (F : Nat → Nat → Prop) (β : Nat → Value) (vals : List Value), ErrOk ax.P ax.gs ax.ift ax.tabs G → Sim ax.gs G w F β (mkS obs) → Rl (RV ax.gs G w F β (mkS obs)) args vals →
    Calls ax.P N vals.toArray w fun e w' => ∃ rs obs' F' β' rvals, K rs obs' ∧ e = .returned (oneOr rvals) ∧ Rl (RV ax.gs G w' F' β' (mkS1 obs')) rs rvals ∧ Sim ax.gs G w' F' β' (mkS1 obs') ∧ Step w F β (mkS obs) w' F' β' (mkS1 obs')

/-- of a function that may throw: T says of the struct that is thrown, and of the objects then -/
def SCallsT (ax : Ax) (N : Nat) (args : List V) (obs : List Ob) (K : List V → List Ob → Prop) (T : Nat → List V → List Ob → Prop) : Prop :=
  ∀ (G : Nat → Value) (w : World) (F : Nat → Nat → Prop) (β : Nat → Value) (vals : List Value), ErrOk ax.P ax.gs ax.ift ax.tabs G → Sim ax.gs G w F β (mkS obs) → Rl (RV ax.gs G w F β (mkS obs)) args vals →
    Calls ax.P N vals.toArray w fun e w' =>
      (∃ rs obs' F' β' rvals, K rs obs' ∧ e = .returned (oneOr rvals) ∧ Rl (RV ax.gs G w' F' β' (mkS1 obs')) rs rvals ∧ Sim ax.gs G w' F' β' (mkS1 obs') ∧ Step w F β (mkS obs) w' F' β' (mkS1 obs')) ∨
      ∃ t us xs obs' F' β', T t us obs' ∧ e = .panicked [{ v := .iface t (.agg xs.toArray), recovered := false }] ∧ Rl (FV ax.gs G w' F') us xs ∧ Sim ax.gs G w' F' β' (mkS1 obs') ∧ Step w F β (mkS obs) w' F' β' (mkS1 obs')
/-- of a function that is handed data alone, and hands back data alone -/
def onlyV (K : List V → Prop) (rs : List V) : List Ob → Prop
  | [] => K rs
  | _ => False
def PCalls (ax : Ax) (N : Nat) (args : List V) (K : List V → Prop) : Prop := SCalls ax N args [] (onlyV K)

theorem SCalls.mono {ax : Ax} {N : Nat} {args : List V} {obs : List Ob} {K K' : List V → List Ob → Prop} (h : SCalls ax N args obs K) (hk : ∀ rs obs, K rs obs → K' rs obs) : SCalls ax N args obs K' :=
  fun G w F β vals h1 h2 h3 => (h G w F β vals h1 h2 h3).mono fun _ _ ⟨rs, obs', F', β', rvals, k, r⟩ => ⟨rs, obs', F', β', rvals, hk _ _ k, r⟩
theorem PCalls.mono {ax : Ax} {N : Nat} {args : List V} {K K' : List V → Prop} (h : PCalls ax N args K) (hk : ∀ rs, K rs → K' rs) : PCalls ax N args K' :=
  SCalls.mono h fun rs obs h => by cases obs with
    | nil => exact hk rs h
    | cons => exact h.elim

end Go.Av
end

/- part AvC -/
section
namespace Go.Av
open Go.Vx

/-! ### cuts -/
/-- a place at a cut: data that changes; what stays; a list of one's own that gets a new number -/
inductive Cp where | d (a : As) | l (v : V) | nw (e z : Nat) (fz : Bool)
structure Pat where
  slots : List (Nat × List Cp × Bool)
  boxes : List (Nat × List Cp)
  lsts : List (Nat × Nat × Nat × Bool)
  deads : List Nat
structure AH where
  orders : List (Nat × DOrd)
  cuts : List (Nat × Pat)
  joins : List (Nat × Pat)
  sigs : List (Nat × Sig)
  tr : List Nat
  ret : List (Option (List As))
  fin : List (Nat × List Cp) := []      -- boxes whose cells are brought into one form before a return
  kill : List Nat := []      -- objects that are let go before a return
  nr : List Cp := []      -- what is handed back is brought into this form (none: by ret)

mutual
def litEq : V → V → Bool
  | .own i, .own j => Nat.beq i j
  | .ptr i o, .ptr j o' => Nat.beq i j && Nat.beq o o'
  | .gl i, .gl j => Nat.beq i j
  | .map i, .map j => Nat.beq i j
  | .nls, .nls => true
  | .nilf, .nilf => true
  | .nilm, .nilm => true
  | .junk, _ => true
  | .fn g a c, .fn g' a' c' => Nat.beq g g' && (litEqL a a' && litEqL c c')
  | _, _ => false
def litEqL : List V → List V → Bool
  | [], [] => true
  | u :: us, v :: vs => litEq u v && litEqL us vs
  | _, _ => false
end
def litOk (n : Nat) (v : V) : Bool := (idsV v).all fun i => Nat.ble (i + 1) n

def Cp.sh : Cp → List As
  | .d a => [a]
  | .l _ => []
  | .nw _ z _ => [.sl z]
def Pat.shapes (p : Pat) : List As := (p.slots.flatMap fun s => s.2.1.flatMap Cp.sh) ++ ((p.boxes.flatMap fun s => s.2.flatMap Cp.sh) ++ p.lsts.map fun s => .sl s.2.2.1)
def Pat.ids (p : Pat) : List Nat := p.boxes.map (·.1) ++ (p.lsts.map (·.1) ++ p.deads)

/-- what stands at a place; lists of one's own leave their old number -/
def normC (n : Nat) (σ : Store) (c : Cp) (v : V) : Option (List V × V × Store) :=
  match c with
  | .d a => match co σ a v with
    | some (u, σ') => some ([u], u, σ')
    | none => none
  | .l u => cond (litEq u v && litOk n u) (some ([], u, σ)) none
  | .nw e z fz => match v with
    | .nls => cond (Nat.ble 1 z) (some ([.sl z []], .own σ.length, σ ++ [⟨0, .lst e z fz []⟩])) none
    | .own j => match getO σ j with
      | .lst e' z' fz' l => cond (Nat.beq e e' && Nat.beq z z' && (!fz' || fz)) (some ([.sl z l], .own σ.length, putO σ j .dead ++ [⟨0, .lst e z fz l⟩])) none
      | _ => none
    | _ => none
def normF (n : Nat) (σ : Store) : List Cp → List V → Option (List V × List V × Store)
  | [], [] => some ([], [], σ)
  | c :: cs, v :: vs => match normC n σ c v with
    | some (ps, u, σ1) => match normF n σ1 cs vs with
      | some (qs, us, σ2) => some (ps ++ qs, u :: us, σ2)
      | none => none
    | none => none
  | _, _ => none
def aggL : V → Option (List V)
  | .agg l => some l
  | _ => none
def normS (n : Nat) (e : AEnv) (σ : Store) : List (Nat × List Cp × Bool) → Option (List V × List (Nat × V) × Store)
  | [] => some ([], [], σ)
  | (t, cs, true) :: r => match aggL (e t) with
    | some l => match normF n σ cs l with
      | some (ps, us, σ1) => match normS n e σ1 r with
        | some (qs, ts, σ2) => some (ps ++ qs, (t, .agg us) :: ts, σ2)
        | none => none
      | none => none
    | none => none
  | (t, cs, false) :: r => match cs with
    | [c] => match normC n σ c (e t) with
      | some (ps, u, σ1) => match normS n e σ1 r with
        | some (qs, ts, σ2) => some (ps ++ qs, (t, u) :: ts, σ2)
        | none => none
      | none => none
    | _ => none
def normB (n : Nat) (σ : Store) : List (Nat × List Cp) → Option (List V × Store)
  | [] => some ([], σ)
  | (i, cs) :: r => cond (!hasB (r.map (·.1)) i && Nat.ble (i + 1) n) (match getO σ i with
    | .box l => match normF n σ cs l with
      | some (ps, us, σ1) => match normB n (putO σ1 i (.box us)) r with
        | some (qs, σ2) => some (ps ++ qs, σ2)
        | none => none
      | none => none
    | _ => none) none
def normL (n : Nat) (σ : Store) : List (Nat × Nat × Nat × Bool) → Option (List V × Store)
  | [] => some ([], σ)
  | (i, e, z, fz) :: r => match getO σ i with
    | .lst e' z' fz' l => cond (Nat.beq e e' && Nat.beq z z' && (!fz' || fz) && !hasB (r.map (·.1)) i && Nat.ble (i + 1) n && (!fz || fz' || Nat.ble 1 z)) (match normL n (cond (!fz' && fz) (putO σ i (.lst e z true l)) σ) r with
      | some (qs, σ2) => some (.sl z l :: qs, σ2)
      | none => none) none
    | _ => none
def isDead : Ob → Bool
  | .dead => true
  | _ => false
def grab (p : Pat) (n : Nat) (e : AEnv) (σ : Store) : Option (List V × Store) :=
  match normS n e σ p.slots with
  | some (ps, _, σ1) => match normB n σ1 p.boxes with
    | some (qs, σ2) => match normL n σ2 p.lsts with
      | some (rs, σ3) => cond (p.deads.all fun i => isDead (getO σ3 i)) (some (ps ++ (qs ++ rs), σ3)) none
      | none => none
    | none => none
  | none => none

def rowsV : V → List (List V)
  | .sl _ l => l
  | _ => []
/-- the places again, out of what changes -/
def bldF (n : Nat) : List Cp → List V → List V × List Ob × List V
  | [], ps => ([], [], ps)
  | .d _ :: cs, ps => match bldF n cs ps.tail with | (vs, os, qs) => (ps.headD .junk :: vs, os, qs)
  | .l v :: cs, ps => match bldF n cs ps with | (vs, os, qs) => (v :: vs, os, qs)
  | .nw e z fz :: cs, ps => match bldF (n + 1) cs ps.tail with | (vs, os, qs) => (.own n :: vs, .lst e z fz (rowsV (ps.headD .junk)) :: os, qs)
def bldS (n : Nat) : List (Nat × List Cp × Bool) → List V → List (Nat × V) × List Ob × List V
  | [], ps => ([], [], ps)
  | (t, cs, ag) :: r, ps => match bldF n cs ps with
    | (vs, os, qs) => match bldS (n + os.length) r qs with
      | (ts, os', rs) => ((t, cond ag (.agg vs) (vs.headD .junk)) :: ts, os ++ os', rs)
def bldB (n : Nat) : List (Nat × List Cp) → List V → List (Nat × Ob) × List Ob × List V
  | [], ps => ([], [], ps)
  | (i, cs) :: r, ps => match bldF n cs ps with
    | (vs, os, qs) => match bldB (n + os.length) r qs with
      | (ts, os', rs) => ((i, .box vs) :: ts, os ++ os', rs)
def bldL : List (Nat × Nat × Nat × Bool) → List V → List (Nat × Ob)
  | [], _ => []
  | (i, e, z, fz) :: r, ps => (i, .lst e z fz (rowsV (ps.headD .junk))) :: bldL r ps.tail
def lookP : List (Nat × V) → Nat → Option V
  | [], _ => none
  | (i, y) :: r, t => cond (Nat.beq i t) (some y) (lookP r t)
def patEnv (e : AEnv) (ts : List (Nat × V)) (asg : List Nat) : AEnv := fun t => match lookP ts t with
  | some v => v
  | none => cond (hasB asg t) .junk (e t)
def putOs (σ : Store) : List (Nat × Ob) → Store
  | [] => σ
  | (i, o) :: r => putOs (putO σ i o) r
/-- the state at a cut, of what changes there -/
def head (p : Pat) (e : AEnv) (σ : Store) (asg : List Nat) (us : List V) (K : AEnv → Store → Prop) : Prop :=
  match bldS σ.length p.slots us with
  | (ts, os, qs) => match bldB (σ.length + os.length) p.boxes qs with
    | (bs, os', rs) => K (patEnv e ts asg) (putOs σ (bs ++ (bldL p.lsts rs ++ p.deads.map fun i => (i, .dead))) ++ (os ++ os').map fun o => ⟨0, o⟩)
def sameB (σ σ' : Store) (ids : List Nat) : Nat → Bool
  | 0 => true
  | k + 1 => (hasB ids k || Nat.beq (verO σ k) (verO σ' k)) && sameB σ σ' ids k

/-! ### operations -/
def cutW (l : List (List V)) (lo hi mx : Option V) (K : List (List V) → Prop) : Prop :=
  match mx with
  | none => match hi with
    | none => match lo with
      | none => K l
      | some (.int _ a) => 0 ≤ a ∧ a ≤ l.length ∧ K (l.drop a.toNat)
      | _ => False
    | some (.int _ b) => match lo with
      | none => 0 ≤ b ∧ b ≤ l.length ∧ K (l.take b.toNat)
      | some (.int _ a) => 0 ≤ a ∧ a ≤ b ∧ b ≤ l.length ∧ K ((l.drop a.toNat).take (b.toNat - a.toNat))
      | _ => False
    | _ => False
  | some (.int _ m) => match hi with
    | some (.int _ b) => match lo with
      | none => 0 ≤ b ∧ b ≤ m ∧ m ≤ l.length ∧ K (l.take b.toNat)
      | some (.int _ a) => 0 ≤ a ∧ a ≤ b ∧ b ≤ m ∧ m ≤ l.length ∧ K ((l.drop a.toNat).take (b.toNat - a.toNat))
      | _ => False
    | _ => False
  | _ => False

def slElem (ax : Ax) (t : Nat) : Option (Nat × Ty) := match Vx.look ax.tys t with
  | some y => match y.tk with
    | .sl el => match Vx.look ax.tys el with
      | some ye => some (el, ye)
      | none => none
    | _ => none
  | none => none

/-- a slice of the first ones, with no room behind them -/
def cut1 (l : List (List V)) (lo hi mx : Option V) (K : List (List V) → Prop) : Prop :=
  match mx with
  | some (.int _ m) => match hi with
    | some (.int _ b) => match lo with
      | none => b = m ∧ 0 ≤ b ∧ b ≤ l.length ∧ K (l.take b.toNat)
      | _ => False
    | _ => False
  | _ => False

def isTr (ah : AH) : Option Nat → Bool
  | some d => hasB ah.tr d
  | none => false
def aslice (ax : Ax) (ah : AH) (dst : Option Nat) (t : Nat) (σ : Store) (x : V) (lo hi mx : Option V) (K : V → Store → Prop) : Prop :=
  match x with
  | .str s => sliceW ax.tys t (.string s) (lo.map toC) (hi.map toC) (mx.map toC) fun v => K (ofCell v) σ
  | .sl z l => match slElem ax t with
    | some (_, ye) => cond (Nat.beq z ye.size) (cond (isTr ah dst) (cut1 l lo hi mx fun r => K (.slc z r) σ) (cutW l lo hi mx fun r => K (.sl z r) σ)) False
    | none => False
  | .nls => match slElem ax t with
    | some (_, ye) => cutW [] lo hi mx fun r => K (.sl ye.size r) σ
    | none => False
  | .own i => match slElem ax t with
    | some (_, ye) => match getO σ i with
      | .lst e z fz l => cond (Nat.beq z ye.size) (cond (isTr ah dst)
          (match mx with
            | none => match lo with
              | none => match hi with
                | some (.int _ b) => cond fz False (0 ≤ b ∧ b ≤ l.length ∧ K (.own σ.length) (putO σ i .dead ++ [⟨0, .lst e z false (l.take b.toNat)⟩]))
                | _ => False
              | _ => False
            | _ => False)
          (cutW l lo hi mx fun r => K (.sl z r) (cond fz σ (putO σ i (.lst e z true l))))) False
      | _ => False
    | none => False
  | _ => False

def aconv (ax : Ax) (s d : Nat) (σ : Store) (x : V) (K : V → Store → Prop) : Prop :=
  cond (convPure ax.tys s d) (convP ax.tys s d (toC x) fun v => K (ofCell v) σ)
    (cond (toStr ax.tys d) (match slElem ax s with
      | some (_, ye) => match ye.tk with
        | .int .u8 => match x with
          | .sl z l => cond (Nat.beq z 1) (∃ bs : ByteArray, l = rowsOf bs ∧ K (.str bs) σ) False
          | .own i => match getO σ i with
            | .lst _ z _ l => cond (Nat.beq z 1) (∃ bs : ByteArray, l = rowsOf bs ∧ K (.str bs) σ) False
            | _ => False
          | .nls => K (.str ByteArray.empty) σ
          | _ => False
        | _ => False
      | none => False) (match x with
      | .str bs => match slElem ax d with
        | some (_, ye) => match ye.tk with
          | .int .u8 => match Vx.look ax.tys s with
            | some ys => match ys.tk with
              | .str => bs.size ≤ 140737488355328 ∧ K (.sl 1 (rowsOf bs)) σ
              | _ => False
            | none => False
          | _ => False
        | none => False
      | .own i => match slElem ax d with
        | some (_, ye) => match ye.tk with
          | .int .u8 => match getO σ i with
            | .lst e z fz l => cond (Nat.beq s d && Nat.beq z 1 && !fz) (0 < l.length ∧ K (.sl 1 l) (putO (putO σ i (.lst e z true l)) i .dead)) False
            | _ => False
          | _ => False
        | none => False
      | _ => False))

def lookTy (ax : Ax) (vt : Nat) : Option IntKind := match Vx.look ax.tys vt with
  | some ⟨.int k, _, _, _, [.int k']⟩ => cond (decide (k = k')) (some k) none
  | _ => none
def rowsArg (ax : Ax) (t u el : Nat) (ye : Ty) (σ : Store) (y : V) (K : List (List V) → Prop) : Prop :=
  match y with
  | .sl z l => cond (Nat.beq t u && Nat.beq z ye.size) (K l) False
  | .own j => match getO σ j with
    | .lst _ z _ l => cond (Nat.beq t u && Nat.beq z ye.size) (K l) False
    | _ => False
  | .nls => cond (Nat.beq t u) (K []) False
  | .str bs => match lookTy ax el with
    | some .u8 => cond (isTk ax.tys u TK.isStr && Nat.beq ye.size 1 && Nat.beq ye.bytes 1 && hasB ax.zs el) (K (rowsOf bs)) False
    | _ => False
  | _ => False

def aappend (ax : Ax) (ts : List Nat) (σ : Store) (x y : V) (K : V → Store → Prop) : Prop :=
  match ts with
  | [t, u] => match slElem ax t with
    | some (el, ye) => cond (Nat.ble 1 ye.size) (match x with
      | .own i => match getO σ i with
        | .lst e z fz l => cond (Nat.beq e el && Nat.beq z ye.size) (rowsArg ax t u el ye σ y fun l' => (l.length + l'.length) * ye.bytes ≤ 140737488355328 ∧ l.length + l'.length ≤ 140737488355328 ∧ K (.own σ.length) (putO σ i .dead ++ [⟨0, .lst e z fz (l ++ l')⟩])) False
        | _ => False
      | .slc z l => match y with
        | .own j => match getO σ j with
          | .lst _ z' _ l' => cond (Nat.beq t u && Nat.beq z ye.size && Nat.beq z' ye.size) (0 < l'.length ∧ (l.length + l'.length) * ye.bytes ≤ 140737488355328 ∧ l.length + l'.length ≤ 140737488355328 ∧ K (.own σ.length) (σ ++ [⟨0, .lst el ye.size false (l ++ l')⟩])) False
          | _ => False
        | _ => False
      | .nls => rowsArg ax t u el ye σ y fun l' => l'.length * ye.bytes ≤ 140737488355328 ∧ l'.length ≤ 140737488355328 ∧ K (.own σ.length) (σ ++ [⟨0, .lst el ye.size false l'⟩])
      | _ => False) False
    | none => False
  | _ => False

def abuilt (ax : Ax) (b : Builtin) (ts : Array TypeId) (σ : Store) (args : List V) (K : V → Store → Prop) : Prop :=
  match b with
  | .len => match args with
    | [.str s] => builtP ax.tys .len ts [.string s] fun v => K (ofCell v) σ
    | [.sl _ l] => cond (Nat.beq ts.size 1 && isTk ax.tys (ts.toList.headD 0) TK.isSl) (K (.int .i64 l.length) σ) False
    | [.nls] => cond (Nat.beq ts.size 1 && isTk ax.tys (ts.toList.headD 0) TK.isSl) (K (.int .i64 0) σ) False
    | [.own i] => match getO σ i with
      | .lst _ _ _ l => cond (Nat.beq ts.size 1 && isTk ax.tys (ts.toList.headD 0) TK.isSl) (K (.int .i64 l.length) σ) False
      | _ => False
    | [.map i] => match getO σ i with
      | .lst _ z _ l => cond (Nat.beq z 0 && (Nat.beq ts.size 1 && isTk ax.tys (ts.toList.headD 0) TK.isMap)) (K (.int .i64 l.length) σ) False
      | _ => False
    | _ => False
  | .min => builtP ax.tys .min ts (args.map toC) fun v => K (ofCell v) σ
  | .max => builtP ax.tys .max ts (args.map toC) fun v => K (ofCell v) σ
  | .append => match args with
    | [x, y] => aappend ax ts.toList σ x y K
    | _ => False
  | _ => False

def aggFits (ss : List Sh) : V → Bool
  | .agg l => fitsL ss l
  | _ => false
def fitT (tys : Tys) (t : Nat) (u : V) : Bool := match Vx.look tys t with
  | some y => match y.tk with
    | .agg _ => aggFits y.sh u
    | .arr _ _ => aggFits y.sh u
    | _ => match y.sh with
      | [s] => fits s u
      | _ => false
  | none => false
def fitTs (tys : Tys) : List Nat → List V → Bool
  | [], [] => true
  | t :: ts, u :: us => fitT tys t u && fitTs tys ts us
  | _, _ => false
def idsOk (n : Nat) : List Nat → Bool
  | [] => true
  | i :: r => Nat.ble (i + 1) n && (!hasB r i && idsOk n r)

def acall (ax : Ax) (ah : AH) (g : Nat) (args : List V) (σ : Store) (K : V → Store → Prop) : Prop :=
  match lookF ax.fns g with
  | none => False
  | some rts => match lookO ah.sigs g with
    | none => False
    | some s => match coP σ s.pm args with
      | none => False
      | some (as, σ1) => cond (hasB ax.thrs g) (match reach σ1 1000 (idsL as) [] with
        | ids => cond (idsOk σ1.length ids) (match ax.T with
          | some T => SCallsT ax g (renL (idx ids) as) (ids.map fun i => renOb (idx ids) (getO σ1 i)) (fun rs obs => exR s.rs fun us => exO s.os fun os => rs = us ∧ obs = os ∧
              cond (fitTs ax.tys rts us) (K (packT (renL (backF ids σ1.length) us)) (merge σ1 ids (os.map (renOb (backF ids σ1.length))))) False)
            (fun t us obs => exO (s.os.take ids.length) fun os => obs = os ∧ T t us (merge σ1 ids (os.map (renOb (backF ids σ1.length)))))
          | none => False) False) (match reach σ1 1000 (idsL as) [] with
        | [] => cond s.os.isEmpty (PCalls ax g (renL (idx []) as) fun rs => exR s.rs fun us => rs = us ∧ cond (fitTs ax.tys rts us) (K (packT (renL (backF [] σ1.length) us)) σ1) False)
            (SCalls ax g (renL (idx []) as) [] fun rs obs => exR s.rs fun us => exO s.os fun os => rs = us ∧ obs = os ∧ cond (fitTs ax.tys rts us) (K (packT (renL (backF [] σ1.length) us)) (merge σ1 [] (os.map (renOb (backF [] σ1.length))))) False)
        | p :: ps => cond (idsOk σ1.length (p :: ps)) (SCalls ax g (renL (idx (p :: ps)) as) ((p :: ps).map fun i => renOb (idx (p :: ps)) (getO σ1 i)) fun rs obs => exR s.rs fun us => exO s.os fun os => rs = us ∧ obs = os ∧
            cond (fitTs ax.tys rts us) (K (packT (renL (backF (p :: ps) σ1.length) us)) (merge σ1 (p :: ps) (os.map (renOb (backF (p :: ps) σ1.length))))) False) False)

/-- a map's element type, where its keys are ints -/
def mapI (ax : Ax) (t : Nat) : Option Nat := match Vx.look ax.tys t with
  | some y => match y.tk with
    | .map kt vt => match Vx.look ax.tys kt with
      | some yk => match yk.tk with
        | .int .i64 => some vt
        | _ => none
      | none => none
    | _ => none
  | none => none
def mapS (ax : Ax) (t : Nat) : Option Nat := match Vx.look ax.tys t with
  | some y => match y.tk with
    | .map kt vt => match Vx.look ax.tys kt with
      | some yk => match yk.tk with
        | .str => some vt
        | _ => none
      | none => none
    | _ => none
  | none => none
def mapT (ax : Ax) (t : Nat) : Bool := match mapS ax t with | some _ => true | none => false
def TK.isAgg : TK → Bool | .agg _ => true | _ => false
def lookRes (tys : Tys) (ty vt : Nat) (ok : Bool) : Bool := cond ok
  (match Vx.look tys ty with
    | some ⟨.tuple [a, b], _, _, _, _⟩ => Nat.beq a vt && (match Vx.look tys b with | some ⟨.bool, _, _, _, [.bool]⟩ => true | _ => false)
    | _ => false)
  (Nat.beq ty vt)
/-- what a map of structs answers -/
def alookA (ax : Ax) (ty vt : Nat) (ok : Bool) (r : Option V) (K : V → Prop) : Prop :=
  match Vx.look ax.tys vt with
  | some y => match lookO ax.ats vt with
    | some as => cond (lookRes ax.tys ty vt ok && Nat.ble 2 y.size && TK.isAgg y.tk && fitsL y.sh (y.zero.map ofCell))
        ((∀ v, r = some v → exA as fun us => v = .agg us ∧ cond (fitsL y.sh us) (K (cond ok (.tup [.agg us, .bool true]) (.agg us))) False) ∧ (r = none → K (cond ok (.tup [.agg (y.zero.map ofCell), .bool false]) (.agg (y.zero.map ofCell))))) False
    | none => False
  | none => False
def alook (ax : Ax) (ty t : Nat) (σ : Store) (x i : V) (ok : Bool) (K : V → Store → Prop) : Prop :=
  match x with
  | .map j => match getO σ j with
    | .lst _ z fz l => match mapI ax t with
      | some vt => match i with
        | .int .i64 q => cond (Nat.beq z 0 && !fz) (match lookTy ax vt with
          | some k => cond (hasB ax.zs vt && lookRes ax.tys ty vt ok)
            ((∀ v, lookV l q = some v → ∃ n : Int, v = .int k n ∧ K (cond ok (.tup [.int k n, .bool true]) (.int k n)) σ) ∧ (lookV l q = none → K (cond ok (.tup [.int k 0, .bool false]) (.int k 0)) σ)) False
          | none => alookA ax ty vt ok (lookV l q) fun v => K v σ) False
        | _ => False
      | none => match mapS ax t with
        | some vt => match i with
          | .str q => cond (Nat.beq z 0 && fz) (alookA ax ty vt ok (lookS l q) fun v => K v σ) False
          | _ => False
        | none => False
    | _ => False
  | _ => False
def aput (ax : Ax) (t : Nat) (σ : Store) (m k x : V) (K : V → Store → Prop) : Prop :=
  match m with
  | .map j => match getO σ j with
    | .lst e z fz l => match mapI ax t with
      | some _ => match k with
        | .int .i64 q => cond (Nat.beq z 0 && !fz && isDatA x) (lookV l q = none ∧ K .undef (putO σ j (.lst e z fz (l ++ [[.int .i64 q, x]])))) False
        | _ => False
      | none => match mapS ax t with
        | some _ => match k with
          | .str q => cond (Nat.beq z 0 && fz && isDatA x) (lookS l q = none ∧ K .undef (putO σ j (.lst e z fz (l ++ [[.str q, x]])))) False
          | _ => False
        | none => False
    | _ => False
  | _ => False

def aop (ax : Ax) (ah : AH) (o : Oper) (ρ : Operand → V) (σ : Store) (K : V → Store → Prop) : Prop :=
  match o.op with
  | .move x => K (ρ x) σ
  | .assign x => K (ρ x) σ
  | .pick c x y => match ρ c with
    | .bool b => cond b (K (ρ x) σ) (K (ρ y) σ)
    | _ => False
  | .build t parts => match Vx.look ax.tys t with
    | some y => match y.tk with
      | .agg fs => match fillV (fun i => (placesOf ax.tys fs)[i]?) (y.zero.map ofCell) (parts.toList.map fun (i, x) => (i, ρ x)) with
        | some cs => cond ((fs.all fun f => (Vx.look ax.tys f.2).isSome) && parts.toList.all fun p => (cellsV (ρ p.2)).all isCellV) (K (.agg cs) σ) False
        | none => False
      | _ => False
    | none => False
  | .nilCheck x => match ρ x with
    | .ptr i o => K (.ptr i o) σ
    | .eptr i j o => K (.eptr i j o) σ
    | .pt (some d) => K (.pt (some d)) σ
    | .gl g => K (.gl g) σ
    | .fn g f c => K (.fn g f c) σ
    | _ => False
  | .binOp op t x y _ => cond (eqNeeds ax.tys op t y) (aeq ax op t (ρ x) (ρ y) fun v => K v σ) (abin ax op t σ y (ρ x) (ρ y) fun v => K v σ)
  | .unOp op _ x => match op with
    | .not => match ρ x with
      | .bool b => K (.bool (!b)) σ
      | _ => False
    | .neg => match ρ x with
      | .int k n => K (.int k (k.wrap (0 - n))) σ
      | _ => False
    | _ => False
  | .convert s d x => aconv ax s d σ (ρ x) K
  | .makeFunc fn first cap => match fn with
    | .func g => K (.fn g (first.toList.map ρ) (cap.toList.map ρ)) σ
    | _ => False
  | .makeInterface t x => match ρ x with
    | .agg us => cond (us.all isDatV && isTk ax.tys t TK.isAgg) (K (.ifc t us) σ) False
    | _ => False
  | .panic x => match ρ x with
    | .ifc t us => match ax.T with
      | some T => T t us σ
      | none => False
    | _ => False
  | .slice t x lo hi mx => aslice ax ah o.dst t σ (ρ x) (lo.map ρ) (hi.map ρ) (mx.map ρ) K
  | .fieldAddr s x i => match Vx.look ax.tys s with
    | some y => match y.tk with
      | .agg fs => match fs[i]? with
        | some (off, ft) => match Vx.look ax.tys ft with
          | some yf => cond (Nat.beq yf.size 0) False (match ρ x with
            | .ptr k o => K (.ptr k (o + off)) σ
            | .eptr k j o => K (.eptr k j (o + off)) σ
            | .pt (some cs) => K (.pt (some (cs.drop off))) σ
            | _ => False)
          | none => False
        | none => False
      | _ => False
    | none => False
  | .field s x i => match ρ x with
    | .agg cs => match Vx.look ax.tys s with
      | some y => match y.tk with
        | .agg fs => match fs[i]? with
          | some (off, ft) => match Vx.look ax.tys ft with
            | some yf => match yf.tk with
              | .agg _ => K (.agg ((cs.drop off).take yf.size)) σ
              | .arr _ _ => K (.agg ((cs.drop off).take yf.size)) σ
              | .tuple _ => False
              | .other => False
              | _ => match cs[off]? with
                | some v => K v σ
                | none => False
            | none => False
          | none => False
        | _ => False
      | none => False
    | _ => False
  | .indexAddr t x i => match ρ i with
    | .int _ j => match slElem ax t with
      | some (_, ye) => match ρ x with
        | .sl z l => cond (Nat.beq z ye.size) (0 ≤ j ∧ j < l.length ∧ K (.pt (some (rowAt l j.toNat))) σ) False
        | .own k => match getO σ k with
          | .lst _ z _ l => cond (Nat.beq z ye.size) (0 ≤ j ∧ j < l.length ∧ K (.eptr k j.toNat 0) σ) False
          | _ => False
        | _ => False
      | none => False
    | _ => False
  | .index t x i => match ρ i with
    | .int _ j => match Vx.look ax.tys t with
      | some y => match y.tk with
        | .str => match ρ x with
          | .str s => 0 ≤ j ∧ ∃ c : UInt8, s[j.toNat]? = some c ∧ K (.int .u8 c.toNat) σ
          | _ => False
        | _ => False
      | none => False
    | _ => False
  | .extract x i => match ρ x with
    | .tup vs => match vs[i]? with
      | some v => K v σ
      | none => False
    | _ => False
  | .load t x => aload ax σ t (ρ x) fun v => K v σ
  | .alloc t => match Vx.look ax.tys t with
    | some y => cond ((y.zero.map ofCell).all isCellV) (K (.ptr σ.length 0) (σ ++ [⟨0, .box (y.zero.map ofCell)⟩])) False
    | none => False
  | .box _ x => cond ((cellsV (ρ x)).all isCellV) (K (.ptr σ.length 0) (σ ++ [⟨0, .box (cellsV (ρ x))⟩])) False
  | .buildSlice t len parts => match slElem ax t with
    | some (el, ye) => match lookO ax.ats el with
      | some as => match coL σ as (y0 ye) with
        | some (zr, _) => match fillR σ as (List.replicate len zr) (parts.toList.map fun (i, x) => (i, ρ x)) with
          | some (rows, σ1) => cond (Nat.ble (len * ye.size) 4096 && Nat.ble 1 ye.size && Nat.beq as.length ye.size && (!isIf ye.tk || parts.toList.all fun p => isCellV (ρ p.2))) (K (.own σ1.length) (σ1 ++ [⟨0, .lst el ye.size false rows⟩])) False
          | none => False
        | none => False
      | none => False
    | none => False
  | .store t x v => astore ax σ t (ρ x) (ρ v) fun σ' => K .undef σ'
  | .makeMap t r => match r with
    | none => K (.map σ.length) (σ ++ [⟨0, .lst t 0 (mapT ax t) []⟩])
    | some _ => False
  | .mapUpdate t m k x => aput ax t σ (ρ m) (ρ k) (ρ x) K
  | .lookup t x i ok => alook ax o.type t σ (ρ x) (ρ i) ok K
  | .makeSlice t l c => match slElem ax t with
    | some (el, ye) => match lookO ax.ats el with
      | some as => match coL σ as (y0 ye) with
        | some (zr, _) => match ρ l with
          | .int .i64 n => match ρ c with
            | .int .i64 m => cond (Nat.ble 1 ye.size && Nat.beq as.length ye.size) (0 ≤ n ∧ n ≤ m ∧ m ≤ 140737488355328 ∧ ye.bytes * m ≤ 140737488355328 ∧ K (.own σ.length) (σ ++ [⟨0, .lst el ye.size false (List.replicate n.toNat zr)⟩])) False
            | _ => False
          | _ => False
        | none => False
      | none => False
    | none => False
  | .call c => match c.callee with
    | .value f => match ρ f with
      | .fn g first caps => acall ax ah g (first ++ c.args.toList.map ρ ++ caps) σ K
      | _ => False
    | .builtin b => abuilt ax b c.argTypes σ (c.args.toList.map ρ) K
    | _ => False
  | _ => False
where
  y0 (ye : Ty) : List V := ye.zero.map ofCell
  fillR (σ : Store) (as : List As) : List (List V) → List (Nat × V) → Option (List (List V) × Store)
    | rows, [] => some (rows, σ)
    | rows, (i, v) :: r => cond (Nat.ble (i + 1) rows.length) (match coL σ as (cellsV v) with
      | some (us, σ1) => fillR σ1 as (rows.set i us) r
      | none => none) none

/-! ### regions -/
def aguard (ops : Array Oper) (o : Oper) (e : AEnv) (yes no : AEnv → Prop) : Prop :=
  match o.guard with
  | none => yes e
  | some (j, want) => match slotOf ops j with
    | none => False
    | some s => match e s with
      | .bool b => cond b (cond want (yes (e.put (some s) (.bool true))) (no (e.put (some s) (.bool true)))) (cond want (no (e.put (some s) (.bool false))) (yes (e.put (some s) (.bool false))))
      | .undef => no e
      | _ => False

def areg (ax : Ax) (ah : AH) (ops : Array Oper) : List Oper → AEnv → Store → (AEnv → Store → Prop) → Prop
  | [], e, σ, K => K e σ
  | o :: r, e, σ, K => aguard ops o e
      (fun e' => aop ax ah o (aev e') σ fun v σ' => areg ax ah ops r (e'.put o.dst v) σ' K)
      (fun e' => areg ax ah ops r (e'.put o.dst .undef) σ K)

/-- which objects a look into memory leans on -/
def ldDeps (σ : Store) : V → List (Nat × Nat)
  | .ptr i _ => [(i, verO σ i)]
  | .eptr i _ _ => [(i, verO σ i)]
  | .own i => [(i, verO σ i)]
  | .map i => [(i, verO σ i)]
  | _ => []
def deps (o : Oper) (ρ : Operand → V) (σ : Store) : List (Nat × Nat) :=
  match o.op with
  | .load _ x => ldDeps σ (ρ x)
  | .convert _ _ x => ldDeps σ (ρ x)
  | .lookup _ x _ _ => ldDeps σ (ρ x)
  | .call c => c.args.toList.flatMap fun x => ldDeps σ (ρ x)
  | _ => []
def depsOk (σ : Store) (l : List (Nat × Nat)) : Bool := l.all fun x => Nat.beq (verO σ x.1) x.2
/-- an int in a box: looked at, it may be looked at again -/
def altOf (tys : Tys) (o : Oper) (ρ : Operand → V) (σ : Store) : Option (Nat × Nat × IntKind × Int) :=
  match o.op with
  | .load t x => match ρ x with
    | .ptr i p => match getO σ i with
      | .box l => match l[p]? with
        | some (.int k n) => match Vx.look tys t with
          | some y => cond (Nat.beq y.size 1) (some (i, p, k, n)) none
          | none => none
        | _ => none
      | _ => none
    | _ => none
  | _ => none
def altOk (σ : Store) : Option (Nat × Nat × IntKind × Int) → Prop
  | some (i, p, k, n) => match getO σ i with
    | .box l => match l[p]? with
      | some (.int k' n') => cond (decide (k' = k)) (n' = n) False
      | _ => False
    | _ => False
  | none => False
abbrev APend := List (Nat × List (Nat × Nat) × Option (Nat × Nat × IntKind × Int))
def akeep (ops : List Oper) (j : Nat) (σ : Store) (p : Prop) : APend → Prop
  | [] => p
  | (i, l, a) :: r => cond (downB ops ops.length j i) (akeep ops j σ p r) (cond (depsOk σ l) (akeep ops j σ p r) (altOk σ a ∧ akeep ops j σ p r))

def adraw (ax : Ax) (ah : AH) (ops : Array Oper) : DOrd → APend → AEnv → Store → (AEnv → Store → Prop) → Prop
  | .nil, _, e, σ, K => K e σ
  | .one i r, pend, e, σ, K => match ops.toList[i]? with
    | none => False
    | some o => aguard ops o e
        (fun e' => match kindOf ax.tys o.op with
          | .pure => aop ax ah o (aev e') σ fun v σ' => adraw ax ah ops r pend (e'.put o.dst v) σ' K
          | .load => aop ax ah o (aev e') σ fun v σ' => adraw ax ah ops r ((i, deps o (aev e') σ, altOf ax.tys o (aev e') σ) :: pend) (e'.put o.dst v) σ' K
          | .event => aop ax ah o (aev e') σ fun v σ' => akeep ops.toList i σ' (adraw ax ah ops r pend (e'.put o.dst v) σ' K) pend)
        (fun e' => adraw ax ah ops r pend (e'.put o.dst .undef) σ K)
  | .alt x y, pend, e, σ, K => adraw ax ah ops x pend e σ K ∧ adraw ax ah ops y pend e σ K

/-! ### code -/
def hintsOf (ah : AH) : Hints := ⟨ah.orders, ah.cuts.map fun c => (c.1, c.2.slots.map fun s => (s.1, .any))⟩

def acW (ax : Ax) (ah : AH) : Code → (Exit → AEnv → Store → Prop) → AEnv → Store → Prop
  | .skip, Q, e, σ => Q .normal e σ
  | .ret, Q, e, σ => Q .ret e σ
  | .exit id, Q, e, σ => Q (.exit id) e σ
  | .region id ops draw, Q, e, σ => cond draw
      (match lookO ah.orders id with | some l => adraw ax ah ops l [] e σ (fun e σ => Q .normal e σ) | none => False)
      (areg ax ah ops ops.toList e σ (fun e σ => Q .normal e σ))
  | .seq a b, Q, e, σ => match lookO ah.joins (firstReg b) with
    | none => acW ax ah a (fun ex e σ => match ex with
      | .normal => acW ax ah b Q e σ
      | ex => Q ex e σ) e σ
    | some p => ∃ J : List V → Prop, acW ax ah a (fun ex e' σ' => match ex with
        | .normal => match grab p σ.length e' σ' with
          | some (ps, σ3) => cond (sameB σ σ3 p.ids σ.length) (J ps) False
          | none => False
        | ex => Q ex e' σ') e σ ∧
        allA p.shapes fun us => J us → head p e σ (assigned (hintsOf ah) a) us fun e1 σ1 => acW ax ah b Q e1 σ1
  | .cond c a b, Q, e, σ => match aev e c with
    | .bool t => match c with
      | .tmp s => cond t (acW ax ah a Q (e.put (some s) (.bool true)) σ) (acW ax ah b Q (e.put (some s) (.bool false)) σ)
      | _ => cond t (acW ax ah a Q e σ) (acW ax ah b Q e σ)
    | _ => False
  | .block id a, Q, e, σ => acW ax ah a (fun ex e σ => match ex with
      | .exit i => cond (Nat.beq i id) (Q .normal e σ) (Q (.exit i) e σ)
      | ex => Q ex e σ) e σ
  | .loop a, Q, e, σ => match lookO ah.cuts (firstReg a) with
    | some p => match grab p σ.length e σ with
      | some (ps, σ0) => ∃ (I : List V → Prop) (μ : List V → Nat), I ps ∧
          allA p.shapes fun us => I us → head p e (σ0.take σ.length) (assigned (hintsOf ah) (.loop a)) us fun e1 σ1 => acW ax ah a (fun ex e' σ' => match ex with
            | .normal => match grab p σ.length e' σ' with
              | some (ps', σ3) => cond (sameB (σ0.take σ.length) σ3 p.ids σ.length) (I ps' ∧ μ ps' < μ us) False
              | none => False
            | ex => Q ex e' σ') e1 σ1
      | none => False
    | none => False
  | _, _, _, _ => False

/-! ### functions -/
def aresL (ax : Ax) (e : AEnv) (σ : Store) : List ResultVar → (List V → Prop) → Prop
  | [], K => K []
  | .tmp t :: r, K => aresL ax e σ r fun vs => K (e t :: vs)
  | .cell t ty :: r, K => aload ax σ ty (e t) fun v => aresL ax e σ r fun vs => K (v :: vs)

def boxIds (σ : Store) : Nat → List Nat
  | 0 => []
  | n + 1 => boxIds σ n ++ (match getO σ n with | .box l => idsL l | _ => [])
def killL (σ : Store) : List Nat → Store
  | [] => σ
  | i :: r => killL (putO σ i .dead) r
def retP (ah : AH) (σ : Store) (vs : List V) : Option (List V × Store) := match ah.nr with
  | [] => coP σ ah.ret vs
  | cs => match normF σ.length σ cs vs with
    | some (_, us, σ') => some (us, σ')
    | none => none
def aret (ax : Ax) (ah : AH) (n0 : Nat) (fn : Func) (K : List V → List Ob → Prop) (e : AEnv) (σ : Store) : Prop :=
  aresL ax e σ fn.results.toList fun vs => match normB n0 σ ah.fin with
    | some (_, σ0) => match retP ah (killL σ0 ah.kill) vs with
      | some (us, σ1) => match reach σ1 1000 (idsL us ++ boxIds σ1 n0) (List.range n0) with
        | ids => K (renL (idx ids) us) (ids.map fun i => renOb (idx ids) (getO σ1 i))
      | none => False
    | none => False

def afn (ax : Ax) (ah : AH) (fn : Func) (args : List V) (obs : List Ob) (K : List V → List Ob → Prop) : Prop :=
  match fn.body with
  | some c => acW ax ah c (fun ex e σ => match ex with
      | .normal => aret ax ah obs.length fn K e σ
      | .ret => aret ax ah obs.length fn K e σ
      | _ => False) (fun t => args.getD t .undef) (mkS obs)
  | none => False

/-- what lies there where something is thrown, and how this is asked -/
def throwOb (n0 : Nat) (σ : Store) : List Ob := match reach σ 1000 (boxIds σ n0) (List.range n0) with
  | ids => ids.map fun i => renOb (idx ids) (getO σ i)
def Ax.thr (a : Ax) (n0 : Nat) (T : Nat → List V → List Ob → Prop) : Ax := { a with T := some fun t us σ => T t us (throwOb n0 σ) }

end Go.Av
end

/- part AvD -/
section
namespace Go.Av
open Go.Vx Go.RowKit

theorem getO_ge {σ : Store} {i : Nat} (h : σ.length ≤ i) : getO σ i = .dead := by simp [getO, List.getElem?_eq_none h]
theorem getO_lt {σ : Store} {i : Nat} (h : getO σ i ≠ .dead) : i < σ.length := by
  rcases Nat.lt_or_ge i σ.length with h1 | h1
  · exact h1
  · exact absurd (getO_ge h1) h
theorem getO_left {σ τ : Store} {i : Nat} (h : i < σ.length) : getO (σ ++ τ) i = getO σ i := by simp [getO, List.getElem?_append_left h]
theorem verO_left {σ τ : Store} {i : Nat} (h : i < σ.length) : verO (σ ++ τ) i = verO σ i := by simp [verO, List.getElem?_append_left h]
theorem getO_new {σ : Store} {v : Nat} {o : Ob} : getO (σ ++ [⟨v, o⟩]) σ.length = o := by simp [getO]
theorem putO_length (σ : Store) (i : Nat) (o : Ob) : (putO σ i o).length = σ.length := by simp [putO]
theorem getO_put {σ : Store} {i : Nat} (h : i < σ.length) (o : Ob) : getO (putO σ i o) i = o := by simp [getO, putO, h]
theorem getO_put_ne {σ : Store} {i j : Nat} (h : j ≠ i) (o : Ob) : getO (putO σ i o) j = getO σ j := by simp [getO, putO, Ne.symm h]
theorem verO_put {σ : Store} {i : Nat} (h : i < σ.length) (o : Ob) : verO (putO σ i o) i = verO σ i + 1 := by simp [verO, putO, h]
theorem verO_put_ne {σ : Store} {i j : Nat} (h : j ≠ i) (o : Ob) : verO (putO σ i o) j = verO σ j := by simp [verO, putO, Ne.symm h]
theorem Mut.has {β : Nat → Value} {i : Nat} {ob : Ob} {b o : Nat} (h : Mut β i ob b o) : Has β i ob b := h.1
theorem no_has_dead {β : Nat → Value} {i b : Nat} : ¬ Has β i .dead b := fun h => h.1

def extB (β : Nat → Value) (n : Nat) (v : Value) : Nat → Value := fun i => if i = n then v else β i
theorem extB_new (β : Nat → Value) (n : Nat) (v : Value) : extB β n v n = v := by simp [extB]
theorem extB_old {β : Nat → Value} {n i : Nat} {v : Value} (h : i ≠ n) : extB β n v i = β i := by simp [extB, h]

section
variable {gs : List Nat} {G : Nat → Value} {w w' : World} {F F' : Nat → Nat → Prop} {β β' : Nat → Value} {σ σ' : Store}

theorem Sim.has_lt (h : Sim gs G w F β σ) {i b : Nat} (hb : Has β i (getO σ i) b) : b < w.heap.size := by
  have ho := h.obj i
  obtain ⟨h1, h2⟩ := hb
  cases hg : getO σ i with
  | dead => rw [hg] at h1; exact h1.elim
  | mp l => rw [hg] at ho; exact ho.elim
  | box l =>
    rw [hg] at ho
    obtain ⟨b', t, cs, e, hh, _⟩ := ho
    rw [e] at h2
    simp only [vblk, Option.some.injEq] at h2
    subst h2
    exact lt_of_block hh
  | lst t z fz l =>
    rw [hg] at ho
    rcases ho with ⟨r, es, clock, e, hh, _⟩ | ⟨xs, ho, _⟩
    · rw [e] at h2
      simp only [vblk, Option.some.injEq] at h2
      subst h2
      exact lt_of_block hh
    refine (ho.lt b ?_).2
    obtain ⟨_, ⟨e, _⟩ | ⟨g, cap, cur, e, _⟩⟩ := ho
    · rw [e] at h2; cases h2
    · rw [e] at h2 ⊢; exact h2

theorem ObjR.keep (hc : Carry w F β σ w' F' β' σ') {i : Nat} {ob : Ob} (hi : β' i = β i) (hb : ∀ b, vblk (β i) = some b → w'.heap[b]? = w.heap[b]?) (h : ObjR gs G w F β σ i ob) : ObjR gs G w' F' β' σ' i ob := by
  cases ob with
  | dead => trivial
  | mp l => exact h
  | box l =>
    obtain ⟨b, t, cs, e, hh, hr, h1⟩ := h
    exact ⟨b, t, cs, hi.trans e, (hb b (by rw [e]; rfl)).trans hh, hr.mono fun u v => RV.mono hc, h1⟩
  | lst t z fz l =>
    rcases h with ⟨r, es, clock, e, hh, hz, hr⟩ | ⟨xs, ho, hr, h1, h2, h3⟩
    · exact .inl ⟨r, es, clock, hi.trans e, (hb r (by rw [e]; rfl)).trans hh, hz, hr.map fun u v => FV.mono hc.f⟩
    rw [← hi] at h3
    refine .inr ⟨xs, ?_, hr.mono fun u v => FV.mono hc.f, h1, h2, fun hf b hb' o ho => (hc.f b o (h3 hf b hb' o ho)).1⟩
    rw [hi]
    refine own_block ho fun g hg => hb g ?_
    cases hv : β i <;> rw [hv] at hg <;> simp only [Value.ownBlock] at hg <;> try cases hg
    rename_i a n c
    cases a <;> simp only at hg <;> cases hg
    rfl

theorem Sim.glob_step (h : Sim gs G w F β σ) (hs : Step w F β σ w' F' β' σ') : ∀ g ∈ gs, w'.cell? ⟨g, 0, none⟩ = some (G g) ∧ F' g 0 ∧ (∀ i, ¬ Has β' i (getO σ' i) g) ∧ ∃ t b, G g = .iface t (.pointer (some b)) ∧ b.block < w'.heap.size ∧ Plain w' b ∧ ∀ i, ¬ Has β' i (getO σ' i) b.block := by
  intro g hg
  obtain ⟨h1, h2, h3, t, b, h4, h5, h6, h7⟩ := h.glob g hg
  have hlt := h.lt g 0 h2
  refine ⟨(hs.fcell g 0 h2).2.trans h1, (hs.fcell g 0 h2).1, fun i hi => ?_, t, b, h4, Nat.lt_of_lt_of_le h5 hs.size, ?_, fun i hi => ?_⟩
  · rcases hs.newH i g hi with k | ⟨j, k⟩
    · omega
    · exact h3 j k
  · obtain ⟨cs, t', e⟩ := h6
    exact ⟨cs, t', (hs.block b.block h5 h7).trans e⟩
  · rcases hs.newH i b.block hi with k | ⟨j, k⟩
    · omega
    · exact h7 j k

theorem Sim.tab_step (h : Sim gs G w F β σ) (hs : Step w F β σ w' F' β' σ') : ∀ g cs, G g = .agg cs → g < w'.heap.size ∧ (∃ t p, w'.heap[g]? = some (.cells cs t p)) ∧ ∀ i, ¬ Has β' i (getO σ' i) g := by
  intro g cs hg
  obtain ⟨h1, ⟨t, p, h2⟩, h3⟩ := h.tab g cs hg
  refine ⟨Nat.lt_of_lt_of_le h1 hs.size, ⟨t, p, (hs.block g h1 h3).trans h2⟩, fun i hi => ?_⟩
  rcases hs.newH i g hi with k | ⟨j, k⟩
  · omega
  · exact h3 j k

/-- the world alone goes on -/
theorem Sim.below (h : Sim gs G w F β σ) (hb : Below w.heap.size w w') : Sim gs G w' F β σ ∧ Step w F β σ w' F β σ := by
  have hc : ∀ b o, b < w.heap.size → w'.cell? ⟨b, o, none⟩ = w.cell? ⟨b, o, none⟩ := fun b o hlt => hb.cell (p := ⟨b, o, none⟩) hlt
  have hs : Step w F β σ w' F β σ := ⟨hb.os, hb.tape, hb.output, hb.size, fun b o hf => ⟨hf, hc b o (h.lt b o hf)⟩, fun b o hlt _ => hc b o hlt, fun b hlt _ => hb.block b hlt, fun _ _ h => .inl h, fun i _ h => .inr ⟨i, h⟩, fun i _ _ h => .inr ⟨i, h⟩, Nat.le_refl _,
    fun i _ => ⟨rfl, obLe.refl _⟩, fun i _ => ⟨Nat.le_refl _, fun _ => ⟨rfl, fun b hh => hb.block b (h.has_lt hh)⟩⟩⟩
  refine ⟨⟨fun b o hf => Nat.lt_of_lt_of_le (h.lt b o hf) hb.size, h.glob_step hs, fun i => ?_, h.tab_step hs, h.sep, h.dis⟩, hs⟩
  cases hg : getO σ i with
  | dead => trivial
  | _ => exact hg ▸ (h.obj i).keep hs.carry rfl fun b hv => hb.block b (h.has_lt ⟨by rw [hg]; trivial, hv⟩)

/-- the world goes on, with data in new places -/
theorem Sim.belowX (h : Sim gs G w F β σ) {X : Nat → Nat → Prop} (hb : Below w.heap.size w w') (hX : ∀ b o, X b o → w.heap.size ≤ b ∧ b < w'.heap.size) : Sim gs G w' (fun b o => F b o ∨ X b o) β σ ∧ Step w F β σ w' (fun b o => F b o ∨ X b o) β σ := by
  have hc : ∀ b o, b < w.heap.size → w'.cell? ⟨b, o, none⟩ = w.cell? ⟨b, o, none⟩ := fun b o hlt => hb.cell (p := ⟨b, o, none⟩) hlt
  have hs : Step w F β σ w' (fun b o => F b o ∨ X b o) β σ := ⟨hb.os, hb.tape, hb.output, hb.size, fun b o hf => ⟨.inl hf, hc b o (h.lt b o hf)⟩, fun b o hlt _ => hc b o hlt, fun b hlt _ => hb.block b hlt, fun b o hf => by
      rcases hf with h | h
      · exact .inl h
      · exact .inr (.inl (hX b o h).1), fun i _ h => .inr ⟨i, h⟩, fun i _ _ h => .inr ⟨i, h⟩, Nat.le_refl _,
    fun i _ => ⟨rfl, obLe.refl _⟩, fun i _ => ⟨Nat.le_refl _, fun _ => ⟨rfl, fun b hh => hb.block b (h.has_lt hh)⟩⟩⟩
  refine ⟨⟨fun b o hf => ?_, h.glob_step hs, fun i => ?_, h.tab_step hs, h.sep, fun i b o hm hf => ?_⟩, hs⟩
  · rcases hf with hf | hf
    · exact Nat.lt_of_lt_of_le (h.lt b o hf) hb.size
    · exact (hX b o hf).2
  · cases hg : getO σ i with
    | dead => trivial
    | _ => exact hg ▸ (h.obj i).keep hs.carry rfl fun b hv => hb.block b (h.has_lt ⟨by rw [hg]; trivial, hv⟩)
  · rcases hf with hf | hf
    · exact h.dis i b o hm hf
    · have := h.has_lt hm.has
      have := (hX b o hf).1
      omega

def killO (σ : Store) : Option Nat → Store
  | none => σ
  | some i => putO σ i .dead
theorem killO_length (σ : Store) (k : Option Nat) : (killO σ k).length = σ.length := by cases k <;> simp [killO, putO_length]

theorem repl_carry {kill : Option Nat} {val : Value} {ob : Ob} {v : Nat} {X : Nat → Nat → Prop} (hf : ∀ b o, F b o → w'.cell? ⟨b, o, none⟩ = w.cell? ⟨b, o, none⟩) : Carry w F β σ w' (fun b o => F b o ∨ X b o) (extB β σ.length val) (killO σ kill ++ [⟨v, ob⟩]) := by
  refine ⟨fun b o h => ⟨.inl h, hf b o h⟩, by simp [killO_length], fun i hi => ⟨extB_old (by omega), ?_⟩⟩
  rw [getO_left (by rw [killO_length]; exact hi)]
  cases kill with
  | none => exact obLe.refl _
  | some k =>
    by_cases e : i = k
    · subst e; simp only [killO]; rw [getO_put hi]; cases getO σ i <;> trivial
    · simp only [killO]; rw [getO_put_ne e]; exact obLe.refl _

/-- a new object, perhaps in the place of another one -/
theorem Sim.repl (h : Sim gs G w F β σ) (kill : Option Nat) (val : Value) (ob : Ob) (X : Nat → Nat → Prop) (hk : ∀ i, kill = some i → i < σ.length)
    (hos : w'.os = w.os) (htape : w'.tape = w.tape) (hout : w'.output = w.output) (hsz : w.heap.size ≤ w'.heap.size)
    (hcell : ∀ b o, b < w.heap.size → (∀ i, kill = some i → ¬ Mut β i (getO σ i) b o) → w'.cell? ⟨b, o, none⟩ = w.cell? ⟨b, o, none⟩)
    (hblock : ∀ b, b < w.heap.size → (∀ i, kill = some i → ¬ Has β i (getO σ i) b) → w'.heap[b]? = w.heap[b]?)
    (hX : ∀ b o, X b o → b < w'.heap.size ∧ (w.heap.size ≤ b ∨ ∃ i, kill = some i ∧ Mut β i (getO σ i) b o)) (hX' : ∀ b o, Mut (extB β σ.length val) σ.length ob b o → ¬ X b o)
    (hob : ObjR gs G w' (fun b o => F b o ∨ X b o) (extB β σ.length val) (killO σ kill ++ [⟨0, ob⟩]) σ.length ob)
    (hval : ∀ b, Live ob → vblk val = some b → w.heap.size ≤ b ∨ ∃ i, kill = some i ∧ Has β i (getO σ i) b)
    (hmut : ∀ b o, Mut (extB β σ.length val) σ.length ob b o → w.heap.size ≤ b ∨ ∃ i, kill = some i ∧ Mut β i (getO σ i) b o) :
    Sim gs G w' (fun b o => F b o ∨ X b o) (extB β σ.length val) (killO σ kill ++ [⟨0, ob⟩]) ∧ Step w F β σ w' (fun b o => F b o ∨ X b o) (extB β σ.length val) (killO σ kill ++ [⟨0, ob⟩]) := by
  have hfc : ∀ b o, F b o → w'.cell? ⟨b, o, none⟩ = w.cell? ⟨b, o, none⟩ := fun b o hf => hcell b o (h.lt b o hf) fun i _ hm => h.dis i b o hm hf
  have hcar := repl_carry (σ := σ) (β := β) (kill := kill) (val := val) (ob := ob) (v := 0) (X := X) hfc
  -- what the new objects are
  have hold : ∀ i, i < σ.length → kill ≠ some i → getO (killO σ kill ++ [⟨0, ob⟩]) i = getO σ i := fun i hi hne => by
    rw [getO_left (by rw [killO_length]; exact hi)]
    cases kill with
    | none => rfl
    | some k => exact getO_put_ne (fun e => hne (by rw [e])) _
  have hdead : ∀ i, i < σ.length → kill = some i → getO (killO σ kill ++ [⟨0, ob⟩]) i = .dead := fun i hi he => by
    rw [getO_left (by rw [killO_length]; exact hi), he]
    exact getO_put hi _
  have hnew : getO (killO σ kill ++ [⟨0, ob⟩]) σ.length = ob := by
    have := getO_new (σ := killO σ kill) (v := 0) (o := ob)
    rwa [killO_length] at this
  have hbig : ∀ i, σ.length < i → getO (killO σ kill ++ [⟨0, ob⟩]) i = .dead := fun i hi => getO_ge (by simp [killO_length]; omega)
  have cases4 : ∀ (i : Nat), (i < σ.length ∧ kill ≠ some i) ∨ (i < σ.length ∧ kill = some i) ∨ i = σ.length ∨ σ.length < i := fun i => by
    rcases Nat.lt_trichotomy i σ.length with h1 | h1 | h1
    · by_cases e : kill = some i
      · exact .inr (.inl ⟨h1, e⟩)
      · exact .inl ⟨h1, e⟩
    · exact .inr (.inr (.inl h1))
    · exact .inr (.inr (.inr h1))
  have hasOld : ∀ i b, i < σ.length → (Has (extB β σ.length val) i (getO σ i) b ↔ Has β i (getO σ i) b) := fun i b hi => by unfold Has; rw [extB_old (by omega)]
  have mutOld : ∀ i b o, i < σ.length → (Mut (extB β σ.length val) i (getO σ i) b o ↔ Mut β i (getO σ i) b o) := fun i b o hi => by unfold Mut; rw [hasOld i b hi]
  have hasNew : ∀ i b, Has (extB β σ.length val) i (getO (killO σ kill ++ [⟨0, ob⟩]) i) b → (i < σ.length ∧ kill ≠ some i ∧ Has β i (getO σ i) b) ∨ (i = σ.length ∧ Live ob ∧ vblk val = some b) := fun i b hh => by
    rcases cases4 i with ⟨h1, h2⟩ | ⟨h1, h2⟩ | h1 | h1
    · rw [hold i h1 h2, hasOld i b h1] at hh; exact .inl ⟨h1, h2, hh⟩
    · rw [hdead i h1 h2] at hh; exact (no_has_dead hh).elim
    · subst h1; rw [hnew] at hh; refine .inr ⟨rfl, hh.1, ?_⟩; have := hh.2; rwa [extB_new] at this
    · rw [hbig i h1] at hh; exact (no_has_dead hh).elim
  have hs : Step w F β σ w' (fun b o => F b o ∨ X b o) (extB β σ.length val) (killO σ kill ++ [⟨0, ob⟩]) := by
    refine ⟨hos, htape, hout, hsz, fun b o hf => ⟨.inl hf, hfc b o hf⟩, fun b o hb hm => hcell b o hb fun i _ => hm i, fun b hb hm => hblock b hb fun i _ => hm i, fun b o hf => ?_, fun i b hh => ?_, fun i b o hh => ?_, by simp [killO_length], hcar.ext, fun i hi => ?_⟩
    · rcases hf with hf | hf
      · exact .inl hf
      · rcases (hX b o hf).2 with k | ⟨i, _, k⟩
        · exact .inr (.inl k)
        · exact .inr (.inr ⟨i, k⟩)
    · rcases hasNew i b hh with ⟨_, _, h3⟩ | ⟨_, h2, h3⟩
      · exact .inr ⟨i, h3⟩
      · rcases hval b h2 h3 with k | ⟨j, _, k⟩
        · exact .inl k
        · exact .inr ⟨j, k⟩
    · rcases cases4 i with ⟨h1, h2⟩ | ⟨h1, h2⟩ | h1 | h1
      · rw [hold i h1 h2, mutOld i b o h1] at hh; exact .inr ⟨i, hh⟩
      · rw [hdead i h1 h2] at hh; exact (no_has_dead hh.has).elim
      · subst h1; rw [hnew] at hh
        rcases hmut b o hh with k | ⟨j, _, k⟩
        · exact .inl k
        · exact .inr ⟨j, k⟩
      · rw [hbig i h1] at hh; exact (no_has_dead hh.has).elim
    · rw [verO_left (by rw [killO_length]; exact hi)]
      by_cases e : kill = some i
      · subst e
        simp only [killO]
        rw [verO_put hi]
        exact ⟨by omega, fun h => by omega⟩
      · have e1 : verO (killO σ kill) i = verO σ i := by
          cases kill with
          | none => rfl
          | some k => exact verO_put_ne (fun h => e (by rw [h])) _
        rw [e1]
        refine ⟨Nat.le_refl _, fun _ => ⟨hold i hi e, fun b hb => hblock b (h.has_lt hb) fun j hj hh => ?_⟩⟩
        exact h.sep i j b (fun e' => e (by rw [e']; exact hj)) hb hh
  refine ⟨⟨fun b o hf => ?_, h.glob_step hs, fun i => ?_, h.tab_step hs, fun i j b hij hi hj => ?_, fun i b o hm hf => ?_⟩, hs⟩
  · rcases hf with hf | hf
    · exact Nat.lt_of_lt_of_le (h.lt b o hf) hsz
    · exact (hX b o hf).1
  · rcases cases4 i with ⟨h1, h2⟩ | ⟨h1, h2⟩ | h1 | h1
    · rw [hold i h1 h2]
      cases hg : getO σ i with
      | dead => trivial
      | _ => exact hg ▸ (h.obj i).keep hcar (extB_old (by omega)) fun b hv => by
              have hh : Has β i (getO σ i) b := ⟨by rw [hg]; trivial, hv⟩
              exact hblock b (h.has_lt hh) fun j hj hh' => h.sep i j b (fun e' => h2 (by rw [e']; exact hj)) hh hh'
    · rw [hdead i h1 h2]; trivial
    · subst h1; rw [hnew]; exact hob
    · rw [hbig i h1]; trivial
  · rcases hasNew i b hi with ⟨i1, i2, i3⟩ | ⟨i1, i2, i3⟩ <;> rcases hasNew j b hj with ⟨j1, j2, j3⟩ | ⟨j1, j2, j3⟩
    · exact h.sep i j b hij i3 j3
    · rcases hval b j2 j3 with k | ⟨q, hq, k⟩
      · have := h.has_lt i3; omega
      · exact h.sep i q b (fun e => i2 (by rw [e]; exact hq)) i3 k
    · rcases hval b i2 i3 with k | ⟨q, hq, k⟩
      · have := h.has_lt j3; omega
      · exact h.sep j q b (fun e => j2 (by rw [e]; exact hq)) j3 k
    · omega
  · rcases hf with hf | hf
    · rcases hs.newM i b o hm with k | ⟨j, k⟩
      · have := h.lt b o hf; omega
      · exact h.dis j b o k hf
    · rcases cases4 i with ⟨h1, h2⟩ | ⟨h1, h2⟩ | h1 | h1
      · rw [hold i h1 h2, mutOld i b o h1] at hm
        rcases (hX b o hf).2 with k | ⟨j, hj, k⟩
        · have := h.has_lt hm.has; omega
        · exact h.sep i j b (fun e => h2 (by rw [e]; exact hj)) hm.has k.has
      · rw [hdead i h1 h2] at hm; exact no_has_dead hm.has
      · subst h1; rw [hnew] at hm; exact hX' b o hm hf
      · rw [hbig i h1] at hm; exact no_has_dead hm.has

/-- an object changed in its place, or made data -/
theorem Sim.setObj (h : Sim gs G w F β σ) (i : Nat) (ob' : Ob) (X : Nat → Nat → Prop) (hi : i < σ.length) (hle : obLe (getO σ i) ob')
    (hos : w'.os = w.os) (htape : w'.tape = w.tape) (hout : w'.output = w.output) (hsz : w.heap.size ≤ w'.heap.size)
    (hcell : ∀ b o, b < w.heap.size → ¬ Mut β i (getO σ i) b o → w'.cell? ⟨b, o, none⟩ = w.cell? ⟨b, o, none⟩)
    (hblock : ∀ b, b < w.heap.size → ¬ Has β i (getO σ i) b → w'.heap[b]? = w.heap[b]?)
    (hX : ∀ b o, X b o → Mut β i (getO σ i) b o) (hX' : ∀ b o, Mut β i ob' b o → ¬ X b o) (hm' : ∀ b o, Mut β i ob' b o → Mut β i (getO σ i) b o)
    (hob : ObjR gs G w' (fun b o => F b o ∨ X b o) β (putO σ i ob') i ob') :
    Sim gs G w' (fun b o => F b o ∨ X b o) β (putO σ i ob') ∧ Step w F β σ w' (fun b o => F b o ∨ X b o) β (putO σ i ob') := by
  have hfc : ∀ b o, F b o → w'.cell? ⟨b, o, none⟩ = w.cell? ⟨b, o, none⟩ := fun b o hf => hcell b o (h.lt b o hf) fun hm => h.dis i b o hm hf
  have hsame : ∀ j, j ≠ i → getO (putO σ i ob') j = getO σ j := fun j hj => getO_put_ne hj _
  have hhas : ∀ b, Has β i ob' b → Has β i (getO σ i) b := fun b hh => by
    refine ⟨?_, hh.2⟩
    cases hg : getO σ i <;> rw [hg] at hle <;> cases ob' <;> simp [obLe] at hle <;> first | trivial | exact hh.1
  have hcar : Carry w F β σ w' (fun b o => F b o ∨ X b o) β (putO σ i ob') := by
    refine ⟨fun b o hf => ⟨.inl hf, hfc b o hf⟩, by rw [putO_length]; exact Nat.le_refl _, fun j hj => ⟨rfl, ?_⟩⟩
    by_cases e : j = i
    · subst e; rw [getO_put hj]; exact hle
    · rw [hsame j e]; exact obLe.refl _
  have hs : Step w F β σ w' (fun b o => F b o ∨ X b o) β (putO σ i ob') := by
    refine ⟨hos, htape, hout, hsz, hcar.f, fun b o hb hm => hcell b o hb (hm i), fun b hb hm => hblock b hb (hm i), fun b o hf => ?_, fun j b hh => ?_, fun j b o hh => ?_, hcar.len, hcar.ext, fun j hj => ?_⟩
    · rcases hf with hf | hf
      · exact .inl hf
      · exact .inr (.inr ⟨i, hX b o hf⟩)
    · by_cases e : j = i
      · subst e; rw [getO_put hi] at hh; exact .inr ⟨j, hhas b hh⟩
      · rw [hsame j e] at hh; exact .inr ⟨j, hh⟩
    · by_cases e : j = i
      · subst e; rw [getO_put hi] at hh; exact .inr ⟨j, hm' b o hh⟩
      · rw [hsame j e] at hh; exact .inr ⟨j, hh⟩
    · by_cases e : j = i
      · subst e; rw [verO_put hi]; exact ⟨by omega, fun h => by omega⟩
      · rw [verO_put_ne e]
        exact ⟨Nat.le_refl _, fun _ => ⟨hsame j e, fun b hb => hblock b (h.has_lt hb) fun hh => h.sep j i b e hb hh⟩⟩
  refine ⟨⟨fun b o hf => ?_, h.glob_step hs, fun j => ?_, h.tab_step hs, fun j k b hjk hj hk => ?_, fun j b o hm hf => ?_⟩, hs⟩
  · rcases hf with hf | hf
    · exact Nat.lt_of_lt_of_le (h.lt b o hf) hsz
    · exact Nat.lt_of_lt_of_le (h.has_lt (hX b o hf).has) hsz
  · by_cases e : j = i
    · subst e; rw [getO_put hi]; exact hob
    · rw [hsame j e]
      cases hg : getO σ j with
      | dead => trivial
      | _ => exact hg ▸ (h.obj j).keep hcar rfl fun b hv => by
              have hh : Has β j (getO σ j) b := ⟨by rw [hg]; trivial, hv⟩
              exact hblock b (h.has_lt hh) fun hh' => h.sep j i b e hh hh'
  · have key : ∀ q, Has β q (getO (putO σ i ob') q) b → Has β q (getO σ q) b := fun q hq => by
      by_cases e : q = i
      · subst e; rw [getO_put hi] at hq; exact hhas b hq
      · rw [hsame q e] at hq; exact hq
    exact h.sep j k b hjk (key j hj) (key k hk)
  · by_cases e : j = i
    · subst e; rw [getO_put hi] at hm
      rcases hf with hf | hf
      · exact h.dis j b o (hm' b o hm) hf
      · exact hX' b o hm hf
    · rw [hsame j e] at hm
      rcases hf with hf | hf
      · exact h.dis j b o hm hf
      · exact h.sep j i b e hm.has (hX b o hf).has

end
end Go.Av
end

/- part AvE -/
section
namespace Go.Av
open Go.Vx Go.RowKit

section
variable {gs : List Nat} {G : Nat → Value} {w w' : World} {F F' : Nat → Nat → Prop} {β β' : Nat → Value} {σ σ' : Store} {v : Value}

/-! ### values, read back -/
theorem RV.int_inv {k : IntKind} {n : Int} (h : RV gs G w F β σ (.int k n) v) : v = .int k n := by cases h with | fz _ _ h => cases h; rfl
theorem RV.bool_inv {b : Bool} (h : RV gs G w F β σ (.bool b) v) : v = .bool b := by cases h with | fz _ _ h => cases h; rfl
theorem RV.str_inv {s : ByteArray} (h : RV gs G w F β σ (.str s) v) : v = .string s := by cases h with | fz _ _ h => cases h; rfl
theorem RV.nls_inv (h : RV gs G w F β σ .nls v) : v = .slice none 0 0 := by
  cases h with
  | fz _ _ h => cases h
  | nls => rfl
theorem RV.slc_inv {z : Nat} {l : List (List V)} (h : RV gs G w F β σ (.slc z l) v) : ∃ a, v = .slice a l.length l.length ∧ FV gs G w F (.sl z l) (.slice a l.length l.length) := by
  cases h with
  | fz _ _ h => cases h
  | slc _ _ a h => exact ⟨a, rfl, h⟩
theorem RV.yl_inv {n : Nat} (h : RV gs G w F β σ (.yl n) v) : v = .func (.yield n) #[] #[] := by
  cases h with
  | fz _ _ h => cases h
  | yl _ => rfl
theorem RV.undef_inv (h : RV gs G w F β σ .undef v) : v = Go.undef := by
  cases h with
  | fz _ _ h => cases h
  | undef => rfl
theorem RV.sl_inv {z : Nat} {l : List (List V)} (h : RV gs G w F β σ (.sl z l) v) : FV gs G w F (.sl z l) v := by cases h with | fz _ _ h => exact h
theorem RV.pt_inv {d : Option (List V)} (h : RV gs G w F β σ (.pt d) v) : FV gs G w F (.pt d) v := by cases h with | fz _ _ h => exact h
theorem RV.err_inv {e : Option Nat} (h : RV gs G w F β σ (.err e) v) : FV gs G w F (.err e) v := by cases h with | fz _ _ h => exact h
theorem RV.own_inv {i : Nat} (h : RV gs G w F β σ (.own i) v) : ∃ a n c, v = .slice a n c ∧ i < σ.length ∧ ∀ t z fz l, getO σ i = .lst t z fz l → β i = .slice a n c := by
  cases h with
  | fz _ _ h => cases h
  | own i a n c hi h => exact ⟨a, n, c, rfl, hi, h⟩
theorem RV.ptr_inv {i o : Nat} (h : RV gs G w F β σ (.ptr i o) v) : ∃ b o', v = .pointer (some ⟨b, o', none⟩) ∧ i < σ.length ∧ ∀ l, getO σ i = .box l → β i = .pointer (some ⟨b, 0, none⟩) ∧ o' = o := by
  cases h with
  | fz _ _ h => cases h
  | ptr i o b o' hi h => exact ⟨b, o', rfl, hi, h⟩
theorem RV.eptr_inv {i j o : Nat} (h : RV gs G w F β σ (.eptr i j o) v) : ∃ b o', v = .pointer (some ⟨b, o', none⟩) ∧ i < σ.length ∧ ∀ t z fz l, getO σ i = .lst t z fz l → (∃ n c, β i = .slice (some ⟨b, 0, none⟩) n c) ∧ o' = j * z + o := by
  cases h with
  | fz _ _ h => cases h
  | eptr i j o b o' hi h => exact ⟨b, o', rfl, hi, h⟩
theorem RV.gl_inv {g : Nat} (h : RV gs G w F β σ (.gl g) v) : v = .pointer (some ⟨g, 0, none⟩) := by
  cases h with
  | fz _ _ h => cases h
  | gl g => rfl
theorem RV.fn_inv {g : Nat} {f c : List V} (h : RV gs G w F β σ (.fn g f c) v) : ∃ vf vc : List Value, v = .func (.func g) vf.toArray vc.toArray ∧ Rl (RV gs G w F β σ) f vf ∧ Rl (RV gs G w F β σ) c vc := by
  cases h with
  | fz _ _ h => cases h
  | fn g f c vf vc hf h hc h' => exact ⟨vf, vc, rfl, ⟨hf, h⟩, ⟨hc, h'⟩⟩
theorem RV.agg_inv {l : List V} (h : RV gs G w F β σ (.agg l) v) : ∃ vs : List Value, v = .agg vs.toArray ∧ Rl (RV gs G w F β σ) l vs := by
  cases h with
  | fz _ _ h => cases h
  | agg l vs hl h => exact ⟨vs, rfl, hl, h⟩
theorem RV.tup_inv {l : List V} (h : RV gs G w F β σ (.tup l) v) : ∃ vs : List Value, v = .tuple vs.toArray ∧ Rl (RV gs G w F β σ) l vs := by
  cases h with
  | fz _ _ h => cases h
  | tup l vs hl h => exact ⟨vs, rfl, hl, h⟩
theorem RV.mk_agg {l : List V} {vs : List Value} (h : Rl (RV gs G w F β σ) l vs) : RV gs G w F β σ (.agg l) (.agg vs.toArray) := .agg l vs h.1 h.2
theorem RV.mk_tup {l : List V} {vs : List Value} (h : Rl (RV gs G w F β σ) l vs) : RV gs G w F β σ (.tup l) (.tuple vs.toArray) := .tup l vs h.1 h.2
theorem RV.mk_int (k : IntKind) (n : Int) : RV gs G w F β σ (.int k n) (.int k n) := .fz _ _ (.int k n)
theorem RV.mk_bool (b : Bool) : RV gs G w F β σ (.bool b) (.bool b) := .fz _ _ (.bool b)
theorem RV.mk_str (s : ByteArray) : RV gs G w F β σ (.str s) (.string s) := .fz _ _ (.str s)

theorem FV.one {u : V} (h : FV gs G w F u v) : v.oneCell' = true := by
  cases h <;> try rfl
  rename_i hg; rw [hg]; rfl
theorem RV.one {u : V} (h : RV gs G w F β σ u v) (hc : isCellV u = true) : v.oneCell' = true := by
  cases h with
  | fz _ _ h => exact h.one
  | agg => cases hc
  | tup => cases hc
  | undef => cases hc
  | junk => cases hc
  | _ => rfl
theorem cells_one (h : v.oneCell' = true) : v.cells.toList = [v] := by cases v <;> simp_all [Value.oneCell', Value.cells]
/-- a value's cells -/
theorem RV.cells {u : V} (h : RV gs G w F β σ u v) (hc : (cellsV u).all isCellV = true) : Rl (RV gs G w F β σ) (cellsV u) v.cells.toList ∧ ∀ x ∈ v.cells.toList, x.oneCell' = true := by
  by_cases ha : ∃ l, u = .agg l
  · obtain ⟨l, rfl⟩ := ha
    obtain ⟨vs, rfl, hr⟩ := h.agg_inv
    simp only [cellsV] at hc ⊢
    refine ⟨hr, fun x hx => ?_⟩
    obtain ⟨i, hi, rfl⟩ := List.getElem_of_mem hx
    simp only [Value.cells] at hi ⊢
    have hi' : i < l.length := by rw [hr.1]; exact hi
    exact (hr.2 i l[i] _ (List.getElem?_eq_getElem hi') (List.getElem?_eq_getElem hi)).one (List.all_eq_true.1 hc _ (List.getElem_mem hi'))
  · have e : cellsV u = [u] := by cases u <;> first | rfl | exact absurd ⟨_, rfl⟩ ha
    rw [e] at hc ⊢
    have h1 : isCellV u = true := by simpa using hc
    have h2 := h.one h1
    rw [cells_one h2]
    exact ⟨.cons h .nil, fun x hx => by rw [List.mem_singleton] at hx; subst hx; exact h2⟩

theorem ofCell_rel (v : Value) : RV gs G w F β σ (ofCell v) v := by
  cases v with
  | int k n => exact .mk_int k n
  | bool b => exact .mk_bool b
  | string s => exact .mk_str s
  | slice a n c =>
    cases a with
    | some a => exact .junk _
    | none =>
      cases n with
      | succ n => exact .junk _
      | zero =>
        cases c with
        | succ c => exact .junk _
        | zero => exact .nls
  | pointer a =>
    cases a with
    | some a => exact .junk _
    | none => exact .fz _ _ .ptn
  | map r =>
    cases r with
    | some r => exact .junk _
    | none => exact .nilm
  | nilFunc => exact .nilf
  | nilIface => exact .fz _ _ .errn
  | _ => exact .junk _
theorem ofCells_rel (l : List Value) : Rl (RV gs G w F β σ) (l.map ofCell) l := by
  induction l with
  | nil => exact .nil
  | cons v l ih => exact .cons (ofCell_rel v) ih
theorem ofVal_rel (v : Value) : RV gs G w F β σ (ofVal v) v := by
  by_cases ha : ∃ cs, v = .agg cs
  · obtain ⟨cs, rfl⟩ := ha
    have := RV.mk_agg (ofCells_rel (gs := gs) (G := G) (w := w) (F := F) (β := β) (σ := σ) cs.toList)
    simpa [ofVal] using this
  · have e : ofVal v = ofCell v := by cases v <;> first | rfl | exact absurd ⟨_, rfl⟩ ha
    rw [e]; exact ofCell_rel v

/-- slots -/
def RE (gs : List Nat) (G : Nat → Value) (w : World) (F : Nat → Nat → Prop) (β : Nat → Value) (σ : Store) (e : AEnv) (ρ : Env) : Prop := ∀ t, RV gs G w F β σ (e t) (ρ t)
theorem RE.ev {e : AEnv} {ρ : Env} (h : RE gs G w F β σ e ρ) (x : Operand) : RV gs G w F β σ (aev e x) (Vx.ev ρ x) := by
  cases x with
  | tmp t => exact h t
  | const v => exact ofVal_rel v
  | global g => exact .gl g
  | func f => exact .fn f [] [] [] [] rfl (fun i u v h => by simp at h) rfl (fun i u v h => by simp at h)
theorem RE.put {e : AEnv} {ρ : Env} (h : RE gs G w F β σ e ρ) (d : Option Nat) {u : V} {v : Value} (hv : RV gs G w F β σ u v) : RE gs G w F β σ (e.put d u) (ρ.put d v) := by
  cases d with
  | none => exact h
  | some d =>
    intro t
    simp only [AEnv.put, Env.put]
    cases Nat.beq t d
    · exact h t
    · exact hv
theorem RE.mono (hc : Carry w F β σ w' F' β' σ') {e : AEnv} {ρ : Env} (h : RE gs G w F β σ e ρ) : RE gs G w' F' β' σ' e ρ := fun t => (h t).mono hc

/-- what an operation comes to -/
def Out (gs : List Nat) (G : Nat → Value) (w : World) (F : Nat → Nat → Prop) (β : Nat → Value) (σ : Store) (K : V → Store → Prop) (v : Value) (w' : World) : Prop :=
  ∃ u F' β' σ', K u σ' ∧ RV gs G w' F' β' σ' u v ∧ Sim gs G w' F' β' σ' ∧ Step w F β σ w' F' β' σ'
theorem Out.same {K : V → Store → Prop} (hs : Sim gs G w F β σ) {u : V} (hk : K u σ) (hv : RV gs G w F β σ u v) : Out gs G w F β σ K v w := ⟨u, F, β, σ, hk, hv, hs, Step.refl _ _ _ _⟩

/-! ### numbers and texts -/
theorem intW_mono {op : BinOp} {k k' : IntKind} {a b : Int} {K K' : Value → Prop} (h : intW op k k' a b K) (hi : ∀ k n, K (.int k n) → K' (.int k n)) (hb : ∀ b, K (.bool b) → K' (.bool b)) : intW op k k' a b K' := by
  by_cases e : k = k'
  · subst e
    cases op <;> simp only [intW, intBin, ↓reduceIte] at h ⊢ <;> first | exact hi _ _ h | exact hb _ h | exact h.elim | exact ⟨h.1, hi _ _ h.2⟩ | exact ⟨trivial, h.2.1, hi _ _ h.2.2⟩
  · cases op <;> simp only [intW, intBin, if_neg e] at h ⊢ <;> first | exact h.elim | exact ⟨h.1, hi _ _ h.2⟩ | exact absurd h.1 e
theorem strBin_mono {op : BinOp} {a b : ByteArray} {K K' : Value → Prop} (h : strBin op a b K) (hi : ∀ s, K (.string s) → K' (.string s)) (hb : ∀ b, K (.bool b) → K' (.bool b)) : strBin op a b K' := by
  cases op <;> simp only [strBin] at h ⊢ <;> first | exact h.elim | exact ⟨h.1, hi _ h.2⟩ | exact hb _ h

theorem strEq_list (a b : ByteArray) : (a.toList == b.toList) = strEq a b := by
  have key : ∀ x : ByteArray, x.toList = x.data.toList := fun x => by
    exact ByteArray.toList_eq x
  rw [key, key, strEq]
  rw [Bool.eq_iff_iff]
  simp only [beq_iff_eq, decide_eq_true_eq]
  constructor
  · intro h
    cases a; cases b
    congr
    exact Array.ext' h
  · intro h; rw [h]

end
end Go.Av
end

/- part AvF -/
section
namespace Go.Av
open Go.Vx Go.RowKit

theorem and_elim {a b : Bool} (h : (a && b) = true) : a = true ∧ b = true := by simpa using h
theorem condF {b : Bool} {p : Prop} (h : cond b p False) : b = true ∧ p := cond_false_elim h
theorem isTk_elim {tys : Tys} {t : Nat} {p : TK → Bool} (h : isTk tys t p = true) : ∃ y, Vx.look tys t = some y ∧ p y.tk = true := by
  unfold isTk at h
  cases hl : Vx.look tys t with
  | none => rw [hl] at h; cases h
  | some y => rw [hl] at h; exact ⟨y, rfl, h⟩
theorem slElem_elim {ax : Ax} {t el : Nat} {ye : Ty} (h : slElem ax t = some (el, ye)) : ∃ y, Vx.look ax.tys t = some y ∧ y.tk = .sl el ∧ Vx.look ax.tys el = some ye := by
  unfold slElem at h
  cases hl : Vx.look ax.tys t with
  | none => rw [hl] at h; cases h
  | some y =>
    rw [hl] at h; dsimp only at h
    cases hk : y.tk <;> rw [hk] at h <;> dsimp only at h <;> try cases h
    rename_i el'
    cases hl' : Vx.look ax.tys el' with
    | none => rw [hl'] at h; cases h
    | some y' => rw [hl'] at h; cases h; exact ⟨y, rfl, hk, hl'⟩
theorem beq_elim {a b : Nat} (h : Nat.beq a b = true) : a = b := Nat.eq_of_beq_eq_true h
theorem ble_elim {a b : Nat} (h : Nat.ble a b = true) : a ≤ b := Nat.le_of_ble_eq_true h

section
variable {ax : Ax} {gs : List Nat} {G : Nat → Value} {w w' : World} {F F' : Nat → Nat → Prop} {β β' : Nat → Value} {σ σ' : Store} {v : Value}

theorem nilC_elim {yo : Operand} (h : isNilC yo = true) : yo = .const .nilIface := by
  unfold isNilC at h
  split at h
  · rfl
  · cases h
theorem nilPtr_elim {yo : Operand} (h : isNilPtr yo = true) : yo = .const (.pointer none) := by
  unfold isNilPtr at h
  split at h
  · rfl
  · cases h

theorem abin_pure {op : BinOp} {t : Nat} {yo : Operand} {x y : V} {xv yv : Value} {K : V → Prop} {K' : Value → Prop} (h : abin ax op t σ yo x y K) (hx : RV gs G w F β σ x xv) (hy : RV gs G w F β σ y yv) (hyo : ∀ u, yo = .const u → yv = u)
    (hs : Sim gs G w F β σ) (hK : ∀ u v, K u → RV gs G w F β σ u v → K' v) : binP ax.tys op t yo xv yv K' := by
  have notNil : yv ≠ .nilIface → isNilC yo = false := fun hne => by
    cases hc : isNilC yo with
    | false => rfl
    | true => exact absurd (hyo _ (nilC_elim hc)) hne
  unfold abin at h
  unfold binP
  cases x with
  | int k a =>
    cases y <;> dsimp only at h <;> try exact h.elim
    rw [hx.int_inv]
    have e := hy.int_inv
    rw [notNil (by rw [e]; exact fun h => by cases h), e]
    exact intW_mono h (fun k n hk => hK _ _ hk (.mk_int k n)) (fun b hk => hK _ _ hk (.mk_bool b))
  | str a =>
    cases y <;> dsimp only at h <;> try exact h.elim
    rename_i b
    rw [hx.str_inv]
    have e := hy.str_inv
    rw [notNil (by rw [e]; exact fun h => by cases h), e]
    show strBin op a b K'
    cases op with
    | eql => simp only [strBin]; rw [strEq_list]; exact hK _ _ h (.mk_bool _)
    | neq => simp only [strBin]; rw [strEq_list]; exact hK _ _ h (.mk_bool _)
    | _ => exact strBin_mono h (fun s hk => hK _ _ hk (.mk_str s)) (fun b hk => hK _ _ hk (.mk_bool b))
  | bool a =>
    cases y <;> dsimp only at h <;> try exact h.elim
    rename_i b
    obtain ⟨h1, h2⟩ := condF h
    obtain ⟨h3, h4⟩ := and_elim h1
    obtain ⟨ty, h5, h6⟩ := isTk_elim h4
    rw [hx.bool_inv]
    have e := hy.bool_inv
    rw [notNil (by rw [e]; exact fun h => by cases h), e]
    show cond (isEq op) (match Vx.look ax.tys t with | some ⟨.bool, _, _, _, _⟩ => K' (.bool (Vx.flip op (a == b))) | _ => False) False
    rw [h3, h5]
    obtain ⟨tk, _, _, _, _⟩ := ty
    cases tk <;> simp only [TK.isBool] at h6 <;> try cases h6
    exact hK _ _ h2 (.mk_bool _)
  | pt d =>
    cases y <;> dsimp only at h <;> try exact h.elim
    rename_i d'
    cases d' <;> dsimp only at h <;> try exact h.elim
    obtain ⟨h1, h2⟩ := condF h
    obtain ⟨h1, h0⟩ := and_elim h1
    obtain ⟨h3, h4⟩ := and_elim h1
    obtain ⟨ty, h5, h6⟩ := isTk_elim h4
    have e := hyo _ (nilPtr_elim h0)
    rw [notNil (by rw [e]; exact fun h => by cases h), e]
    have key : ∀ a : Option Addr, xv = .pointer a → a.isNone = d.isNone → binV ax.tys op t xv (.pointer none) K' := by
      rintro a rfl hn
      show cond (isEq op) (match Vx.look ax.tys t with | some ⟨.ptr _, _, _, _, _⟩ => K' (.bool (Vx.flip op a.isNone)) | _ => False) False
      rw [h3, h5, hn]
      obtain ⟨tk, _, _, _, _⟩ := ty
      cases tk <;> simp only [TK.isPtr] at h6 <;> try cases h6
      exact hK _ _ h2 (.mk_bool _)
    have hp := hx.pt_inv
    cases hp with
    | ptn => exact key _ rfl rfl
    | pts cs b o val _ _ => exact key _ rfl rfl
  | ptr i o =>
    cases y <;> dsimp only at h <;> try exact h.elim
    rename_i d'
    cases d' <;> dsimp only at h <;> try exact h.elim
    obtain ⟨h1, h2⟩ := condF h
    obtain ⟨h1, h0⟩ := and_elim h1
    obtain ⟨h3, h4⟩ := and_elim h1
    obtain ⟨ty, h5, h6⟩ := isTk_elim h4
    have e := hyo _ (nilPtr_elim h0)
    rw [notNil (by rw [e]; exact fun h => by cases h), e]
    obtain ⟨b, o', rfl, _⟩ := hx.ptr_inv
    show cond (isEq op) (match Vx.look ax.tys t with | some ⟨.ptr _, _, _, _, _⟩ => K' (.bool (Vx.flip op false)) | _ => False) False
    rw [h3, h5]
    obtain ⟨tk, _, _, _, _⟩ := ty
    cases tk <;> simp only [TK.isPtr] at h6 <;> try cases h6
    exact hK _ _ h2 (.mk_bool _)
  | sl z l =>
    cases y <;> dsimp only at h <;> try exact h.elim
    obtain ⟨h1, h2⟩ := condF h
    obtain ⟨h3, h4⟩ := and_elim h1
    obtain ⟨ty, h5, h6⟩ := isTk_elim h4
    have e := hy.nls_inv
    rw [notNil (by rw [e]; exact fun h => by cases h), e]
    have hl := hx.sl_inv
    cases hl with
    | sl _ _ a c val k1 k2 kz kc kv =>
      show cond (isEq op) (match Vx.look ax.tys t with | some ⟨.sl _, _, _, _, _⟩ => K' (.bool (Vx.flip op a.isNone)) | _ => False) False
      rw [h3, h5]
      obtain ⟨tk, _, _, _, _⟩ := ty
      cases tk <;> simp only [TK.isSl] at h6 <;> try cases h6
      refine hK _ _ (h2 a.isNone fun hn => ?_) (.mk_bool _)
      cases l with
      | nil => rfl
      | cons r l => obtain ⟨b, o, ea, _⟩ := kc (by simp); rw [ea] at hn; cases hn
  | nls =>
    cases y <;> dsimp only at h <;> try exact h.elim
    obtain ⟨h1, h2⟩ := condF h
    obtain ⟨h3, h4⟩ := and_elim h1
    obtain ⟨ty, h5, h6⟩ := isTk_elim h4
    have e := hy.nls_inv
    rw [notNil (by rw [e]; exact fun h => by cases h), e, hx.nls_inv]
    show cond (isEq op) (match Vx.look ax.tys t with | some ⟨.sl _, _, _, _, _⟩ => K' (.bool (Vx.flip op true)) | _ => False) False
    rw [h3, h5]
    obtain ⟨tk, _, _, _, _⟩ := ty
    cases tk <;> simp only [TK.isSl] at h6 <;> try cases h6
    exact hK _ _ h2 (.mk_bool _)
  | own i =>
    cases y <;> dsimp only at h <;> try exact h.elim
    cases hg : getO σ i <;> rw [hg] at h <;> dsimp only at h <;> try exact h.elim
    rename_i ot z fz l
    obtain ⟨h1, h2⟩ := condF h
    obtain ⟨h3, h4⟩ := and_elim h1
    obtain ⟨ty, h5, h6⟩ := isTk_elim h4
    have e := hy.nls_inv
    rw [notNil (by rw [e]; exact fun h => by cases h), e]
    obtain ⟨a, n, c, rfl, hi, hb⟩ := hx.own_inv
    show cond (isEq op) (match Vx.look ax.tys t with | some ⟨.sl _, _, _, _, _⟩ => K' (.bool (Vx.flip op a.isNone)) | _ => False) False
    rw [h3, h5]
    obtain ⟨tk, _, _, _, _⟩ := ty
    cases tk <;> simp only [TK.isSl] at h6 <;> try cases h6
    refine hK _ _ (h2 a.isNone fun hn => ?_) (.mk_bool _)
    have ho := hs.obj i
    rw [hg] at ho
    obtain ⟨xs, how, _⟩ := ho.lst_own (hb _ _ _ _ hg)
    rw [hb _ _ _ _ hg] at how
    obtain ⟨_, ⟨_, e0⟩ | ⟨g, cap, cur, e0, _⟩⟩ := how
    · exact List.eq_nil_of_length_eq_zero e0
    · simp only [Value.slice.injEq] at e0; rw [e0.1] at hn; cases hn
  | err a =>
    cases y <;> dsimp only at h <;> try exact h.elim
    obtain ⟨h1, h2⟩ := condF h
    obtain ⟨h1, h0⟩ := and_elim h1
    obtain ⟨h3, h4⟩ := and_elim h1
    obtain ⟨ty, h5, h6⟩ := isTk_elim h4
    rw [h0, nilC_elim h0]
    show cond (isEq op) (match Vx.look ax.tys t with | some ⟨.iface, _, _, _, _⟩ => ∃ r, IsNil xv r ∧ K' (.bool (Vx.flip op r)) | _ => False) False
    rw [h3, h5]
    obtain ⟨tk, _, _, _, _⟩ := ty
    cases tk <;> simp only [TK.isIface] at h6 <;> try cases h6
    refine ⟨a.isNone, ?_, hK _ _ h2 (.mk_bool _)⟩
    have he := hx.err_inv
    cases he with
    | errn => exact .inl ⟨rfl, rfl⟩
    | errs g hg t x e => exact .inr ⟨t, x, e, rfl⟩
  | _ => exact h.elim

/-- a part of a slice -/
theorem FV.cut {z : Nat} {l : List (List V)} {a : Option Addr} {n c : Nat} (h : FV gs G w F (.sl z l) (.slice a n c)) (p q c' : Nat) (hpq : p ≤ q) (hq : q ≤ l.length) (hc : q - p ≤ c') (hc' : c' ≤ maxLen) (a' : Option Addr) (ha : q ≠ p → a' = a.map (·.add (p * z))) :
    FV gs G w F (.sl z ((l.drop p).take (q - p))) (.slice a' (q - p) c') := by
  cases h with
  | sl _ _ _ _ val k1 k2 kz kc kv =>
    have hl : ((l.drop p).take (q - p)).length = q - p := by simp; omega
    have get : ∀ i e, ((l.drop p).take (q - p))[i]? = some e → l[p + i]? = some e := fun i e hi => by
      rw [List.getElem?_take] at hi
      split at hi
      · rwa [List.getElem?_drop] at hi
      · cases hi
    have := FV.sl (gs := gs) (G := G) (w := w) (F := F) z ((l.drop p).take (q - p)) a' c' (fun i j => val (p + i) j) (by rw [hl]; exact hc) hc' (fun e he => kz e (List.mem_of_mem_drop (List.mem_of_mem_take he))) (fun hne => ?_) (fun i e j u hi hj => kv (p + i) e j u (get i e hi) hj)
    · rw [hl] at this; exact this
    · have hne' : l ≠ [] := fun e => hne (by rw [e]; simp)
      have hpq' : q ≠ p := fun e => hne (by rw [e]; simp)
      obtain ⟨b, o, e, hcell⟩ := kc hne'
      refine ⟨b, o + p * z, by rw [ha hpq', e]; simp [add_none], fun i e' j u hi hj => ?_⟩
      obtain ⟨g1, g2⟩ := hcell (p + i) e' j u (get i e' hi) hj
      have hoff : o + p * z + (i * z + j) = o + ((p + i) * z + j) := by rw [Nat.add_mul]; omega
      rw [hoff]; exact ⟨g1, g2⟩

theorem cutW_run {tys : Tys} {t el : Nat} {y ye : Ty} {l : List (List V)} {a : Option Addr} {n c : Nat} {lo hi mx : Option V} {lov hiv mxv : Option Value} {K : List (List V) → Prop} {K' : Value → Prop} (h : cutW l lo hi mx K)
    (hy : Vx.look tys t = some y) (ht : y.tk = .sl el) (hye : Vx.look tys el = some ye) (hn : n = l.length) (hnc : n ≤ c) (hcm : c ≤ maxLen)
    (hlo : ∀ k i, lo = some (.int k i) → lov = some (.int k i)) (hlo' : lo = none → lov = none) (hhi : ∀ k i, hi = some (.int k i) → hiv = some (.int k i)) (hhi' : hi = none → hiv = none) (hmx : ∀ k i, mx = some (.int k i) → mxv = some (.int k i)) (hmx' : mx = none → mxv = none)
    (hK : ∀ p q c' a', p ≤ q → q ≤ l.length → q - p ≤ c' → c' ≤ maxLen → (q ≠ p → a' = a.map (·.add (p * ye.size))) → K ((l.drop p).take (q - p)) → K' (.slice a' (q - p) c')) : sliceW tys t (.slice a n c) lov hiv mxv K' := by
  subst hn
  obtain ⟨tk, s1, s2, s3, s4⟩ := y
  simp only at ht
  subst ht
  have cut0 : ∀ m : Nat, cutA a 0 m ye.size = a := fun m => by
    unfold cutA; split
    · rfl
    · cases a <;> simp [Addr.add]
  have cutp : ∀ p q m : Nat, q ≤ m → q ≠ p → p ≤ q → cutA a p m ye.size = a.map (·.add (p * ye.size)) := fun p q m h1 h2 h3 => by unfold cutA; rw [if_neg (by omega)]
  unfold cutW at h
  unfold sliceW
  rw [hy]
  dsimp only
  rw [hye]
  dsimp only
  cases mx with
  | none =>
    rw [hmx' rfl]
    dsimp only at h ⊢
    cases hi with
    | none =>
      rw [hhi' rfl]
      dsimp only at h ⊢
      cases lo with
      | none =>
        rw [hlo' rfl]
        dsimp only at h ⊢
        have := hK 0 l.length c (cutA a 0 c ye.size) (Nat.zero_le _) (Nat.le_refl _) (by omega) hcm (fun _ => by rw [cut0, Nat.zero_mul]; cases a <;> simp [Addr.add]) (by simpa using h)
        simpa using this
      | some u =>
        cases u <;> dsimp only at h <;> try exact h.elim
        rename_i k i
        rw [hlo k i rfl]
        dsimp only
        obtain ⟨h0, h1, h2⟩ := h
        refine ⟨h0, h1, ?_⟩
        have e : (l.drop i.toNat).take (l.length - i.toNat) = l.drop i.toNat := List.take_of_length_le (by simp)
        exact hK i.toNat l.length (c - i.toNat) _ (by omega) (Nat.le_refl _) (by omega) (by omega) (fun hne => cutp _ l.length c hnc hne (by omega)) (by rw [e]; exact h2)
    | some u =>
      cases u <;> dsimp only at h <;> try exact h.elim
      rename_i k b
      rw [hhi k b rfl]
      dsimp only
      cases lo with
      | none =>
        rw [hlo' rfl]
        dsimp only at h ⊢
        obtain ⟨h0, h1, h2⟩ := h
        refine ⟨h0, by omega, ?_⟩
        have := hK 0 b.toNat c (cutA a 0 c ye.size) (Nat.zero_le _) (by omega) (by omega) hcm (fun _ => by rw [cut0, Nat.zero_mul]; cases a <;> simp [Addr.add]) (by simpa using h2)
        simpa using this
      | some u =>
        cases u <;> dsimp only at h <;> try exact h.elim
        rename_i k i
        rw [hlo k i rfl]
        dsimp only
        obtain ⟨h0, h1, h2, h3⟩ := h
        exact ⟨h0, h1, by omega, hK i.toNat b.toNat (c - i.toNat) _ (by omega) (by omega) (by omega) (by omega) (fun hne => cutp _ b.toNat c (by omega) hne (by omega)) h3⟩
  | some u =>
    cases u <;> dsimp only at h <;> try exact h.elim
    rename_i k m
    rw [hmx k m rfl]
    dsimp only
    cases hi with
    | none => exact h.elim
    | some u =>
      cases u <;> dsimp only at h <;> try exact h.elim
      rename_i k b
      rw [hhi k b rfl]
      dsimp only
      cases lo with
      | none =>
        rw [hlo' rfl]
        dsimp only at h ⊢
        obtain ⟨h0, h1, h2, h3⟩ := h
        refine ⟨h0, h1, by omega, ?_⟩
        have := hK 0 b.toNat m.toNat (cutA a 0 m.toNat ye.size) (Nat.zero_le _) (by omega) (by omega) (by omega) (fun _ => by rw [cut0, Nat.zero_mul]; cases a <;> simp [Addr.add]) (by simpa using h3)
        simpa using this
      | some u =>
        cases u <;> dsimp only at h <;> try exact h.elim
        rename_i k i
        rw [hlo k i rfl]
        dsimp only
        obtain ⟨h0, h1, h2, h3, h4⟩ := h
        exact ⟨h0, h1, h2, by omega, hK i.toNat b.toNat (m.toNat - i.toNat) _ (by omega) (by omega) (by omega) (by omega) (fun hne => cutp _ b.toNat m.toNat (by omega) hne (by omega)) h4⟩

theorem cut1_run {tys : Tys} {t el : Nat} {y ye : Ty} {l : List (List V)} {a : Option Addr} {n c : Nat} {lo hi mx : Option V} {lov hiv mxv : Option Value} {K : List (List V) → Prop} {K' : Value → Prop} (h : cut1 l lo hi mx K)
    (hy : Vx.look tys t = some y) (ht : y.tk = .sl el) (hye : Vx.look tys el = some ye) (hn : n = l.length) (hnc : n ≤ c)
    (hlo' : lo = none → lov = none) (hhi : ∀ k i, hi = some (.int k i) → hiv = some (.int k i)) (hmx : ∀ k i, mx = some (.int k i) → mxv = some (.int k i))
    (hK : ∀ q : Nat, q ≤ l.length → K (l.take q) → K' (.slice a q q)) : sliceW tys t (.slice a n c) lov hiv mxv K' := by
  subst hn
  obtain ⟨tk, s1, s2, s3, s4⟩ := y
  simp only at ht
  subst ht
  have cut0 : ∀ m : Nat, cutA a 0 m ye.size = a := fun m => by
    unfold cutA; split
    · rfl
    · cases a <;> simp [Addr.add]
  unfold cut1 at h
  unfold sliceW
  rw [hy]
  dsimp only
  rw [hye]
  dsimp only
  cases mx with
  | none => exact h.elim
  | some u =>
    cases u <;> dsimp only at h <;> try exact h.elim
    rename_i k m
    rw [hmx k m rfl]
    dsimp only
    cases hi with
    | none => exact h.elim
    | some u =>
      cases u <;> dsimp only at h <;> try exact h.elim
      rename_i k b
      rw [hhi k b rfl]
      dsimp only
      cases lo with
      | none =>
        rw [hlo' rfl]
        dsimp only at h ⊢
        obtain ⟨rfl, h0, h1, h3⟩ := h
        refine ⟨h0, Int.le_refl _, by omega, ?_⟩
        have := hK b.toNat (by omega) h3
        simpa [cut0] using this
      | some u => exact h.elim

end
end Go.Av
end

/- part AvG -/
section
namespace Go.Av
open Go.Vx Go.RowKit

theorem flatten_len {z : Nat} : ∀ {l : List (List V)}, (∀ r ∈ l, r.length = z) → l.flatten.length = l.length * z
  | [], _ => by simp
  | r :: l, h => by
    have := flatten_len (l := l) fun x hx => h x (List.mem_cons_of_mem _ hx)
    rw [List.flatten_cons, List.length_append, this, h r List.mem_cons_self, List.length_cons, Nat.add_mul]; omega
theorem flatten_get {z : Nat} : ∀ {l : List (List V)}, (∀ r ∈ l, r.length = z) → ∀ {i : Nat} {e : List V} {j : Nat} {u : V}, l[i]? = some e → e[j]? = some u → l.flatten[i * z + j]? = some u
  | [], _, i, e, j, u, hi, _ => by simp at hi
  | r :: l, h, i, e, j, u, hi, hj => by
    have hr := h r List.mem_cons_self
    cases i with
    | zero =>
      simp at hi; subst hi
      rw [List.flatten_cons, Nat.zero_mul, Nat.zero_add, List.getElem?_append_left (List.getElem?_eq_some_iff.1 hj).1]; exact hj
    | succ i =>
      have := flatten_get (l := l) (fun x hx => h x (List.mem_cons_of_mem _ hx)) (i := i) (by simpa using hi) hj
      rw [List.flatten_cons, List.getElem?_append_right (by rw [hr, Nat.add_mul]; omega), hr, show (i + 1) * z + j - z = i * z + j by rw [Nat.add_mul]; omega]
      exact this
theorem flatten_get_inv {z : Nat} (hz : 0 < z) {l : List (List V)} (h : ∀ r ∈ l, r.length = z) {k : Nat} (hk : k < l.length * z) : ∃ e u, l[k / z]? = some e ∧ e[k % z]? = some u ∧ l.flatten[k]? = some u := by
  have hi : k / z < l.length := by rw [Nat.div_lt_iff_lt_mul hz]; exact hk
  have hj : k % z < l[k / z].length := by rw [h _ (List.getElem_mem hi)]; exact Nat.mod_lt _ hz
  refine ⟨l[k / z], l[k / z][k % z], List.getElem?_eq_getElem hi, List.getElem?_eq_getElem hj, ?_⟩
  have := flatten_get h (List.getElem?_eq_getElem hi) (List.getElem?_eq_getElem hj)
  rwa [Nat.div_add_mod' k z] at this

section
variable {ax : Ax} {gs : List Nat} {G : Nat → Value} {w w' : World} {F F' : Nat → Nat → Prop} {β β' : Nat → Value} {σ σ' : Store} {v : Value}

/-- a list of one's own whose cells are all data, read as data -/
theorem own_data {t z : Nat} {l : List (List V)} {bv : Value} {xs : List Value} (ho : w.ownsRow 0 t z bv l.length xs) (hx : Rl (FV gs G w F) l.flatten xs) (hz : ∀ r ∈ l, r.length = z) (_hz0 : 0 < z)
    (hF : ∀ b, vblk bv = some b → ∀ o, o < l.length * z → F b o) : FV gs G w F (.sl z l) bv := by
  obtain ⟨hl, ⟨rfl, h0⟩ | ⟨g, cap, cur, rfl, _, hh, h1, h2, h3, h4⟩⟩ := ho
  · have e : l = [] := List.eq_nil_of_length_eq_zero h0
    subst e
    exact .sl z [] none 0 (fun _ _ => .nilIface) (Nat.le_refl _) (by simp [maxLen]) hz (fun h => absurd rfl h) (fun i e j u h => by simp at h)
  · refine .sl z l _ cap (fun i j => xs.getD (i * z + j) .nilIface) h1 h2 hz (fun hne => ⟨g, 0, rfl, fun i e j u hi hj => ?_⟩) (fun i e j u hi hj => ?_)
    · have hf := flatten_get hz hi hj
      obtain ⟨y, hy, _⟩ := hx.get hf
      have hlt : i * z + j < l.length * z := by
        have := (List.getElem?_eq_some_iff.1 hf).1
        rwa [flatten_len hz] at this
      rw [Nat.zero_add]
      refine ⟨?_, hF g rfl _ hlt⟩
      rw [← h4, List.getElem?_take, if_pos hlt] at hy
      rw [cell_of_block hh hy]
      rw [List.getD_eq_getElem?_getD, ← h4, List.getElem?_take, if_pos hlt, hy]; rfl
    · have hf := flatten_get hz hi hj
      obtain ⟨y, hy, hr⟩ := hx.get hf
      simp only [List.getD_eq_getElem?_getD, hy]; exact hr

/-- a list of one's own is data from here on -/
theorem Sim.freeze (h : Sim gs G w F β σ) {i t z : Nat} {fz : Bool} {l : List (List V)} (hg : getO σ i = .lst t z fz l) (hz : 0 < z) :
    ∃ F', Sim gs G w F' β (cond fz σ (putO σ i (.lst t z true l))) ∧ Step w F β σ w F' β (cond fz σ (putO σ i (.lst t z true l))) ∧ FV gs G w F' (.sl z l) (β i) := by
  have ho := h.obj i
  rw [hg] at ho
  obtain ⟨xs, h1, h2, h3, h4, h5⟩ := ho.lst_pos hz
  have hi : i < σ.length := getO_lt (by rw [hg]; exact fun h => by cases h)
  cases fz with
  | true => exact ⟨F, h, Step.refl _ _ _ _, own_data h1 h2 h3 h4 fun b hb o ho => h5 rfl b hb o ho⟩
  | false =>
    have key := h.setObj (w' := w) i (.lst t z true l) (fun b o => vblk (β i) = some b ∧ o < l.length * z) hi (by rw [hg]; exact ⟨rfl, rfl⟩) rfl rfl rfl (Nat.le_refl _) (fun _ _ _ _ => rfl) (fun _ _ _ => rfl)
      (fun b o hx => by rw [hg]; exact ⟨⟨trivial, hx.1⟩, trivial⟩) (fun b o hm hx => by have := hm.2; simp only at this; omega) (fun b o hm => by rw [hg]; exact ⟨⟨trivial, hm.1.2⟩, trivial⟩)
      (.inr ⟨xs, h1, h2.mono fun u v hv => hv.mono fun b o hf => ⟨.inl hf, rfl⟩, h3, h4, fun _ b hb o ho => .inr ⟨hb, ho⟩⟩)
    exact ⟨_, key.1, key.2, own_data h1 (h2.mono fun u v hv => hv.mono fun b o hf => ⟨.inl hf, rfl⟩) h3 h4 fun b hb o ho => .inr ⟨hb, ho⟩⟩

theorem mapI_elim {ax : Ax} (hT : AllOk ax.P ax.tys) {t vt : Nat} (h : mapI ax t = some vt) : ∃ kt, ax.P.underlying t = some (.map kt vt) ∧ ax.P.underlying kt = some (.int .i64) := by
  unfold mapI at h
  split at h
  · rename_i y hy
    split at h
    · rename_i kt vt' hk
      split at h
      · rename_i yk hyk
        split at h
        · rename_i hki
          cases h
          have o1 := (ok_of_look hT hy).tk
          rw [hk] at o1
          have o2 := (ok_of_look hT hyk).tk
          rw [hki] at o2
          exact ⟨kt, o1, o2⟩
        · cases h
      · cases h
    · cases h
  · cases h
theorem mapS_elim {ax : Ax} (hT : AllOk ax.P ax.tys) {t vt : Nat} (h : mapS ax t = some vt) : ∃ kt, ax.P.underlying t = some (.map kt vt) ∧ ax.P.underlying kt = some .string := by
  unfold mapS at h
  split at h
  · rename_i y hy
    split at h
    · rename_i kt vt' hk
      split at h
      · rename_i yk hyk
        split at h
        · rename_i hki
          cases h
          have o1 := (ok_of_look hT hy).tk
          rw [hk] at o1
          have o2 := (ok_of_look hT hyk).tk
          rw [hki] at o2
          exact ⟨kt, o1, o2⟩
        · cases h
      · cases h
    · cases h
  · cases h
theorem lookTy_elim {ax : Ax} {vt : Nat} {k : IntKind} (h : lookTy ax vt = some k) : ∃ a b c, Vx.look ax.tys vt = some ⟨.int k, a, b, c, [.int k]⟩ := by
  unfold lookTy at h
  split at h
  · rename_i k1 a b c k2 e
    cases hd : decide (k1 = k2) with
    | false => rw [hd] at h; cases h
    | true =>
      rw [hd] at h; cases h
      have := of_decide_eq_true hd
      subst this
      exact ⟨a, b, c, e⟩
  · cases h
theorem lookRes_elim {tys : Tys} {ty vt : Nat} (h : lookRes tys ty vt true = true) : ∃ b b2 b3 b4 c1 c2 c3 c4, Vx.look tys ty = some ⟨.tuple [vt, b], b2, b3, b4, c1⟩ ∧ Vx.look tys b = some ⟨.bool, c2, c3, c4, [.bool]⟩ := by
  unfold lookRes at h
  rw [cond_true] at h
  split at h
  · rename_i a b b2 b3 b4 c1 e
    obtain ⟨h1, h2⟩ := and_elim h
    have := beq_elim h1
    subst this
    split at h2
    · rename_i c2 c3 c4 e2
      exact ⟨b, b2, b3, b4, c1, c2, c3, c4, e, e2⟩
    · cases h2
  · cases h
theorem dat_fv {u : V} (h : isDatV u = true) {x : Value} (hv : RV gs G w F β σ u x) : FV gs G w F u x := by
  cases u <;> simp only [isDatV] at h <;> try cases h
  all_goals (cases hv with | fz _ _ h => exact h)
theorem fva_of {u : V} (h : isDatA u = true) {x : Value} (hv : RV gs G w F β σ u x) : FVA gs G w F u x := by
  cases u
  case agg us =>
    cases hv with
    | fz _ _ h => cases h
    | agg _ vs hl hr =>
      refine .inr ⟨us, vs, rfl, rfl, hl, fun i a b ha hb => dat_fv ?_ (hr i a b ha hb)⟩
      exact List.all_eq_true.1 h a (List.mem_of_getElem? ha)
  all_goals exact .inl (dat_fv (by simpa [isDatA] using h) hv)
theorem map_inv {i : Nat} {v : Value} (h : RV gs G w F β σ (.map i) v) : ∃ b, v = .map (some b) ∧ i < σ.length ∧ ∀ t z fz l, getO σ i = .lst t z fz l → β i = .map (some b) := by
  cases h with
  | fz _ _ h => cases h
  | map _ b hi h => exact ⟨b, rfl, hi, h⟩
theorem is_data {a : As} {u : V} (h : a.is u = true) {x : Value} (hv : RV gs G w F β σ u x) : FV gs G w F u x := by
  cases a <;> cases u <;> simp only [As.is] at h <;> try cases h
  all_goals (cases hv with | fz _ _ h => exact h)

theorem co_run (hs : Sim gs G w F β σ) {a : As} {u u' : V} (h : co σ a u = some (u', σ')) {x : Value} (hv : RV gs G w F β σ u x) :
    ∃ F', Sim gs G w F' β σ' ∧ Step w F β σ w F' β σ' ∧ FV gs G w F' u' x ∧ a.is u' = true := by
  have gen : cond (a.is u) (some (u, σ)) none = some (u', σ') → ∃ F', Sim gs G w F' β σ' ∧ Step w F β σ w F' β σ' ∧ FV gs G w F' u' x ∧ a.is u' = true := fun h => by
    cases hi : a.is u with
    | false => rw [hi] at h; cases h
    | true => rw [hi] at h; cases h; exact ⟨F, hs, Step.refl _ _ _ _, is_data hi hv, hi⟩
  cases a with
  | sl z =>
    cases u with
    | nls =>
      simp only [co] at h
      cases h
      refine ⟨F, hs, Step.refl _ _ _ _, ?_, by simp [As.is]⟩
      rw [hv.nls_inv]
      exact .sl z [] none 0 (fun _ _ => .nilIface) (Nat.le_refl _) (by simp [maxLen]) (fun e he => by cases he) (fun h => absurd rfl h) (fun i e j u h => by simp at h)
    | own i =>
      simp only [co] at h
      cases hg : getO σ i <;> rw [hg] at h <;> dsimp only at h <;> try cases h
      rename_i t z' fz l
      cases hz : Nat.beq z z' with
      | false => rw [hz] at h; cases h
      | true =>
        rw [hz] at h
        have e := beq_elim hz
        subst e
        cases h
        obtain ⟨a, n, c, rfl, hi, hb⟩ := hv.own_inv
        have ho := hs.obj i
        rw [hg] at ho
        obtain ⟨_, _, _, _, hz0, _⟩ := ho.lst_own (hb _ _ _ _ hg)
        obtain ⟨F', k1, k2, k3⟩ := hs.freeze hg hz0
        rw [hb _ _ _ _ hg] at k3
        exact ⟨F', k1, k2, k3, by simp [As.is]⟩
    | _ => exact gen h
  | _ => cases u <;> exact gen h

theorem coL_run : ∀ {as : List As} {us us' : List V} {xs : List Value} {F : Nat → Nat → Prop} {σ σ' : Store}, Sim gs G w F β σ → coL σ as us = some (us', σ') → Rl (RV gs G w F β σ) us xs →
    ∃ F', Sim gs G w F' β σ' ∧ Step w F β σ w F' β σ' ∧ Rl (FV gs G w F') us' xs ∧ isA as us' = true
  | [], [], us', xs, F, σ, σ', hs, h, hv => by
    simp only [coL] at h; cases h
    rw [hv.nil_inv]
    exact ⟨F, hs, Step.refl _ _ _ _, .nil, rfl⟩
  | [], _ :: _, _, _, _, _, _, _, h, _ => by simp only [coL] at h; cases h
  | _ :: _, [], _, _, _, _, _, _, h, _ => by simp only [coL] at h; cases h
  | a :: as, u :: us, us', xs, F, σ, σ', hs, h, hv => by
    obtain ⟨x, xs', rfl, h1, h2⟩ := hv.cons_inv
    simp only [coL] at h
    cases hc : co σ a u with
    | none => rw [hc] at h; cases h
    | some r =>
      obtain ⟨u', σ1⟩ := r
      rw [hc] at h; dsimp only at h
      cases hc2 : coL σ1 as us with
      | none => rw [hc2] at h; cases h
      | some r =>
        obtain ⟨vs, σ2⟩ := r
        rw [hc2] at h; cases h
        obtain ⟨F1, k1, k2, k3, k4⟩ := co_run hs hc h1
        obtain ⟨F2, l1, l2, l3, l4⟩ := coL_run k1 hc2 (h2.mono fun _ _ => RV.mono k2.carry)
        exact ⟨F2, l1, k2.trans l2, .cons (k3.mono l2.fcell) l3, by simp [isA, k4, l4]⟩

/-- arguments made what the callee takes -/
theorem coP_run : ∀ {pm : List (Option (List As))} {us us' : List V} {xs : List Value} {F : Nat → Nat → Prop} {σ σ' : Store}, Sim gs G w F β σ → coP σ pm us = some (us', σ') → Rl (RV gs G w F β σ) us xs →
    ∃ F', Sim gs G w F' β σ' ∧ Step w F β σ w F' β σ' ∧ Rl (RV gs G w F' β σ') us' xs
  | [], [], us', xs, F, σ, σ', hs, h, hv => by
    simp only [coP] at h; cases h
    rw [hv.nil_inv]
    exact ⟨F, hs, Step.refl _ _ _ _, .nil⟩
  | [], _ :: _, _, _, _, _, _, _, h, _ => by simp only [coP] at h; cases h
  | none :: _, [], _, _, _, _, _, _, h, _ => by simp only [coP] at h; cases h
  | some _ :: _, [], _, _, _, _, _, _, h, _ => by simp only [coP] at h; cases h
  | none :: pm, u :: us, us', xs, F, σ, σ', hs, h, hv => by
    obtain ⟨x, xs', rfl, h1, h2⟩ := hv.cons_inv
    simp only [coP] at h
    cases hc2 : coP σ pm us with
    | none => rw [hc2] at h; cases h
    | some r =>
      obtain ⟨vs, σ2⟩ := r
      rw [hc2] at h; cases h
      obtain ⟨F2, l1, l2, l3⟩ := coP_run hs hc2 h2
      exact ⟨F2, l1, l2, .cons (h1.mono l2.carry) l3⟩
  | some as :: pm, u :: us, us', xs, F, σ, σ', hs, h, hv => by
    obtain ⟨x, xs', rfl, h1, h2⟩ := hv.cons_inv
    simp only [coP] at h
    cases hc : coL σ as (cellsV u) with
    | none => rw [hc] at h; cases h
    | some r =>
      obtain ⟨ws, σ1⟩ := r
      rw [hc] at h; dsimp only at h
      cases hc2 : coP σ1 pm us with
      | none => rw [hc2] at h; cases h
      | some r =>
        obtain ⟨vs, σ2⟩ := r
        rw [hc2] at h; cases h
        by_cases ha : ∃ l, u = .agg l
        · obtain ⟨l, rfl⟩ := ha
          obtain ⟨ys, rfl, hr⟩ := h1.agg_inv
          obtain ⟨F1, k1, k2, k3, k4⟩ := coL_run hs hc hr
          obtain ⟨F2, l1, l2, l3⟩ := coP_run k1 hc2 (h2.mono fun _ _ => RV.mono k2.carry)
          exact ⟨F2, l1, k2.trans l2, .cons ((RV.mk_agg (k3.mono fun _ _ hf => .fz _ _ hf)).mono l2.carry) l3⟩
        · have e : cellsV u = [u] := by cases u <;> first | rfl | exact absurd ⟨_, rfl⟩ ha
          rw [e] at hc
          obtain ⟨F1, k1, k2, k3, k4⟩ := coL_run hs hc (.cons h1 .nil)
          obtain ⟨F2, l1, l2, l3⟩ := coP_run k1 hc2 (h2.mono fun _ _ => RV.mono k2.carry)
          have e2 : rePack u ws = ws.headD .junk := by cases u <;> first | rfl | exact absurd ⟨_, rfl⟩ ha
          rw [e2]
          have hlen := k3.1
          match ws, k3 with
          | [], k3 => simp at hlen
          | [q], k3 => exact ⟨F2, l1, k2.trans l2, .cons ((RV.fz _ _ (k3.2 0 q x rfl rfl)).mono l2.carry) l3⟩
          | _ :: _ :: _, k3 => simp at hlen

end
end Go.Av
end

/- part AvH -/
section
namespace Go.Av
open Go.Vx Go.RowKit

theorem toC_int {u : V} {k : IntKind} {n : Int} (h : toC u = .int k n) : u = .int k n := by
  cases u <;> simp only [toC] at h <;> first | (cases h; rfl) | cases h
theorem toC_str {u : V} {s : ByteArray} (h : toC u = .string s) : u = .str s := by
  cases u <;> simp only [toC] at h <;> first | (cases h; rfl) | cases h

section
variable {ax : Ax} {ah : AH} {gs : List Nat} {G : Nat → Value} {w w' : World} {F F' : Nat → Nat → Prop} {β β' : Nat → Value} {σ σ' : Store} {v : Value}

theorem convP_rel {tys : Tys} {s d : Nat} {u : V} {K : Value → Prop} {K' : Value → Prop} (h : convP tys s d (toC u) K) (hv : RV gs G w F β σ u v) (hi : ∀ k n, K (.int k n) → K' (.int k n)) (hs : ∀ t, K (.string t) → K' (.string t)) : convP tys s d v K' := by
  unfold convP at h ⊢
  split at h
  · rename_i ys hys
    split at h
    · rename_i yd hyd
      split at h
      · rename_i k hk
        split at h
        · rename_i k' n e
          have := toC_int e
          subst this
          rw [hv.int_inv]
          dsimp only
          split at h
          · exact hi _ _ h
          · exact h.elim
        · exact h.elim
      · rename_i hk
        split at h
        · rename_i a e
          have := toC_str e
          subst this
          rw [hv.str_inv]
          dsimp only
          split at h
          · exact hs _ h
          · exact h.elim
        · exact h.elim
      · exact h.elim
    · exact h.elim
  · exact h.elim

theorem sliceW_str {tys : Tys} {t : Nat} {s : ByteArray} {lo hi mx lo' hi' mx' : Option Value} {K K' : Value → Prop} (h : sliceW tys t (.string s) lo hi mx K)
    (hlo : ∀ k i, lo = some (.int k i) → lo' = some (.int k i)) (hlo' : lo = none → lo' = none) (hhi : ∀ k i, hi = some (.int k i) → hi' = some (.int k i)) (hhi' : hi = none → hi' = none) (hmx' : mx = none → mx' = none)
    (hK : ∀ r, K (.string r) → K' (.string r)) : sliceW tys t (.string s) lo' hi' mx' K' := by
  unfold sliceW at h ⊢
  dsimp only at h ⊢
  split at h
  · split at h
    · exact h.elim
    · rw [hmx' rfl]; dsimp only
      split at h
      · rw [hhi' rfl]; dsimp only
        split at h
        · rw [hlo' rfl]; exact hK _ h
        · rename_i k i; rw [hlo k i rfl]; exact ⟨h.1, h.2.1, hK _ h.2.2⟩
        · exact h.elim
      · rename_i k i; rw [hhi k i rfl]; dsimp only
        split at h
        · rw [hlo' rfl]; exact ⟨h.1, h.2.1, hK _ h.2.2⟩
        · rename_i k' i'; rw [hlo k' i' rfl]; exact ⟨h.1, h.2.1, h.2.2.1, hK _ h.2.2.2⟩
        · exact h.elim
      · exact h.elim
  · exact h.elim

theorem fill_rel {place : Nat → Option (Nat × Nat)} {ρa : Operand → V} {ρc : Operand → Value} (hρ : ∀ x, RV gs G w F β σ (ρa x) (ρc x)) : ∀ (ps : List (Nat × Operand)) {us out : List V} {xs : List Value}, (ps.all fun p => (cellsV (ρa p.2)).all isCellV) = true → Rl (RV gs G w F β σ) us xs →
    fillV place us (ps.map fun (i, x) => (i, ρa x)) = some out → ∃ out', fillL place xs (ps.map fun (i, x) => (i, ρc x)) = some out' ∧ Rl (RV gs G w F β σ) out out'
  | [], us, out, xs, _, hu, h => by simp only [List.map_nil, fillV] at h; cases h; exact ⟨xs, rfl, hu⟩
  | (i, x) :: ps, us, out, xs, hc, hu, h => by
    simp only [List.all_cons, Bool.and_eq_true] at hc
    simp only [List.map_cons, fillV, fillL] at h ⊢
    obtain ⟨hr, _⟩ := (hρ x).cells hc.1
    cases hp : place i with
    | none => rw [hp] at h; cases h
    | some os =>
      obtain ⟨off, size⟩ := os
      rw [hp] at h; dsimp only at h ⊢
      rw [← hr.1, ← hu.1]
      cases hb : (Nat.beq (cellsV (ρa x)).length size && Nat.ble (off + (cellsV (ρa x)).length) us.length) with
      | false => rw [hb] at h; cases h
      | true =>
        rw [hb] at h
        exact fill_rel hρ ps hc.2 (hr.setAt off hu) h

theorem FV.pts_inv {cs : List V} (h : FV gs G w F (.pt (some cs)) v) : ∃ b o, ∃ val : Nat → Value, v = .pointer (some ⟨b, o, none⟩) ∧ (∀ (j : Nat) u, cs[j]? = some u → w.cell? ⟨b, o + j, none⟩ = some (val j) ∧ F b (o + j)) ∧ (∀ (j : Nat) u, cs[j]? = some u → FV gs G w F u (val j)) := by
  cases h with
  | pts _ b o val h1 h2 => exact ⟨b, o, val, rfl, h1, h2⟩
theorem FV.sl_inv {z : Nat} {l : List (List V)} (h : FV gs G w F (.sl z l) v) : ∃ a c, v = .slice a l.length c ∧ l.length ≤ c ∧ c ≤ maxLen := by
  cases h with
  | sl _ _ a c val k1 k2 kz kc kv => exact ⟨a, c, rfl, k1, k2⟩

/-- one element of data -/
theorem FV.row {z : Nat} {l : List (List V)} {a : Option Addr} {n c : Nat} (h : FV gs G w F (.sl z l) (.slice a n c)) {j : Nat} (hj : j < l.length) : n = l.length ∧ ∃ b o, a = some ⟨b, o, none⟩ ∧ FV gs G w F (.pt (some (rowAt l j))) (.pointer (some ⟨b, o + j * z, none⟩)) := by
  cases h with
  | sl _ _ _ _ val k1 k2 kz kc kv =>
    refine ⟨rfl, ?_⟩
    obtain ⟨b, o, e, hc⟩ := kc (fun e => by rw [e] at hj; simp at hj)
    have hrow : l[j]? = some (rowAt l j) := by simp [rowAt, hj]
    refine ⟨b, o, e, .pts _ _ _ (fun k => val j k) (fun k u hk => ?_) (fun k u hk => kv j _ k u hrow hk)⟩
    have := hc j _ k u hrow hk
    rw [← Nat.add_assoc] at this
    exact this

theorem aop_pure {o : Oper} {e : AEnv} {ρ : Env} {K : V → Store → Prop} {K' : Value → Prop} (hK : ∀ v, Out gs G w F β σ K v w → K' v) (hk : kindOf ax.tys o.op = .pure) (h : aop ax ah o (aev e) σ K) (hs : Sim gs G w F β σ) (he : RE gs G w F β σ e ρ) :
    pureW ax.P ax.tys o (Vx.ev ρ) K' := by
  have hρ := he.ev
  have done : ∀ {u : V} {v : Value}, K u σ → RV gs G w F β σ u v → K' v := fun h1 h2 => hK _ (Out.same hs h1 h2)
  obtain ⟨dst, op, ty, pos, aft, gd⟩ := o
  unfold aop at h
  unfold pureW
  cases op with
  | move x => exact done h (hρ _)
  | assign x => exact done h (hρ _)
  | pick c x y =>
    dsimp only at h
    split at h
    · rename_i b eb
      have := hρ c
      rw [eb] at this
      dsimp only
      rw [this.bool_inv]
      dsimp only
      cases b with
      | true => exact done h (hρ _)
      | false => exact done h (hρ _)
    · exact h.elim
  | build t parts =>
    dsimp only at h
    split at h
    · rename_i y hy
      split at h
      · rename_i fs hfs
        split at h
        · rename_i cs hcs
          obtain ⟨h1, h2⟩ := condF h
          obtain ⟨h3, h4⟩ := and_elim h1
          obtain ⟨out', k1, k2⟩ := fill_rel hρ parts.toList h4 (ofCells_rel y.zero) hcs
          dsimp only
          rw [hy]; dsimp only
          rw [hfs]; dsimp only
          rw [k1]; dsimp only
          rw [h3]
          exact done h2 (.mk_agg k2)
        · exact h.elim
      · exact h.elim
    · exact h.elim
  | nilCheck x =>
    have hx := hρ x
    dsimp only at h ⊢
    split at h
    · rename_i i o e1
      rw [e1] at hx
      obtain ⟨b, o', e2, _⟩ := hx.ptr_inv
      rw [e2] at hx ⊢
      exact ⟨b, o', rfl, done h hx⟩
    · rename_i i j o e1
      rw [e1] at hx
      obtain ⟨b, o', e2, _⟩ := hx.eptr_inv
      rw [e2] at hx ⊢
      exact ⟨b, o', rfl, done h hx⟩
    · rename_i d e1
      rw [e1] at hx
      obtain ⟨b, o, val, e2, h1, h2⟩ := hx.pt_inv.pts_inv
      rw [e2] at hx ⊢
      exact ⟨b, o, rfl, done h hx⟩
    · rename_i g e1
      rw [e1] at hx
      have e2 := hx.gl_inv
      rw [e2] at hx ⊢
      exact ⟨g, 0, rfl, done h hx⟩
    · rename_i g f c e1
      rw [e1] at hx
      obtain ⟨vf, vc, e2, h1, h2⟩ := hx.fn_inv
      rw [e2] at hx ⊢
      exact done h hx
    · exact h.elim
  | binOp op t x y _ =>
    dsimp only at h ⊢
    have hn : eqNeeds ax.tys op t y = false := by
      unfold kindOf at hk
      dsimp only at hk
      cases hq : eqNeeds ax.tys op t y with
      | false => rfl
      | true => rw [hq] at hk; cases hk
    rw [hn] at h
    dsimp only [cond] at h
    exact abin_pure h (hρ x) (hρ y) (fun u e => by rw [e]; rfl) hs fun u v hk hv => done hk hv
  | unOp op _ x =>
    have hx := hρ x
    dsimp only at h ⊢
    split at h
    · split at h
      · rename_i b e1
        rw [e1] at hx
        rw [hx.bool_inv]
        exact done h (.mk_bool _)
      · exact h.elim
    · split at h
      · rename_i k n e1
        rw [e1] at hx
        rw [hx.int_inv]
        exact done h (.mk_int _ _)
      · exact h.elim
    · exact h.elim
  | convert s d x =>
    dsimp only at h ⊢
    have hc : convPure ax.tys s d = true := by
      unfold kindOf at hk
      dsimp only at hk
      cases hq : convPure ax.tys s d with
      | true => rfl
      | false =>
        rw [hq] at hk
        dsimp only [cond] at hk
        cases hq2 : toStr ax.tys d <;> rw [hq2] at hk <;> cases hk
    unfold aconv at h
    rw [hc] at h
    dsimp only [cond] at h
    exact convP_rel h (hρ x) (fun k n hk => done hk (.mk_int _ _)) (fun t hk => done hk (.mk_str _))
  | makeFunc fn first cap =>
    dsimp only at h ⊢
    split at h
    · refine done h (.fn _ _ _ _ _ ?_ (fun i u v hu hv => ?_) ?_ (fun i u v hu hv => ?_))
      · simp
      · rw [List.getElem?_map] at hu hv
        cases hx : first.toList[i]? with
        | none => rw [hx] at hu; cases hu
        | some x => rw [hx] at hu hv; cases hu; cases hv; exact hρ x
      · simp
      · rw [List.getElem?_map] at hu hv
        cases hx : cap.toList[i]? with
        | none => rw [hx] at hu; cases hu
        | some x => rw [hx] at hu hv; cases hu; cases hv; exact hρ x
    · exact h.elim
  | makeInterface t x =>
    dsimp only at h ⊢
    have hx := hρ x
    split at h
    · rename_i us e1
      rw [e1] at hx
      obtain ⟨vs, e2, hr⟩ := hx.agg_inv
      obtain ⟨h1, h2⟩ := condF h
      obtain ⟨h3, h4⟩ := and_elim h1
      obtain ⟨y, h5, h6⟩ := isTk_elim h4
      rw [h5, e2]
      dsimp only
      cases htk : y.tk <;> rw [htk] at h6 <;> simp only [TK.isAgg] at h6 <;> try cases h6
      exact done h2 (.ifc t us vs hr.1 fun i u v hu hv => dat_fv (List.all_eq_true.1 h3 u (List.mem_of_getElem? hu)) (hr.2 i u v hu hv))
    · exact h.elim
  | slice t x lo hi mx =>
    dsimp only at h ⊢
    have hx := hρ x
    have b1 : ∀ (q : Option Operand) (k : IntKind) (i : Int), q.map (aev e) = some (.int k i) → q.map (Vx.ev ρ) = some (.int k i) := fun q k i hq => by
      cases q with
      | none => cases hq
      | some q =>
        simp only [Option.map_some, Option.some.injEq] at hq ⊢
        have := hρ q
        rw [hq] at this
        exact this.int_inv
    have b2 : ∀ (q : Option Operand), q.map (aev e) = none → q.map (Vx.ev ρ) = none := fun q hq => by cases q <;> simp_all
    unfold aslice at h
    split at h
    · rename_i s e1
      rw [e1] at hx
      rw [hx.str_inv]
      have c1 : ∀ (q : Option Operand) (k : IntKind) (i : Int), (q.map (aev e)).map toC = some (.int k i) → q.map (Vx.ev ρ) = some (.int k i) := fun q k i hq => by
        refine b1 q k i ?_
        cases q with
        | none => cases hq
        | some q => simp only [Option.map_some, Option.some.injEq] at hq ⊢; exact toC_int hq
      have c2 : ∀ (q : Option Operand), (q.map (aev e)).map toC = none → q.map (Vx.ev ρ) = none := fun q hq => by cases q <;> simp_all
      exact sliceW_str h (c1 lo) (c2 lo) (c1 hi) (c2 hi) (c2 mx) fun r hk => done hk (.mk_str _)
    · rename_i z l e1
      rw [e1] at hx
      split at h
      · rename_i el ye hse
        obtain ⟨y, hy, ht, hye⟩ := slElem_elim hse
        obtain ⟨h1, h2⟩ := condF h
        have hz := beq_elim h1
        subst hz
        have hf := hx.sl_inv
        obtain ⟨a, c, hv, k1, k2⟩ := hf.sl_inv
        rw [hv] at hf ⊢
        cases htr : isTr ah dst with
        | true =>
          rw [htr] at h2; simp only [cond_true] at h2
          refine cut1_run h2 hy ht hye rfl k1 (b2 lo) (b1 hi) (b1 mx) fun q hq hk => done hk ?_
          have hfc := hf.cut 0 q q (Nat.zero_le _) hq (by omega) (by omega) a (fun _ => by cases a <;> simp [Addr.add])
          rw [Nat.sub_zero, List.drop_zero] at hfc
          have hql : (l.take q).length = q := by rw [List.length_take]; omega
          have := RV.slc (gs := gs) (G := G) (w := w) (F := F) (β := β) (σ := σ) ye.size (l.take q) a (by rw [hql]; exact hfc)
          rwa [hql] at this
        | false =>
        rw [htr] at h2; simp only [cond_false] at h2
        exact cutW_run h2 hy ht hye rfl k1 k2 (b1 lo) (b2 lo) (b1 hi) (b2 hi) (b1 mx) (b2 mx) fun p q c' a' g1 g2 g3 g4 g5 hk => done hk (.fz _ _ (hf.cut p q c' g1 g2 g3 g4 a' g5))
      · exact h.elim
    · rename_i e1
      rw [e1] at hx
      split at h
      · rename_i el ye hse
        obtain ⟨y, hy, ht, hye⟩ := slElem_elim hse
        rw [hx.nls_inv]
        have hf := FV.sl (gs := gs) (G := G) (w := w) (F := F) ye.size [] none 0 (fun _ _ => .nilIface) (Nat.le_refl _) (by simp [maxLen]) (fun e he => by cases he) (fun h => absurd rfl h) (fun i e j u h => by simp at h)
        exact cutW_run h hy ht hye rfl (Nat.le_refl _) (by simp [maxLen]) (b1 lo) (b2 lo) (b1 hi) (b2 hi) (b1 mx) (b2 mx) fun p q c' a' g1 g2 g3 g4 g5 hk => done hk (.fz _ _ (hf.cut p q c' g1 g2 g3 g4 a' g5))
      · exact h.elim
    · rename_i i e1
      rw [e1] at hx
      split at h
      · rename_i el ye hse
        obtain ⟨y, hy, ht, hye⟩ := slElem_elim hse
        split at h
        · rename_i et z fz l hg
          obtain ⟨h1, h2⟩ := condF h
          have hz := beq_elim h1
          subst hz
          obtain ⟨a, n, c, hv, hi', hb⟩ := hx.own_inv
          have hβ := hb _ _ _ _ hg
          have ho := hs.obj i
          rw [hg] at ho
          obtain ⟨xs, how, hxs, hzs, hz0, hfz⟩ := ho.lst_own hβ
          rw [hβ] at how hfz
          have hnc : n = l.length ∧ n ≤ c ∧ c ≤ maxLen := by
            obtain ⟨a', c', e, k1, k2⟩ := own_slice how
            cases e; exact ⟨rfl, k1, k2⟩
          rw [hv]
          cases htr : isTr ah dst with
          | true =>
            rw [htr] at h2
            dsimp only [cond] at h2
            cases mx with
            | some mx => exact h2.elim
            | none =>
              cases lo with
              | some lo => exact h2.elim
              | none =>
                cases hi with
                | none => exact h2.elim
                | some hq =>
                  simp only [Option.map_none, Option.map_some] at h2 ⊢
                  cases hv2 : aev e hq <;> rw [hv2] at h2 <;> dsimp only at h2 <;> try exact h2.elim
                  rename_i k b
                  have hb2 := b1 (some hq) k b (by simp [hv2])
                  simp only [Option.map_some, Option.some.injEq] at hb2
                  rw [hb2]
                  cases fz with
                  | true => exact h2.elim
                  | false =>
                    obtain ⟨q0, q1, q2⟩ := h2
                    obtain ⟨tk, s1, s2, s3, s4⟩ := y
                    simp only at ht
                    subst ht
                    unfold sliceW
                    dsimp only
                    rw [hy]; dsimp only
                    rw [hye]; dsimp only
                    refine ⟨q0, by omega, ?_⟩
                    have hcut : cutA a 0 c ye.size = a := by
                      unfold cutA; split
                      · rfl
                      · cases a <;> simp [Addr.add]
                    rw [hcut]
                    have hlen : (l.take b.toNat).length = b.toNat := by simp; omega
                    have how' : w.ownsRow 0 et ye.size (.slice a b.toNat c) (l.take b.toNat).length (xs.take (b.toNat * ye.size)) := by
                      rw [hlen]
                      obtain ⟨w1, ⟨w2, w3⟩ | ⟨g, cap, cur, w2, w3, w4, w5, w6, w7, w8⟩⟩ := how
                      · cases w2
                        have : b.toNat = 0 := by omega
                        rw [this]; exact ⟨by simp, .inl ⟨rfl, rfl⟩⟩
                      · cases w2
                        refine ⟨?_, .inr ⟨g, c, cur, rfl, Nat.zero_le _, w4, by omega, w6, w7, ?_⟩⟩
                        · rw [List.length_take, w1]; exact Nat.min_eq_left (Nat.mul_le_mul_right _ (by omega))
                        · rw [← w8, List.take_take, Nat.min_eq_left (Nat.mul_le_mul_right _ (by omega))]
                    have hfl : (l.take b.toNat).flatten = l.flatten.take (b.toNat * ye.size) := by
                      have hsp : l.flatten = (l.take b.toNat).flatten ++ (l.drop b.toNat).flatten := by rw [← List.flatten_append, List.take_append_drop]
                      rw [hsp, List.take_left']
                      rw [flatten_len (fun r hr => hzs r (List.mem_of_mem_take hr)), hlen]
                    obtain ⟨g1, g2⟩ := hs.repl (w' := w) (some i) (.slice a b.toNat c) (.lst et ye.size false (l.take b.toNat)) (fun _ _ => False) (fun j hj => by cases hj; exact hi') rfl rfl rfl (Nat.le_refl _) (fun _ _ _ _ => rfl) (fun _ _ _ => rfl)
                      (fun _ _ hx => hx.elim) (fun _ _ _ hx => hx.elim)
                      (by
                        refine .inr ⟨xs.take (b.toNat * ye.size), ?_, ?_, fun r hr => hzs r (List.mem_of_mem_take hr), hz0, fun h => by cases h⟩
                        · rw [extB_new]; exact how'
                        · rw [hfl]; exact (hxs.take _).mono fun u v hv => hv.mono fun b o hf => ⟨.inl hf, rfl⟩)
                      (fun bb _ hbb => .inr ⟨i, rfl, by rw [hg]; trivial, by rw [hβ]; cases a <;> simp_all [vblk]⟩)
                      (fun bb oo hbb => .inr ⟨i, rfl, by
                        rw [hg]
                        refine ⟨⟨trivial, ?_⟩, trivial⟩
                        have := hbb.1.2
                        rw [extB_new] at this
                        rw [hβ]; cases a <;> simp_all [vblk]⟩)
                    refine hK _ ⟨_, _, _, _, q2, ?_, g1, g2⟩
                    refine .own σ.length _ _ _ (by simp [putO_length]) fun t z fz l' hl' => extB_new _ _ _
          | false =>
            rw [htr] at h2
            dsimp only [cond] at h2
            obtain ⟨F1, k1, k2, k3⟩ := hs.freeze hg hz0
            rw [hβ] at k3
            exact cutW_run h2 hy ht hye hnc.1 hnc.2.1 hnc.2.2 (b1 lo) (b2 lo) (b1 hi) (b2 hi) (b1 mx) (b2 mx) fun p q c' a' g1 g2 g3 g4 g5 hk => hK _ ⟨_, F1, β, _, hk, .fz _ _ (k3.cut p q c' g1 g2 g3 g4 a' g5), k1, k2⟩
        · exact h.elim
      · exact h.elim
    · exact h.elim
  | fieldAddr s x i =>
    have hx := hρ x
    dsimp only at h ⊢
    split at h
    · rename_i y hy
      split at h
      · rename_i fs hfs
        split at h
        · rename_i off ft hi
          split at h
          · rename_i yf hyf
            cases hz : Nat.beq yf.size 0 with
            | true => rw [hz] at h; exact h.elim
            | false =>
              rw [hz] at h
              dsimp only [cond] at h
              have fin : ∀ b f, Vx.ev ρ x = .pointer (some ⟨b, f, none⟩) → K' (.pointer (some ⟨b, f + off, none⟩)) → (match Vx.ev ρ x with
                  | .pointer (some ⟨b, f, none⟩) => match Vx.look ax.tys s with
                    | some y => match y.tk with
                      | .agg fs => match fs[i]? with
                        | some (off, ft) => match Vx.look ax.tys ft with
                          | some yf => cond (Nat.beq yf.size 0) False (K' (.pointer (some ⟨b, f + off, none⟩)))
                          | none => False
                        | none => False
                      | _ => False
                    | none => False
                  | _ => False) := fun b f e1 ho => by
                rw [e1]; dsimp only
                rw [hy]; dsimp only
                rw [hfs]; dsimp only
                rw [hi]; dsimp only
                rw [hyf]; dsimp only
                rw [hz]; exact ho
              split at h
              · rename_i k o e1
                rw [e1] at hx
                obtain ⟨b, o', e2, hi', hb⟩ := hx.ptr_inv
                exact fin b o' e2 (done h (.ptr k (o + off) b (o' + off) hi' fun l hl => ⟨(hb l hl).1, by rw [(hb l hl).2]⟩))
              · rename_i k j o e1
                rw [e1] at hx
                obtain ⟨b, o', e2, hi', hb⟩ := hx.eptr_inv
                exact fin b o' e2 (done h (.eptr k j (o + off) b (o' + off) hi' fun t z fz l hl => ⟨(hb t z fz l hl).1, by rw [(hb t z fz l hl).2]; omega⟩))
              · rename_i cs e1
                rw [e1] at hx
                obtain ⟨b, o, val, hv, h1, h2⟩ := hx.pt_inv.pts_inv
                refine fin b o hv (done h (.fz _ _ (.pts _ _ _ (fun j => val (off + j)) (fun j u hj => ?_) (fun j u hj => ?_))))
                · rw [List.getElem?_drop] at hj
                  have := h1 _ u hj
                  rw [← Nat.add_assoc] at this; exact this
                · rw [List.getElem?_drop] at hj
                  exact h2 _ u hj
              · exact h.elim
          · exact h.elim
        · exact h.elim
      · exact h.elim
    · exact h.elim
  | field s x i =>
    have hx := hρ x
    dsimp only at h ⊢
    split at h
    · rename_i cs e1
      rw [e1] at hx
      obtain ⟨vs, e2, hr⟩ := hx.agg_inv
      rw [e2]; dsimp only
      split at h
      · rename_i y hy
        rw [hy]; dsimp only
        split at h
        · rename_i fs hfs
          rw [hfs]; dsimp only
          split at h
          · rename_i off ft hi
            rw [hi]; dsimp only
            unfold partW
            split at h
            · rename_i yf hyf
              rw [hyf]; dsimp only
              cases hk' : yf.tk with
              | agg fs' => rw [hk'] at h; exact done h (.mk_agg (((hr.drop off).take yf.size)))
              | arr n' e' => rw [hk'] at h; exact done h (.mk_agg (((hr.drop off).take yf.size)))
              | tuple ts => rw [hk'] at h; exact h.elim
              | other => rw [hk'] at h; exact h.elim
              | _ =>
                rw [hk'] at h
                dsimp only at h ⊢
                split at h
                · rename_i u hu
                  obtain ⟨x', hx', hxr⟩ := hr.get hu
                  have hx2 : vs.toArray.toList[off]? = some x' := hx'
                  rw [hx2]; exact done h hxr
                · exact h.elim
            · exact h.elim
          · exact h.elim
        · exact h.elim
      · exact h.elim
    · exact h.elim
  | indexAddr t x i =>
    have hx := hρ x
    have hi := hρ i
    dsimp only at h ⊢
    split at h
    · rename_i k j e1
      rw [e1] at hi
      rw [hi.int_inv]; dsimp only
      split at h
      · rename_i el ye hse
        obtain ⟨y, hy, ht, hye⟩ := slElem_elim hse
        rw [hy]; dsimp only
        rw [ht]; dsimp only
        rw [hye]; dsimp only
        split at h
        · rename_i z l e2
          obtain ⟨h1, h2, h3, h4⟩ := condF h
          have hz := beq_elim h1
          subst hz
          rw [e2] at hx
          have hf := hx.sl_inv
          obtain ⟨a, c, hv, k1, k2⟩ := hf.sl_inv
          rw [hv] at hf ⊢
          obtain ⟨_, b, o, ea, hr⟩ := hf.row (j := j.toNat) (by omega)
          exact ⟨b, o, ea, h2, h3, done h4 (.fz _ _ hr)⟩
        · rename_i k e2
          rw [e2] at hx
          split at h
          · rename_i et z fz l hg
            obtain ⟨h1, h2, h3, h4⟩ := condF h
            have hz := beq_elim h1
            subst hz
            obtain ⟨a, n, c, hv, hi', hb⟩ := hx.own_inv
            have hβ := hb _ _ _ _ hg
            have ho := hs.obj k
            rw [hg] at ho
            obtain ⟨xs, how, hxs, hzs, hz0, hfz⟩ := ho.lst_own hβ
            rw [hβ] at how
            rw [hv]; dsimp only
            obtain ⟨_, ⟨_, e0⟩ | ⟨g, cap, cur, e0, _⟩⟩ := how
            · omega
            · cases e0
              refine ⟨g, 0, rfl, h2, h3, done h4 (.eptr k j.toNat 0 g _ hi' fun t z fz l' hl' => ⟨⟨_, _, hβ⟩, ?_⟩)⟩
              rw [hg] at hl'; cases hl'; omega
          · exact h.elim
        · exact h.elim
      · exact h.elim
    · exact h.elim
  | index t x i =>
    have hx := hρ x
    have hi := hρ i
    dsimp only at h ⊢
    split at h
    · rename_i k j e1
      rw [e1] at hi
      rw [hi.int_inv]; dsimp only
      split at h
      · rename_i y hy
        rw [hy]; dsimp only
        split at h
        · rename_i hk'
          rw [hk']; dsimp only
          split at h
          · rename_i s e2
            rw [e2] at hx
            rw [hx.str_inv]
            obtain ⟨h1, c, h2, h3⟩ := h
            exact ⟨h1, c, h2, done h3 (.mk_int _ _)⟩
          · exact h.elim
        · exact h.elim
      · exact h.elim
    · exact h.elim
  | extract x i =>
    have hx := hρ x
    dsimp only at h ⊢
    split at h
    · rename_i vs e1
      rw [e1] at hx
      obtain ⟨xs, e2, hr⟩ := hx.tup_inv
      rw [e2]; dsimp only
      split at h
      · rename_i u hu
        obtain ⟨x', hx', hxr⟩ := hr.get hu
        have hx2 : xs.toArray.toList[i]? = some x' := hx'
        rw [hx2]
        exact done h hxr
      · exact h.elim
    · exact h.elim
  | load t x => cases hk
  | alloc t => cases hk
  | box t x => cases hk
  | buildSlice t n ps => cases hk
  | store t x y => cases hk
  | makeSlice t l c => cases hk
  | call c =>
    dsimp only at h ⊢
    split at h
    · rename_i f hf
      unfold kindOf at hk
      dsimp only at hk
      rw [hf] at hk; cases hk
    · rename_i b hb
      rw [hb]; dsimp only
      unfold kindOf at hk
      dsimp only at hk
      rw [hb] at hk
      dsimp only at hk
      have hρl : ∀ l : List Operand, Rl (RV gs G w F β σ) (l.map (aev e)) (l.map (Vx.ev ρ)) := fun l => by
        induction l with
        | nil => exact .nil
        | cons x l ih => exact .cons (hρ x) ih
      have hargs := hρl c.args.toList
      unfold abuilt at h
      split at h
      · split at h
        · rename_i s e1
          rw [e1] at hargs
          obtain ⟨x, xs, e2, h1, h2⟩ := hargs.cons_inv
          rw [e2, h2.nil_inv, h1.str_inv]
          unfold builtP at h ⊢
          dsimp only at h ⊢
          split at h
          · obtain ⟨k1, k2⟩ := condF h
            rw [k1]; exact done k2 (.mk_int _ _)
          · exact h.elim
        · rename_i z l e1
          rw [e1] at hargs
          obtain ⟨x, xs, e2, h1, h2⟩ := hargs.cons_inv
          obtain ⟨k1, k2⟩ := condF h
          obtain ⟨k3, k4⟩ := and_elim k1
          obtain ⟨ty, k5, k6⟩ := isTk_elim k4
          obtain ⟨tk, _, _, _, _⟩ := ty
          cases tk <;> simp only [TK.isSl] at k6 <;> try cases k6
          obtain ⟨a, c', hv, _, _⟩ := h1.sl_inv.sl_inv
          rw [e2, h2.nil_inv, hv]
          unfold builtP
          dsimp only
          rw [k5]; dsimp only
          rw [k3]
          exact done k2 (.mk_int _ _)
        · rename_i e1
          rw [e1] at hargs
          obtain ⟨x, xs, e2, h1, h2⟩ := hargs.cons_inv
          obtain ⟨k1, k2⟩ := condF h
          obtain ⟨k3, k4⟩ := and_elim k1
          obtain ⟨ty, k5, k6⟩ := isTk_elim k4
          obtain ⟨tk, _, _, _, _⟩ := ty
          cases tk <;> simp only [TK.isSl] at k6 <;> try cases k6
          rw [e2, h2.nil_inv, h1.nls_inv]
          unfold builtP
          dsimp only
          rw [k5]; dsimp only
          rw [k3]
          exact done k2 (.mk_int _ _)
        · rename_i i e1
          rw [e1] at hargs
          obtain ⟨x, xs, e2, h1, h2⟩ := hargs.cons_inv
          split at h
          · rename_i et z fz l hg
            obtain ⟨k1, k2⟩ := condF h
            obtain ⟨k3, k4⟩ := and_elim k1
            obtain ⟨ty, k5, k6⟩ := isTk_elim k4
            obtain ⟨tk, _, _, _, _⟩ := ty
            cases tk <;> simp only [TK.isSl] at k6 <;> try cases k6
            obtain ⟨a, n, c', hv, hi', hb'⟩ := h1.own_inv
            have hβ := hb' _ _ _ _ hg
            have ho := hs.obj i
            rw [hg] at ho
            obtain ⟨ys, how, _⟩ := ho.lst_own hβ
            rw [hβ] at how
            obtain ⟨a', c'', e3, _⟩ := own_slice how
            cases e3
            rw [e2, h2.nil_inv, hv]
            unfold builtP
            dsimp only
            rw [k5]; dsimp only
            rw [k3]
            exact done k2 (.mk_int _ _)
          · exact h.elim
        · split at h
          · obtain ⟨k1, k2⟩ := condF h
            obtain ⟨_, k3⟩ := and_elim k1
            obtain ⟨_, k4⟩ := and_elim k3
            obtain ⟨ty, k5, k6⟩ := isTk_elim k4
            obtain ⟨tk, _, _, _, _⟩ := ty
            cases tk <;> simp only [TK.isMap] at k6 <;> try cases k6
            unfold builtPure at hk
            dsimp only at hk
            rw [k5] at hk
            cases hk
          · exact h.elim
        · exact h.elim
      · unfold builtP at h ⊢
        dsimp only at h ⊢
        split at h
        · rename_i k a k' b' e1
          cases hl : c.args.toList.map (aev e) with
          | nil => rw [hl] at e1; cases e1
          | cons u us =>
            rw [hl] at e1 hargs
            cases us with
            | nil => simp at e1
            | cons u' us =>
              simp only [List.map_cons, List.cons.injEq, List.map_eq_nil_iff] at e1
              obtain ⟨e3, e4, e5⟩ := e1
              subst e5
              rw [toC_int e3, toC_int e4] at hargs
              obtain ⟨x, xs, e2, h1, h2⟩ := hargs.cons_inv
              obtain ⟨x', xs', e2', h1', h2'⟩ := h2.cons_inv
              rw [e2, e2', h2'.nil_inv, h1.int_inv, h1'.int_inv]
              exact done h (.mk_int _ _)
        · exact h.elim
      · unfold builtP at h ⊢
        dsimp only at h ⊢
        split at h
        · rename_i k a k' b' e1
          cases hl : c.args.toList.map (aev e) with
          | nil => rw [hl] at e1; cases e1
          | cons u us =>
            rw [hl] at e1 hargs
            cases us with
            | nil => simp at e1
            | cons u' us =>
              simp only [List.map_cons, List.cons.injEq, List.map_eq_nil_iff] at e1
              obtain ⟨e3, e4, e5⟩ := e1
              subst e5
              rw [toC_int e3, toC_int e4] at hargs
              obtain ⟨x, xs, e2, h1, h2⟩ := hargs.cons_inv
              obtain ⟨x', xs', e2', h1', h2'⟩ := h2.cons_inv
              rw [e2, e2', h2'.nil_inv, h1.int_inv, h1'.int_inv]
              exact done h (.mk_int _ _)
        · exact h.elim
      · unfold builtPure at hk
        dsimp only at hk
        cases hk
      · exact h.elim
    · exact h.elim
  | panic x => cases hk
  | makeMap t r => cases hk
  | mapUpdate t m k x => cases hk
  | lookup t x i ok => cases hk
  | _ => exact h.elim

end
end Go.Av
end

/- part AvI -/
section
namespace Go.Av
open Go.Vx Go.RowKit

theorem exA_elim : ∀ {as : List As} {K : List V → Prop}, exA as K → ∃ vs, vs.length = as.length ∧ K vs
  | [], _, h => ⟨[], rfl, h⟩
  | a :: as, K, h => by
    have key : ∃ v, exA as fun vs => K (v :: vs) := by
      cases a <;> exact ⟨_, h.choose_spec⟩
    obtain ⟨v, hv⟩ := key
    obtain ⟨vs, h1, h2⟩ := exA_elim hv
    exact ⟨v :: vs, by simp [h1], h2⟩

section
variable {ax : Ax} {ah : AH} {gs : List Nat} {G : Nat → Value} {w w' : World} {F F' : Nat → Nat → Prop} {β β' : Nat → Value} {σ σ' : Store} {v : Value}

theorem fits_ex {s : Sh} {u : V} {x : Value} (hf : fits s u = true) (hv : RV gs G w F β σ u x) {K : Value → Prop} (h : K x) : s.ex K := by
  cases s with
  | int k =>
    cases u <;> simp only [fits] at hf <;> try cases hf
    rename_i k' n
    have e := of_decide_eq_true hf
    subst e
    rw [hv.int_inv] at h; exact ⟨n, h⟩
  | bool =>
    cases u <;> simp only [fits] at hf <;> try cases hf
    rw [hv.bool_inv] at h; exact ⟨_, h⟩
  | str =>
    cases u <;> simp only [fits] at hf <;> try cases hf
    rw [hv.str_inv] at h; exact ⟨_, h⟩
  | ptr =>
    cases u <;> simp only [fits] at hf <;> try cases hf
    · have hp := hv.pt_inv
      cases hp <;> exact ⟨_, h⟩
    · obtain ⟨b, o', e, _⟩ := hv.ptr_inv; rw [e] at h; exact ⟨_, h⟩
    · obtain ⟨b, o', e, _⟩ := hv.eptr_inv; rw [e] at h; exact ⟨_, h⟩
    · rw [hv.gl_inv] at h; exact ⟨_, h⟩
  | sl =>
    cases u <;> simp only [fits] at hf <;> try cases hf
    · rw [hv.nls_inv] at h; exact ⟨_, _, _, h⟩
    · obtain ⟨a, c, e, _, _⟩ := hv.sl_inv.sl_inv; rw [e] at h; exact ⟨_, _, _, h⟩
    · obtain ⟨a, n, c, e, _⟩ := hv.own_inv; rw [e] at h; exact ⟨_, _, _, h⟩
  | any => exact ⟨x, h⟩
theorem fits_exL : ∀ {ss : List Sh} {us : List V} {xs : List Value}, fitsL ss us = true → Rl (RV gs G w F β σ) us xs → ∀ {K : List Value → Prop}, K xs → exL ss K
  | [], [], xs, _, hv, K, h => by rw [hv.nil_inv] at h; exact h
  | [], _ :: _, _, hf, _, _, _ => by cases hf
  | _ :: _, [], _, hf, _, _, _ => by cases hf
  | s :: ss, u :: us, xs, hf, hv, K, h => by
    obtain ⟨x, xs', rfl, h1, h2⟩ := hv.cons_inv
    obtain ⟨f1, f2⟩ := and_elim hf
    exact fits_ex f1 h1 (fits_exL f2 h2 h)
theorem fitsL_len : ∀ {ss : List Sh} {us : List V}, fitsL ss us = true → us.length = ss.length
  | [], [], _ => rfl
  | [], _ :: _, h => by cases h
  | _ :: _, [], h => by cases h
  | _ :: ss, _ :: us, h => by have := fitsL_len (ss := ss) (us := us) (and_elim h).2; simp [this]

/-- a load, once its cells are known -/
theorem loadW_of {tys : Tys} {t b f : Nat} {y : Ty} {us : List V} {xs : List Value} {K : V → Prop} {K' : List Value → Value → Prop} (hy : Vx.look tys t = some y) (hsz : y.sh.length = y.size) (hfit : fitsL y.sh us = true) (hr : Rl (RV gs G w F β σ) us xs)
    (hc : cellsAt w b f xs) (h : packV y.tk us K) (hK : ∀ u v, K u → RV gs G w F β σ u v → K' xs v) : loadW tys t b f w K' := by
  unfold loadW
  rw [hy]; dsimp only
  have hb : Nat.beq y.sh.length y.size = true := by rw [hsz]; exact Nat.beq_refl _
  unfold packV at h
  have one : (∃ u, us = [u] ∧ K u) → (match y.sh with | [s] => s.ex fun v => w.cell? ⟨b, f, none⟩ = some v ∧ K' [v] v | _ => False) := fun h => by
    obtain ⟨u, rfl, hku⟩ := h
    obtain ⟨x, xs', rfl, h1, h2⟩ := hr.cons_inv
    cases h2.nil_inv
    have hl := fitsL_len hfit
    cases hsh : y.sh with
    | nil => rw [hsh] at hl; simp at hl
    | cons s ss =>
      rw [hsh] at hl hfit
      have : ss = [] := List.eq_nil_of_length_eq_zero (by simpa using hl.symm)
      subst this
      exact fits_ex (and_elim hfit).1 h1 ⟨hc.1, hK u x hku h1⟩
  cases hk : y.tk with
  | agg fs => rw [hk] at h; dsimp only; rw [hb]; exact fits_exL hfit hr ⟨hc, hK _ _ h (.mk_agg hr)⟩
  | arr n e => rw [hk] at h; dsimp only; rw [hb]; exact fits_exL hfit hr ⟨hc, hK _ _ h (.mk_agg hr)⟩
  | tuple ts => rw [hk] at h; exact h.elim
  | other => rw [hk] at h; exact h.elim
  | _ => rw [hk] at h; dsimp only at h ⊢; exact one (by match us, h with | [v], h => exact ⟨v, rfl, h⟩)

theorem cellsAt_take_drop {w : World} {b : Nat} {vs : List Value} {o : Nat} (h : cellsAt w b o vs) (n m : Nat) : cellsAt w b (o + n) ((vs.drop n).take m) := cellsAt_take m (cellsAt_drop n h)

/-- a list of one's own: its cells in memory -/
theorem lst_cells {t z : Nat} {l : List (List V)} {bv : Value} {xs : List Value} (ho : w.ownsRow 0 t z bv l.length xs) : (l = [] ∧ bv = .slice none 0 0) ∨ ∃ g c, bv = .slice (some ⟨g, 0, none⟩) l.length c ∧ cellsAt w g 0 xs := by
  obtain ⟨hl, ⟨e, h0⟩ | ⟨g, cap, cur, e, _, hh, h1, h2, h3, h4⟩⟩ := ho
  · exact .inl ⟨List.eq_nil_of_length_eq_zero h0, e⟩
  · refine .inr ⟨g, cap, e, cellsAt_of_block hh xs 0 ?_⟩
    rw [List.drop_zero, hl, h4]

theorem aload_run {t : Nat} {p : V} {pv : Value} {K : V → Prop} (h : aload ax σ t p K) (hs : Sim gs G w F β σ) (hgs : gs = ax.gs) (hp : RV gs G w F β σ p pv) (dl : List (Nat × Nat)) (hdl : dl = ldDeps σ p) :
    ∃ b f, pv = .pointer (some ⟨b, f, none⟩) ∧ loadW ax.tys t b f w fun xs v => (∃ u, K u ∧ RV gs G w F β σ u v) ∧ ∀ w2 F2 β2 σ2, Step w F β σ w2 F2 β2 σ2 → depsOk σ2 dl = true → cellsAt w2 b f xs := by
  unfold aload at h
  cases hy : Vx.look ax.tys t with
  | none => rw [hy] at h; exact h.elim
  | some y =>
    rw [hy] at h
    cases p with
    | ptr i o =>
      dsimp only [ldDeps] at h hdl
      cases hg : getO σ i with
      | box l =>
        rw [hg] at h; dsimp only at h
        obtain ⟨h1, h2⟩ := condF h
        obtain ⟨h3, h4⟩ := and_elim h1
        obtain ⟨b, o', e, hi, hb⟩ := hp.ptr_inv
        obtain ⟨hβ, rfl⟩ := hb l hg
        have ho := hs.obj i
        rw [hg] at ho
        obtain ⟨b', tt, cs, e', hh, hr, h1'⟩ := ho
        rw [hβ] at e'
        cases e'
        refine ⟨b, o', e, ?_⟩
        have hsz := beq_elim h3
        have hr' := (hr.drop o').take y.size
        have hl := fitsL_len h4
        have hxl : ((cs.toList.drop o').take y.size).length = y.size := by rw [← hr'.1, hl, hsz]
        have hc := cellsAt_of_block hh ((cs.toList.drop o').take y.size) o' (by rw [hxl])
        refine loadW_of hy hsz h4 hr' hc h2 fun u v hk hv => ⟨⟨u, hk, hv⟩, fun w2 F2 β2 σ2 hst hd => ?_⟩
        subst hdl
        simp only [depsOk, List.all_cons, List.all_nil, Bool.and_true] at hd
        have hv := beq_elim hd
        have := ((hst.ver i hi).2 hv).2 b ⟨by rw [hg]; trivial, by rw [hβ]; rfl⟩
        exact cellsAt_same this hc
      | _ => rw [hg] at h; exact h.elim
    | eptr i j o =>
      dsimp only [ldDeps] at h hdl
      cases hg : getO σ i with
      | lst et z fz l =>
        rw [hg] at h; dsimp only at h
        split at h
        · rename_i as has
          obtain ⟨h1, h2⟩ := condF h
          obtain ⟨h3, h4⟩ := and_elim h1
          have hsz := beq_elim h3
          have has' := beq_elim h4
          obtain ⟨vs, hvl, hseg, h5⟩ := exA_elim h2
          obtain ⟨h6, h7⟩ := condF h5
          obtain ⟨b, o', e, hi, hb⟩ := hp.eptr_inv
          obtain ⟨⟨n, c, hβ⟩, rfl⟩ := hb _ _ _ _ hg
          have ho := hs.obj i
          rw [hg] at ho
          obtain ⟨xs, how, hxs, hzs, hz0, hfz⟩ := ho.lst_own hβ
          rw [hβ] at how
          have hseg' : ((rowAt l j).drop o).take y.size = vs := by
            rw [← hseg]
            cases ho : Nat.beq o 0 with
            | false => rfl
            | true => have := beq_elim ho; subst this; rfl
          refine ⟨b, _, e, ?_⟩
          have key : cellsAt w b (j * z + o) ((xs.drop (j * z + o)).take y.size) ∧ Rl (FV gs G w F) vs ((xs.drop (j * z + o)).take y.size) := by
            rcases Nat.eq_zero_or_pos y.size with h0 | hpos
            · have : vs = [] := List.eq_nil_of_length_eq_zero (by omega)
              subst this
              rw [h0, List.take_zero]; exact ⟨trivial, .nil⟩
            · have hjl : j < l.length := by
                rcases Nat.lt_or_ge j l.length with h | h
                · exact h
                · have : rowAt l j = [] := by simp [rowAt, List.getElem?_eq_none h]
                  have e0 : vs = [] := by rw [← hseg', this]; simp
                  rw [e0] at hvl; simp at hvl; omega
              have hrow : l[j]? = some (rowAt l j) := by simp [rowAt, hjl]
              rcases lst_cells how with ⟨el, _⟩ | ⟨g, c', e', hc⟩
              · rw [el] at hjl; simp at hjl
              · cases e'
                refine ⟨by have := cellsAt_take_drop hc (j * z + o) y.size; rwa [Nat.zero_add] at this, ?_⟩
                have hrz : (rowAt l j).length = z := hzs _ (List.mem_of_getElem? hrow)
                have hlen : vs.length = y.size := by omega
                have hoz : o + y.size ≤ z := by
                  have := congrArg List.length hseg'
                  rw [List.length_take, List.length_drop, hrz, hlen] at this; omega
                have hfl : (l.flatten.drop (j * z + o)).take y.size = vs := by
                  rw [← hseg']
                  apply List.ext_getElem?
                  intro k
                  rw [List.getElem?_take, List.getElem?_take, List.getElem?_drop, List.getElem?_drop]
                  by_cases hk : k < y.size
                  · rw [if_pos hk, if_pos hk]
                    have hok : o + k < (rowAt l j).length := by omega
                    have := flatten_get hzs hrow (List.getElem?_eq_getElem hok)
                    rw [Nat.add_assoc, this, List.getElem?_eq_getElem hok]
                  · rw [if_neg hk, if_neg hk]
                rw [← hfl]
                exact (hxs.drop _).take _
          refine loadW_of hy hsz h6 (key.2.mono fun _ _ hf => .fz _ _ hf) key.1 h7 fun u v hk hv => ⟨⟨u, hk, hv⟩, fun w2 F2 β2 σ2 hst hd => ?_⟩
          subst hdl
          simp only [depsOk, List.all_cons, List.all_nil, Bool.and_true] at hd
          have hv := beq_elim hd
          have := ((hst.ver i hi).2 hv).2 b ⟨by rw [hg]; trivial, by rw [hβ]; rfl⟩
          exact cellsAt_same this key.1
        · exact h.elim
      | _ => rw [hg] at h; exact h.elim
    | pt d =>
      cases d with
      | none => exact h.elim
      | some cs =>
      dsimp only [ldDeps] at h hdl
      split at h
      · rename_i as has
        obtain ⟨h1, h2⟩ := condF h
        obtain ⟨h3, h4⟩ := and_elim h1
        have hsz := beq_elim h3
        have has' := beq_elim h4
        obtain ⟨vs, hvl, hseg, h5⟩ := exA_elim h2
        obtain ⟨h6, h7⟩ := condF h5
        obtain ⟨b, f, val, e, hc, hv⟩ := hp.pt_inv.pts_inv
        refine ⟨b, f, e, ?_⟩
        have hget : ∀ k u, vs[k]? = some u → cs[k]? = some u := fun k u hk => by
          rw [← hseg, List.getElem?_take] at hk
          split at hk
          · exact hk
          · cases hk
        have cells : ∀ (W : World), (∀ k u, vs[k]? = some u → W.cell? ⟨b, f + k, none⟩ = some (val k)) → cellsAt W b f ((List.range vs.length).map val) := fun W hW => by
          have : ∀ (n m : Nat), n + m = vs.length → cellsAt W b (f + n) ((List.range' n m).map val) := by
            intro n m
            induction m generalizing n with
            | zero => intro _; trivial
            | succ m ih =>
              intro hnm
              rw [List.range'_succ, List.map_cons]
              refine ⟨hW n _ (List.getElem?_eq_getElem (by omega)), ?_⟩
              have := ih (n + 1) (by omega)
              rw [← Nat.add_assoc] at this
              exact this
          have := this 0 vs.length (by omega)
          rwa [← List.range_eq_range'] at this
        have hr : Rl (RV gs G w F β σ) vs ((List.range vs.length).map val) := by
          refine ⟨by simp, fun k u x hu hx => ?_⟩
          have hk : k < vs.length := (List.getElem?_eq_some_iff.1 hu).1
          have : ((List.range vs.length).map val)[k]? = some (val k) := by simp [hk]
          rw [this] at hx; cases hx
          exact .fz _ _ (hv k u (hget k u hu))
        refine loadW_of hy hsz h6 hr (cells w fun k u hk => (hc k u (hget k u hk)).1) h7 fun u v hk hv => ⟨⟨u, hk, hv⟩, fun w2 F2 β2 σ2 hst _ => ?_⟩
        exact cells w2 fun k u hk => by
          obtain ⟨k1, k2⟩ := hc k u (hget k u hk)
          exact (hst.fcell _ _ k2).2.trans k1
      · exact h.elim
    | gl g =>
      dsimp only [ldDeps] at h hdl
      obtain ⟨h1, h2⟩ := condF h
      obtain ⟨h1, h3⟩ := and_elim h1
      obtain ⟨h1, h4⟩ := and_elim h1
      obtain ⟨h5, h6⟩ := and_elim h1
      have hgm : g ∈ gs := by
        rw [hgs]
        unfold hasB at h5
        rw [List.any_eq_true] at h5
        obtain ⟨x, hx, e⟩ := h5
        rw [← beq_elim e]; exact hx
      obtain ⟨k1, k2, _, tt, bb, k3, _⟩ := hs.glob g hgm
      refine ⟨g, 0, hp.gl_inv, ?_⟩
      have hr : Rl (RV gs G w F β σ) [.err (some g)] [G g] := .cons (.fz _ _ (.errs g hgm _ _ k3)) .nil
      have hpk : packV y.tk [.err (some g)] K := by
        unfold packV
        obtain ⟨tk, s1, s2, s3, s4⟩ := y
        cases tk <;> simp only [TK.isIface] at h4 <;> try cases h4
        exact h2
      refine loadW_of hy ?_ h3 hr ⟨k1, trivial⟩ hpk fun u v hk hv => ⟨⟨u, hk, hv⟩, fun w2 F2 β2 σ2 hst _ => ⟨(hst.fcell g 0 k2).2.trans k1, trivial⟩⟩
      have := fitsL_len h3
      rw [← this]; exact (beq_elim h6).symm
    | _ => exact h.elim


theorem rowsOf_flat (s : ByteArray) : (rowsOf s).flatten = s.data.toList.map fun b => .int .u8 (b.toNat : Int) := by
  unfold rowsOf
  induction s.data.toList with
  | nil => rfl
  | cons b l ih => simp only [List.map_cons, List.flatten_cons, ih]; rfl
theorem rows_bytes {bs : ByteArray} {xs : List Value} (h : Rl (FV gs G w F) (rowsOf bs).flatten xs) : xs = bv bs.data.toList := by
  rw [rowsOf_flat] at h
  have key : ∀ (l : List UInt8) (xs : List Value), Rl (FV gs G w F) (l.map fun b => .int .u8 (b.toNat : Int)) xs → xs = bv l := by
    intro l
    induction l with
    | nil => intro xs h; rw [h.nil_inv]; rfl
    | cons b l ih =>
      intro xs h
      obtain ⟨x, xs', rfl, h1, h2⟩ := h.cons_inv
      cases h1
      rw [ih xs' h2]; rfl
  exact key _ _ h
theorem rowsOf_length (s : ByteArray) : (rowsOf s).length = s.data.toList.length := by simp [rowsOf]
theorem mk_data (s : ByteArray) : (⟨s.data.toList.toArray⟩ : ByteArray) = s := by cases s; simp

/-- the bytes of a slice that is data, in memory -/
theorem FV.cells1 {l : List (List V)} {a : Option Addr} {n c : Nat} (h : FV gs G w F (.sl 1 l) (.slice a n c)) : n = l.length ∧ (l ≠ [] → ∃ b o, a = some ⟨b, o, none⟩) ∧
    ∃ xs, Rl (FV gs G w F) l.flatten xs ∧ ∀ b o, a = some ⟨b, o, none⟩ → l ≠ [] → ∀ (W : World), (∀ b' o', F b' o' → W.cell? ⟨b', o', none⟩ = w.cell? ⟨b', o', none⟩) → cellsAt W b o xs := by
  cases h with
  | sl _ _ _ _ val k1 k2 kz kc kv =>
    have hfl : l.flatten.length = l.length := by rw [flatten_len kz, Nat.mul_one]
    have hat : ∀ i u, l.flatten[i]? = some u → ∃ e, l[i]? = some e ∧ e[0]? = some u := fun i u hu => by
      have hi : i < l.length * 1 := by have := (List.getElem?_eq_some_iff.1 hu).1; omega
      obtain ⟨e, u', h1, h2, h3⟩ := flatten_get_inv (by decide : 0 < 1) kz hi
      rw [Nat.div_one] at h1
      rw [Nat.mod_one] at h2
      rw [hu] at h3; cases h3
      exact ⟨e, h1, h2⟩
    have hr : Rl (FV gs G w F) l.flatten ((List.range l.length).map fun i => val i 0) := by
      refine ⟨by rw [hfl]; simp, fun i u x hu hx => ?_⟩
      obtain ⟨e, h1, h2⟩ := hat i u hu
      have hi : i < l.length := (List.getElem?_eq_some_iff.1 h1).1
      have : ((List.range l.length).map fun i => val i 0)[i]? = some (val i 0) := by simp [hi]
      rw [this] at hx; cases hx
      exact kv i e 0 u h1 h2
    have cells : ∀ b o, a = some ⟨b, o, none⟩ → l ≠ [] → ∀ (W : World), (∀ b' o', F b' o' → W.cell? ⟨b', o', none⟩ = w.cell? ⟨b', o', none⟩) → cellsAt W b o ((List.range l.length).map fun i => val i 0) := by
      intro b o ea hne W hW
      obtain ⟨b', o', ea', hc⟩ := kc hne
      rw [ea] at ea'; cases ea'
      have : ∀ (m n : Nat), n + m = l.length → cellsAt W b (o + n) ((List.range' n m).map fun i => val i 0) := by
        intro m
        induction m with
        | zero => intro n _; trivial
        | succ m ih =>
          intro n hnm
          rw [List.range'_succ, List.map_cons]
          have hn : n < l.length := by omega
          have hrow := List.getElem?_eq_getElem hn
          have hz1 := kz _ (List.getElem_mem hn)
          have h0 : (l[n])[0]? = some ((l[n])[0]'(by omega)) := List.getElem?_eq_getElem (by omega)
          obtain ⟨g1, g2⟩ := hc n _ 0 _ hrow h0
          rw [Nat.mul_one, Nat.add_zero] at g1 g2
          refine ⟨(hW _ _ g2).trans g1, ?_⟩
          have := ih (n + 1) (by omega)
          rw [← Nat.add_assoc] at this
          exact this
      have := this l.length 0 (by omega)
      rwa [← List.range_eq_range'] at this
    refine ⟨rfl, fun hne => ?_, _, hr, cells⟩
    obtain ⟨b, o, ea, _⟩ := kc hne
    exact ⟨b, o, ea⟩

/-- a map of structs -/
theorem zero_agg {tys : Tys} {P : Program} (hT : AllOk P tys) {vt : Nat} {y : Ty} (hy : Vx.look tys vt = some y) (h2 : 2 ≤ y.size) (w : World) : (zeroValue vt).run P w = .ok (.agg y.zero.toArray) w := by
  have o := ok_of_look hT hy
  have hz := o.zero
  cases hi : P.info? vt with
  | none => rw [hi] at hz; cases hz
  | some i =>
    rw [hi] at hz
    cases hzz : i.zero with
    | none => simp [hzz] at hz
    | some z =>
      have e : z.cells.toList = y.zero := by simpa [hzz] using hz
      have hz2 : z = .agg y.zero.toArray := by
        have hl := o.zs
        rw [← e] at hl
        cases z <;> first | (simp [Value.cells] at hl; omega) | skip
        rw [← e]; simp [Value.cells]
      simp [zeroValue, typeInfo, hi, Result.andThen, hzz, hz2]
theorem alookA_run (hT : AllOk ax.P ax.tys) {ty vt : Nat} {ok : Bool} {r : Option V} {K : V → Prop} (h : alookA ax ty vt ok r K) {rv : Option Value} (hr : (∀ u, r = some u → ∃ v, rv = some v ∧ FVA gs G w F u v) ∧ (r = none → rv = none)) :
    ∃ z, (∀ w, (zeroValue vt).run ax.P w = .ok z w) ∧ ∀ {K' : Value → Prop}, (∀ u v, K u → RV gs G w F β σ u v → v = (if ok then .tuple #[rv.getD z, .bool rv.isSome] else rv.getD z) → K' v) → exT ax.tys ty K' := by
  unfold alookA at h
  cases hy : Vx.look ax.tys vt with
  | none => rw [hy] at h; exact h.elim
  | some y =>
    rw [hy] at h; dsimp only at h
    cases ha : lookO ax.ats vt with
    | none => rw [ha] at h; exact h.elim
    | some as =>
      rw [ha] at h; dsimp only at h
      obtain ⟨h1, h2, h3⟩ := condF h
      obtain ⟨h1, hf0⟩ := and_elim h1
      obtain ⟨h1, hag⟩ := and_elim h1
      obtain ⟨hres, hsz⟩ := and_elim h1
      have hzv := fun w => zero_agg hT hy (ble_elim hsz) w
      refine ⟨_, hzv, fun {K'} hK => ?_⟩
      have pack : ∀ (us : List V) (xs : List Value) (s : Bool), fitsL y.sh us = true → Rl (RV gs G w F β σ) us xs → rv.getD (.agg y.zero.toArray) = .agg xs.toArray → rv.isSome = s → K (cond ok (.tup [.agg us, .bool s]) (.agg us)) → exT ax.tys ty K' := fun us xs s hf hr e1 e2 hk => by
        rw [e1, e2] at hK
        have one : ∀ {Q : Value → Prop}, Q (.agg xs.toArray) → exT1 ax.tys vt Q := fun hq => by
          unfold exT1
          rw [hy]; dsimp only
          cases htk : y.tk <;> rw [htk] at hag <;> simp only [TK.isAgg] at hag <;> try cases hag
          exact fits_exL hf hr hq
        cases ok with
        | false =>
          have : ty = vt := beq_elim hres
          subst this
          unfold exT
          rw [hy]
          have hnt : ∀ ts, y.tk ≠ .tuple ts := fun ts e => by rw [e] at hag; cases hag
          obtain ⟨tk, b1, b2, b3, b4⟩ := y
          cases tk
          case tuple ts => exact absurd rfl (hnt _)
          all_goals exact one (hK _ _ hk (.mk_agg hr) rfl)
        | true =>
          obtain ⟨b1, b2, b3, b4, c1, c2, c3, c4, hlt2, hlb⟩ := lookRes_elim hres
          unfold exT
          rw [hlt2]
          dsimp only [exTs]
          refine one ?_
          unfold exT1
          rw [hlb]
          exact ⟨s, hK _ _ hk (.mk_tup (.cons (.mk_agg hr) (.cons (.mk_bool _) .nil))) rfl⟩
      cases hq : r with
      | none =>
        exact pack _ _ false hf0 (ofCells_rel _) (by rw [hr.2 hq]; rfl) (by rw [hr.2 hq]; rfl) (h3 hq)
      | some u =>
        obtain ⟨us, _, hu, h4⟩ := exA_elim (h2 u hq)
        obtain ⟨hf, hk⟩ := condF h4
        subst hu
        obtain ⟨v, e, hv⟩ := hr.1 _ hq
        rcases hv with hv | ⟨us', xs, e1, e2, hx⟩
        · cases hv
        · cases e1
          exact pack us xs true hf (hx.mono fun _ _ h => .fz _ _ h) (by rw [e, e2]; rfl) (by rw [e]; rfl) hk

/-- types that compare cell by cell -/
def ZOk (ax : Ax) : Prop := ∀ t k, lookTy ax t = some k → hasB ax.zs t = true → ∀ w, (zeroValue t).run ax.P w = .ok (.int k 0) w
def EqOk (ax : Ax) : Prop := ZOk ax ∧ ∀ t as, lookO ax.ats t = some as → hasB ax.eqs t = true → ∀ (op : BinOp) (xo yo : Operand) (w : World) (gs : List Nat) (G : Nat → Value) (F : Nat → Nat → Prop) (us vs : List V) (xs ys : List Value), isEq op = true → isA as us = true → isA as vs = true →
  Rl (FV gs G w F) us xs → Rl (FV gs G w F) vs ys → Runs ax.P (semEq op t xo yo (.agg xs.toArray) (.agg ys.toArray)) w (.bool (Vx.flip op (eqL us vs))) w

theorem isA_data : ∀ {as : List As} {us : List V} {xs : List Value}, isA as us = true → Rl (RV gs G w F β σ) us xs → Rl (FV gs G w F) us xs
  | [], [], xs, _, hv => by rw [hv.nil_inv]; exact .nil
  | [], _ :: _, _, h, _ => by cases h
  | _ :: _, [], _, h, _ => by cases h
  | a :: as, u :: us, xs, h, hv => by
    obtain ⟨x, xs', rfl, h1, h2⟩ := hv.cons_inv
    obtain ⟨k1, k2⟩ := and_elim h
    exact .cons (is_data k1 h1) (isA_data k2 h2)

theorem aop_load0 {o : Oper} {e : AEnv} {ρ : Env} {K : V → Store → Prop} {K' : (World → Prop) → Value → Prop} (hK : ∀ c v, (Out gs G w F β σ K v w ∧ ∀ w2 F2 β2 σ2, Step w F β σ w2 F2 β2 σ2 → depsOk σ2 (deps o (aev e) σ) = true → c w2) → K' c v) (hT : AllOk ax.P ax.tys) (hE : ErrOk ax.P gs ax.ift ax.tabs G) (hQ : EqOk ax) (hgs : gs = ax.gs) (hk : kindOf ax.tys o.op = .load) (h : aop ax ah o (aev e) σ K) (hs : Sim gs G w F β σ) (he : RE gs G w F β σ e ρ) :
    ldW ax.P ax.tys o (Vx.ev ρ) w K' := by
  have hρ := he.ev
  obtain ⟨dst, op, ty, pos, aft, gd⟩ := o
  unfold aop at h
  unfold ldW
  cases op with
  | load t x =>
    dsimp only at h ⊢
    obtain ⟨b, f, e1, h1⟩ := aload_run h hs hgs (hρ x) _ rfl
    rw [e1]; dsimp only
    have : ∀ K' K'' : List Value → Value → Prop, loadW ax.tys t b f w K' → (∀ xs v, K' xs v → K'' xs v) → loadW ax.tys t b f w K'' := by
      intro K' K'' h hm
      unfold loadW at h ⊢
      split at h
      · split at h
        · obtain ⟨k1, k2⟩ := condF h
          rw [k1]; exact exL_mono (fun vs hv => ⟨hv.1, hm _ _ hv.2⟩) k2
        · obtain ⟨k1, k2⟩ := condF h
          rw [k1]; exact exL_mono (fun vs hv => ⟨hv.1, hm _ _ hv.2⟩) k2
        · exact h
        · exact h
        · split at h
          · exact Sh.ex_mono (fun v hv => ⟨hv.1, hm _ _ hv.2⟩) h
          · exact h
      · exact h
    refine this _ _ h1 fun xs v ⟨⟨u, k1, k2⟩, k3⟩ => hK _ _ ⟨Out.same hs k1 k2, fun w2 F2 β2 σ2 hst hd => k3 w2 F2 β2 σ2 hst ?_⟩
    exact hd
  | binOp op t x y _ =>
    dsimp only at h ⊢
    have hn : eqNeeds ax.tys op t y = true := by
      unfold kindOf at hk
      dsimp only at hk
      cases hq : eqNeeds ax.tys op t y with
      | true => rfl
      | false => rw [hq] at hk; cases hk
    rw [hn] at h
    dsimp only [cond] at h
    unfold aeq at h
    have hx := hρ x
    have hy := hρ y
    have plain : ∀ (w2 : World) (F2 : Nat → Nat → Prop) (β2 : Nat → Value) (σ2 : Store), Step w F β σ w2 F2 β2 σ2 → ∀ g, g ∈ gs → ∃ u p, G g = .iface u (.pointer (some p)) ∧ Plain w2 p := fun w2 F2 β2 σ2 hst g hg => by
      obtain ⟨_, _, _, t, b, e1, _, e2, _⟩ := hs.glob_step hst g hg
      exact ⟨t, _, e1, e2⟩
    have errIn : ∀ (a : Option Nat) (x : Value), FV gs G w F (.err a) x → (∀ g, a = some g → g ∈ gs) ∧ x = (match a with | some g => G g | none => .nilIface) := fun a x hf => by
      cases hf with
      | errn => exact ⟨(fun g h => nomatch h), rfl⟩
      | errs g hg t x e => exact ⟨(fun g' h => by cases h; exact hg), rfl⟩
    split at h
    · rename_i a e1
      split at h
      · rename_i b e2
        rw [e1] at hx
        rw [e2] at hy
        obtain ⟨h1, h2⟩ := condF h
        obtain ⟨hnn, h2⟩ := ernW_elim h2
        obtain ⟨h3, h4⟩ := and_elim h1
        have hmem : t ∈ ax.ift := by
          unfold hasB at h4
          rw [List.any_eq_true] at h4
          obtain ⟨z, hz, e⟩ := h4
          rw [← beq_elim e]; exact hz
        obtain ⟨ga, ea⟩ := errIn a _ hx.err_inv
        obtain ⟨gb, eb⟩ := errIn b _ hy.err_inv
        have run : ∀ (w2 : World) (F2 : Nat → Nat → Prop) (β2 : Nat → Value) (σ2 : Store), Step w F β σ w2 F2 β2 σ2 → Runs ax.P (semEq op t x y (Vx.ev ρ x) (Vx.ev ρ y)) w2 (.bool (Vx.flip op (errEq a b))) w2 := fun w2 F2 β2 σ2 hst =>
          hE.eq t hmem op x y w2 a b _ _ h3 hnn (fun g hg => ⟨ga g hg, plain w2 F2 β2 σ2 hst g (ga g hg)⟩) (fun g hg => ⟨gb g hg, plain w2 F2 β2 σ2 hst g (gb g hg)⟩) ea eb
        exact ⟨_, run w F β σ (Step.refl _ _ _ _), hK _ _ ⟨Out.same hs h2 (.mk_bool _), fun w2 F2 β2 σ2 hst _ => run w2 F2 β2 σ2 hst⟩⟩
      · exact h.elim
    · rename_i vs e1
      split at h
      · rename_i us e2
        rw [e1] at hx
        rw [e2] at hy
        split at h
        · rename_i as has
          obtain ⟨h1, h2⟩ := condF h
          obtain ⟨h1, h5⟩ := and_elim h1
          obtain ⟨h1, h6⟩ := and_elim h1
          obtain ⟨h3, h4⟩ := and_elim h1
          obtain ⟨xs, ex, hxr⟩ := hx.agg_inv
          obtain ⟨ys, ey, hyr⟩ := hy.agg_inv
          have run : ∀ (w2 : World) (F2 : Nat → Nat → Prop) (β2 : Nat → Value) (σ2 : Store), Step w F β σ w2 F2 β2 σ2 → Runs ax.P (semEq op t x y (Vx.ev ρ x) (Vx.ev ρ y)) w2 (.bool (Vx.flip op (eqL vs us))) w2 := fun w2 F2 β2 σ2 hst => by
            rw [ex, ey]
            exact hQ.2 t as has h4 op x y w2 gs G F2 vs us xs ys h3 h6 h5 ((isA_data h6 hxr).mono fun _ _ => FV.mono hst.fcell) ((isA_data h5 hyr).mono fun _ _ => FV.mono hst.fcell)
          exact ⟨_, run w F β σ (Step.refl _ _ _ _), hK _ _ ⟨Out.same hs h2 (.mk_bool _), fun w2 F2 β2 σ2 hst _ => run w2 F2 β2 σ2 hst⟩⟩
        · exact h.elim
      · exact h.elim
    · exact h.elim
  | convert s d x =>
    dsimp only at h ⊢
    have hx := hρ x
    have hc : convPure ax.tys s d = false := by
      unfold kindOf at hk
      dsimp only at hk
      cases hq : convPure ax.tys s d with
      | false => rfl
      | true => rw [hq] at hk; cases hk
    have h1 : toStr ax.tys d = true := by
      unfold kindOf at hk
      dsimp only at hk
      rw [hc] at hk
      cases hq : toStr ax.tys d with
      | true => rfl
      | false => rw [hq] at hk; cases hk
    unfold aconv at h
    rw [hc, h1] at h
    dsimp only [cond] at h
    have h2 := h
    split at h2
    · rename_i el ye hse
      obtain ⟨y, hy, ht, hye⟩ := slElem_elim hse
      split at h2
      · rename_i hyk
        unfold toStr at h1
        cases hd : Vx.look ax.tys d with
        | none => rw [hd] at h1; cases h1
        | some yd =>
          rw [hd] at h1; dsimp only at h1
          have hdk : yd.tk = .str := by
            cases hq : yd.tk <;> rw [hq] at h1 <;> first | rfl | cases h1
          have oks := ok_of_look hT hy
          have okd := ok_of_look hT hd
          have oke := ok_of_look hT hye
          split at h2
          · rename_i z l e1
            obtain ⟨h3, bs, h4, h5⟩ := condF h2
            have := beq_elim h3
            subst this
            rw [e1] at hx
            have hf := hx.sl_inv
            obtain ⟨a, c, ev, _, _⟩ := hf.sl_inv
            rw [ev] at hf ⊢
            obtain ⟨_, hb, xs, hxs, hcells⟩ := hf.cells1
            subst h4
            have exs := rows_bytes hxs
            have run : ∀ (W : World), (∀ b' o', F b' o' → W.cell? ⟨b', o', none⟩ = w.cell? ⟨b', o', none⟩) → Runs ax.P (convert s d (.slice a (rowsOf bs).length c)) W (.string bs) W := fun W hW => by
              by_cases hne : rowsOf bs = []
              · have h0 : bs.data.toList = [] := by simpa [rowsOf] using hne
                have hb : bs = ⟨#[]⟩ := by rw [← mk_data bs, h0]
                rw [hne, hb]
                exact conv_empty oks ht okd hdk oke hyk
              · obtain ⟨b, o, ea⟩ := hb hne
                have hc' := hcells b o ea hne W hW
                rw [exs] at hc'
                have := conv_bytes (P := ax.P) oks ht okd hdk oke hyk (c := c) hc'
                rw [mk_data] at this
                rw [ea, rowsOf_length]
                exact this
            exact ⟨bs, run w (fun _ _ _ => rfl), hK _ _ ⟨Out.same hs h5 (.mk_str _), fun w2 F2 β2 σ2 hst _ => run w2 fun b' o' hf' => (hst.fcell b' o' hf').2⟩⟩
          · rename_i i e1
            split at h2
            · rename_i et z fz l hg
              obtain ⟨h3, bs, h4, h5⟩ := condF h2
              have := beq_elim h3
              subst this
              rw [e1] at hx
              obtain ⟨a, n, c, ev, hi, hb⟩ := hx.own_inv
              have hβ := hb _ _ _ _ hg
              have ho := hs.obj i
              rw [hg] at ho
              obtain ⟨xs, how, hxs, _⟩ := ho.lst_own hβ
              subst h4
              have exs := rows_bytes hxs
              rw [ev]
              have run : ∀ (W : World), (∀ b, Has β i (getO σ i) b → W.heap[b]? = w.heap[b]?) → Runs ax.P (convert s d (.slice a n c)) W (.string bs) W := fun W hW => by
                rw [hβ] at how
                rcases lst_cells how with ⟨e0, e2⟩ | ⟨g, c', e2, hc'⟩
                · cases e2
                  have h0 : bs.data.toList = [] := by simpa [rowsOf] using e0
                  have hb : bs = ⟨#[]⟩ := by rw [← mk_data bs, h0]
                  rw [hb]
                  exact conv_empty oks ht okd hdk oke hyk
                · cases e2
                  have hc2 := cellsAt_same (hW g ⟨by rw [hg]; trivial, by rw [hβ]; rfl⟩) hc'
                  rw [exs] at hc2
                  have := conv_bytes (P := ax.P) oks ht okd hdk oke hyk (c := c) hc2
                  rw [mk_data] at this
                  rw [rowsOf_length]
                  exact this
              refine ⟨bs, run w (fun _ _ => rfl), hK _ _ ⟨Out.same hs h5 (.mk_str _), fun w2 F2 β2 σ2 hst hd => run w2 ?_⟩⟩
              unfold deps at hd
              dsimp only at hd
              rw [e1] at hd
              simp only [ldDeps, depsOk, List.all_cons, List.all_nil, Bool.and_true] at hd
              exact ((hst.ver i hi).2 (beq_elim hd)).2
            · exact h2.elim
          · rename_i e1
            rw [e1] at hx
            rw [hx.nls_inv]
            have run : ∀ W : World, Runs ax.P (convert s d (.slice none 0 0)) W (.string ByteArray.empty) W := fun W => conv_nil oks ht okd hdk oke hyk
            exact ⟨_, run w, hK _ _ ⟨Out.same hs h2 (.mk_str _), fun w2 _ _ _ _ _ => run w2⟩⟩
          · exact h2.elim
      · exact h2.elim
    · exact h2.elim
  | call c =>
    dsimp only at h ⊢
    split at h
    · rename_i f hf
      unfold kindOf at hk
      dsimp only at hk
      rw [hf] at hk; cases hk
    · rename_i b hb
      unfold kindOf at hk
      dsimp only at hk
      rw [hb] at hk
      dsimp only at hk
      have lenPure : ∀ p : TK → Bool, (∀ k, p k = true → (∃ el, k = .sl el) ∨ k = .str) → isTk ax.tys (c.argTypes.toList.headD 0) p = true → builtPure ax.tys .len c.argTypes = true := fun p hp hi => by
        obtain ⟨ty, h1, h2⟩ := isTk_elim hi
        unfold builtPure
        dsimp only
        rw [h1]
        obtain ⟨tk, _, _, _, _⟩ := ty
        rcases hp _ h2 with ⟨el, e⟩ | e <;> (simp only at e; subst e; rfl)
      have slp : ∀ k, TK.isSl k = true → (∃ el, k = .sl el) ∨ k = .str := fun k hk => by cases k <;> simp_all [TK.isSl]
      unfold abuilt at h
      split at h
      · split at h
        · unfold builtP at h
          dsimp only at h
          split at h
          · rename_i e3
            have : builtPure ax.tys .len c.argTypes = true := by unfold builtPure; dsimp only; rw [e3]
            rw [this] at hk; cases hk
          · exact h.elim
        · rw [lenPure _ slp (and_elim (condF h).1).2] at hk; cases hk
        · rw [lenPure _ slp (and_elim (condF h).1).2] at hk; cases hk
        · split at h
          · rw [lenPure _ slp (and_elim (condF h).1).2] at hk; cases hk
          · exact h.elim
        · rename_i j e1
          split at h
          · rename_i et z fz l hg
            obtain ⟨k1, k2⟩ := condF h
            obtain ⟨kz, k3⟩ := and_elim k1
            obtain ⟨k3, k4⟩ := and_elim k3
            obtain ⟨ty, k5, k6⟩ := isTk_elim k4
            have okt := (ok_of_look hT k5).tk
            obtain ⟨tk, _, _, _, _⟩ := ty
            cases tk <;> simp only [TK.isMap] at k6 <;> try cases k6
            rename_i kt vt
            replace okt : ax.P.underlying (c.argTypes.toList.headD 0) = some (.map kt vt) := okt
            have hρl : ∀ l : List Operand, Rl (RV gs G w F β σ) (l.map (aev e)) (l.map (Vx.ev ρ)) := fun l => by
              induction l with
              | nil => exact .nil
              | cons x l ih => exact .cons (hρ x) ih
            have hargs := hρl c.args.toList
            rw [e1] at hargs
            obtain ⟨x, xs, e2, h1, h2⟩ := hargs.cons_inv
            obtain ⟨b, eb, hj, hb'⟩ := map_inv h1
            have hβ := hb' _ _ _ _ hg
            have ho := hs.obj j
            rw [hg] at ho
            obtain ⟨es, clock, hh, hz0, hrl⟩ := ho.lst_map hβ
            have hlen : es.size = l.length := by rw [← rows_len l es.toList hrl, Array.length_toList]
            have hts : c.argTypes = #[c.argTypes.toList.headD 0] := by
              have := beq_elim k3
              cases hc : c.argTypes with
              | mk ts => rw [hc] at this; match ts, this with | [t], _ => rfl
            have hvals : (c.args.toList.map (Vx.ev ρ)).toArray = #[.map (some b)] := by rw [e2, h2.nil_inv, eb]
            have run : ∀ W : World, W.heap[b]? = w.heap[b]? → Runs ax.P (Builtin.len_ c.argTypes ty (c.args.toList.map (Vx.ev ρ)).toArray) W (.int .i64 l.length) W := fun W hW => by
              rw [hts, hvals, ← hlen]
              unfold Runs
              generalize c.argTypes.toList.headD 0 = t0 at okt
              simp [Builtin.len_, run_underlying okt, MapKept.run_getObj_map (hW.trans hh), goInt]
            rw [hb]; dsimp only
            refine ⟨_, run w rfl, hK _ _ ⟨Out.same hs k2 (.mk_int _ _), fun w2 F2 β2 σ2 hst hd => run w2 ?_⟩⟩
            have hv2 : verO σ2 j = verO σ j := by
              have hd' : depsOk σ2 (c.args.toList.flatMap fun x => ldDeps σ (aev e x)) = true := hd
              have e3 : (c.args.toList.flatMap fun x => ldDeps σ (aev e x)) = (c.args.toList.map (aev e)).flatMap (ldDeps σ) := by rw [List.flatMap_map]
              rw [e3, e1] at hd'
              simp only [List.flatMap_cons, List.flatMap_nil, ldDeps, List.append_nil, depsOk, List.all_cons, List.all_nil, Bool.and_true] at hd'
              exact beq_elim hd'
            exact ((hst.ver j hj).2 hv2).2 b (by rw [hg]; exact ⟨trivial, by rw [hβ]; rfl⟩)
          · exact h.elim
        · exact h.elim
      · cases hk
      · cases hk
      · cases hk
      · exact h.elim
    · exact h.elim
  | lookup t x i ok =>
    dsimp only at h ⊢
    unfold alook at h
    split at h
    · rename_i j ex
      split at h
      · rename_i e' z fz l hg
        have hx := hρ x
        rw [ex] at hx
        have hi := hρ i
        obtain ⟨b, eb, hj, hb'⟩ := map_inv hx
        have hβ := hb' _ _ _ _ hg
        have ho := hs.obj j
        rw [hg] at ho
        obtain ⟨es, clock, hh, hz0, hrl⟩ := ho.lst_map hβ
        have keep : ∀ (w2 : World) (F2 : Nat → Nat → Prop) (β2 : Nat → Value) (σ2 : Store), Step w F β σ w2 F2 β2 σ2 → depsOk σ2 (ldDeps σ (aev e x)) = true → w2.heap[b]? = w.heap[b]? := fun w2 F2 β2 σ2 hst hd => by
          rw [ex] at hd
          simp only [ldDeps, depsOk, List.all_cons, List.all_nil, Bool.and_true] at hd
          exact ((hst.ver j hj).2 (beq_elim hd)).2 b (by rw [hg]; exact ⟨trivial, by rw [hβ]; rfl⟩)
        rw [eb]
        split at h
        · rename_i vt hmi
          obtain ⟨kt, t1, t2⟩ := mapI_elim hT hmi
          split at h
          · rename_i q ei
            rw [ei] at hi
            obtain ⟨h1, h7⟩ := condF h
            obtain ⟨_, hfz⟩ := and_elim h1
            have hfz : fz = false := by simpa using hfz
            subst hfz
            obtain ⟨pl, p1, p2, p3⟩ := rows_mm l es.toList hrl
            rw [hi.int_inv]
            split at h7
            · rename_i k hlt
              obtain ⟨h1, h2, h3⟩ := condF h7
              obtain ⟨hzs, hres⟩ := and_elim h1
              have run : ∀ (W : World), W.heap[b]? = w.heap[b]? → Runs ax.P (Instr.lookup t (.map (some b)) (.int .i64 q) ok) W (if ok then .tuple #[(pl.lookup q).getD (.int k 0), .bool (pl.lookup q).isSome] else (pl.lookup q).getD (.int k 0)) W := fun W hW =>
                lookup_mm t1 (hQ.1 vt k hlt hzs W) t2 ⟨es, clock, hW.trans hh, p1⟩ ok
              have fin : ∀ (n : Int) (s : Bool), pl.lookup q = (if s then some (.int k n) else none) → (s = false → n = 0) → K (cond ok (.tup [.int k n, .bool s]) (.int k n)) σ →
                  exT ax.tys ty fun v => Runs ax.P (Instr.lookup t (.map (some b)) (.int .i64 q) ok) w v w ∧ K' (fun w' => Runs ax.P (Instr.lookup t (.map (some b)) (.int .i64 q) ok) w' v w') v := fun n s hs1 hs2 hk1 => by
                have e1 : (pl.lookup q).getD (.int k 0) = .int k n ∧ (pl.lookup q).isSome = s := by
                  cases s with
                  | true => rw [hs1]; exact ⟨rfl, rfl⟩
                  | false => rw [hs1, hs2 rfl]; exact ⟨rfl, rfl⟩
                rw [e1.1, e1.2] at run
                obtain ⟨a1, a2, a3, hly⟩ := lookTy_elim hlt
                cases ok with
                | false =>
                  have : ty = vt := beq_elim hres
                  subst this
                  unfold exT exT1
                  rw [hly]
                  exact ⟨n, run w rfl, hK _ _ ⟨Out.same hs hk1 (.mk_int _ _), fun w2 F2 β2 σ2 hst hd => run w2 (keep w2 F2 β2 σ2 hst hd)⟩⟩
                | true =>
                  obtain ⟨b1, b2, b3, b4, c1, c2, c3, c4, hlt2, hlb⟩ := lookRes_elim hres
                  unfold exT
                  rw [hlt2]
                  dsimp only [exTs]
                  unfold exT1
                  rw [hly, hlb]
                  exact ⟨n, s, run w rfl, hK _ _ ⟨Out.same hs hk1 (.tup _ _ rfl fun i u v hu hv => by
                    match i with
                    | 0 => cases hu; cases hv; exact .mk_int _ _
                    | 1 => cases hu; cases hv; exact .mk_bool _
                    | i + 2 => cases hu), fun w2 F2 β2 σ2 hst hd => run w2 (keep w2 F2 β2 σ2 hst hd)⟩⟩
              cases hq : lookV l q with
              | some u =>
                obtain ⟨n, rfl, hk1⟩ := h2 u hq
                obtain ⟨v, hv1, hv2⟩ := (p3 q).1 _ hq
                have : v = .int k n := by
                  rcases hv2 with hv2 | ⟨_, _, e, _⟩
                  · cases hv2; rfl
                  · cases e
                subst this
                exact fin n true hv1 (fun h => nomatch h) hk1
              | none => exact fin 0 false ((p3 q).2 hq) (fun _ => rfl) (h3 hq)
            · obtain ⟨z0, hz1, hex⟩ := alookA_run (β := β) (σ := σ) hT h7 (p3 q)
              refine hex fun u v hku hrv ev => ?_
              have run : ∀ (W : World), W.heap[b]? = w.heap[b]? → Runs ax.P (Instr.lookup t (.map (some b)) (.int .i64 q) ok) W v W := fun W hW => by
                rw [ev]; exact lookup_mm t1 (hz1 W) t2 ⟨es, clock, hW.trans hh, p1⟩ ok
              exact ⟨run w rfl, hK _ _ ⟨Out.same hs hku hrv, fun w2 F2 β2 σ2 hst hd => run w2 (keep w2 F2 β2 σ2 hst hd)⟩⟩
          · exact h.elim
        · split at h
          · rename_i vt hms
            obtain ⟨kt, t1, t2⟩ := mapS_elim hT hms
            split at h
            · rename_i q ei
              rw [ei] at hi
              obtain ⟨h1, h7⟩ := condF h
              obtain ⟨_, hfz⟩ := and_elim h1
              subst hfz
              obtain ⟨pl, p1, p2, p3⟩ := rows_mt l es.toList hrl
              rw [hi.str_inv]
              obtain ⟨z0, hz1, hex⟩ := alookA_run (β := β) (σ := σ) hT h7 (p3 q)
              refine hex fun u v hku hrv ev => ?_
              have run : ∀ (W : World), W.heap[b]? = w.heap[b]? → Runs ax.P (Instr.lookup t (.map (some b)) (.string q) ok) W v W := fun W hW => by
                rw [ev]; exact lookup_mt t1 (hz1 W) t2 ⟨es, clock, hW.trans hh, p1⟩ ok
              exact ⟨run w rfl, hK _ _ ⟨Out.same hs hku hrv, fun w2 F2 β2 σ2 hst hd => run w2 (keep w2 F2 β2 σ2 hst hd)⟩⟩
            · exact h.elim
          · exact h.elim
      · exact h.elim
    · exact h.elim
  | panic x => cases hk
  | makeInterface t x => cases hk
  | move x => cases hk
  | assign x => cases hk
  | pick c x y => cases hk
  | build t p => cases hk
  | nilCheck x => cases hk
  | unOp op t x => cases hk
  | makeFunc f a b => cases hk
  | slice t x a b c => cases hk
  | fieldAddr s x i => cases hk
  | field s x i => cases hk
  | indexAddr s x i => cases hk
  | index s x i => cases hk
  | extract x i => cases hk
  | alloc t => cases hk
  | box t x => cases hk
  | buildSlice t n p => cases hk
  | store t x y => cases hk
  | makeSlice t a b => cases hk
  | makeMap t r => cases hk
  | mapUpdate t m k x => cases hk
  | _ => exact h.elim

/-- an int in a box, looked at: it stands as long as the box holds it -/
theorem aload_alt {t i p : Nat} {k : IntKind} {n : Int} {l : List V} {y : Ty} {pv : Value} {K : V → Prop} (h : aload ax σ t (.ptr i p) K) (hs : Sim gs G w F β σ) (hp : RV gs G w F β σ (.ptr i p) pv) (hg : getO σ i = .box l) (hl : l[p]? = some (.int k n)) (hy : Vx.look ax.tys t = some y) (h1 : y.size = 1) :
    ∃ b f, pv = .pointer (some ⟨b, f, none⟩) ∧ loadW ax.tys t b f w fun xs v => (∃ u, K u ∧ RV gs G w F β σ u v) ∧ (∀ w2 F2 β2 σ2, Step w F β σ w2 F2 β2 σ2 → depsOk σ2 (ldDeps σ (.ptr i p)) = true → cellsAt w2 b f xs) ∧
      ∀ w2 F2 β2 σ2, Step w F β σ w2 F2 β2 σ2 → Sim gs G w2 F2 β2 σ2 → altOk σ2 (some (i, p, k, n)) → cellsAt w2 b f xs := by
  unfold aload at h
  rw [hy] at h
  dsimp only at h
  rw [hg] at h; dsimp only at h
  obtain ⟨g1, _⟩ := condF h
  obtain ⟨h3, h4⟩ := and_elim g1
  obtain ⟨_, h2⟩ := condF h
  obtain ⟨b, o', e, hi, hb⟩ := hp.ptr_inv
  obtain ⟨hβ, rfl⟩ := hb l hg
  have ho := hs.obj i
  rw [hg] at ho
  obtain ⟨b', tt, cs, e', hh, hr, h1'⟩ := ho
  rw [hβ] at e'
  cases e'
  refine ⟨b, o', e, ?_⟩
  have hsz := beq_elim h3
  have hr' := (hr.drop o').take y.size
  have hln := fitsL_len h4
  have hxl : ((cs.toList.drop o').take y.size).length = y.size := by rw [← hr'.1, hln, hsz]
  have hc := cellsAt_of_block hh ((cs.toList.drop o').take y.size) o' (by rw [hxl])
  obtain ⟨v0, hv0, hr0⟩ := hr.get hl
  have e0 : v0 = .int k n := by
    cases hr0 with
    | fz _ _ h => cases h; rfl
  subst e0
  have ex : (cs.toList.drop o').take y.size = [.int k n] := by
    rw [h1]
    obtain ⟨hlt, hge⟩ := List.getElem?_eq_some_iff.1 hv0
    rw [List.drop_eq_getElem_cons hlt, hge]; rfl
  refine loadW_of hy hsz h4 hr' hc h2 fun u v hk hv => ⟨⟨u, hk, hv⟩, fun w2 F2 β2 σ2 hst hd => ?_, fun w2 F2 β2 σ2 hst hs2 ha => ?_⟩
  · simp only [ldDeps, depsOk, List.all_cons, List.all_nil, Bool.and_true] at hd
    have := ((hst.ver i hi).2 (beq_elim hd)).2 b ⟨by rw [hg]; trivial, by rw [hβ]; rfl⟩
    exact cellsAt_same this hc
  · rw [ex]
    dsimp only [altOk] at ha
    have ho2 := hs2.obj i
    cases hg2 : getO σ2 i with
    | box l2 =>
      rw [hg2] at ha ho2
      dsimp only at ha
      obtain ⟨b2, t2, cs2, e2, hh2, hr2, _⟩ := ho2
      rw [(hst.ext i hi).1, hβ] at e2
      cases e2
      split at ha
      · rename_i k' n' hl2
        obtain ⟨hk2, hn2⟩ := condF ha
        have hk2 := of_decide_eq_true hk2
        subst hk2 hn2
        obtain ⟨v2, hv2, hr3⟩ := hr2.get hl2
        have e3 : v2 = .int k' n' := by
          cases hr3 with
          | fz _ _ h => cases h; rfl
        subst e3
        refine cellsAt_of_block hh2 [.int k' n'] o' ?_
        obtain ⟨hlt, hge⟩ := List.getElem?_eq_some_iff.1 hv2
        rw [List.drop_eq_getElem_cons hlt, hge]; rfl
      · exact ha.elim
    | _ => rw [hg2] at ha; exact ha.elim

theorem aop_load {o : Oper} {e : AEnv} {ρ : Env} {K : V → Store → Prop} {K' : (World → Prop) → Value → Prop} (hK : ∀ c v, (Out gs G w F β σ K v w ∧ (∀ w2 F2 β2 σ2, Step w F β σ w2 F2 β2 σ2 → depsOk σ2 (deps o (aev e) σ) = true → c w2) ∧ ∀ w2 F2 β2 σ2, Step w F β σ w2 F2 β2 σ2 → Sim gs G w2 F2 β2 σ2 → altOk σ2 (altOf ax.tys o (aev e) σ) → c w2) → K' c v) (hT : AllOk ax.P ax.tys) (hE : ErrOk ax.P gs ax.ift ax.tabs G) (hQ : EqOk ax) (hgs : gs = ax.gs) (hk : kindOf ax.tys o.op = .load) (h : aop ax ah o (aev e) σ K) (hs : Sim gs G w F β σ) (he : RE gs G w F β σ e ρ) :
    ldW ax.P ax.tys o (Vx.ev ρ) w K' := by
  cases ha : altOf ax.tys o (aev e) σ with
  | none => exact aop_load0 (fun c v h => hK c v ⟨h.1, h.2, fun _ _ _ _ _ _ h => by rw [ha] at h; exact h.elim⟩) hT hE hQ hgs hk h hs he
  | some q =>
    rw [ha] at hK
    have hρ := he.ev
    obtain ⟨dst, op, ty, pos, aft, gd⟩ := o
    unfold altOf at ha
    cases op with
    | load t x =>
      dsimp only at ha
      have hx := hρ x
      cases hv : aev e x with
      | ptr i p =>
        rw [hv] at ha hx; dsimp only at ha
        cases hg : getO σ i with
        | box l =>
          rw [hg] at ha; dsimp only at ha
          split at ha
          · rename_i k n hl
            split at ha
            · rename_i y hy
              cases h1 : Nat.beq y.size 1 with
              | false => rw [h1] at ha; cases ha
              | true =>
                rw [h1] at ha; cases ha
                have hd : deps ⟨dst, .load t x, ty, pos, aft, gd⟩ (aev e) σ = ldDeps σ (.ptr i p) := by unfold deps; dsimp only; rw [hv]
                rw [hd] at hK
                unfold aop at h
                unfold ldW
                dsimp only at h ⊢
                rw [hv] at h
                obtain ⟨b, f, e1, h2⟩ := aload_alt h hs hx hg hl hy (beq_elim h1)
                rw [e1]; dsimp only
                have : ∀ K' K'' : List Value → Value → Prop, loadW ax.tys t b f w K' → (∀ xs v, K' xs v → K'' xs v) → loadW ax.tys t b f w K'' := by
                  intro K' K'' h hm
                  unfold loadW at h ⊢
                  split at h
                  · split at h
                    · obtain ⟨k1, k2⟩ := condF h
                      rw [k1]; exact exL_mono (fun vs hv => ⟨hv.1, hm _ _ hv.2⟩) k2
                    · obtain ⟨k1, k2⟩ := condF h
                      rw [k1]; exact exL_mono (fun vs hv => ⟨hv.1, hm _ _ hv.2⟩) k2
                    · exact h
                    · exact h
                    · split at h
                      · exact Sh.ex_mono (fun v hv => ⟨hv.1, hm _ _ hv.2⟩) h
                      · exact h
                  · exact h
                exact this _ _ h2 fun xs v ⟨⟨u, k1, k2⟩, k3, k4⟩ => hK _ _ ⟨Out.same hs k1 k2, k3, k4⟩
            · cases ha
          · cases ha
        | _ => rw [hg] at ha; cases ha
      | _ => rw [hv] at ha; cases ha
    | _ => cases ha

end
end Go.Av
end

/- part AvJ -/
section
namespace Go.Av
open Go.Vx Go.RowKit

section
variable {ax : Ax} {ah : AH} {gs : List Nat} {G : Nat → Value} {w w' : World} {F F' : Nat → Nat → Prop} {β β' : Nat → Value} {σ σ' : Store} {v : Value}

/-! ### a new variable -/
theorem Sim.new (h : Sim gs G w F β σ) (hb : Below w.heap.size w w') (_hsz : w.heap.size < w'.heap.size) (val : Value) (ob : Ob) (hv : ∀ b, vblk val = some b → b = w.heap.size)
    (hob : Carry w F β σ w' (fun b o => F b o ∨ False) (extB β σ.length val) (σ ++ [⟨0, ob⟩]) → ObjR gs G w' (fun b o => F b o ∨ False) (extB β σ.length val) (σ ++ [⟨0, ob⟩]) σ.length ob) :
    Sim gs G w' (fun b o => F b o ∨ False) (extB β σ.length val) (σ ++ [⟨0, ob⟩]) ∧ Step w F β σ w' (fun b o => F b o ∨ False) (extB β σ.length val) (σ ++ [⟨0, ob⟩]) := by
  have hc : ∀ b o, b < w.heap.size → w'.cell? ⟨b, o, none⟩ = w.cell? ⟨b, o, none⟩ := fun b o hlt => hb.cell (p := ⟨b, o, none⟩) hlt
  have hcar : Carry w F β σ w' (fun b o => F b o ∨ False) (extB β σ.length val) (σ ++ [⟨0, ob⟩]) := repl_carry (kill := none) (v := 0) (X := fun _ _ => False) fun b o hf => hc b o (h.lt b o hf)
  exact h.repl none val ob (fun _ _ => False) (fun i hi => by cases hi) hb.os hb.tape hb.output hb.size (fun b o hlt _ => hc b o hlt) (fun b hlt _ => hb.block b hlt) (fun _ _ hx => hx.elim) (fun _ _ _ hx => hx.elim) (hob hcar)
    (fun b _ hbb => .inl (by rw [hv b hbb]; exact Nat.le_refl _)) (fun b o hm => .inl (by have := hm.1.2; rw [extB_new] at this; rw [hv b this]; exact Nat.le_refl _))

theorem new_box (h : Sim gs G w F β σ) {l : List V} {xs : List Value} {t : TypeId} (hr : Rl (RV gs G w F β σ) l xs) (h1 : ∀ x ∈ xs, x.oneCell' = true) {K : V → Store → Prop} (hk : K (.ptr σ.length 0) (σ ++ [⟨0, .box l⟩])) :
    Out gs G w F β σ K (newP w) (w.alloc (.cells xs.toArray t)) := by
  obtain ⟨k1, k2⟩ := h.new (w' := w.alloc (.cells xs.toArray t)) (below_alloc w _) (by rw [alloc_size]; omega) (newP w) (.box l) (fun b hb => by simp [newP, vblk] at hb; exact hb.symm)
    (fun hc => ⟨w.heap.size, t, xs.toArray, by rw [extB_new]; rfl, alloc_block w _, by simpa using hr.mono fun u v => RV.mono hc, by simpa using h1⟩)
  refine ⟨_, _, _, _, hk, ?_, k1, k2⟩
  exact .ptr σ.length 0 w.heap.size 0 (by simp) fun l' hl' => ⟨by rw [extB_new]; rfl, rfl⟩

theorem zeros_list (z : List Value) (n : Nat) : (zerosA z n).toList = repL n z := by
  unfold zerosA
  by_cases h : n * z.length = 0
  · rw [h]
    have : (repL n z).length = 0 := by rw [repL_get, h]
    rw [List.eq_nil_of_length_eq_zero this]
    simp
  · exact zeros_eq z n h z.toArray (by simp)
theorem repL_take (z : List Value) : ∀ (n m : Nat), n ≤ m → (repL m z).take (n * z.length) = repL n z
  | 0, _, _ => by simp [repL]
  | n + 1, 0, h => by omega
  | n + 1, m + 1, h => by
    have ih := repL_take z n m (by omega)
    simp only [repL]
    rw [show (n + 1) * z.length = z.length + n * z.length by rw [Nat.add_mul]; omega, List.take_append, List.take_of_length_le (by omega), show z.length + n * z.length - z.length = n * z.length by omega, ih]
theorem repl_rel {R : V → Value → Prop} {zr : List V} {z : List Value} (h : Rl R zr z) : ∀ n : Nat, Rl R (List.replicate n zr).flatten (repL n z)
  | 0 => by simpa [repL] using Rl.nil
  | n + 1 => by
    rw [List.replicate_succ, List.flatten_cons]
    exact h.append (repl_rel h n)

/-! ### constants -/
theorem co_const {a : As} {u u' : V} (hn : ∀ i, u ≠ .own i) (h : co σ a u = some (u', σ')) {x : Value} (hv : RV gs G w F β σ u x) : σ' = σ ∧ FV gs G w F u' x ∧ a.is u' = true := by
  have gen : cond (a.is u) (some (u, σ)) none = some (u', σ') → σ' = σ ∧ FV gs G w F u' x ∧ a.is u' = true := fun h => by
    cases hi : a.is u with
    | false => rw [hi] at h; cases h
    | true => rw [hi] at h; cases h; exact ⟨rfl, is_data hi hv, hi⟩
  cases a with
  | sl z =>
    cases u with
    | nls =>
      simp only [co] at h
      cases h
      refine ⟨rfl, ?_, by simp [As.is]⟩
      rw [hv.nls_inv]
      exact .sl z [] none 0 (fun _ _ => .nilIface) (Nat.le_refl _) (by simp [maxLen]) (fun e he => by cases he) (fun h => absurd rfl h) (fun i e j u h => by simp at h)
    | own i => exact absurd rfl (hn i)
    | _ => exact gen h
  | _ => cases u <;> exact gen h
theorem coL_const : ∀ {as : List As} {us us' : List V} {xs : List Value} {σ σ' : Store}, (∀ u ∈ us, ∀ i, u ≠ .own i) → coL σ as us = some (us', σ') → Rl (RV gs G w F β σ) us xs → Rl (FV gs G w F) us' xs ∧ us'.length = as.length
  | [], [], us', xs, σ, σ', _, h, hv => by
    simp only [coL] at h; cases h
    rw [hv.nil_inv]; exact ⟨.nil, rfl⟩
  | [], _ :: _, _, _, _, _, _, h, _ => by simp only [coL] at h; cases h
  | _ :: _, [], _, _, _, _, _, h, _ => by simp only [coL] at h; cases h
  | a :: as, u :: us, us', xs, σ, σ', hn, h, hv => by
    obtain ⟨x, xs', rfl, h1, h2⟩ := hv.cons_inv
    simp only [coL] at h
    cases hc : co σ a u with
    | none => rw [hc] at h; cases h
    | some r =>
      obtain ⟨u', σ1⟩ := r
      rw [hc] at h; dsimp only at h
      obtain ⟨e1, k2, _⟩ := co_const (hn u List.mem_cons_self) hc h1
      subst e1
      cases hc2 : coL σ1 as us with
      | none => rw [hc2] at h; cases h
      | some r =>
        obtain ⟨vs, σ2⟩ := r
        rw [hc2] at h; cases h
        obtain ⟨l1, l2⟩ := coL_const (fun u hu => hn u (List.mem_cons_of_mem _ hu)) hc2 h2
        exact ⟨.cons k2 l1, by simp [l2]⟩
theorem ofCell_not_own (x : Value) (i : Nat) : ofCell x ≠ .own i := by
  intro h
  unfold ofCell at h
  split at h <;> cases h

theorem isA_len : ∀ {as : List As} {us : List V}, isA as us = true → us.length = as.length
  | [], [], _ => rfl
  | [], _ :: _, h => by cases h
  | _ :: _, [], h => by cases h
  | _ :: as, _ :: us, h => by have := isA_len (and_elim h).2; simp [this]

theorem cellsV_rel {as : List As} {u : V} {us : List V} (hs : Sim gs G w F β σ) (h : coL σ as (cellsV u) = some (us, σ')) {x : Value} (hv : RV gs G w F β σ u x) : Rl (RV gs G w F β σ) (cellsV u) x.cells.toList := by
  by_cases ha : ∃ l, u = .agg l
  · obtain ⟨l, rfl⟩ := ha
    obtain ⟨ys, rfl, hr⟩ := hv.agg_inv
    exact hr
  · have e : cellsV u = [u] := by cases u <;> first | rfl | exact absurd ⟨_, rfl⟩ ha
    rw [e] at h ⊢
    obtain ⟨F1, k1, k2, k3, k4⟩ := coL_run hs h (.cons hv .nil)
    have hlen := k3.1
    match us, k3 with
    | [], k3 => simp at hlen
    | [q], k3 =>
      have := (k3.2 0 q x rfl rfl).one
      rw [cells_one this]
      exact .cons hv .nil
    | _ :: _ :: _, k3 => simp at hlen

/-! ### rows -/
theorem setV_right (A : List V) : ∀ (vs : List V) (B : List V) (i : Nat), setV (A ++ B) (A.length + i) vs = A ++ setV B i vs
  | [], _, _ => rfl
  | v :: vs, B, i => by
    simp only [setV]
    rw [List.set_append_right _ _ (by omega), Nat.add_sub_cancel_left, Nat.add_assoc]
    exact setV_right A vs _ _
theorem setV_left : ∀ (vs : List V) (A B : List V) (i : Nat), i + vs.length ≤ A.length → setV (A ++ B) i vs = setV A i vs ++ B
  | [], _, _, _, _ => rfl
  | v :: vs, A, B, i, h => by
    simp only [List.length_cons] at h
    simp only [setV]
    rw [List.set_append_left _ _ (by omega)]
    exact setV_left vs _ B (i + 1) (by rw [List.length_set]; omega)
theorem setV_length : ∀ (vs : List V) (A : List V) (i : Nat), (setV A i vs).length = A.length
  | [], _, _ => rfl
  | v :: vs, A, i => by simp only [setV]; rw [setV_length vs]; simp
theorem setV_all (vs : List V) : ∀ (pre cs : List V), cs.length = vs.length → setV (pre ++ cs) pre.length vs = pre ++ vs := by
  induction vs with
  | nil => intro pre cs h; rw [List.eq_nil_of_length_eq_zero h]; rfl
  | cons v vs ih =>
    intro pre cs h
    cases cs with
    | nil => simp at h
    | cons c cs =>
      simp only [setV]
      have e : (pre ++ c :: cs).set pre.length v = (pre ++ [v]) ++ cs := by simp
      rw [e]
      have := ih (pre ++ [v]) cs (by simpa using h)
      rw [List.length_append, List.length_singleton] at this
      rw [this]; simp
/-- a row of a list, written -/
theorem flatten_setV {z : Nat} : ∀ {l : List (List V)}, (∀ r ∈ l, r.length = z) → ∀ (j : Nat) (_ : j < l.length) (o : Nat) (us : List V), o + us.length ≤ z → (l.set j (setV (l.getD j []) o us)).flatten = setV l.flatten (j * z + o) us
  | [], _, j, hj, _, _, _ => by simp at hj
  | r :: l, h, j, hj, o, us, hle => by
    have hr := h r List.mem_cons_self
    cases j with
    | zero =>
      simp only [List.set_cons_zero, List.getD_cons_zero, List.flatten_cons, Nat.zero_mul, Nat.zero_add]
      rw [setV_left _ _ _ _ (by omega)]
    | succ j =>
      simp only [List.set_cons_succ, List.getD_cons_succ, List.flatten_cons]
      rw [flatten_setV (fun x hx => h x (List.mem_cons_of_mem _ hx)) j (by simpa using hj) o us hle]
      rw [show (j + 1) * z + o = r.length + (j * z + o) by rw [Nat.add_mul]; omega, setV_right]
theorem flatten_set_row {z : Nat} {l : List (List V)} (h : ∀ r ∈ l, r.length = z) (j : Nat) (hj : j < l.length) (us : List V) (hu : us.length = z) : (l.set j us).flatten = setV l.flatten (j * z) us := by
  have hr : (l.getD j []).length = z := by
    rw [List.getD_eq_getElem?_getD, List.getElem?_eq_getElem hj]; exact h _ (List.getElem_mem hj)
  have := flatten_setV h j hj 0 us (by omega)
  rw [Nat.add_zero] at this
  rw [← this]
  congr 1
  have := setV_all us [] (l.getD j []) (by omega)
  simp only [List.nil_append, List.length_nil] at this
  rw [this]

theorem fillR_run {as : List As} {z : Nat} (hz : as.length = z) {ρa : Operand → V} {ρc : Operand → Value} : ∀ (ps : List (Nat × Operand)) {F : Nat → Nat → Prop} {σ σ1 : Store} {rows rows' : List (List V)} {xs : List Value}, (∀ x, RV gs G w F β σ (ρa x) (ρc x)) → Sim gs G w F β σ → (∀ r ∈ rows, r.length = z) → Rl (FV gs G w F) rows.flatten xs →
    aop.fillR σ as rows (ps.map fun (i, x) => (i, ρa x)) = some (rows', σ1) → ∃ F' xs', Sim gs G w F' β σ1 ∧ Step w F β σ w F' β σ1 ∧ fillL (fun i => some (i * z, z)) xs (ps.map fun (i, x) => (i, ρc x)) = some xs' ∧ Rl (FV gs G w F') rows'.flatten xs' ∧ (∀ r ∈ rows', r.length = z) ∧ rows'.length = rows.length
  | [], F, σ, σ1, rows, rows', xs, hρ, hs, hr, hx, h => by
    simp only [List.map_nil, aop.fillR] at h; cases h
    exact ⟨F, xs, hs, Step.refl _ _ _ _, rfl, hx, hr, rfl⟩
  | (i, x) :: ps, F, σ, σ1, rows, rows', xs, hρ, hs, hr, hx, h => by
    simp only [List.map_cons, aop.fillR, fillL] at h ⊢
    cases hb : Nat.ble (i + 1) rows.length with
    | false => rw [hb] at h; cases h
    | true =>
      rw [hb] at h
      dsimp only [cond] at h
      have hi := ble_elim hb
      cases hc : coL σ as (cellsV (ρa x)) with
      | none => rw [hc] at h; cases h
      | some r =>
        obtain ⟨us, σ2⟩ := r
        rw [hc] at h; dsimp only at h
        have hcr := cellsV_rel hs hc (hρ x)
        obtain ⟨F1, k1, k2, k3, k4⟩ := coL_run hs hc hcr
        have hul : us.length = z := by rw [isA_len k4, hz]
        have hfl := flatten_set_row hr i (by omega) us hul
        have hx1 : Rl (FV gs G w F1) (rows.set i us).flatten (setAt xs (i * z) (ρc x).cells.toList) := by
          rw [hfl]; exact k3.setAt _ (hx.mono fun _ _ => FV.mono k2.fcell)
        obtain ⟨F2, xs', l1, l2, l3, l4, l5, l6⟩ := fillR_run hz ps (F := F1) (σ := σ2) (fun y => (hρ y).mono k2.carry) k1 (fun r hr' => by
          rcases List.mem_or_eq_of_mem_set hr' with h | h
          · exact hr r h
          · rw [h]; exact hul) hx1 h
        refine ⟨F2, xs', l1, k2.trans l2, ?_, l4, l5, by rw [l6]; simp⟩
        have e1 : (ρc x).cells.toList.length = z := by rw [← k3.1]; exact hul
        have e2 : i * z + z ≤ xs.length := by rw [← hx.1, flatten_len hr]; rw [show i * z + z = (i + 1) * z by rw [Nat.add_mul]; omega]; exact Nat.mul_le_mul_right _ hi
        rw [e1]
        have b1 : Nat.beq z z = true := Nat.beq_refl _
        have b2 : Nat.ble (i * z + z) xs.length = true := Nat.ble_eq_true_of_le e2
        rw [b1, b2]
        exact l3

theorem new_lst (h : Sim gs G w F β σ) {l : List (List V)} {cs : Array Value} {xs : List Value} {t z n m : Nat} (hn : n = l.length) (hr : Rl (FV gs G w F) l.flatten xs) (hz : ∀ r ∈ l, r.length = z) (hz0 : 0 < z) (hnm : n ≤ m) (hm : m ≤ maxLen) (hcs : cs.size = m * z) (htake : cs.toList.take (n * z) = xs)
    {K : V → Store → Prop} (hk : K (.own σ.length) (σ ++ [⟨0, .lst t z false l⟩])) : Out gs G w F β σ K (.slice (some ⟨w.heap.size, 0, none⟩) n m) (w.alloc (.cells cs t)) := by
  subst hn
  obtain ⟨k1, k2⟩ := h.new (w' := w.alloc (.cells cs t)) (below_alloc w _) (by rw [alloc_size]; omega) (.slice (some ⟨w.heap.size, 0, none⟩) l.length m) (.lst t z false l) (fun b hb => by simp [vblk] at hb; exact hb.symm)
    (fun hc => .inr ⟨xs, by
      rw [extB_new]
      refine ⟨by rw [← hr.1, flatten_len hz], .inr ⟨w.heap.size, m, cs, rfl, Nat.zero_le _, alloc_block w _, hnm, hm, hcs, htake⟩⟩, hr.mono fun u v => FV.mono hc.f, hz, hz0, fun h => by cases h⟩)
  refine ⟨_, _, _, _, hk, ?_, k1, k2⟩
  exact .own σ.length _ _ _ (by simp) fun t z fz l' hl' => by rw [extB_new]

end
end Go.Av
end

/- part AvK -/
section
namespace Go.Av
open Go.Vx Go.RowKit

theorem setAt_left (_A B : List Value) : ∀ (vs : List Value) (A : List Value) (i : Nat), i + vs.length ≤ A.length → setAt (A ++ B) i vs = setAt A i vs ++ B
  | [], _, _, _ => rfl
  | v :: vs, A, i, h => by
    simp only [List.length_cons] at h
    simp only [setAt]
    rw [List.set_append_left _ _ (by omega)]
    exact setAt_left A B vs _ (i + 1) (by rw [List.length_set]; omega)

section
variable {ax : Ax} {ah : AH} {gs : List Nat} {G : Nat → Value} {w w' : World} {F F' : Nat → Nat → Prop} {β β' : Nat → Value} {σ σ' : Store} {v : Value}

theorem set_carry (h : Sim gs G w F β σ) {i : Nat} {ob' : Ob} (hle : obLe (getO σ i) ob') (hi : i < σ.length) (hcell : ∀ b o, b < w.heap.size → ¬ Mut β i (getO σ i) b o → w'.cell? ⟨b, o, none⟩ = w.cell? ⟨b, o, none⟩) (X : Nat → Nat → Prop) :
    Carry w F β σ w' (fun b o => F b o ∨ X b o) β (putO σ i ob') := by
  refine ⟨fun b o hf => ⟨.inl hf, hcell b o (h.lt b o hf) fun hm => h.dis i b o hm hf⟩, by rw [putO_length]; exact Nat.le_refl _, fun j hj => ⟨rfl, ?_⟩⟩
  by_cases e : j = i
  · subst e; rw [getO_put hj]; exact hle
  · rw [getO_put_ne e]; exact obLe.refl _

/-- cells of an object written -/
theorem set_world {b o : Nat} {cs : Array Value} {t : TypeId} (hh : w.heap[b]? = some (.cells cs t (0, 0))) (xs : List Value) (hl : o + xs.length ≤ cs.size) (h1 : ∀ x ∈ xs, x.oneCell' = true) :
    canSt w b o xs ∧ (setL w b o xs).heap[b]? = some (.cells (setAt cs.toList o xs).toArray t (0, 0)) ∧ (∀ k, k ≠ b → (setL w b o xs).heap[k]? = w.heap[k]?) ∧ (setL w b o xs).os = w.os ∧ (setL w b o xs).tape = w.tape ∧ (setL w b o xs).output = w.output ∧ (setL w b o xs).heap.size = w.heap.size := by
  obtain ⟨g1, g2⟩ := setL_block xs o w cs hh
  obtain ⟨e1, e2, e3⟩ := setL_streams (b := b) xs o w
  exact ⟨canSt_of_block hh xs o hl (List.all_eq_true.2 h1), g1, g2, e1, e2, e3, setL_size b xs o w⟩

theorem astore_run {t : Nat} {p u : V} {pv vv : Value} {K : Store → Prop} (h : astore ax σ t p u K) (hs : Sim gs G w F β σ) (hp : RV gs G w F β σ p pv) (hv : RV gs G w F β σ u vv) :
    ∃ b f y, pv = .pointer (some ⟨b, f, none⟩) ∧ Vx.look ax.tys t = some y ∧ vv.cells.toList.length = y.size ∧ canSt w b f vv.cells.toList ∧ ∃ F' σ', K σ' ∧ Sim gs G (setL w b f vv.cells.toList) F' β σ' ∧ Step w F β σ (setL w b f vv.cells.toList) F' β σ' := by
  unfold astore at h
  cases hy : Vx.look ax.tys t with
  | none => rw [hy] at h; exact h.elim
  | some y =>
    rw [hy] at h
    cases p with
    | ptr i o =>
      dsimp only at h
      cases hg : getO σ i with
      | box l =>
        rw [hg] at h; dsimp only at h
        obtain ⟨h1, h2⟩ := condF h
        obtain ⟨h1, h3⟩ := and_elim h1
        obtain ⟨h4, h5⟩ := and_elim h1
        obtain ⟨b, o', e, hi, hb⟩ := hp.ptr_inv
        obtain ⟨hβ, rfl⟩ := hb l hg
        have ho := hs.obj i
        rw [hg] at ho
        obtain ⟨b', tt, cs, e', hh, hr, h1'⟩ := ho
        rw [hβ] at e'
        cases e'
        obtain ⟨hxr, hx1⟩ := hv.cells h5
        have hlen : vv.cells.toList.length = y.size := by rw [← hxr.1]; exact beq_elim h4
        have hcs : cs.size = l.length := by rw [← Array.length_toList, ← hr.1]
        have hle := ble_elim h3
        obtain ⟨w1, w2, w3, w4, w5, w6, w7⟩ := set_world hh vv.cells.toList (o := o') (by rw [hlen, hcs]; exact hle) hx1
        refine ⟨b, o', y, e, rfl, hlen, w1, (fun b o => F b o ∨ False), _, h2, ?_⟩
        have hout : ∀ b' o'', b' < w.heap.size → ¬ Mut β i (getO σ i) b' o'' → (setL w b o' vv.cells.toList).cell? ⟨b', o'', none⟩ = w.cell? ⟨b', o'', none⟩ := fun b' o'' _ hm => by
          have hne : b' ≠ b := fun e => hm (by rw [hg, e]; exact ⟨⟨trivial, by rw [hβ]; rfl⟩, trivial⟩)
          simp only [World.cell?, w3 b' hne]
        have hob' : obLe (getO σ i) (.box (setV l o' (cellsV u))) := by rw [hg]; exact (setV_length _ _ _).symm
        have hcar := set_carry hs hob' hi hout (fun _ _ => False)
        exact hs.setObj i (.box (setV l o' (cellsV u))) (fun _ _ => False) hi hob' w4 w5 w6 (Nat.le_of_eq w7.symm) hout
          (fun b' _ hm => w3 b' fun e => hm (by rw [hg, e]; exact ⟨trivial, by rw [hβ]; rfl⟩)) (fun _ _ hx => hx.elim) (fun _ _ _ hx => hx.elim) (fun b' o'' hm => by rw [hg]; exact ⟨⟨trivial, hm.1.2⟩, trivial⟩)
          ⟨b, tt, _, hβ, w2, by
            rw [List.toList_toArray]
            exact ((hxr.mono fun _ _ => RV.mono hcar).setAt _ (hr.mono fun _ _ => RV.mono hcar)), by
            rw [List.toList_toArray]
            intro x hx
            have : ∀ (vs : List Value) (A : List Value) (n : Nat) (x : Value), x ∈ setAt A n vs → x ∈ A ∨ x ∈ vs := by
              intro vs
              induction vs with
              | nil => intro A n x hx; exact .inl hx
              | cons v vs ih =>
                intro A n x hx
                rcases ih _ _ x hx with h | h
                · rcases List.mem_or_eq_of_mem_set h with h | h
                  · exact .inl h
                  · exact .inr (by rw [h]; exact List.mem_cons_self)
                · exact .inr (List.mem_cons_of_mem _ h)
            rcases this _ _ _ x hx with h | h
            · exact h1' x h
            · exact hx1 x h⟩
      | _ => rw [hg] at h; exact h.elim
    | eptr i j o =>
      dsimp only at h
      split at h
      · rename_i as has
        split at h
        · rename_i us σ1 hco
          have hcr := cellsV_rel hs hco hv
          obtain ⟨F1, k1, k2, k3, k4⟩ := coL_run hs hco hcr
          have hp1 := hp.mono k2.carry
          cases hg : getO σ1 i with
          | lst el z fz l =>
            rw [hg] at h
            cases fz with
            | true => exact h.elim
            | false =>
              dsimp only at h
              obtain ⟨h1, h2, h3⟩ := condF h
              obtain ⟨h4, h5⟩ := and_elim h1
              have has' := beq_elim h4
              have hle := ble_elim h5
              obtain ⟨b, o', e, hi, hb⟩ := hp1.eptr_inv
              obtain ⟨⟨n, c, hβ⟩, rfl⟩ := hb _ _ _ _ hg
              have ho := k1.obj i
              rw [hg] at ho
              obtain ⟨xs, how, hxs, hzs, hz0, _⟩ := ho.lst_own hβ
              rw [hβ] at how
              have hul : us.length = y.size := by rw [isA_len k4, has']
              have hlen : vv.cells.toList.length = y.size := by rw [← k3.1]; exact hul
              obtain ⟨hl, ⟨e0, _⟩ | ⟨g, cap, cur, e0, hg0, hh, c1, c2, c3, c4⟩⟩ := how
              · cases e0
              · cases e0
                have hjz : j * z + o + y.size ≤ l.length * z := by
                  have : (j + 1) * z ≤ l.length * z := Nat.mul_le_mul_right _ (by omega)
                  rw [Nat.add_mul] at this; omega
                have hjz' : j * z + o + y.size ≤ cur.size := by
                  have : l.length * z ≤ c * z := Nat.mul_le_mul_right _ c1
                  omega
                obtain ⟨w1, w2, w3, w4, w5, w6, w7⟩ := set_world hh vv.cells.toList (o := j * z + o) (by rw [hlen]; exact hjz') (fun x hx => by
                  obtain ⟨q, hq, rfl⟩ := List.getElem_of_mem hx
                  have hq' : q < us.length := by rw [k3.1]; exact hq
                  exact (k3.2 q us[q] _ (List.getElem?_eq_getElem hq') (List.getElem?_eq_getElem hq)).one)
                refine ⟨b, _, y, e, rfl, hlen, w1, (fun b o => F1 b o ∨ False), _, h3, ?_⟩
                have hout : ∀ b' o'', b' < w.heap.size → ¬ Mut β i (getO σ1 i) b' o'' → (setL w b (j * z + o) vv.cells.toList).cell? ⟨b', o'', none⟩ = w.cell? ⟨b', o'', none⟩ := fun b' o'' _ hm => by
                  have hne : b' ≠ b := fun e => hm (by rw [hg, e]; exact ⟨⟨trivial, by rw [hβ]; rfl⟩, trivial⟩)
                  simp only [World.cell?, w3 b' hne]
                -- the row
                have hrowz : (rowAt l j).length = z := by
                  unfold rowAt
                  rw [List.getD_eq_getElem?_getD, List.getElem?_eq_getElem h2]; exact hzs _ (List.getElem_mem h2)
                have hnew : (l.set j (cond (Nat.beq o 0 && Nat.beq y.size z) us (setV (rowAt l j) o us))).flatten = setV l.flatten (j * z + o) us ∧ (cond (Nat.beq o 0 && Nat.beq y.size z) us (setV (rowAt l j) o us)).length = z := by
                  cases hc : Nat.beq o 0 && Nat.beq y.size z with
                  | true =>
                    obtain ⟨q1, q2⟩ := and_elim hc
                    have := beq_elim q1
                    subst this
                    have hz' := beq_elim q2
                    exact ⟨by rw [Nat.add_zero]; exact flatten_set_row hzs j h2 us (by omega), by simp; omega⟩
                  | false => exact ⟨flatten_setV hzs j h2 o us (by omega), by simp [setV_length]; exact hrowz⟩
                have hnz : ∀ r ∈ l.set j (cond (Nat.beq o 0 && Nat.beq y.size z) us (setV (rowAt l j) o us)), r.length = z := fun r hr => by
                  rcases List.mem_or_eq_of_mem_set hr with h | h
                  · exact hzs r h
                  · rw [h]; exact hnew.2
                have hob' : obLe (getO σ1 i) (.lst el z false (l.set j (cond (Nat.beq o 0 && Nat.beq y.size z) us (setV (rowAt l j) o us)))) := by rw [hg]; exact ⟨rfl, rfl⟩
                have hcar := set_carry k1 hob' hi hout (fun _ _ => False)
                have key := k1.setObj i _ (fun _ _ => False) hi hob' w4 w5 w6 (Nat.le_of_eq w7.symm) hout
                  (fun b' _ hm => w3 b' fun e => hm (by rw [hg, e]; exact ⟨trivial, by rw [hβ]; rfl⟩)) (fun _ _ hx => hx.elim) (fun _ _ _ hx => hx.elim) (fun b' o'' hm => by rw [hg]; exact ⟨⟨trivial, hm.1.2⟩, trivial⟩)
                  (.inr ⟨setAt xs (j * z + o) vv.cells.toList, by
                    rw [hβ, List.length_set]
                    refine ⟨by rw [setAt_length]; exact hl, .inr ⟨b, c, _, rfl, hg0, w2, c1, c2, by rw [List.size_toArray, setAt_length, Array.length_toList]; exact c3, ?_⟩⟩
                    rw [List.toList_toArray]
                    have esp : cur.toList = xs ++ cur.toList.drop (l.length * z) := by rw [← c4, List.take_append_drop]
                    rw [esp, setAt_left cur.toList _ _ _ _ (by rw [hlen, hl]; exact hjz)]
                    exact List.take_left' (by rw [setAt_length]; exact hl), by
                    rw [hnew.1]
                    exact (k3.mono fun _ _ => FV.mono hcar.f).setAt _ (hxs.mono fun _ _ => FV.mono hcar.f), hnz, hz0, fun h => by cases h⟩)
                exact ⟨key.1, k2.trans key.2⟩
          | _ => rw [hg] at h; exact h.elim
        · exact h.elim
      · exact h.elim
    | _ => exact h.elim

/-- 'append' with what it leaves as it was -/
theorem append_full {P : Program} {t ty el : Nat} {yt ye : Ty} (hyt : yt.Ok P t) (ht : yt.tk = .sl el) (hye : ye.Ok P el) (hsz : 0 < ye.size) {bv : Value} {n : Nat} {xs : List Value} (hown : w.ownsRow 0 el ye.size bv n xs)
    {a : Option Addr} {m c : Nat} {news : List Value} (hl : news.length = m * ye.size) (hc : 0 < m → ∃ b f, a = some ⟨b, f, none⟩ ∧ cellsAt w b f news) (h1 : (news.all fun u => u.oneCell') = true) (hbytes : (n + m) * ye.bytes ≤ 140737488355328) (hn : n + m ≤ 140737488355328) :
    ∃ (a1 : Option Addr) (d : Nat) (w' : World), Runs P (Builtin.append_ #[t, t] ty #[bv, .slice a m c]) w (.slice a1 (n + m) d) w' ∧ w'.ownsRow 0 el ye.size (.slice a1 (n + m) d) (n + m) (xs ++ news) ∧ w'.os = w.os ∧ w'.tape = w.tape ∧ w'.output = w.output ∧ w.heap.size ≤ w'.heap.size ∧
      (∀ b o, b < w.heap.size → ¬ (vblk bv = some b ∧ n * ye.size ≤ o) → w'.cell? ⟨b, o, none⟩ = w.cell? ⟨b, o, none⟩) ∧ (∀ b, b < w.heap.size → vblk bv ≠ some b → w'.heap[b]? = w.heap[b]?) ∧ (∀ g, vblk (.slice a1 (n + m) d) = some g → w.heap.size ≤ g ∨ vblk bv = some g) := by
  rcases Nat.eq_zero_or_pos m with rfl | hm
  · obtain ⟨a0, c0, rfl, hle, _⟩ := own_slice hown
    rw [Nat.zero_mul] at hl
    have : news = [] := List.eq_nil_of_length_eq_zero hl
    subst this
    exact ⟨a0, c0, w, append_empty hyt ht hye hle, by simpa using hown, rfl, rfl, rfl, Nat.le_refl _, fun _ _ _ _ => rfl, fun _ _ _ => rfl, fun g hg => .inr (by simpa [vblk] using hg)⟩
  · obtain ⟨b, f, rfl, hcc⟩ := hc hm
    obtain ⟨a1, k, d, w1, hr, rfl, ho, hg, hnx⟩ := append_own (P := P) (ty := ty) (c := c) hyt ht hye hsz hown hl hcc h1 hbytes hn (Nat.zero_le _)
    have hvb : ∀ k, bv.ownBlock = some k ↔ vblk bv = some k := fun k => by
      obtain ⟨_, ⟨rfl, _⟩ | ⟨g, cap, cur, rfl, _⟩⟩ := hown
      · exact Iff.rfl
      · exact Iff.rfl
    have hvb' : ∀ g, vblk (.slice a1 (n + m) d) = some g → (Value.slice a1 (n + m) d).ownBlock = some g := fun g hg => by cases a1 with | none => simp [vblk] at hg | some _ => simpa [vblk, Value.ownBlock] using hg
    have hblock : ∀ k, k < w.heap.size → vblk bv ≠ some k → w1.heap[k]? = w.heap[k]? := fun k hk hne => hg.block k hk fun e => hne ((hvb k).1 e.symm)
    refine ⟨a1, d, w1, hr, ho, hg.os, hg.tape, hg.output, hg.size, fun b' o hb' hm' => ?_, hblock, fun g hgg => ?_⟩
    · by_cases hne : vblk bv = some b'
      · -- the row's own block: cells below stay
        have hlt : o < n * ye.size := by
          rcases Nat.lt_or_ge o (n * ye.size) with h | h
          · exact h
          · exact absurd ⟨hne, h⟩ hm'
        obtain ⟨hxl, ⟨rfl, h0⟩ | ⟨g, cap, cur, rfl, hgb, hgh, hnc, hcm, hcs, htake⟩⟩ := hown
        · rw [h0] at hlt; omega
        · have eg : g = b' := by simpa [vblk] using hne
          subst eg
          have hold : w.cell? ⟨g, o, none⟩ = xs[o]? := by
            simp only [World.cell?, hgh]
            rw [← htake, List.getElem?_take, if_pos hlt]; simp
          by_cases hroom : n + m ≤ cap
          · obtain ⟨i, hi, hi1, hi2, z, hz, hzl⟩ := run_info hye
            have htk := hyt.tk
            rw [ht] at htk
            have hnews : ∀ j u, news[j]? = some u → w.cell? ((⟨b, f, none⟩ : Addr).add j) = some u := fun j u hu => by rw [add_none]; exact cellsAt_cell hcc hu
            have := run_append_room (P := P) (w := w) t ty el i htk hi g n cap cur hgh ⟨b, f, none⟩ m c news (hi1 ▸ hl) hnews (fun u hu => List.all_eq_true.1 h1 u hu) hroom (by rw [hi1, hcs, hl, ← Nat.add_mul]; exact Nat.mul_le_mul_right _ hroom)
            have hr' := hr
            unfold Runs at hr'
            rw [hr'] at this
            simp only [Result.ok.injEq, Value.slice.injEq] at this
            obtain ⟨⟨e1, _, e2⟩, _⟩ := this
            subst e1
            obtain ⟨_, ⟨e0, _⟩ | ⟨g', cap', cur', e0, _, hh', _, _, _, ht'⟩⟩ := ho
            · cases e0
            · cases e0
              rw [hold]
              simp only [World.cell?, hh']
              have : (xs ++ news)[o]? = xs[o]? := List.getElem?_append_left (by rw [hxl]; exact hlt)
              have hlt2 : o < (n + m) * ye.size := by
                have : n * ye.size ≤ (n + m) * ye.size := Nat.mul_le_mul_right _ (by omega)
                omega
              rw [← this, ← ht', List.getElem?_take, if_pos hlt2]; simp
          · obtain ⟨i, hi, hi1, hi2, z, hz, hzl⟩ := run_info hye
            have htk := hyt.tk
            rw [ht] at htk
            have hnews : ∀ j u, news[j]? = some u → w.cell? ((⟨b, f, none⟩ : Addr).add j) = some u := fun j u hu => by rw [add_none]; exact cellsAt_cell hcc hu
            have := run_append_grow (P := P) (w := w) t ty el i z htk hi hz ⟨g, 0, none⟩ n cap xs (hi1 ▸ hxl) (fun j u hu => by
              rw [add_none, Nat.zero_add]
              rw [← htake, List.getElem?_take] at hu
              split at hu
              · exact cell_of_block hgh hu
              · cases hu) ⟨b, f, none⟩ m c news (hi1 ▸ hl) hnews (by omega) (by omega) (growslice_fits (by omega) (by rw [hi2]; exact hbytes))
            have hr' := hr
            unfold Runs at hr'
            rw [hr'] at this
            simp only [Result.ok.injEq] at this
            rw [this.2]
            have hb2 : Below w.heap.size w (w.drew.alloc (.cells (xs.toArray ++ news.toArray ++ Builtin.zeroCells z.cells (grownCap w (n + m) cap el - (n + m))) el)) := (below_drew w).trans ((below_alloc w.drew _).mono (Nat.le_refl _))
            exact hb2.cell (p := ⟨g, o, none⟩) hb'
      · simp only [World.cell?, hblock b' hb' hne]
    · rcases hnx with e | ⟨q, hq, e⟩
      · exact .inr ((hvb g).1 (e ▸ hvb' g hgg))
      · have := hvb' g hgg
        rw [e] at this; cases this; exact .inl hq

/-- 'append' to a slice with no room -/
theorem append_cut {P : Program} {t ty el : Nat} {yt ye : Ty} (hyt : yt.Ok P t) (ht : yt.tk = .sl el) (hye : ye.Ok P el) (hsz : 0 < ye.size) {a0 : Option Addr} {n : Nat} {xs : List Value} (hxl : xs.length = n * ye.size) (hx : 0 < n → ∃ b f, a0 = some ⟨b, f, none⟩ ∧ cellsAt w b f xs)
    {a : Option Addr} {m c : Nat} {news : List Value} (hl : news.length = m * ye.size) (hm : 0 < m) (hc : ∃ b f, a = some ⟨b, f, none⟩ ∧ cellsAt w b f news) (h1 : (news.all fun u => u.oneCell') = true) (hbytes : (n + m) * ye.bytes ≤ 140737488355328) (hn : n + m ≤ 140737488355328) :
    ∃ (a1 : Option Addr) (d : Nat) (w' : World), Runs P (Builtin.append_ #[t, t] ty #[.slice a0 n n, .slice a m c]) w (.slice a1 (n + m) d) w' ∧ w'.ownsRow 0 el ye.size (.slice a1 (n + m) d) (n + m) (xs ++ news) ∧ w'.os = w.os ∧ w'.tape = w.tape ∧ w'.output = w.output ∧ w.heap.size ≤ w'.heap.size ∧
      (∀ b, b < w.heap.size → w'.heap[b]? = w.heap[b]?) ∧ (∀ g, vblk (.slice a1 (n + m) d) = some g → w.heap.size ≤ g) := by
  have nilc : ∀ n, n = 0 → xs = [] → ∃ (a1 : Option Addr) (d : Nat) (w' : World), Runs P (Builtin.append_ #[t, t] ty #[.slice none 0 0, .slice a m c]) w (.slice a1 (0 + m) d) w' ∧ w'.ownsRow 0 el ye.size (.slice a1 (0 + m) d) (0 + m) ([] ++ news) ∧ w'.os = w.os ∧ w'.tape = w.tape ∧ w'.output = w.output ∧ w.heap.size ≤ w'.heap.size ∧
      (∀ b, b < w.heap.size → w'.heap[b]? = w.heap[b]?) ∧ (∀ g, vblk (.slice a1 (0 + m) d) = some g → w.heap.size ≤ g) := by
    rintro n rfl hxn
    have hb0 : (0 + m) * ye.bytes ≤ 140737488355328 := Nat.le_trans (Nat.mul_le_mul_right _ (by omega)) hbytes
    obtain ⟨a1, d, w', hr, ho, e1, e2, e3, e4, e5, e6, e7⟩ := append_full (P := P) (ty := ty) (c := c) hyt ht hye hsz (World.ownsRow_nil w 0 el ye.size) hl (fun _ => hc) h1 hb0 (by omega)
    exact ⟨a1, d, w', hr, ho, e1, e2, e3, e4, fun b hb => e6 b hb (by simp [vblk]), fun g hg => (e7 g hg).resolve_right (by simp [vblk])⟩
  cases ha0 : a0 with
  | none =>
    have h0 : n = 0 := by
      rcases Nat.eq_zero_or_pos n with h | h
      · exact h
      · obtain ⟨b, f, e, _⟩ := hx h; rw [ha0] at e; cases e
    subst h0
    have hxn : xs = [] := List.eq_nil_of_length_eq_zero (by simpa using hxl)
    subst hxn
    exact nilc 0 rfl rfl
  | some ad =>
    obtain ⟨b, f, rfl, hcc⟩ := hc
    obtain ⟨i, hi, hi1, hi2, z, hz, hzl⟩ := run_info hye
    have htk := hyt.tk
    rw [ht] at htk
    have hnews : ∀ j u, news[j]? = some u → w.cell? ((⟨b, f, none⟩ : Addr).add j) = some u := fun j u hu => by rw [add_none]; exact cellsAt_cell hcc hu
    have holds : ∀ j u, xs[j]? = some u → w.cell? (ad.add j) = some u := fun j u hu => by
      have hpos : 0 < n := by
        rcases Nat.eq_zero_or_pos n with h | h
        · subst h
          have hxn : xs = [] := List.eq_nil_of_length_eq_zero (by simpa using hxl)
          rw [hxn] at hu; simp at hu
        · exact h
      obtain ⟨b', f', e, hcx⟩ := hx hpos
      rw [ha0] at e
      cases e
      rw [add_none]; exact cellsAt_cell hcx hu
    have hr := run_append_grow (P := P) (w := w) t ty el i z htk hi hz ad n n xs (hi1 ▸ hxl) holds ⟨b, f, none⟩ m c news (hi1 ▸ hl) hnews (by omega) (by omega) (growslice_fits (by omega) (by rw [hi2]; exact hbytes))
    have hzs : z.cells.size = ye.size := by rw [← Array.length_toList, hzl, hye.zs]
    have hge := grownCap_ge w (n + m) n el
    have hcm : grownCap w (n + m) n el ≤ maxLen := grownCap_le_maxLen w (n + m) n el (by simp only [maxLen]; omega)
    have hlen : (xs ++ news).length = (n + m) * ye.size := by rw [List.length_append, hxl, hl, Nat.add_mul]
    have hb2 : Below w.heap.size w (w.drew.alloc (.cells (xs.toArray ++ news.toArray ++ Builtin.zeroCells z.cells (grownCap w (n + m) n el - (n + m))) el)) := (below_drew w).trans ((below_alloc w.drew _).mono (Nat.le_refl _))
    refine ⟨_, _, _, hr, ⟨hlen, .inr ⟨w.heap.size, _, _, rfl, Nat.zero_le _, heap_alloc_new w.drew _, hge, hcm, ?_, ?_⟩⟩, rfl, rfl, rfl, by simp, fun b' hb' => hb2.block b' hb', fun g hg => ?_⟩
    · simp only [Array.size_append, List.size_toArray, size_zeroCells, hzs, hxl, hl, ← Nat.add_mul]
      congr 1
      omega
    · simp only [Array.toList_append, List.append_assoc]
      rw [← List.append_assoc, ← hlen]
      exact List.take_left
    · simp only [vblk, Option.some.injEq] at hg
      omega

/-- 'append' of a text -/
theorem append_full_str {P : Program} {t u ty el : Nat} {yt yu ye : Ty} (hyt : yt.Ok P t) (ht : yt.tk = .sl el) (hyu : yu.Ok P u) (hu : yu.tk = .str) (hye : ye.Ok P el) (hzero : (P.info? el).bind (·.zero) = some (.int .u8 0)) (hsz : ye.size = 1) (hby : ye.bytes = 1) {bv : Value} {n : Nat} {xs : List Value} (hown : w.ownsRow 0 el ye.size bv n xs)
    (bs : ByteArray) (hn : n + bs.size ≤ 140737488355328) :
    ∃ (a1 : Option Addr) (d : Nat) (w' : World), Runs P (Builtin.append_ #[t, u] ty #[bv, .string bs]) w (.slice a1 (n + bs.size) d) w' ∧ w'.ownsRow 0 el ye.size (.slice a1 (n + bs.size) d) (n + bs.size) (xs ++ Lib.strCells bs) ∧ w'.os = w.os ∧ w'.tape = w.tape ∧ w'.output = w.output ∧ w.heap.size ≤ w'.heap.size ∧
      (∀ b o, b < w.heap.size → ¬ (vblk bv = some b ∧ n * ye.size ≤ o) → w'.cell? ⟨b, o, none⟩ = w.cell? ⟨b, o, none⟩) ∧ (∀ b, b < w.heap.size → vblk bv ≠ some b → w'.heap[b]? = w.heap[b]?) ∧ (∀ g, vblk (.slice a1 (n + bs.size) d) = some g → w.heap.size ≤ g ∨ vblk bv = some g) := by
  rw [hsz] at hown ⊢
  obtain ⟨a1, k, d, w1, hr, rfl, ho, hg, hnx⟩ := append_str (P := P) (ty := ty) hyt ht hyu hu hye hzero hsz hby hown bs hn (Nat.zero_le _)
  have hvb : ∀ k, bv.ownBlock = some k ↔ vblk bv = some k := fun k => by
    obtain ⟨_, ⟨rfl, _⟩ | ⟨g, cap, cur, rfl, _⟩⟩ := hown
    · exact Iff.rfl
    · exact Iff.rfl
  have hvb' : ∀ g, vblk (.slice a1 (n + bs.size) d) = some g → (Value.slice a1 (n + bs.size) d).ownBlock = some g := fun g hg => by cases a1 with | none => simp [vblk] at hg | some _ => simpa [vblk, Value.ownBlock] using hg
  have hblock : ∀ k, k < w.heap.size → vblk bv ≠ some k → w1.heap[k]? = w.heap[k]? := fun k hk hne => hg.block k hk fun e => hne ((hvb k).1 e.symm)
  obtain ⟨i, hi, hi1, hi2, z, hz, hzl⟩ := run_info hye
  have htk := hyt.tk
  rw [ht] at htk
  have huk := hyu.tk
  rw [hu] at huk
  obtain rfl : z = .int .u8 0 := by
    rw [hi] at hzero
    simp only [Option.bind_some, hz, Option.some.injEq] at hzero
    exact hzero
  refine ⟨a1, d, w1, hr, ho, hg.os, hg.tape, hg.output, hg.size, fun b' o hb' hm' => ?_, hblock, fun g hgg => ?_⟩
  · by_cases hne : vblk bv = some b'
    · -- the row's own block: cells below stay
      have hlt : o < n * 1 := by
        rcases Nat.lt_or_ge o (n * 1) with h | h
        · exact h
        · exact absurd ⟨hne, h⟩ hm'
      obtain ⟨hxl, ⟨rfl, h0⟩ | ⟨g, cap, cur, rfl, hgb, hgh, hnc, hcm, hcs, htake⟩⟩ := hown
      · rw [h0] at hlt; omega
      · have eg : g = b' := by simpa [vblk] using hne
        subst eg
        have hold : w.cell? ⟨g, o, none⟩ = xs[o]? := by
          simp only [World.cell?, hgh]
          rw [← htake, List.getElem?_take, if_pos hlt]; simp
        by_cases hroom : n + bs.size ≤ cap
        · have := Lib.run_append_room_string (P := P) (w := w) t u ty el i htk huk hi (hi1.trans hsz) g n cap cur hgh bs hroom (by rw [hcs]; omega)
          have hr' := hr
          unfold Runs at hr'
          rw [hr'] at this
          simp only [Result.ok.injEq, Value.slice.injEq] at this
          obtain ⟨⟨e1, _, e2⟩, _⟩ := this
          subst e1
          obtain ⟨_, ⟨e0, _⟩ | ⟨g', cap', cur', e0, _, hh', _, _, _, ht'⟩⟩ := ho
          · cases e0
          · cases e0
            rw [hold]
            simp only [World.cell?, hh']
            have : (xs ++ Lib.strCells bs)[o]? = xs[o]? := List.getElem?_append_left (by rw [hxl]; exact hlt)
            have hlt2 : o < (n + bs.size) * 1 := by omega
            rw [← this, ← ht', List.getElem?_take, if_pos hlt2]; simp
        · have := Lib.run_append_grow_string (P := P) (w := w) t u ty el i _ htk huk hi hz ⟨g, 0, none⟩ n cap xs (by rw [hi1, hsz]; exact hxl) (fun j u hu => by
            rw [add_none, Nat.zero_add]
            rw [← htake, List.getElem?_take] at hu
            split at hu
            · exact cell_of_block hgh hu
            · cases hu) bs (by omega) (by omega) (growslice_fits (by omega) (by rw [hi2, hby]; omega))
          have hr' := hr
          unfold Runs at hr'
          rw [hr'] at this
          simp only [Result.ok.injEq] at this
          rw [this.2]
          have hb2 : Below w.heap.size w (w.drew.alloc (.cells (xs.toArray ++ (Lib.strCells bs).toArray ++ Builtin.zeroCells (Value.int .u8 0).cells (grownCap w (n + bs.size) cap el - (n + bs.size))) el)) := (below_drew w).trans ((below_alloc w.drew _).mono (Nat.le_refl _))
          exact hb2.cell (p := ⟨g, o, none⟩) hb'
    · simp only [World.cell?, hblock b' hb' hne]
  · rcases hnx with e | ⟨q, hq, e⟩
    · exact .inr ((hvb g).1 (e ▸ hvb' g hgg))
    · have := hvb' g hgg
      rw [e] at this; cases this; exact .inl hq

end
end Go.Av
end

/- part AvL -/
section
namespace Go.Av
open Go.Vx Go.RowKit

section
variable {ax : Ax} {ah : AH} {gs : List Nat} {G : Nat → Value} {w w' : World} {F F' : Nat → Nat → Prop} {β β' : Nat → Value} {σ σ' : Store} {v : Value}

/-- the cells of a slice that is data -/
theorem FV.flat {z : Nat} {l : List (List V)} (hz0 : 0 < z) (h : FV gs G w F (.sl z l) v) : ∃ a c xs, v = .slice a l.length c ∧ Rl (FV gs G w F) l.flatten xs ∧ (∀ r ∈ l, r.length = z) ∧ (0 < l.length → ∃ b o, a = some ⟨b, o, none⟩ ∧ cellsAt w b o xs) := by
  cases h with
  | sl _ _ a c val k1 k2 kz kc kv =>
    have hfl := flatten_len kz
    have hr : Rl (FV gs G w F) l.flatten ((List.range (l.length * z)).map fun k => val (k / z) (k % z)) := by
      refine ⟨by rw [hfl]; simp, fun i u x hu hx => ?_⟩
      have hi : i < l.length * z := by have := (List.getElem?_eq_some_iff.1 hu).1; omega
      obtain ⟨e, u', h1, h2, h3⟩ := flatten_get_inv hz0 kz hi
      rw [hu] at h3; cases h3
      have : ((List.range (l.length * z)).map fun k => val (k / z) (k % z))[i]? = some (val (i / z) (i % z)) := by simp [hi]
      rw [this] at hx; cases hx
      exact kv _ e _ u h1 h2
    refine ⟨a, c, _, rfl, hr, kz, fun hpos => ?_⟩
    obtain ⟨b, o, ea, hc⟩ := kc (fun e => by rw [e] at hpos; simp at hpos)
    refine ⟨b, o, ea, ?_⟩
    have : ∀ (m n : Nat), n + m = l.length * z → cellsAt w b (o + n) ((List.range' n m).map fun k => val (k / z) (k % z)) := by
      intro m
      induction m with
      | zero => intro n _; trivial
      | succ m ih =>
        intro n hnm
        rw [List.range'_succ, List.map_cons]
        obtain ⟨e, u', h1, h2, h3⟩ := flatten_get_inv hz0 kz (k := n) (by omega)
        obtain ⟨g1, _⟩ := hc _ e _ u' h1 h2
        rw [Nat.div_add_mod' n z] at g1
        refine ⟨g1, ?_⟩
        have := ih (n + 1) (by omega)
        rw [← Nat.add_assoc] at this
        exact this
    have := this (l.length * z) 0 (by omega)
    rwa [← List.range_eq_range'] at this

theorem flat_one {us : List V} {xs : List Value} (h : Rl (FV gs G w F) us xs) : (xs.all fun u => u.oneCell') = true := by
  rw [List.all_eq_true]
  intro x hx
  obtain ⟨q, hq, rfl⟩ := List.getElem_of_mem hx
  have hq' : q < us.length := by rw [h.1]; exact hq
  exact (h.2 q us[q] _ (List.getElem?_eq_getElem hq') (List.getElem?_eq_getElem hq)).one

/-- what an append of this value does to a row of one's own -/
def AppOk (P : Program) (w : World) (t u rt el : Nat) (ye : Ty) (m : Nat) (news : List Value) (yv : Value) : Prop := ∀ {bv : Value} {n : Nat} {xs : List Value}, w.ownsRow 0 el ye.size bv n xs → (n + m) * ye.bytes ≤ 140737488355328 → n + m ≤ 140737488355328 →
    ∃ (a1 : Option Addr) (d : Nat) (w' : World), Runs P (Builtin.append_ #[t, u] rt #[bv, yv]) w (.slice a1 (n + m) d) w' ∧ w'.ownsRow 0 el ye.size (.slice a1 (n + m) d) (n + m) (xs ++ news) ∧ w'.os = w.os ∧ w'.tape = w.tape ∧ w'.output = w.output ∧ w.heap.size ≤ w'.heap.size ∧
      (∀ b o, b < w.heap.size → ¬ (vblk bv = some b ∧ n * ye.size ≤ o) → w'.cell? ⟨b, o, none⟩ = w.cell? ⟨b, o, none⟩) ∧ (∀ b, b < w.heap.size → vblk bv ≠ some b → w'.heap[b]? = w.heap[b]?) ∧ (∀ g, vblk (.slice a1 (n + m) d) = some g → w.heap.size ≤ g ∨ vblk bv = some g)
theorem zero_of_ok (hZ : ZOk ax) {el : Nat} {k : IntKind} (h1 : lookTy ax el = some k) (h2 : hasB ax.zs el = true) (w : World) : (ax.P.info? el).bind (·.zero) = some (.int k 0) := by
  have h := hZ el k h1 h2 w
  unfold zeroValue typeInfo at h
  simp only [Sem.run_bind, run_program, Result.andThen_ok] at h
  cases hi : ax.P.info? el with
  | none => rw [hi] at h; simp [stuck] at h
  | some i =>
    simp only [hi, Sem.run_pure, Result.andThen_ok] at h
    cases hz : i.zero with
    | none => simp [hz, unsupported] at h
    | some z =>
      simp only [hz, Sem.run_pure, Result.ok.injEq, and_true] at h
      simp [hz, h]
theorem rowsArg_run (hT : AllOk ax.P ax.tys) (hZ : ZOk ax) {t u rt el : Nat} {yt ye : Ty} (okt : yt.Ok ax.P t) (ht : yt.tk = .sl el) (oke : ye.Ok ax.P el) {y : V} {yv : Value} {K : List (List V) → Prop} (hz0 : 0 < ye.size) (h : rowsArg ax t u el ye σ y K) (hs : Sim gs G w F β σ) (hy : RV gs G w F β σ y yv) :
    ∃ l xs, K l ∧ AppOk ax.P w t u rt el ye l.length xs yv ∧ Rl (FV gs G w F) l.flatten xs ∧ (∀ r ∈ l, r.length = ye.size) := by
  have slc : ∀ (l : List (List V)) a c xs, t = u → K l → yv = .slice a l.length c → Rl (FV gs G w F) l.flatten xs → (∀ r ∈ l, r.length = ye.size) → (0 < l.length → ∃ b o, a = some ⟨b, o, none⟩ ∧ cellsAt w b o xs) →
      ∃ l xs, K l ∧ AppOk ax.P w t u rt el ye l.length xs yv ∧ Rl (FV gs G w F) l.flatten xs ∧ (∀ r ∈ l, r.length = ye.size) := by
    rintro l a c xs rfl hk rfl k4 k5 k6
    refine ⟨l, xs, hk, fun {bv n ys} how k1 k2 => ?_, k4, k5⟩
    exact append_full (P := ax.P) (ty := rt) okt ht oke hz0 how (m := l.length) (c := c) (news := xs) (by rw [← k4.1, flatten_len k5]) k6 (flat_one k4) k1 k2
  unfold rowsArg at h
  cases y with
  | sl z l =>
    dsimp only at h
    obtain ⟨h1, h2⟩ := condF h
    obtain ⟨h3, h4⟩ := and_elim h1
    have := beq_elim h4
    subst this
    obtain ⟨a, c, xs, e, k1, k2, k3⟩ := hy.sl_inv.flat hz0
    exact slc l a c xs (beq_elim h3) h2 e k1 k2 k3
  | own j =>
    dsimp only at h
    cases hg : getO σ j with
    | lst et z fz l =>
      rw [hg] at h
      obtain ⟨h1, h2⟩ := condF h
      obtain ⟨h3, h4⟩ := and_elim h1
      have := beq_elim h4
      subst this
      obtain ⟨a, n, c, e, hi, hb⟩ := hy.own_inv
      have hβ := hb _ _ _ _ hg
      have ho := hs.obj j
      rw [hg] at ho
      obtain ⟨xs, how, hxs, hzs, _⟩ := ho.lst_own hβ
      rw [hβ] at how
      rcases lst_cells how with ⟨e0, e2⟩ | ⟨g, c', e2, hc'⟩
      · cases e2
        subst e0
        exact slc [] none 0 xs (beq_elim h3) h2 e hxs hzs (fun h => by simp at h)
      · cases e2
        exact slc l _ c xs (beq_elim h3) h2 e hxs hzs (fun _ => ⟨g, 0, rfl, hc'⟩)
    | _ => rw [hg] at h; exact h.elim
  | nls =>
    dsimp only at h
    obtain ⟨h1, h2⟩ := condF h
    exact slc [] none 0 [] (beq_elim h1) h2 hy.nls_inv .nil (fun r hr => (by cases hr)) (fun h => by simp at h)
  | str bs =>
    dsimp only at h
    cases hl : lookTy ax el with
    | none => rw [hl] at h; exact h.elim
    | some k =>
      rw [hl] at h
      cases k with
      | u8 =>
        dsimp only at h
        obtain ⟨h1, h2⟩ := condF h
        obtain ⟨h1, h5⟩ := and_elim h1
        obtain ⟨h1, h4⟩ := and_elim h1
        obtain ⟨h1, h3⟩ := and_elim h1
        have e3 := beq_elim h3
        have e4 := beq_elim h4
        obtain ⟨yu, hu1, hu2⟩ : ∃ yu : Ty, Vx.look ax.tys u = some yu ∧ yu.tk = .str := by
          unfold isTk at h1
          cases hlu : Vx.look ax.tys u with
          | none => rw [hlu] at h1; cases h1
          | some yu =>
            rw [hlu] at h1
            dsimp only at h1
            refine ⟨yu, rfl, ?_⟩
            generalize yu.tk = q at h1
            cases q <;> first | rfl | cases h1
        rw [hy.str_inv]
        have hlen : (rowsOf bs).length = bs.size := by rw [rowsOf_length, Array.length_toList]; rfl
        refine ⟨rowsOf bs, Lib.strCells bs, h2, fun {bv n ys} how k1 k2 => ?_, ?_, ?_⟩
        · rw [hlen] at k1 k2 ⊢
          exact append_full_str (P := ax.P) (ty := rt) okt ht (ok_of_look hT hu1) hu2 oke (zero_of_ok hZ hl h5 w) e3 e4 how bs k2
        · rw [rowsOf_flat, strCells_bv]
          refine ⟨by simp [bv], fun i u v hu hv => ?_⟩
          simp only [bv, List.getElem?_map, Option.map_eq_some_iff] at hu hv
          obtain ⟨c1, e1, rfl⟩ := hu
          obtain ⟨c2, e2, rfl⟩ := hv
          rw [e1] at e2; cases e2
          exact .int _ _
        · intro r hr
          unfold rowsOf at hr
          obtain ⟨c, _, rfl⟩ := List.mem_map.1 hr
          rw [e3]; rfl
      | _ => exact h.elim
  | _ => exact h.elim

set_option maxHeartbeats 800000 in
theorem aappend_run (hT : AllOk ax.P ax.tys) (hZ : ZOk ax) {ts : Array TypeId} {rt : Nat} {x y : V} {xv yv : Value} {K : V → Store → Prop} (h : aappend ax ts.toList σ x y K) (hs : Sim gs G w F β σ) (hx : RV gs G w F β σ x xv) (hy : RV gs G w F β σ y yv) :
    ∃ (a : Option Addr) (n c : Nat) (w' : World), Runs ax.P (Builtin.append_ ts rt #[xv, yv]) w (.slice a n c) w' ∧ Out gs G w F β σ K (.slice a n c) w' := by
  unfold aappend at h
  generalize hts : ts.toList = tl at h
  match tl, h, hts with
  | [t, u], h, hts =>
    dsimp only at h
    have ets : ts = #[t, u] := by apply Array.ext'; rw [hts]
    subst ets
    cases hse : slElem ax t with
    | none => rw [hse] at h; exact h.elim
    | some r =>
      obtain ⟨el, ye⟩ := r
      rw [hse] at h; dsimp only at h
      obtain ⟨yt, hyt, ht, hye⟩ := slElem_elim hse
      have okt := ok_of_look hT hyt
      have oke := ok_of_look hT hye
      obtain ⟨h0, h⟩ := condF h
      have hz0 : 0 < ye.size := ble_elim h0
      cases x with
      | own i =>
        dsimp only at h
        cases hg : getO σ i with
        | lst e z fz l =>
          rw [hg] at h; dsimp only at h
          obtain ⟨h1, h2⟩ := condF h
          obtain ⟨h3, h4⟩ := and_elim h1
          have := beq_elim h3
          subst this
          have := beq_elim h4
          subst this
          obtain ⟨l', news, ⟨k1, k2, k3⟩, happ, k4, k5⟩ := rowsArg_run (rt := rt) hT hZ okt ht oke hz0 h2 hs hy
          obtain ⟨a0, n0, c0, rfl, hi, hb⟩ := hx.own_inv
          have hβ := hb _ _ _ _ hg
          have ho := hs.obj i
          rw [hg] at ho
          obtain ⟨xs, how, hxs, hzs, _, hfz⟩ := ho.lst_own hβ
          rw [hβ] at how hfz
          have hn0 : n0 = l.length := by obtain ⟨_, _, e, _⟩ := own_slice how; cases e; rfl
          subst hn0
          obtain ⟨a1, d, w', hr, ho', e1, e2, e3, e4, e5, e6, e7⟩ := happ how k1 k2
          have hm1 : ∀ b o, Mut β i (getO σ i) b o ↔ (vblk (β i) = some b ∧ (fz = true → l.length * ye.size ≤ o)) := fun b o => by
            rw [hg]; cases fz <;> simp [Mut, Has, Live]
          have hmul : l.length * ye.size ≤ (l.length + l'.length) * ye.size := Nat.mul_le_mul_right _ (by omega)
          have hcell : ∀ b o, b < w.heap.size → ¬ Mut β i (getO σ i) b o → w'.cell? ⟨b, o, none⟩ = w.cell? ⟨b, o, none⟩ := fun b o hlt hm => e5 b o hlt fun hbad => hm ((hm1 b o).2 ⟨by rw [hβ]; exact hbad.1, fun _ => hbad.2⟩)
          have hfc : ∀ b o, F b o → w'.cell? ⟨b, o, none⟩ = w.cell? ⟨b, o, none⟩ := fun b o hf => hcell b o (hs.lt b o hf) fun hm => hs.dis i b o hm hf
          have hlen : (l ++ l').length = l.length + l'.length := by simp
          have key := hs.repl (w' := w') (some i) (.slice a1 (l.length + l'.length) d) (.lst e ye.size fz (l ++ l')) (fun b o => fz = true ∧ vblk (.slice a1 (l.length + l'.length) d) = some b ∧ o < (l.length + l'.length) * ye.size ∧ (w.heap.size ≤ b ∨ l.length * ye.size ≤ o))
            (fun j hj => by cases hj; exact hi) e1 e2 e3 e4 (fun b o hlt hm => hcell b o hlt (hm i rfl)) (fun b hlt hm => e6 b hlt fun hbad => hm i rfl (by rw [hg]; exact ⟨trivial, by rw [hβ]; exact hbad⟩))
            (fun b o hX => by
              obtain ⟨x1, x2, x3, x4⟩ := hX
              have hlt : b < w'.heap.size := by
                refine (ho'.lt b ?_).2
                cases a1 with | none => simp [vblk] at x2 | some _ => simpa [vblk, Value.ownBlock] using x2
              refine ⟨hlt, ?_⟩
              rcases e7 b x2 with h | h
              · exact .inl h
              · rcases x4 with h' | h'
                · exact .inl h'
                · exact .inr ⟨i, rfl, (hm1 b o).2 ⟨by rw [hβ]; exact h, fun _ => h'⟩⟩)
            (fun b o hm hX => by
              obtain ⟨x1, x2, x3, x4⟩ := hX
              subst x1
              have := hm.2
              simp only [hlen] at this
              omega)
            (by
              have hcar : Carry w F β σ w' (fun b o => F b o ∨ (fz = true ∧ vblk (.slice a1 (l.length + l'.length) d) = some b ∧ o < (l.length + l'.length) * ye.size ∧ (w.heap.size ≤ b ∨ l.length * ye.size ≤ o))) (extB β σ.length (.slice a1 (l.length + l'.length) d)) (killO σ (some i) ++ [⟨0, .lst e ye.size fz (l ++ l')⟩]) := repl_carry hfc
              refine .inr ⟨xs ++ news, by rw [extB_new, hlen]; exact ho', ?_, ?_, hz0, fun hf b hbb o hoo => ?_⟩
              · rw [List.flatten_append]
                exact (hxs.mono fun _ _ => FV.mono hcar.f).append (k4.mono fun _ _ => FV.mono hcar.f)
              · intro r hr
                rcases List.mem_append.1 hr with h | h
                · exact hzs r h
                · exact k5 r h
              · rw [extB_new] at hbb
                rw [hlen] at hoo
                rcases Nat.lt_or_ge o (l.length * ye.size) with h | h
                · rcases e7 b hbb with h' | h'
                  · exact .inr ⟨hf, hbb, hoo, .inl h'⟩
                  · exact .inl (hfz hf b h' o h)
                · exact .inr ⟨hf, hbb, hoo, .inr h⟩)
            (fun b _ hbb => by
              rcases e7 b hbb with h | h
              · exact .inl h
              · exact .inr ⟨i, rfl, by rw [hg]; exact ⟨trivial, by rw [hβ]; exact h⟩⟩)
            (fun b o hm => by
              have h1 := hm.1.2
              rw [extB_new] at h1
              rcases e7 b h1 with h | h
              · exact .inl h
              · refine .inr ⟨i, rfl, (hm1 b o).2 ⟨by rw [hβ]; exact h, fun hf => ?_⟩⟩
                subst hf
                have := hm.2
                simp only [hlen] at this
                omega)
          refine ⟨a1, _, d, w', hr, _, _, _, _, k3, ?_, key.1, key.2⟩
          exact .own σ.length _ _ _ (by simp [putO_length]) fun _ _ _ _ _ => extB_new _ _ _
        | _ => rw [hg] at h; exact h.elim
      | slc z l =>
        dsimp only at h
        cases y with
        | own j =>
          dsimp only at h
          cases hg : getO σ j with
          | lst et z' fz l' =>
            rw [hg] at h
            obtain ⟨h1, hp, k1, k2, k3⟩ := condF h
            obtain ⟨h1, h3⟩ := and_elim h1
            obtain ⟨h4, h5⟩ := and_elim h1
            have ez := beq_elim h5
            have ez' := beq_elim h3
            have et' := beq_elim h4
            subst ez; subst ez'; subst et'
            obtain ⟨a0, exv, hfv⟩ := hx.slc_inv
            obtain ⟨ac, cc, xs, ee, kx1, kx2, kx3⟩ := hfv.flat hz0
            rw [exv]
            cases ee
            obtain ⟨a, n, c, e, hi, hb⟩ := hy.own_inv
            have hβ := hb _ _ _ _ hg
            have ho := hs.obj j
            rw [hg] at ho
            obtain ⟨ys, how, hys, hzs, _⟩ := ho.lst_own hβ
            rw [hβ] at how
            rcases lst_cells how with ⟨e0, e2⟩ | ⟨g, c', e2, hc'⟩
            · simp [e0] at hp
            cases e2
            rw [e]
            obtain ⟨a1, d, w', hr, ho', e1, e2, e3, e4, e6, e7⟩ := append_cut (P := ax.P) (ty := rt) (c := c) okt ht oke hz0 (a0 := a0) (n := l.length) (xs := xs) (by rw [← kx1.1, flatten_len kx2]) kx3 (m := l'.length) (news := ys) (by rw [← hys.1, flatten_len hzs]) hp ⟨g, 0, rfl, hc'⟩ (flat_one hys) k1 k2
            have hlen : (l ++ l').length = l.length + l'.length := by simp
            have hcell : ∀ b o, b < w.heap.size → w'.cell? ⟨b, o, none⟩ = w.cell? ⟨b, o, none⟩ := fun b o hlt => by simp only [World.cell?, e6 b hlt]
            have hfc : ∀ b o, F b o → w'.cell? ⟨b, o, none⟩ = w.cell? ⟨b, o, none⟩ := fun b o hf => hcell b o (hs.lt b o hf)
            have hcar : Carry w F β σ w' (fun b o => F b o ∨ False) (extB β σ.length (.slice a1 (l.length + l'.length) d)) (killO σ none ++ [⟨0, .lst el ye.size false (l ++ l')⟩]) := repl_carry (X := fun _ _ => False) hfc
            have key := hs.repl (w' := w') none (.slice a1 (l.length + l'.length) d) (.lst el ye.size false (l ++ l')) (fun _ _ => False) (fun j hj => by cases hj) e1 e2 e3 e4 (fun b o hlt _ => hcell b o hlt) (fun b hlt _ => e6 b hlt)
              (fun _ _ hX => hX.elim) (fun _ _ _ hX => hX.elim)
              (.inr ⟨xs ++ ys, by rw [extB_new, hlen]; exact ho', by rw [List.flatten_append]; exact (kx1.mono fun _ _ => FV.mono hcar.f).append (hys.mono fun _ _ => FV.mono hcar.f), (fun r hr => by
                rcases List.mem_append.1 hr with h | h
                · exact kx2 r h
                · exact hzs r h), hz0, fun h => by cases h⟩)
              (fun b _ hbb => .inl (e7 b hbb)) (fun b o hm => .inl (e7 b (by have := hm.1.2; rwa [extB_new] at this)))
            refine ⟨a1, _, d, w', hr, _, _, _, _, k3, ?_, key.1, key.2⟩
            exact .own σ.length _ _ _ (by simp) fun _ _ _ _ _ => extB_new _ _ _
          | _ => rw [hg] at h; exact h.elim
        | _ => exact h.elim
      | nls =>
        dsimp only at h
        obtain ⟨l', news, ⟨k1, k2, k3⟩, happ, k4, k5⟩ := rowsArg_run (rt := rt) hT hZ okt ht oke hz0 h hs hy
        rw [hx.nls_inv]
        obtain ⟨a1, d, w', hr, ho', e1, e2, e3, e4, e5, e6, e7⟩ := happ (bv := .slice none 0 0) (n := 0) (xs := []) (World.ownsRow_nil _ _ _ _) (by rw [Nat.zero_add]; exact k1) (by omega)
        rw [Nat.zero_add] at hr ho' e7
        have hnew : ∀ b, vblk (.slice a1 l'.length d) = some b → w.heap.size ≤ b := fun b hb => by
          rcases e7 b hb with h | h
          · exact h
          · cases h
        have hcell : ∀ b o, b < w.heap.size → w'.cell? ⟨b, o, none⟩ = w.cell? ⟨b, o, none⟩ := fun b o hlt => e5 b o hlt fun hbad => by cases hbad.1
        have hfc : ∀ b o, F b o → w'.cell? ⟨b, o, none⟩ = w.cell? ⟨b, o, none⟩ := fun b o hf => hcell b o (hs.lt b o hf)
        have hcar : Carry w F β σ w' (fun b o => F b o ∨ False) (extB β σ.length (.slice a1 l'.length d)) (killO σ none ++ [⟨0, .lst el ye.size false l'⟩]) := repl_carry (X := fun _ _ => False) hfc
        have key := hs.repl (w' := w') none (.slice a1 l'.length d) (.lst el ye.size false l') (fun _ _ => False) (fun j hj => by cases hj) e1 e2 e3 e4 (fun b o hlt _ => hcell b o hlt) (fun b hlt _ => e6 b hlt fun hbad => by cases hbad)
          (fun _ _ hX => hX.elim) (fun _ _ _ hX => hX.elim)
          (.inr ⟨news, by rw [extB_new]; simpa using ho', k4.mono fun _ _ => FV.mono hcar.f, k5, hz0, fun h => by cases h⟩)
          (fun b _ hbb => .inl (hnew b hbb)) (fun b o hm => .inl (hnew b (by have := hm.1.2; rwa [extB_new] at this)))
        refine ⟨a1, _, d, w', hr, _, _, _, _, k3, ?_, key.1, key.2⟩
        exact .own σ.length _ _ _ (by simp) fun _ _ _ _ _ => extB_new _ _ _
      | _ => exact h.elim
  | [], h, _ => exact h.elim
  | [_], h, _ => exact h.elim
  | _ :: _ :: _ :: _, h, _ => exact h.elim

end
end Go.Av
end
