/-
  NARROWER THAN 'FOR EVERY INPUT', by the rows' own cells (each row's printed sentence says how): DataSizes: loops, laid · DataOrders: loops, laid · DataDecodes: laid · DataSlips: loops, laid.
  DERIVED. THE GIVEN ROWS OF THIS SEAT. 4 by the template 'for every input the law returns true; each argument reads behind the call as it read before'; 0 by the template 'total and deterministic' (their statements: YtkplhlciocbecaaDoorTotals.lean).
  GIVEN WITH THE SEED: the statements are not yours to turn. If you find one false, say at which input.
  Laid BY PROGRAM, IN A SANDBOX (cutbox-rows.mjs): the forced cells as the released guide's own fill.sh prints them over the translation 52dbc08afda76b20… (all of the seat's roots in one cut). By AI agents, Wed Nov 11 2026. No macro, syntax, notation, axiom, sorry.
-/
import Derived.Test.YtkplhlciocbecaaDoorChecked
import GoSem.Claim
import GoSem.ClaimJoined
import GoSem.ClaimMapViews
import Derived.JoinedTies
import Derived.KernelRfl
namespace Go.Proofs.YtkplhlciocbecaaDoor
/- THE CELL 'sum', in the pinned program and in every row, IS THE sha256 OF THE DUMP (.gsa) THAT YtkplhlciocbecaaDoorProg.lean LOADS. Nothing in Lean hashes anything: it is a label: what it is worth is what the hold of that sum in a sandbox is worth. -/
noncomputable def Tryd.pinned : Pinned := { name := "ytkplhlciocbecaadoor", sum := "52dbc08afda76b2072860d7f4268517b28d896c83cfd68c743e74c51e27b4136", checked := Tryd.checked }
namespace Rows
def none {H : Type} : Left H := { results := [], args := [] }

/- WHAT THE LISTED PACKAGE-LEVEL VARIABLES READ AS WHEN THE CALL BEGINS. Each datum BY PROGRAM (the guide's laid-datum.mjs) off the statement by which the dump's own 'gosem.cut.vars' lays the variable. In a bare row this is a premise. The card (YtkplhlciocbecaaDoorCards.lean) ties it to the program's text. -/
def laid_augur_api_ErrLarge {H : Type} : DataW H := .iface "*errors.errorString" (.ptr (.agg [.lit (.string [97, 117, 103, 117, 114, 58, 32, 108, 97, 114, 103, 101])]))
def laid_augur_api_ErrData {H : Type} : DataW H := .iface "*errors.errorString" (.ptr (.agg [.lit (.string [97, 117, 103, 117, 114, 58, 32, 100, 97, 116, 97])]))
def laid_augur_api_ErrBytes {H : Type} : DataW H := .iface "*errors.errorString" (.ptr (.agg [.lit (.string [97, 117, 103, 117, 114, 58, 32, 98, 121, 116, 101, 115])]))

/-- 'augurlaw10.DataSizes': WHATEVER THE INPUT: true; the input reads as it did. -/
def dataSizesSpec : ChangeSpec := { name := "dataSizes", fn := fun _ => fun
  | [d] => { results := [.lit (.bool true)], args := [d] }
  | _ => none }
def dataSizesRow : OpenClaim := { program := "ytkplhlciocbecaadoor", sum := "52dbc08afda76b2072860d7f4268517b28d896c83cfd68c743e74c51e27b4136", func := "augur/augurlaw10.DataSizes", spec := "dataSizes", recurses := true, named := ["augur/api.ErrLarge", "augur/api.ErrData"], loops := true, apart := false, laid := [("augur/api.ErrLarge", laid_augur_api_ErrLarge), ("augur/api.ErrData", laid_augur_api_ErrData)] }
def DataSizesSaid : Prop := dataSizesRow.holds Tryd.pinned (OpenSpec.ofChange dataSizesSpec)

/-- ITS FALSE NEIGHBOUR: 'it returns false'. Refute it at one input. -/
def dataSizesWrong : ChangeSpec := { name := "dataSizes", fn := fun _ => fun
  | [d] => { results := [.lit (.bool false)], args := [d] }
  | _ => none }
def DataSizesWrongFalsely : Prop := dataSizesRow.holds Tryd.pinned (OpenSpec.ofChange dataSizesWrong)

/-- 'augurlaw10.DataOrders': WHATEVER THE INPUT: true; the input reads as it did. -/
def dataOrdersSpec : ChangeSpec := { name := "dataOrders", fn := fun _ => fun
  | [d1, d2, d3] => { results := [.lit (.bool true)], args := [d1, d2, d3] }
  | _ => none }
def dataOrdersRow : OpenClaim := { program := "ytkplhlciocbecaadoor", sum := "52dbc08afda76b2072860d7f4268517b28d896c83cfd68c743e74c51e27b4136", func := "augur/augurlaw10.DataOrders", spec := "dataOrders", recurses := true, named := ["augur/api.ErrLarge", "augur/api.ErrData"], loops := true, apart := false, laid := [("augur/api.ErrLarge", laid_augur_api_ErrLarge), ("augur/api.ErrData", laid_augur_api_ErrData)] }
def DataOrdersSaid : Prop := dataOrdersRow.holds Tryd.pinned (OpenSpec.ofChange dataOrdersSpec)

/-- ITS FALSE NEIGHBOUR: 'it returns false'. Refute it at one input. -/
def dataOrdersWrong : ChangeSpec := { name := "dataOrders", fn := fun _ => fun
  | [d1, d2, d3] => { results := [.lit (.bool false)], args := [d1, d2, d3] }
  | _ => none }
def DataOrdersWrongFalsely : Prop := dataOrdersRow.holds Tryd.pinned (OpenSpec.ofChange dataOrdersWrong)

/-- 'augurlaw10.DataDecodes': WHATEVER THE INPUT: true; the input reads as it did. -/
def dataDecodesSpec : ChangeSpec := { name := "dataDecodes", fn := fun _ => fun
  | [d] => { results := [.lit (.bool true)], args := [d] }
  | _ => none }
def dataDecodesRow : OpenClaim := { program := "ytkplhlciocbecaadoor", sum := "52dbc08afda76b2072860d7f4268517b28d896c83cfd68c743e74c51e27b4136", func := "augur/augurlaw10.DataDecodes", spec := "dataDecodes", recurses := true, named := ["augur/api.ErrBytes", "augur/api.ErrLarge", "augur/api.ErrData"], apart := false, laid := [("augur/api.ErrLarge", laid_augur_api_ErrLarge), ("augur/api.ErrData", laid_augur_api_ErrData), ("augur/api.ErrBytes", laid_augur_api_ErrBytes)] }
def DataDecodesSaid : Prop := dataDecodesRow.holds Tryd.pinned (OpenSpec.ofChange dataDecodesSpec)

/-- ITS FALSE NEIGHBOUR: 'it returns false'. Refute it at one input. -/
def dataDecodesWrong : ChangeSpec := { name := "dataDecodes", fn := fun _ => fun
  | [d] => { results := [.lit (.bool false)], args := [d] }
  | _ => none }
def DataDecodesWrongFalsely : Prop := dataDecodesRow.holds Tryd.pinned (OpenSpec.ofChange dataDecodesWrong)

/-- 'augurlaw10.DataSlips': WHATEVER THE INPUT: true; the input reads as it did. -/
def dataSlipsSpec : ChangeSpec := { name := "dataSlips", fn := fun _ => fun
  | [d1, d2, d3] => { results := [.lit (.bool true)], args := [d1, d2, d3] }
  | _ => none }
def dataSlipsRow : OpenClaim := { program := "ytkplhlciocbecaadoor", sum := "52dbc08afda76b2072860d7f4268517b28d896c83cfd68c743e74c51e27b4136", func := "augur/augurlaw10.DataSlips", spec := "dataSlips", recurses := true, named := ["augur/api.ErrBytes", "augur/api.ErrLarge", "augur/api.ErrData"], loops := true, apart := false, laid := [("augur/api.ErrLarge", laid_augur_api_ErrLarge), ("augur/api.ErrData", laid_augur_api_ErrData), ("augur/api.ErrBytes", laid_augur_api_ErrBytes)] }
def DataSlipsSaid : Prop := dataSlipsRow.holds Tryd.pinned (OpenSpec.ofChange dataSlipsSpec)

/-- ITS FALSE NEIGHBOUR: 'it returns false'. Refute it at one input. -/
def dataSlipsWrong : ChangeSpec := { name := "dataSlips", fn := fun _ => fun
  | [d1, d2, d3] => { results := [.lit (.bool false)], args := [d1, d2, d3] }
  | _ => none }
def DataSlipsWrongFalsely : Prop := dataSlipsRow.holds Tryd.pinned (OpenSpec.ofChange dataSlipsWrong)

/- THE SECOND FORM. 'bulk': how many values and letters a reading holds, each counted each time it is reached (what is shared counts as often as it is met; a slice's spare places count too). A statement '..UptoSaid' is the law's where the arguments, and the package variables that the reading takes, are together of bulk at most 1048576: NARROWER than '..Said'. Prove '..Said' where nothing that the law and all that it calls make is longer than what came in: it says more and counts as full. Else prove '..UptoSaid'. A law counts once. -/
mutual
def uptoBulk {H : Type} : DataW H → Nat
  | .lit (.string bytes) => bytes.length + 1
  | .lit _ => 1
  | .nil => 1
  | .ptr d => uptoBulk d + 1
  | .slice elems spare => uptoBulkAll elems + uptoBulkAll spare + 1
  | .agg parts => uptoBulkAll parts + 1
  | .iface _ d => uptoBulk d + 1
  | .map entries => uptoBulkEntries entries + 1
  | .held _ => 1
def uptoBulkAll {H : Type} : List (DataW H) → Nat
  | [] => 0
  | d :: r => uptoBulk d + uptoBulkAll r
def uptoBulkEntries {H : Type} : List (Lit × DataW H) → Nat
  | [] => 0
  | x :: r => uptoBulkEntry x + uptoBulkEntries r
def uptoBulkEntry {H : Type} : Lit × DataW H → Nat
  | (.string bytes, d) => bytes.length + uptoBulk d + 1
  | (_, d) => uptoBulk d + 1
 end
def uptoSmall : (H : Type) → List (DataW H) → Bool := fun _ ds => decide (uptoBulkAll ds ≤ 1048576)
def OpenSpec.upto (s : _root_.Go.ChangeSpec) : _root_.Go.OpenSpec := { _root_.Go.OpenSpec.ofChange s with cond := some uptoSmall }

/-- 'augurlaw10.DataSizes', WHERE WHAT IT READS IS OF BULK AT MOST 1048576: true; the input reads as it did. -/
def dataSizesUptoRow : OpenClaim := { program := "ytkplhlciocbecaadoor", sum := "52dbc08afda76b2072860d7f4268517b28d896c83cfd68c743e74c51e27b4136", func := "augur/augurlaw10.DataSizes", spec := "dataSizes", recurses := true, named := ["augur/api.ErrLarge", "augur/api.ErrData"], loops := true, apart := false, laid := [("augur/api.ErrLarge", laid_augur_api_ErrLarge), ("augur/api.ErrData", laid_augur_api_ErrData)], narrowed := true }
def DataSizesUptoSaid : Prop := dataSizesUptoRow.holds Tryd.pinned (OpenSpec.upto dataSizesSpec)

/-- 'augurlaw10.DataOrders', WHERE WHAT IT READS IS OF BULK AT MOST 1048576: true; the input reads as it did. -/
def dataOrdersUptoRow : OpenClaim := { program := "ytkplhlciocbecaadoor", sum := "52dbc08afda76b2072860d7f4268517b28d896c83cfd68c743e74c51e27b4136", func := "augur/augurlaw10.DataOrders", spec := "dataOrders", recurses := true, named := ["augur/api.ErrLarge", "augur/api.ErrData"], loops := true, apart := false, laid := [("augur/api.ErrLarge", laid_augur_api_ErrLarge), ("augur/api.ErrData", laid_augur_api_ErrData)], narrowed := true }
def DataOrdersUptoSaid : Prop := dataOrdersUptoRow.holds Tryd.pinned (OpenSpec.upto dataOrdersSpec)

/-- 'augurlaw10.DataDecodes', WHERE WHAT IT READS IS OF BULK AT MOST 1048576: true; the input reads as it did. -/
def dataDecodesUptoRow : OpenClaim := { program := "ytkplhlciocbecaadoor", sum := "52dbc08afda76b2072860d7f4268517b28d896c83cfd68c743e74c51e27b4136", func := "augur/augurlaw10.DataDecodes", spec := "dataDecodes", recurses := true, named := ["augur/api.ErrBytes", "augur/api.ErrLarge", "augur/api.ErrData"], apart := false, laid := [("augur/api.ErrLarge", laid_augur_api_ErrLarge), ("augur/api.ErrData", laid_augur_api_ErrData), ("augur/api.ErrBytes", laid_augur_api_ErrBytes)], narrowed := true }
def DataDecodesUptoSaid : Prop := dataDecodesUptoRow.holds Tryd.pinned (OpenSpec.upto dataDecodesSpec)

/-- 'augurlaw10.DataSlips', WHERE WHAT IT READS IS OF BULK AT MOST 1048576: true; the input reads as it did. -/
def dataSlipsUptoRow : OpenClaim := { program := "ytkplhlciocbecaadoor", sum := "52dbc08afda76b2072860d7f4268517b28d896c83cfd68c743e74c51e27b4136", func := "augur/augurlaw10.DataSlips", spec := "dataSlips", recurses := true, named := ["augur/api.ErrBytes", "augur/api.ErrLarge", "augur/api.ErrData"], loops := true, apart := false, laid := [("augur/api.ErrLarge", laid_augur_api_ErrLarge), ("augur/api.ErrData", laid_augur_api_ErrData), ("augur/api.ErrBytes", laid_augur_api_ErrBytes)], narrowed := true }
def DataSlipsUptoSaid : Prop := dataSlipsUptoRow.holds Tryd.pinned (OpenSpec.upto dataSlipsSpec)

end Rows
end Go.Proofs.YtkplhlciocbecaaDoor
