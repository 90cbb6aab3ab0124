/-
  NARROWER THAN 'FOR EVERY INPUT', by the rows' own cells (each row's printed sentence says how): DataDomains: loops, laid.
  DERIVED. THE GIVEN ROWS OF THIS SEAT. 1 by the template 'for every input the law returns true; each argument reads behind the call as it read before'; 0 by the template 'total and deterministic' (their statements: YtahagnfdpemmaaaDoorTotals.lean).
  GIVEN WITH THE SEED: the statements are not yours to turn. If you find one false, say at which input.
  Laid BY PROGRAM, IN A SANDBOX (cutbox-rows.mjs): the forced cells as the released guide's own fill.sh prints them over the translation 71eda86e9df9025f… (all of the seat's roots in one cut). By AI agents, Wed Nov 11 2026. No macro, syntax, notation, axiom, sorry.
-/
import Derived.Test.YtahagnfdpemmaaaDoorChecked
import GoSem.Claim
import GoSem.ClaimJoined
import GoSem.ClaimMapViews
import Derived.JoinedTies
import Derived.KernelRfl
namespace Go.Proofs.YtahagnfdpemmaaaDoor
/- THE CELL 'sum', in the pinned program and in every row, IS THE sha256 OF THE DUMP (.gsa) THAT YtahagnfdpemmaaaDoorProg.lean LOADS. Nothing in Lean hashes anything: it is a label: what it is worth is what the hold of that sum in a sandbox is worth. -/
noncomputable def Tryd.pinned : Pinned := { name := "ytahagnfdpemmaaadoor", sum := "71eda86e9df9025f12288544ca8de2520e6b1c60129593aca373dd55f2d3e6f7", checked := Tryd.checked }
namespace Rows
def none {H : Type} : Left H := { results := [], args := [] }

/- WHAT THE LISTED PACKAGE-LEVEL VARIABLES READ AS WHEN THE CALL BEGINS. Each datum BY PROGRAM (the guide's laid-datum.mjs) off the statement by which the dump's own 'gosem.cut.vars' lays the variable. In a bare row this is a premise. The card (YtahagnfdpemmaaaDoorCards.lean) ties it to the program's text. -/
def laid_augur_api_ErrLarge {H : Type} : DataW H := .iface "*errors.errorString" (.ptr (.agg [.lit (.string [97, 117, 103, 117, 114, 58, 32, 108, 97, 114, 103, 101])]))
def laid_augur_api_ErrData {H : Type} : DataW H := .iface "*errors.errorString" (.ptr (.agg [.lit (.string [97, 117, 103, 117, 114, 58, 32, 100, 97, 116, 97])]))

/-- 'augurlaw10.DataDomains': WHATEVER THE INPUT: true; the input reads as it did. -/
def dataDomainsSpec : ChangeSpec := { name := "dataDomains", fn := fun _ => fun
  | [d1, d2, d3] => { results := [.lit (.bool true)], args := [d1, d2, d3] }
  | _ => none }
def dataDomainsRow : OpenClaim := { program := "ytahagnfdpemmaaadoor", sum := "71eda86e9df9025f12288544ca8de2520e6b1c60129593aca373dd55f2d3e6f7", func := "augur/augurlaw10.DataDomains", spec := "dataDomains", unfollowed := true, recurses := true, named := ["augur/api.ErrLarge", "augur/api.ErrData"], loops := true, apart := false, laid := [("augur/api.ErrLarge", laid_augur_api_ErrLarge), ("augur/api.ErrData", laid_augur_api_ErrData)] }
def DataDomainsSaid : Prop := dataDomainsRow.holds Tryd.pinned (OpenSpec.ofChange dataDomainsSpec)

/-- ITS FALSE NEIGHBOUR: 'it returns false'. Refute it at one input. -/
def dataDomainsWrong : ChangeSpec := { name := "dataDomains", fn := fun _ => fun
  | [d1, d2, d3] => { results := [.lit (.bool false)], args := [d1, d2, d3] }
  | _ => none }
def DataDomainsWrongFalsely : Prop := dataDomainsRow.holds Tryd.pinned (OpenSpec.ofChange dataDomainsWrong)

/- THE SECOND FORM. 'bulk': how many values and letters a reading holds, each counted each time it is reached (what is shared counts as often as it is met; a slice's spare places count too). A statement '..UptoSaid' is the law's where the arguments, and the package variables that the reading takes, are together of bulk at most 1048576: NARROWER than '..Said'. Prove '..Said' where nothing that the law and all that it calls make is longer than what came in: it says more and counts as full. Else prove '..UptoSaid'. A law counts once. -/
mutual
def uptoBulk {H : Type} : DataW H → Nat
  | .lit (.string bytes) => bytes.length + 1
  | .lit _ => 1
  | .nil => 1
  | .ptr d => uptoBulk d + 1
  | .slice elems spare => uptoBulkAll elems + uptoBulkAll spare + 1
  | .agg parts => uptoBulkAll parts + 1
  | .iface _ d => uptoBulk d + 1
  | .map entries => uptoBulkEntries entries + 1
  | .held _ => 1
def uptoBulkAll {H : Type} : List (DataW H) → Nat
  | [] => 0
  | d :: r => uptoBulk d + uptoBulkAll r
def uptoBulkEntries {H : Type} : List (Lit × DataW H) → Nat
  | [] => 0
  | x :: r => uptoBulkEntry x + uptoBulkEntries r
def uptoBulkEntry {H : Type} : Lit × DataW H → Nat
  | (.string bytes, d) => bytes.length + uptoBulk d + 1
  | (_, d) => uptoBulk d + 1
 end
def uptoSmall : (H : Type) → List (DataW H) → Bool := fun _ ds => decide (uptoBulkAll ds ≤ 1048576)
def OpenSpec.upto (s : _root_.Go.ChangeSpec) : _root_.Go.OpenSpec := { _root_.Go.OpenSpec.ofChange s with cond := some uptoSmall }

/-- 'augurlaw10.DataDomains', WHERE WHAT IT READS IS OF BULK AT MOST 1048576: true; the input reads as it did. -/
def dataDomainsUptoRow : OpenClaim := { program := "ytahagnfdpemmaaadoor", sum := "71eda86e9df9025f12288544ca8de2520e6b1c60129593aca373dd55f2d3e6f7", func := "augur/augurlaw10.DataDomains", spec := "dataDomains", unfollowed := true, recurses := true, named := ["augur/api.ErrLarge", "augur/api.ErrData"], loops := true, apart := false, laid := [("augur/api.ErrLarge", laid_augur_api_ErrLarge), ("augur/api.ErrData", laid_augur_api_ErrData)], narrowed := true }
def DataDomainsUptoSaid : Prop := dataDomainsUptoRow.holds Tryd.pinned (OpenSpec.upto dataDomainsSpec)

end Rows
end Go.Proofs.YtahagnfdpemmaaaDoor
