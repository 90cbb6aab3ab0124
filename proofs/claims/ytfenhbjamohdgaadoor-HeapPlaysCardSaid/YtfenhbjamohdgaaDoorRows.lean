/-
  NARROWER THAN 'FOR EVERY INPUT', by the rows' own cells (each row's printed sentence says how): HeapRoom: laid · HeapLists: laid · HeapKeeps: laid · HeapStrange: laid · HeapPlays: laid.
  DERIVED. THE GIVEN ROWS OF THIS SEAT. 5 by the template 'for every input the law returns true; each argument reads behind the call as it read before'; 0 by the template 'total and deterministic' (their statements: YtfenhbjamohdgaaDoorTotals.lean).
  GIVEN WITH THE SEED: the statements are not yours to turn. If you find one false, say at which input.
  Laid BY PROGRAM, IN A SANDBOX (cutbox-rows.mjs): the forced cells as the released guide's own fill.sh prints them over the translation 8a20e38e147be3f8… (all of the seat's roots in one cut). By AI agents, Wed Nov 11 2026. No macro, syntax, notation, axiom, sorry.
-/
import Derived.Test.YtfenhbjamohdgaaDoorChecked
import GoSem.Claim
import GoSem.ClaimJoined
import GoSem.ClaimMapViews
import Derived.JoinedTies
import Derived.KernelRfl
namespace Go.Proofs.YtfenhbjamohdgaaDoor
/- THE CELL 'sum', in the pinned program and in every row, IS THE sha256 OF THE DUMP (.gsa) THAT YtfenhbjamohdgaaDoorProg.lean LOADS. Nothing in Lean hashes anything: it is a label: what it is worth is what the hold of that sum in a sandbox is worth. -/
noncomputable def Tryd.pinned : Pinned := { name := "ytfenhbjamohdgaadoor", sum := "8a20e38e147be3f893114976234ba46e0f636e9d8cdabdc023d6c7419654d4a3", checked := Tryd.checked }
namespace Rows
def none {H : Type} : Left H := { results := [], args := [] }

/- WHAT THE LISTED PACKAGE-LEVEL VARIABLES READ AS WHEN THE CALL BEGINS. Each datum BY PROGRAM (the guide's laid-datum.mjs) off the statement by which the dump's own 'gosem.cut.vars' lays the variable. In a bare row this is a premise. The card (YtfenhbjamohdgaaDoorCards.lean) ties it to the program's text. -/
def laid_augur_api_ErrLarge {H : Type} : DataW H := .iface "*errors.errorString" (.ptr (.agg [.lit (.string [97, 117, 103, 117, 114, 58, 32, 108, 97, 114, 103, 101])]))
def laid_augur_api_ErrHeap {H : Type} : DataW H := .iface "*errors.errorString" (.ptr (.agg [.lit (.string [97, 117, 103, 117, 114, 58, 32, 104, 101, 97, 112])]))
def laid_augur_api_ErrState {H : Type} : DataW H := .iface "*errors.errorString" (.ptr (.agg [.lit (.string [97, 117, 103, 117, 114, 58, 32, 115, 116, 97, 116, 101])]))
def laid_augur_api_ErrText {H : Type} : DataW H := .iface "*errors.errorString" (.ptr (.agg [.lit (.string [97, 117, 103, 117, 114, 58, 32, 116, 101, 120, 116])]))
def laid_augur_api_ErrSyntax {H : Type} : DataW H := .iface "*errors.errorString" (.ptr (.agg [.lit (.string [97, 117, 103, 117, 114, 58, 32, 115, 121, 110, 116, 97, 120])]))
def laid_augur_api_ErrNest {H : Type} : DataW H := .iface "*errors.errorString" (.ptr (.agg [.lit (.string [97, 117, 103, 117, 114, 58, 32, 110, 101, 115, 116])]))
def laid_augur_api_ErrNames {H : Type} : DataW H := .iface "*errors.errorString" (.ptr (.agg [.lit (.string [97, 117, 103, 117, 114, 58, 32, 110, 97, 109, 101, 115])]))
def laid_augur_api_ErrTypes {H : Type} : DataW H := .iface "*errors.errorString" (.ptr (.agg [.lit (.string [97, 117, 103, 117, 114, 58, 32, 116, 121, 112, 101, 115])]))
def laid_augur_api_ErrModes {H : Type} : DataW H := .iface "*errors.errorString" (.ptr (.agg [.lit (.string [97, 117, 103, 117, 114, 58, 32, 109, 111, 100, 101, 115])]))
def laid_augur_api_ErrDet {H : Type} : DataW H := .iface "*errors.errorString" (.ptr (.agg [.lit (.string [97, 117, 103, 117, 114, 58, 32, 100, 101, 116, 101, 114, 109, 105, 110, 105, 115, 109])]))
def laid_augur_api_ErrNone {H : Type} : DataW H := .iface "*errors.errorString" (.ptr (.agg [.lit (.string [97, 117, 103, 117, 114, 58, 32, 110, 111, 110, 101])]))
def laid_augur_api_ErrData {H : Type} : DataW H := .iface "*errors.errorString" (.ptr (.agg [.lit (.string [97, 117, 103, 117, 114, 58, 32, 100, 97, 116, 97])]))
def laid_augur_api_ErrBytes {H : Type} : DataW H := .iface "*errors.errorString" (.ptr (.agg [.lit (.string [97, 117, 103, 117, 114, 58, 32, 98, 121, 116, 101, 115])]))
def laid_augur_api_ErrCode {H : Type} : DataW H := .iface "*errors.errorString" (.ptr (.agg [.lit (.string [97, 117, 103, 117, 114, 58, 32, 99, 111, 100, 101])]))
def laid_augur_api_ErrFuel {H : Type} : DataW H := .iface "*errors.errorString" (.ptr (.agg [.lit (.string [97, 117, 103, 117, 114, 58, 32, 102, 117, 101, 108])]))
def laid_augur_api_ErrFrames {H : Type} : DataW H := .iface "*errors.errorString" (.ptr (.agg [.lit (.string [97, 117, 103, 117, 114, 58, 32, 102, 114, 97, 109, 101, 115])]))

/-- 'augurlaw19.HeapRoom': WHATEVER THE INPUT: true; the input reads as it did. -/
def heapRoomSpec : ChangeSpec := { name := "heapRoom", fn := fun _ => fun
  | [d1, d2] => { results := [.lit (.bool true)], args := [d1, d2] }
  | _ => none }
def heapRoomRow : OpenClaim := { program := "ytfenhbjamohdgaadoor", sum := "8a20e38e147be3f893114976234ba46e0f636e9d8cdabdc023d6c7419654d4a3", func := "augur/augurlaw19.HeapRoom", spec := "heapRoom", unfollowed := true, recurses := true, named := ["augur/api.ErrHeap", "augur/api.ErrState", "augur/api.ErrLarge"], apart := false, laid := [("augur/api.ErrLarge", laid_augur_api_ErrLarge), ("augur/api.ErrHeap", laid_augur_api_ErrHeap), ("augur/api.ErrState", laid_augur_api_ErrState)] }
def HeapRoomSaid : Prop := heapRoomRow.holds Tryd.pinned (OpenSpec.ofChange heapRoomSpec)

/-- ITS FALSE NEIGHBOUR: 'it returns false'. Refute it at one input. -/
def heapRoomWrong : ChangeSpec := { name := "heapRoom", fn := fun _ => fun
  | [d1, d2] => { results := [.lit (.bool false)], args := [d1, d2] }
  | _ => none }
def HeapRoomWrongFalsely : Prop := heapRoomRow.holds Tryd.pinned (OpenSpec.ofChange heapRoomWrong)

/-- 'augurlaw19.HeapLists': WHATEVER THE INPUT: true; the input reads as it did. -/
def heapListsSpec : ChangeSpec := { name := "heapLists", fn := fun _ => fun
  | [d1, d2] => { results := [.lit (.bool true)], args := [d1, d2] }
  | _ => none }
def heapListsRow : OpenClaim := { program := "ytfenhbjamohdgaadoor", sum := "8a20e38e147be3f893114976234ba46e0f636e9d8cdabdc023d6c7419654d4a3", func := "augur/augurlaw19.HeapLists", spec := "heapLists", unfollowed := true, recurses := true, named := ["augur/api.ErrHeap", "augur/api.ErrState", "augur/api.ErrLarge"], apart := false, laid := [("augur/api.ErrLarge", laid_augur_api_ErrLarge), ("augur/api.ErrHeap", laid_augur_api_ErrHeap), ("augur/api.ErrState", laid_augur_api_ErrState)] }
def HeapListsSaid : Prop := heapListsRow.holds Tryd.pinned (OpenSpec.ofChange heapListsSpec)

/-- ITS FALSE NEIGHBOUR: 'it returns false'. Refute it at one input. -/
def heapListsWrong : ChangeSpec := { name := "heapLists", fn := fun _ => fun
  | [d1, d2] => { results := [.lit (.bool false)], args := [d1, d2] }
  | _ => none }
def HeapListsWrongFalsely : Prop := heapListsRow.holds Tryd.pinned (OpenSpec.ofChange heapListsWrong)

/-- 'augurlaw19.HeapKeeps': WHATEVER THE INPUT: true; the input reads as it did. -/
def heapKeepsSpec : ChangeSpec := { name := "heapKeeps", fn := fun _ => fun
  | [d1, d2] => { results := [.lit (.bool true)], args := [d1, d2] }
  | _ => none }
def heapKeepsRow : OpenClaim := { program := "ytfenhbjamohdgaadoor", sum := "8a20e38e147be3f893114976234ba46e0f636e9d8cdabdc023d6c7419654d4a3", func := "augur/augurlaw19.HeapKeeps", spec := "heapKeeps", unfollowed := true, recurses := true, named := ["augur/api.ErrHeap", "augur/api.ErrState", "augur/api.ErrLarge"], apart := false, laid := [("augur/api.ErrLarge", laid_augur_api_ErrLarge), ("augur/api.ErrHeap", laid_augur_api_ErrHeap), ("augur/api.ErrState", laid_augur_api_ErrState)] }
def HeapKeepsSaid : Prop := heapKeepsRow.holds Tryd.pinned (OpenSpec.ofChange heapKeepsSpec)

/-- ITS FALSE NEIGHBOUR: 'it returns false'. Refute it at one input. -/
def heapKeepsWrong : ChangeSpec := { name := "heapKeeps", fn := fun _ => fun
  | [d1, d2] => { results := [.lit (.bool false)], args := [d1, d2] }
  | _ => none }
def HeapKeepsWrongFalsely : Prop := heapKeepsRow.holds Tryd.pinned (OpenSpec.ofChange heapKeepsWrong)

/-- 'augurlaw19.HeapStrange': WHATEVER THE INPUT: true; the input reads as it did. -/
def heapStrangeSpec : ChangeSpec := { name := "heapStrange", fn := fun _ => fun
  | [d] => { results := [.lit (.bool true)], args := [d] }
  | _ => none }
def heapStrangeRow : OpenClaim := { program := "ytfenhbjamohdgaadoor", sum := "8a20e38e147be3f893114976234ba46e0f636e9d8cdabdc023d6c7419654d4a3", func := "augur/augurlaw19.HeapStrange", spec := "heapStrange", unfollowed := true, recurses := true, named := ["augur/api.ErrState", "augur/api.ErrHeap", "augur/api.ErrLarge"], apart := false, laid := [("augur/api.ErrLarge", laid_augur_api_ErrLarge), ("augur/api.ErrHeap", laid_augur_api_ErrHeap), ("augur/api.ErrState", laid_augur_api_ErrState)] }
def HeapStrangeSaid : Prop := heapStrangeRow.holds Tryd.pinned (OpenSpec.ofChange heapStrangeSpec)

/-- ITS FALSE NEIGHBOUR: 'it returns false'. Refute it at one input. -/
def heapStrangeWrong : ChangeSpec := { name := "heapStrange", fn := fun _ => fun
  | [d] => { results := [.lit (.bool false)], args := [d] }
  | _ => none }
def HeapStrangeWrongFalsely : Prop := heapStrangeRow.holds Tryd.pinned (OpenSpec.ofChange heapStrangeWrong)

/-- 'augurlaw19.HeapPlays': WHATEVER THE INPUT: true; the input reads as it did. -/
def heapPlaysSpec : ChangeSpec := { name := "heapPlays", fn := fun _ => fun
  | [d1, d2] => { results := [.lit (.bool true)], args := [d1, d2] }
  | _ => none }
def heapPlaysRow : OpenClaim := { program := "ytfenhbjamohdgaadoor", sum := "8a20e38e147be3f893114976234ba46e0f636e9d8cdabdc023d6c7419654d4a3", func := "augur/augurlaw19.HeapPlays", spec := "heapPlays", unfollowed := true, recurses := true, named := ["augur/api.ErrState", "augur/api.ErrHeap", "augur/api.ErrLarge", "augur/api.ErrText", "augur/api.ErrSyntax", "augur/api.ErrNest", "augur/api.ErrNames", "augur/api.ErrTypes", "augur/api.ErrModes", "augur/api.ErrDet", "augur/api.ErrNone", "augur/api.ErrData", "augur/api.ErrBytes", "augur/api.ErrCode", "augur/api.ErrFuel", "augur/api.ErrFrames"], apart := false, laid := [("augur/api.ErrText", laid_augur_api_ErrText), ("augur/api.ErrSyntax", laid_augur_api_ErrSyntax), ("augur/api.ErrNest", laid_augur_api_ErrNest), ("augur/api.ErrLarge", laid_augur_api_ErrLarge), ("augur/api.ErrNames", laid_augur_api_ErrNames), ("augur/api.ErrTypes", laid_augur_api_ErrTypes), ("augur/api.ErrModes", laid_augur_api_ErrModes), ("augur/api.ErrDet", laid_augur_api_ErrDet), ("augur/api.ErrNone", laid_augur_api_ErrNone), ("augur/api.ErrData", laid_augur_api_ErrData), ("augur/api.ErrBytes", laid_augur_api_ErrBytes), ("augur/api.ErrCode", laid_augur_api_ErrCode), ("augur/api.ErrFuel", laid_augur_api_ErrFuel), ("augur/api.ErrHeap", laid_augur_api_ErrHeap), ("augur/api.ErrFrames", laid_augur_api_ErrFrames), ("augur/api.ErrState", laid_augur_api_ErrState)] }
def HeapPlaysSaid : Prop := heapPlaysRow.holds Tryd.pinned (OpenSpec.ofChange heapPlaysSpec)

/-- ITS FALSE NEIGHBOUR: 'it returns false'. Refute it at one input. -/
def heapPlaysWrong : ChangeSpec := { name := "heapPlays", fn := fun _ => fun
  | [d1, d2] => { results := [.lit (.bool false)], args := [d1, d2] }
  | _ => none }
def HeapPlaysWrongFalsely : Prop := heapPlaysRow.holds Tryd.pinned (OpenSpec.ofChange heapPlaysWrong)

/- THE SECOND FORM. 'bulk': how many values and letters a reading holds, each counted each time it is reached (what is shared counts as often as it is met; a slice's spare places count too). A statement '..UptoSaid' is the law's where the arguments, and the package variables that the reading takes, are together of bulk at most 1048576: NARROWER than '..Said'. Prove '..Said' where nothing that the law and all that it calls make is longer than what came in: it says more and counts as full. Else prove '..UptoSaid'. A law counts once. -/
mutual
def uptoBulk {H : Type} : DataW H → Nat
  | .lit (.string bytes) => bytes.length + 1
  | .lit _ => 1
  | .nil => 1
  | .ptr d => uptoBulk d + 1
  | .slice elems spare => uptoBulkAll elems + uptoBulkAll spare + 1
  | .agg parts => uptoBulkAll parts + 1
  | .iface _ d => uptoBulk d + 1
  | .map entries => uptoBulkEntries entries + 1
  | .held _ => 1
def uptoBulkAll {H : Type} : List (DataW H) → Nat
  | [] => 0
  | d :: r => uptoBulk d + uptoBulkAll r
def uptoBulkEntries {H : Type} : List (Lit × DataW H) → Nat
  | [] => 0
  | x :: r => uptoBulkEntry x + uptoBulkEntries r
def uptoBulkEntry {H : Type} : Lit × DataW H → Nat
  | (.string bytes, d) => bytes.length + uptoBulk d + 1
  | (_, d) => uptoBulk d + 1
 end
def uptoSmall : (H : Type) → List (DataW H) → Bool := fun _ ds => decide (uptoBulkAll ds ≤ 1048576)
def OpenSpec.upto (s : _root_.Go.ChangeSpec) : _root_.Go.OpenSpec := { _root_.Go.OpenSpec.ofChange s with cond := some uptoSmall }

/-- 'augurlaw19.HeapRoom', WHERE WHAT IT READS IS OF BULK AT MOST 1048576: true; the input reads as it did. -/
def heapRoomUptoRow : OpenClaim := { program := "ytfenhbjamohdgaadoor", sum := "8a20e38e147be3f893114976234ba46e0f636e9d8cdabdc023d6c7419654d4a3", func := "augur/augurlaw19.HeapRoom", spec := "heapRoom", unfollowed := true, recurses := true, named := ["augur/api.ErrHeap", "augur/api.ErrState", "augur/api.ErrLarge"], apart := false, laid := [("augur/api.ErrLarge", laid_augur_api_ErrLarge), ("augur/api.ErrHeap", laid_augur_api_ErrHeap), ("augur/api.ErrState", laid_augur_api_ErrState)], narrowed := true }
def HeapRoomUptoSaid : Prop := heapRoomUptoRow.holds Tryd.pinned (OpenSpec.upto heapRoomSpec)

/-- 'augurlaw19.HeapLists', WHERE WHAT IT READS IS OF BULK AT MOST 1048576: true; the input reads as it did. -/
def heapListsUptoRow : OpenClaim := { program := "ytfenhbjamohdgaadoor", sum := "8a20e38e147be3f893114976234ba46e0f636e9d8cdabdc023d6c7419654d4a3", func := "augur/augurlaw19.HeapLists", spec := "heapLists", unfollowed := true, recurses := true, named := ["augur/api.ErrHeap", "augur/api.ErrState", "augur/api.ErrLarge"], apart := false, laid := [("augur/api.ErrLarge", laid_augur_api_ErrLarge), ("augur/api.ErrHeap", laid_augur_api_ErrHeap), ("augur/api.ErrState", laid_augur_api_ErrState)], narrowed := true }
def HeapListsUptoSaid : Prop := heapListsUptoRow.holds Tryd.pinned (OpenSpec.upto heapListsSpec)

/-- 'augurlaw19.HeapKeeps', WHERE WHAT IT READS IS OF BULK AT MOST 1048576: true; the input reads as it did. -/
def heapKeepsUptoRow : OpenClaim := { program := "ytfenhbjamohdgaadoor", sum := "8a20e38e147be3f893114976234ba46e0f636e9d8cdabdc023d6c7419654d4a3", func := "augur/augurlaw19.HeapKeeps", spec := "heapKeeps", unfollowed := true, recurses := true, named := ["augur/api.ErrHeap", "augur/api.ErrState", "augur/api.ErrLarge"], apart := false, laid := [("augur/api.ErrLarge", laid_augur_api_ErrLarge), ("augur/api.ErrHeap", laid_augur_api_ErrHeap), ("augur/api.ErrState", laid_augur_api_ErrState)], narrowed := true }
def HeapKeepsUptoSaid : Prop := heapKeepsUptoRow.holds Tryd.pinned (OpenSpec.upto heapKeepsSpec)

/-- 'augurlaw19.HeapStrange', WHERE WHAT IT READS IS OF BULK AT MOST 1048576: true; the input reads as it did. -/
def heapStrangeUptoRow : OpenClaim := { program := "ytfenhbjamohdgaadoor", sum := "8a20e38e147be3f893114976234ba46e0f636e9d8cdabdc023d6c7419654d4a3", func := "augur/augurlaw19.HeapStrange", spec := "heapStrange", unfollowed := true, recurses := true, named := ["augur/api.ErrState", "augur/api.ErrHeap", "augur/api.ErrLarge"], apart := false, laid := [("augur/api.ErrLarge", laid_augur_api_ErrLarge), ("augur/api.ErrHeap", laid_augur_api_ErrHeap), ("augur/api.ErrState", laid_augur_api_ErrState)], narrowed := true }
def HeapStrangeUptoSaid : Prop := heapStrangeUptoRow.holds Tryd.pinned (OpenSpec.upto heapStrangeSpec)

/-- 'augurlaw19.HeapPlays', WHERE WHAT IT READS IS OF BULK AT MOST 1048576: true; the input reads as it did. -/
def heapPlaysUptoRow : OpenClaim := { program := "ytfenhbjamohdgaadoor", sum := "8a20e38e147be3f893114976234ba46e0f636e9d8cdabdc023d6c7419654d4a3", func := "augur/augurlaw19.HeapPlays", spec := "heapPlays", unfollowed := true, recurses := true, named := ["augur/api.ErrState", "augur/api.ErrHeap", "augur/api.ErrLarge", "augur/api.ErrText", "augur/api.ErrSyntax", "augur/api.ErrNest", "augur/api.ErrNames", "augur/api.ErrTypes", "augur/api.ErrModes", "augur/api.ErrDet", "augur/api.ErrNone", "augur/api.ErrData", "augur/api.ErrBytes", "augur/api.ErrCode", "augur/api.ErrFuel", "augur/api.ErrFrames"], apart := false, laid := [("augur/api.ErrText", laid_augur_api_ErrText), ("augur/api.ErrSyntax", laid_augur_api_ErrSyntax), ("augur/api.ErrNest", laid_augur_api_ErrNest), ("augur/api.ErrLarge", laid_augur_api_ErrLarge), ("augur/api.ErrNames", laid_augur_api_ErrNames), ("augur/api.ErrTypes", laid_augur_api_ErrTypes), ("augur/api.ErrModes", laid_augur_api_ErrModes), ("augur/api.ErrDet", laid_augur_api_ErrDet), ("augur/api.ErrNone", laid_augur_api_ErrNone), ("augur/api.ErrData", laid_augur_api_ErrData), ("augur/api.ErrBytes", laid_augur_api_ErrBytes), ("augur/api.ErrCode", laid_augur_api_ErrCode), ("augur/api.ErrFuel", laid_augur_api_ErrFuel), ("augur/api.ErrHeap", laid_augur_api_ErrHeap), ("augur/api.ErrFrames", laid_augur_api_ErrFrames), ("augur/api.ErrState", laid_augur_api_ErrState)], narrowed := true }
def HeapPlaysUptoSaid : Prop := heapPlaysUptoRow.holds Tryd.pinned (OpenSpec.upto heapPlaysSpec)

end Rows
end Go.Proofs.YtfenhbjamohdgaaDoor
