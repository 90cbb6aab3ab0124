/-
  NARROWER THAN 'FOR EVERY INPUT', by the rows' own cells (each row's printed sentence says how): UnifyPlays: loops, laid · UnifyMakes: loops, laid · UnifySelf: loops, laid · UnifyTurns: loops, laid · UnifyForms: loops, laid.
  DERIVED. THE GIVEN ROWS OF THIS SEAT. 5 by the template 'for every input the law returns true; each argument reads behind the call as it read before'; 0 by the template 'total and deterministic' (their statements: YtdgekhanonfikaaDoorTotals.lean).
  GIVEN WITH THE SEED: the statements are not yours to turn. If you find one false, say at which input.
  Laid BY PROGRAM, IN A SANDBOX (cutbox-rows.mjs): the forced cells as the released guide's own fill.sh prints them over the translation eaeb41934a4df280… (all of the seat's roots in one cut). By AI agents, Wed Nov 11 2026. No macro, syntax, notation, axiom, sorry.
-/
import Derived.Test.YtdgekhanonfikaaDoorChecked
import GoSem.Claim
import GoSem.ClaimJoined
import GoSem.ClaimMapViews
import Derived.JoinedTies
import Derived.KernelRfl
namespace Go.Proofs.YtdgekhanonfikaaDoor
/- THE CELL 'sum', in the pinned program and in every row, IS THE sha256 OF THE DUMP (.gsa) THAT YtdgekhanonfikaaDoorProg.lean LOADS. Nothing in Lean hashes anything: it is a label: what it is worth is what the hold of that sum in a sandbox is worth. -/
noncomputable def Tryd.pinned : Pinned := { name := "ytdgekhanonfikaadoor", sum := "eaeb41934a4df280c444215107971730400cdac36c8b6667d0c0853717125daa", checked := Tryd.checked }
namespace Rows
def none {H : Type} : Left H := { results := [], args := [] }

/- WHAT THE LISTED PACKAGE-LEVEL VARIABLES READ AS WHEN THE CALL BEGINS. Each datum BY PROGRAM (the guide's laid-datum.mjs) off the statement by which the dump's own 'gosem.cut.vars' lays the variable. In a bare row this is a premise. The card (YtdgekhanonfikaaDoorCards.lean) ties it to the program's text. -/
def laid_augur_api_ErrText {H : Type} : DataW H := .iface "*errors.errorString" (.ptr (.agg [.lit (.string [97, 117, 103, 117, 114, 58, 32, 116, 101, 120, 116])]))
def laid_augur_api_ErrSyntax {H : Type} : DataW H := .iface "*errors.errorString" (.ptr (.agg [.lit (.string [97, 117, 103, 117, 114, 58, 32, 115, 121, 110, 116, 97, 120])]))
def laid_augur_api_ErrNest {H : Type} : DataW H := .iface "*errors.errorString" (.ptr (.agg [.lit (.string [97, 117, 103, 117, 114, 58, 32, 110, 101, 115, 116])]))
def laid_augur_api_ErrLarge {H : Type} : DataW H := .iface "*errors.errorString" (.ptr (.agg [.lit (.string [97, 117, 103, 117, 114, 58, 32, 108, 97, 114, 103, 101])]))
def laid_augur_api_ErrNames {H : Type} : DataW H := .iface "*errors.errorString" (.ptr (.agg [.lit (.string [97, 117, 103, 117, 114, 58, 32, 110, 97, 109, 101, 115])]))
def laid_augur_api_ErrTypes {H : Type} : DataW H := .iface "*errors.errorString" (.ptr (.agg [.lit (.string [97, 117, 103, 117, 114, 58, 32, 116, 121, 112, 101, 115])]))
def laid_augur_api_ErrModes {H : Type} : DataW H := .iface "*errors.errorString" (.ptr (.agg [.lit (.string [97, 117, 103, 117, 114, 58, 32, 109, 111, 100, 101, 115])]))
def laid_augur_api_ErrDet {H : Type} : DataW H := .iface "*errors.errorString" (.ptr (.agg [.lit (.string [97, 117, 103, 117, 114, 58, 32, 100, 101, 116, 101, 114, 109, 105, 110, 105, 115, 109])]))
def laid_augur_api_ErrNone {H : Type} : DataW H := .iface "*errors.errorString" (.ptr (.agg [.lit (.string [97, 117, 103, 117, 114, 58, 32, 110, 111, 110, 101])]))
def laid_augur_api_ErrData {H : Type} : DataW H := .iface "*errors.errorString" (.ptr (.agg [.lit (.string [97, 117, 103, 117, 114, 58, 32, 100, 97, 116, 97])]))
def laid_augur_api_ErrBytes {H : Type} : DataW H := .iface "*errors.errorString" (.ptr (.agg [.lit (.string [97, 117, 103, 117, 114, 58, 32, 98, 121, 116, 101, 115])]))
def laid_augur_api_ErrCode {H : Type} : DataW H := .iface "*errors.errorString" (.ptr (.agg [.lit (.string [97, 117, 103, 117, 114, 58, 32, 99, 111, 100, 101])]))
def laid_augur_api_ErrFuel {H : Type} : DataW H := .iface "*errors.errorString" (.ptr (.agg [.lit (.string [97, 117, 103, 117, 114, 58, 32, 102, 117, 101, 108])]))
def laid_augur_api_ErrHeap {H : Type} : DataW H := .iface "*errors.errorString" (.ptr (.agg [.lit (.string [97, 117, 103, 117, 114, 58, 32, 104, 101, 97, 112])]))
def laid_augur_api_ErrFrames {H : Type} : DataW H := .iface "*errors.errorString" (.ptr (.agg [.lit (.string [97, 117, 103, 117, 114, 58, 32, 102, 114, 97, 109, 101, 115])]))
def laid_augur_api_ErrState {H : Type} : DataW H := .iface "*errors.errorString" (.ptr (.agg [.lit (.string [97, 117, 103, 117, 114, 58, 32, 115, 116, 97, 116, 101])]))
def laid_math_bits_deBruijn32tab {H : Type} : DataW H := .agg [.lit (.int .u8 0), .lit (.int .u8 1), .lit (.int .u8 28), .lit (.int .u8 2), .lit (.int .u8 29), .lit (.int .u8 14), .lit (.int .u8 24), .lit (.int .u8 3), .lit (.int .u8 30), .lit (.int .u8 22), .lit (.int .u8 20), .lit (.int .u8 15), .lit (.int .u8 25), .lit (.int .u8 17), .lit (.int .u8 4), .lit (.int .u8 8), .lit (.int .u8 31), .lit (.int .u8 27), .lit (.int .u8 13), .lit (.int .u8 23), .lit (.int .u8 21), .lit (.int .u8 19), .lit (.int .u8 16), .lit (.int .u8 7), .lit (.int .u8 26), .lit (.int .u8 12), .lit (.int .u8 18), .lit (.int .u8 6), .lit (.int .u8 11), .lit (.int .u8 5), .lit (.int .u8 10), .lit (.int .u8 9)]
def laid_math_bits_deBruijn64tab {H : Type} : DataW H := .agg [.lit (.int .u8 0), .lit (.int .u8 1), .lit (.int .u8 56), .lit (.int .u8 2), .lit (.int .u8 57), .lit (.int .u8 49), .lit (.int .u8 28), .lit (.int .u8 3), .lit (.int .u8 61), .lit (.int .u8 58), .lit (.int .u8 42), .lit (.int .u8 50), .lit (.int .u8 38), .lit (.int .u8 29), .lit (.int .u8 17), .lit (.int .u8 4), .lit (.int .u8 62), .lit (.int .u8 47), .lit (.int .u8 59), .lit (.int .u8 36), .lit (.int .u8 45), .lit (.int .u8 43), .lit (.int .u8 51), .lit (.int .u8 22), .lit (.int .u8 53), .lit (.int .u8 39), .lit (.int .u8 33), .lit (.int .u8 30), .lit (.int .u8 24), .lit (.int .u8 18), .lit (.int .u8 12), .lit (.int .u8 5), .lit (.int .u8 63), .lit (.int .u8 55), .lit (.int .u8 48), .lit (.int .u8 27), .lit (.int .u8 60), .lit (.int .u8 41), .lit (.int .u8 37), .lit (.int .u8 16), .lit (.int .u8 46), .lit (.int .u8 35), .lit (.int .u8 44), .lit (.int .u8 21), .lit (.int .u8 52), .lit (.int .u8 32), .lit (.int .u8 23), .lit (.int .u8 11), .lit (.int .u8 54), .lit (.int .u8 26), .lit (.int .u8 40), .lit (.int .u8 15), .lit (.int .u8 34), .lit (.int .u8 20), .lit (.int .u8 31), .lit (.int .u8 10), .lit (.int .u8 25), .lit (.int .u8 14), .lit (.int .u8 19), .lit (.int .u8 9), .lit (.int .u8 13), .lit (.int .u8 8), .lit (.int .u8 7), .lit (.int .u8 6)]
def laid_internal_strconv_uint64pow10 {H : Type} : DataW H := .agg [.lit (.int .u64 1), .lit (.int .u64 10), .lit (.int .u64 100), .lit (.int .u64 1000), .lit (.int .u64 10000), .lit (.int .u64 100000), .lit (.int .u64 1000000), .lit (.int .u64 10000000), .lit (.int .u64 100000000), .lit (.int .u64 1000000000), .lit (.int .u64 10000000000), .lit (.int .u64 100000000000), .lit (.int .u64 1000000000000), .lit (.int .u64 10000000000000), .lit (.int .u64 100000000000000), .lit (.int .u64 1000000000000000), .lit (.int .u64 10000000000000000), .lit (.int .u64 100000000000000000), .lit (.int .u64 1000000000000000000), .lit (.int .u64 10000000000000000000)]

/-- 'augurlaw06.UnifyPlays': WHATEVER THE INPUT: true; the input reads as it did. -/
def unifyPlaysSpec : ChangeSpec := { name := "unifyPlays", fn := fun _ => fun
  | [d1, d2] => { results := [.lit (.bool true)], args := [d1, d2] }
  | _ => none }
def unifyPlaysRow : OpenClaim := { program := "ytdgekhanonfikaadoor", sum := "eaeb41934a4df280c444215107971730400cdac36c8b6667d0c0853717125daa", func := "augur/augurlaw06.UnifyPlays", spec := "unifyPlays", unfollowed := true, recurses := true, named := ["augur/api.ErrTypes", "augur/api.ErrState", "augur/api.ErrLarge", "augur/api.ErrText", "augur/api.ErrSyntax", "augur/api.ErrNest", "augur/api.ErrNames", "augur/api.ErrModes", "augur/api.ErrDet", "augur/api.ErrNone", "augur/api.ErrData", "augur/api.ErrBytes", "augur/api.ErrCode", "augur/api.ErrFuel", "augur/api.ErrHeap", "augur/api.ErrFrames"], loops := true, apart := false, laid := [("augur/api.ErrText", laid_augur_api_ErrText), ("augur/api.ErrSyntax", laid_augur_api_ErrSyntax), ("augur/api.ErrNest", laid_augur_api_ErrNest), ("augur/api.ErrLarge", laid_augur_api_ErrLarge), ("augur/api.ErrNames", laid_augur_api_ErrNames), ("augur/api.ErrTypes", laid_augur_api_ErrTypes), ("augur/api.ErrModes", laid_augur_api_ErrModes), ("augur/api.ErrDet", laid_augur_api_ErrDet), ("augur/api.ErrNone", laid_augur_api_ErrNone), ("augur/api.ErrData", laid_augur_api_ErrData), ("augur/api.ErrBytes", laid_augur_api_ErrBytes), ("augur/api.ErrCode", laid_augur_api_ErrCode), ("augur/api.ErrFuel", laid_augur_api_ErrFuel), ("augur/api.ErrHeap", laid_augur_api_ErrHeap), ("augur/api.ErrFrames", laid_augur_api_ErrFrames), ("augur/api.ErrState", laid_augur_api_ErrState)] }
def UnifyPlaysSaid : Prop := unifyPlaysRow.holds Tryd.pinned (OpenSpec.ofChange unifyPlaysSpec)

/-- ITS FALSE NEIGHBOUR: 'it returns false'. Refute it at one input. -/
def unifyPlaysWrong : ChangeSpec := { name := "unifyPlays", fn := fun _ => fun
  | [d1, d2] => { results := [.lit (.bool false)], args := [d1, d2] }
  | _ => none }
def UnifyPlaysWrongFalsely : Prop := unifyPlaysRow.holds Tryd.pinned (OpenSpec.ofChange unifyPlaysWrong)

/-- 'augurlaw06.UnifyMakes': WHATEVER THE INPUT: true; the input reads as it did. -/
def unifyMakesSpec : ChangeSpec := { name := "unifyMakes", fn := fun _ => fun
  | [d1, d2] => { results := [.lit (.bool true)], args := [d1, d2] }
  | _ => none }
def unifyMakesRow : OpenClaim := { program := "ytdgekhanonfikaadoor", sum := "eaeb41934a4df280c444215107971730400cdac36c8b6667d0c0853717125daa", func := "augur/augurlaw06.UnifyMakes", spec := "unifyMakes", unfollowed := true, recurses := true, named := ["augur/api.ErrLarge", "augur/api.ErrTypes", "augur/api.ErrState", "augur/api.ErrText", "augur/api.ErrSyntax", "augur/api.ErrNest", "augur/api.ErrNames", "augur/api.ErrModes", "augur/api.ErrDet", "augur/api.ErrNone", "augur/api.ErrData", "augur/api.ErrBytes", "augur/api.ErrCode", "augur/api.ErrFuel", "augur/api.ErrHeap", "augur/api.ErrFrames"], loops := true, apart := false, laid := [("augur/api.ErrText", laid_augur_api_ErrText), ("augur/api.ErrSyntax", laid_augur_api_ErrSyntax), ("augur/api.ErrNest", laid_augur_api_ErrNest), ("augur/api.ErrLarge", laid_augur_api_ErrLarge), ("augur/api.ErrNames", laid_augur_api_ErrNames), ("augur/api.ErrTypes", laid_augur_api_ErrTypes), ("augur/api.ErrModes", laid_augur_api_ErrModes), ("augur/api.ErrDet", laid_augur_api_ErrDet), ("augur/api.ErrNone", laid_augur_api_ErrNone), ("augur/api.ErrData", laid_augur_api_ErrData), ("augur/api.ErrBytes", laid_augur_api_ErrBytes), ("augur/api.ErrCode", laid_augur_api_ErrCode), ("augur/api.ErrFuel", laid_augur_api_ErrFuel), ("augur/api.ErrHeap", laid_augur_api_ErrHeap), ("augur/api.ErrFrames", laid_augur_api_ErrFrames), ("augur/api.ErrState", laid_augur_api_ErrState)] }
def UnifyMakesSaid : Prop := unifyMakesRow.holds Tryd.pinned (OpenSpec.ofChange unifyMakesSpec)

/-- ITS FALSE NEIGHBOUR: 'it returns false'. Refute it at one input. -/
def unifyMakesWrong : ChangeSpec := { name := "unifyMakes", fn := fun _ => fun
  | [d1, d2] => { results := [.lit (.bool false)], args := [d1, d2] }
  | _ => none }
def UnifyMakesWrongFalsely : Prop := unifyMakesRow.holds Tryd.pinned (OpenSpec.ofChange unifyMakesWrong)

/-- 'augurlaw06.UnifySelf': WHATEVER THE INPUT: true; the input reads as it did. -/
def unifySelfSpec : ChangeSpec := { name := "unifySelf", fn := fun _ => fun
  | [d1, d2] => { results := [.lit (.bool true)], args := [d1, d2] }
  | _ => none }
def unifySelfRow : OpenClaim := { program := "ytdgekhanonfikaadoor", sum := "eaeb41934a4df280c444215107971730400cdac36c8b6667d0c0853717125daa", func := "augur/augurlaw06.UnifySelf", spec := "unifySelf", unfollowed := true, recurses := true, named := ["augur/api.ErrState", "augur/api.ErrLarge", "augur/api.ErrTypes"], loops := true, apart := false, laid := [("augur/api.ErrLarge", laid_augur_api_ErrLarge), ("augur/api.ErrTypes", laid_augur_api_ErrTypes), ("augur/api.ErrState", laid_augur_api_ErrState)] }
def UnifySelfSaid : Prop := unifySelfRow.holds Tryd.pinned (OpenSpec.ofChange unifySelfSpec)

/-- ITS FALSE NEIGHBOUR: 'it returns false'. Refute it at one input. -/
def unifySelfWrong : ChangeSpec := { name := "unifySelf", fn := fun _ => fun
  | [d1, d2] => { results := [.lit (.bool false)], args := [d1, d2] }
  | _ => none }
def UnifySelfWrongFalsely : Prop := unifySelfRow.holds Tryd.pinned (OpenSpec.ofChange unifySelfWrong)

/-- 'augurlaw06.UnifyTurns': WHATEVER THE INPUT: true; the input reads as it did. -/
def unifyTurnsSpec : ChangeSpec := { name := "unifyTurns", fn := fun _ => fun
  | [d1, d2] => { results := [.lit (.bool true)], args := [d1, d2] }
  | _ => none }
def unifyTurnsRow : OpenClaim := { program := "ytdgekhanonfikaadoor", sum := "eaeb41934a4df280c444215107971730400cdac36c8b6667d0c0853717125daa", func := "augur/augurlaw06.UnifyTurns", spec := "unifyTurns", unfollowed := true, recurses := true, named := ["augur/api.ErrLarge", "augur/api.ErrTypes", "augur/api.ErrState", "augur/api.ErrText", "augur/api.ErrSyntax", "augur/api.ErrNest", "augur/api.ErrNames", "augur/api.ErrModes", "augur/api.ErrDet", "augur/api.ErrNone", "augur/api.ErrData", "augur/api.ErrBytes", "augur/api.ErrCode", "augur/api.ErrFuel", "augur/api.ErrHeap", "augur/api.ErrFrames"], loops := true, apart := false, laid := [("augur/api.ErrText", laid_augur_api_ErrText), ("augur/api.ErrSyntax", laid_augur_api_ErrSyntax), ("augur/api.ErrNest", laid_augur_api_ErrNest), ("augur/api.ErrLarge", laid_augur_api_ErrLarge), ("augur/api.ErrNames", laid_augur_api_ErrNames), ("augur/api.ErrTypes", laid_augur_api_ErrTypes), ("augur/api.ErrModes", laid_augur_api_ErrModes), ("augur/api.ErrDet", laid_augur_api_ErrDet), ("augur/api.ErrNone", laid_augur_api_ErrNone), ("augur/api.ErrData", laid_augur_api_ErrData), ("augur/api.ErrBytes", laid_augur_api_ErrBytes), ("augur/api.ErrCode", laid_augur_api_ErrCode), ("augur/api.ErrFuel", laid_augur_api_ErrFuel), ("augur/api.ErrHeap", laid_augur_api_ErrHeap), ("augur/api.ErrFrames", laid_augur_api_ErrFrames), ("augur/api.ErrState", laid_augur_api_ErrState)] }
def UnifyTurnsSaid : Prop := unifyTurnsRow.holds Tryd.pinned (OpenSpec.ofChange unifyTurnsSpec)

/-- ITS FALSE NEIGHBOUR: 'it returns false'. Refute it at one input. -/
def unifyTurnsWrong : ChangeSpec := { name := "unifyTurns", fn := fun _ => fun
  | [d1, d2] => { results := [.lit (.bool false)], args := [d1, d2] }
  | _ => none }
def UnifyTurnsWrongFalsely : Prop := unifyTurnsRow.holds Tryd.pinned (OpenSpec.ofChange unifyTurnsWrong)

/-- 'augurlaw06.UnifyForms': WHATEVER THE INPUT: true; the input reads as it did. -/
def unifyFormsSpec : ChangeSpec := { name := "unifyForms", fn := fun _ => fun
  | [d1, d2] => { results := [.lit (.bool true)], args := [d1, d2] }
  | _ => none }
def unifyFormsRow : OpenClaim := { program := "ytdgekhanonfikaadoor", sum := "eaeb41934a4df280c444215107971730400cdac36c8b6667d0c0853717125daa", func := "augur/augurlaw06.UnifyForms", spec := "unifyForms", inPlace := ["internal/abi.NoEscape", "internal/bytealg.MakeNoZero"], unfollowed := true, recurses := true, named := ["augur/api.ErrTypes", "augur/api.ErrState", "augur/api.ErrLarge", "internal/strconv.uint64pow10", "math/bits.deBruijn32tab", "math/bits.deBruijn64tab"], loops := true, apart := false, laid := [("math/bits.deBruijn32tab", laid_math_bits_deBruijn32tab), ("math/bits.deBruijn64tab", laid_math_bits_deBruijn64tab), ("internal/strconv.uint64pow10", laid_internal_strconv_uint64pow10), ("augur/api.ErrLarge", laid_augur_api_ErrLarge), ("augur/api.ErrTypes", laid_augur_api_ErrTypes), ("augur/api.ErrState", laid_augur_api_ErrState)] }
def UnifyFormsSaid : Prop := unifyFormsRow.holds Tryd.pinned (OpenSpec.ofChange unifyFormsSpec)

/-- ITS FALSE NEIGHBOUR: 'it returns false'. Refute it at one input. -/
def unifyFormsWrong : ChangeSpec := { name := "unifyForms", fn := fun _ => fun
  | [d1, d2] => { results := [.lit (.bool false)], args := [d1, d2] }
  | _ => none }
def UnifyFormsWrongFalsely : Prop := unifyFormsRow.holds Tryd.pinned (OpenSpec.ofChange unifyFormsWrong)

/- THE SECOND FORM. 'bulk': how many values and letters a reading holds, each counted each time it is reached (what is shared counts as often as it is met; a slice's spare places count too). A statement '..UptoSaid' is the law's where the arguments, and the package variables that the reading takes, are together of bulk at most 1048576: NARROWER than '..Said'. Prove '..Said' where nothing that the law and all that it calls make is longer than what came in: it says more and counts as full. Else prove '..UptoSaid'. A law counts once. -/
mutual
def uptoBulk {H : Type} : DataW H → Nat
  | .lit (.string bytes) => bytes.length + 1
  | .lit _ => 1
  | .nil => 1
  | .ptr d => uptoBulk d + 1
  | .slice elems spare => uptoBulkAll elems + uptoBulkAll spare + 1
  | .agg parts => uptoBulkAll parts + 1
  | .iface _ d => uptoBulk d + 1
  | .map entries => uptoBulkEntries entries + 1
  | .held _ => 1
def uptoBulkAll {H : Type} : List (DataW H) → Nat
  | [] => 0
  | d :: r => uptoBulk d + uptoBulkAll r
def uptoBulkEntries {H : Type} : List (Lit × DataW H) → Nat
  | [] => 0
  | x :: r => uptoBulkEntry x + uptoBulkEntries r
def uptoBulkEntry {H : Type} : Lit × DataW H → Nat
  | (.string bytes, d) => bytes.length + uptoBulk d + 1
  | (_, d) => uptoBulk d + 1
 end
def uptoSmall : (H : Type) → List (DataW H) → Bool := fun _ ds => decide (uptoBulkAll ds ≤ 1048576)
def OpenSpec.upto (s : _root_.Go.ChangeSpec) : _root_.Go.OpenSpec := { _root_.Go.OpenSpec.ofChange s with cond := some uptoSmall }

/-- 'augurlaw06.UnifyPlays', WHERE WHAT IT READS IS OF BULK AT MOST 1048576: true; the input reads as it did. -/
def unifyPlaysUptoRow : OpenClaim := { program := "ytdgekhanonfikaadoor", sum := "eaeb41934a4df280c444215107971730400cdac36c8b6667d0c0853717125daa", func := "augur/augurlaw06.UnifyPlays", spec := "unifyPlays", unfollowed := true, recurses := true, named := ["augur/api.ErrTypes", "augur/api.ErrState", "augur/api.ErrLarge", "augur/api.ErrText", "augur/api.ErrSyntax", "augur/api.ErrNest", "augur/api.ErrNames", "augur/api.ErrModes", "augur/api.ErrDet", "augur/api.ErrNone", "augur/api.ErrData", "augur/api.ErrBytes", "augur/api.ErrCode", "augur/api.ErrFuel", "augur/api.ErrHeap", "augur/api.ErrFrames"], loops := true, apart := false, laid := [("augur/api.ErrText", laid_augur_api_ErrText), ("augur/api.ErrSyntax", laid_augur_api_ErrSyntax), ("augur/api.ErrNest", laid_augur_api_ErrNest), ("augur/api.ErrLarge", laid_augur_api_ErrLarge), ("augur/api.ErrNames", laid_augur_api_ErrNames), ("augur/api.ErrTypes", laid_augur_api_ErrTypes), ("augur/api.ErrModes", laid_augur_api_ErrModes), ("augur/api.ErrDet", laid_augur_api_ErrDet), ("augur/api.ErrNone", laid_augur_api_ErrNone), ("augur/api.ErrData", laid_augur_api_ErrData), ("augur/api.ErrBytes", laid_augur_api_ErrBytes), ("augur/api.ErrCode", laid_augur_api_ErrCode), ("augur/api.ErrFuel", laid_augur_api_ErrFuel), ("augur/api.ErrHeap", laid_augur_api_ErrHeap), ("augur/api.ErrFrames", laid_augur_api_ErrFrames), ("augur/api.ErrState", laid_augur_api_ErrState)], narrowed := true }
def UnifyPlaysUptoSaid : Prop := unifyPlaysUptoRow.holds Tryd.pinned (OpenSpec.upto unifyPlaysSpec)

/-- 'augurlaw06.UnifyMakes', WHERE WHAT IT READS IS OF BULK AT MOST 1048576: true; the input reads as it did. -/
def unifyMakesUptoRow : OpenClaim := { program := "ytdgekhanonfikaadoor", sum := "eaeb41934a4df280c444215107971730400cdac36c8b6667d0c0853717125daa", func := "augur/augurlaw06.UnifyMakes", spec := "unifyMakes", unfollowed := true, recurses := true, named := ["augur/api.ErrLarge", "augur/api.ErrTypes", "augur/api.ErrState", "augur/api.ErrText", "augur/api.ErrSyntax", "augur/api.ErrNest", "augur/api.ErrNames", "augur/api.ErrModes", "augur/api.ErrDet", "augur/api.ErrNone", "augur/api.ErrData", "augur/api.ErrBytes", "augur/api.ErrCode", "augur/api.ErrFuel", "augur/api.ErrHeap", "augur/api.ErrFrames"], loops := true, apart := false, laid := [("augur/api.ErrText", laid_augur_api_ErrText), ("augur/api.ErrSyntax", laid_augur_api_ErrSyntax), ("augur/api.ErrNest", laid_augur_api_ErrNest), ("augur/api.ErrLarge", laid_augur_api_ErrLarge), ("augur/api.ErrNames", laid_augur_api_ErrNames), ("augur/api.ErrTypes", laid_augur_api_ErrTypes), ("augur/api.ErrModes", laid_augur_api_ErrModes), ("augur/api.ErrDet", laid_augur_api_ErrDet), ("augur/api.ErrNone", laid_augur_api_ErrNone), ("augur/api.ErrData", laid_augur_api_ErrData), ("augur/api.ErrBytes", laid_augur_api_ErrBytes), ("augur/api.ErrCode", laid_augur_api_ErrCode), ("augur/api.ErrFuel", laid_augur_api_ErrFuel), ("augur/api.ErrHeap", laid_augur_api_ErrHeap), ("augur/api.ErrFrames", laid_augur_api_ErrFrames), ("augur/api.ErrState", laid_augur_api_ErrState)], narrowed := true }
def UnifyMakesUptoSaid : Prop := unifyMakesUptoRow.holds Tryd.pinned (OpenSpec.upto unifyMakesSpec)

/-- 'augurlaw06.UnifySelf', WHERE WHAT IT READS IS OF BULK AT MOST 1048576: true; the input reads as it did. -/
def unifySelfUptoRow : OpenClaim := { program := "ytdgekhanonfikaadoor", sum := "eaeb41934a4df280c444215107971730400cdac36c8b6667d0c0853717125daa", func := "augur/augurlaw06.UnifySelf", spec := "unifySelf", unfollowed := true, recurses := true, named := ["augur/api.ErrState", "augur/api.ErrLarge", "augur/api.ErrTypes"], loops := true, apart := false, laid := [("augur/api.ErrLarge", laid_augur_api_ErrLarge), ("augur/api.ErrTypes", laid_augur_api_ErrTypes), ("augur/api.ErrState", laid_augur_api_ErrState)], narrowed := true }
def UnifySelfUptoSaid : Prop := unifySelfUptoRow.holds Tryd.pinned (OpenSpec.upto unifySelfSpec)

/-- 'augurlaw06.UnifyTurns', WHERE WHAT IT READS IS OF BULK AT MOST 1048576: true; the input reads as it did. -/
def unifyTurnsUptoRow : OpenClaim := { program := "ytdgekhanonfikaadoor", sum := "eaeb41934a4df280c444215107971730400cdac36c8b6667d0c0853717125daa", func := "augur/augurlaw06.UnifyTurns", spec := "unifyTurns", unfollowed := true, recurses := true, named := ["augur/api.ErrLarge", "augur/api.ErrTypes", "augur/api.ErrState", "augur/api.ErrText", "augur/api.ErrSyntax", "augur/api.ErrNest", "augur/api.ErrNames", "augur/api.ErrModes", "augur/api.ErrDet", "augur/api.ErrNone", "augur/api.ErrData", "augur/api.ErrBytes", "augur/api.ErrCode", "augur/api.ErrFuel", "augur/api.ErrHeap", "augur/api.ErrFrames"], loops := true, apart := false, laid := [("augur/api.ErrText", laid_augur_api_ErrText), ("augur/api.ErrSyntax", laid_augur_api_ErrSyntax), ("augur/api.ErrNest", laid_augur_api_ErrNest), ("augur/api.ErrLarge", laid_augur_api_ErrLarge), ("augur/api.ErrNames", laid_augur_api_ErrNames), ("augur/api.ErrTypes", laid_augur_api_ErrTypes), ("augur/api.ErrModes", laid_augur_api_ErrModes), ("augur/api.ErrDet", laid_augur_api_ErrDet), ("augur/api.ErrNone", laid_augur_api_ErrNone), ("augur/api.ErrData", laid_augur_api_ErrData), ("augur/api.ErrBytes", laid_augur_api_ErrBytes), ("augur/api.ErrCode", laid_augur_api_ErrCode), ("augur/api.ErrFuel", laid_augur_api_ErrFuel), ("augur/api.ErrHeap", laid_augur_api_ErrHeap), ("augur/api.ErrFrames", laid_augur_api_ErrFrames), ("augur/api.ErrState", laid_augur_api_ErrState)], narrowed := true }
def UnifyTurnsUptoSaid : Prop := unifyTurnsUptoRow.holds Tryd.pinned (OpenSpec.upto unifyTurnsSpec)

/-- 'augurlaw06.UnifyForms', WHERE WHAT IT READS IS OF BULK AT MOST 1048576: true; the input reads as it did. -/
def unifyFormsUptoRow : OpenClaim := { program := "ytdgekhanonfikaadoor", sum := "eaeb41934a4df280c444215107971730400cdac36c8b6667d0c0853717125daa", func := "augur/augurlaw06.UnifyForms", spec := "unifyForms", inPlace := ["internal/abi.NoEscape", "internal/bytealg.MakeNoZero"], unfollowed := true, recurses := true, named := ["augur/api.ErrTypes", "augur/api.ErrState", "augur/api.ErrLarge", "internal/strconv.uint64pow10", "math/bits.deBruijn32tab", "math/bits.deBruijn64tab"], loops := true, apart := false, laid := [("math/bits.deBruijn32tab", laid_math_bits_deBruijn32tab), ("math/bits.deBruijn64tab", laid_math_bits_deBruijn64tab), ("internal/strconv.uint64pow10", laid_internal_strconv_uint64pow10), ("augur/api.ErrLarge", laid_augur_api_ErrLarge), ("augur/api.ErrTypes", laid_augur_api_ErrTypes), ("augur/api.ErrState", laid_augur_api_ErrState)], narrowed := true }
def UnifyFormsUptoSaid : Prop := unifyFormsUptoRow.holds Tryd.pinned (OpenSpec.upto unifyFormsSpec)

end Rows
end Go.Proofs.YtdgekhanonfikaaDoor
