/-
  DERIVED. GIVEN WITH THE SEED: THE CARDS: each row of YtdgekhanonfikaaDoorRows.lean that lists a variable, with what it lists TIED to the program's text (the seventh form; the later family's looks); each row that meets fmt, with fmt's text TOLD by the authors' own Lean function (tested against real Go, not proved from fmt's source: count such statements apart). THE CARD IS WHAT COUNTS. Prove the row's statement (the work); the ties are given (YtdgekhanonfikaaDoorTie.lean); close each card by the builder's one call (the guide's Derived/Test/ToyasCard.lean, 'card_holds'). Laid BY PROGRAM, IN A SANDBOX (cutbox-door.mjs). By AI agents, Wed Nov 11 2026. No macro, syntax, notation, axiom, sorry.
-/
import Derived.Test.YtdgekhanonfikaaDoorRows
import GoSem.ClaimSeven
namespace Go.Proofs.YtdgekhanonfikaaDoor
namespace Rows

/-- THE TIED CARD OF 'augurlaw06.UnifyPlays'. -/
def unifyPlaysCard : Claim7 := { stood := { row := unifyPlaysRow, standIns := [], harness := (true, "682e97518136fff9869bb06f77707f6a44fdc247b3234711b5f7788ec33a8042"), looks := true }, kinds := [], alts := [], laidByText := true, laidKinds := [.sentinel, .sentinel, .sentinel, .sentinel, .sentinel, .sentinel, .sentinel, .sentinel, .sentinel, .sentinel, .sentinel, .sentinel, .sentinel, .sentinel, .sentinel, .sentinel], laidTests := true, laidLooks := .later }
def UnifyPlaysCardSaid : Prop := Claim7.holds Tryd.pinned (.plain (OpenSpec.ofChange unifyPlaysSpec)) unifyPlaysCard

/-- THE TIED CARD OF 'augurlaw06.UnifyMakes'. -/
def unifyMakesCard : Claim7 := { stood := { row := unifyMakesRow, standIns := [], harness := (true, "682e97518136fff9869bb06f77707f6a44fdc247b3234711b5f7788ec33a8042"), looks := true }, kinds := [], alts := [], laidByText := true, laidKinds := [.sentinel, .sentinel, .sentinel, .sentinel, .sentinel, .sentinel, .sentinel, .sentinel, .sentinel, .sentinel, .sentinel, .sentinel, .sentinel, .sentinel, .sentinel, .sentinel], laidTests := true, laidLooks := .later }
def UnifyMakesCardSaid : Prop := Claim7.holds Tryd.pinned (.plain (OpenSpec.ofChange unifyMakesSpec)) unifyMakesCard

/-- THE TIED CARD OF 'augurlaw06.UnifySelf'. -/
def unifySelfCard : Claim7 := { stood := { row := unifySelfRow, standIns := [], harness := (true, "682e97518136fff9869bb06f77707f6a44fdc247b3234711b5f7788ec33a8042"), looks := true }, kinds := [], alts := [], laidByText := true, laidKinds := [.sentinel, .sentinel, .sentinel], laidTests := true, laidLooks := .later }
def UnifySelfCardSaid : Prop := Claim7.holds Tryd.pinned (.plain (OpenSpec.ofChange unifySelfSpec)) unifySelfCard

/-- THE TIED CARD OF 'augurlaw06.UnifyTurns'. -/
def unifyTurnsCard : Claim7 := { stood := { row := unifyTurnsRow, standIns := [], harness := (true, "682e97518136fff9869bb06f77707f6a44fdc247b3234711b5f7788ec33a8042"), looks := true }, kinds := [], alts := [], laidByText := true, laidKinds := [.sentinel, .sentinel, .sentinel, .sentinel, .sentinel, .sentinel, .sentinel, .sentinel, .sentinel, .sentinel, .sentinel, .sentinel, .sentinel, .sentinel, .sentinel, .sentinel], laidTests := true, laidLooks := .later }
def UnifyTurnsCardSaid : Prop := Claim7.holds Tryd.pinned (.plain (OpenSpec.ofChange unifyTurnsSpec)) unifyTurnsCard

/-- THE TIED CARD OF 'augurlaw06.UnifyForms'. -/
def unifyFormsCard : Claim7 := { stood := { row := unifyFormsRow, standIns := [], harness := (true, "682e97518136fff9869bb06f77707f6a44fdc247b3234711b5f7788ec33a8042"), looks := true }, kinds := [], alts := [], laidByText := true, laidKinds := [.data, .data, .data, .sentinel, .sentinel, .sentinel], laidTests := true, laidLooks := .later }
def UnifyFormsCardSaid : Prop := Claim7.holds Tryd.pinned (.plain (OpenSpec.ofChange unifyFormsSpec)) unifyFormsCard

/-- THE SECOND FORM's CARD OF 'augurlaw06.UnifyPlays'. -/
def unifyPlaysUptoCard : Claim7 := { stood := { row := unifyPlaysUptoRow, standIns := [], harness := (true, "682e97518136fff9869bb06f77707f6a44fdc247b3234711b5f7788ec33a8042"), looks := true }, kinds := [], alts := [], laidByText := true, laidKinds := [.sentinel, .sentinel, .sentinel, .sentinel, .sentinel, .sentinel, .sentinel, .sentinel, .sentinel, .sentinel, .sentinel, .sentinel, .sentinel, .sentinel, .sentinel, .sentinel], laidTests := true, laidLooks := .later }
def UnifyPlaysUptoCardSaid : Prop := Claim7.holds Tryd.pinned (.plain (OpenSpec.upto unifyPlaysSpec)) unifyPlaysUptoCard

/-- THE SECOND FORM's CARD OF 'augurlaw06.UnifyMakes'. -/
def unifyMakesUptoCard : Claim7 := { stood := { row := unifyMakesUptoRow, standIns := [], harness := (true, "682e97518136fff9869bb06f77707f6a44fdc247b3234711b5f7788ec33a8042"), looks := true }, kinds := [], alts := [], laidByText := true, laidKinds := [.sentinel, .sentinel, .sentinel, .sentinel, .sentinel, .sentinel, .sentinel, .sentinel, .sentinel, .sentinel, .sentinel, .sentinel, .sentinel, .sentinel, .sentinel, .sentinel], laidTests := true, laidLooks := .later }
def UnifyMakesUptoCardSaid : Prop := Claim7.holds Tryd.pinned (.plain (OpenSpec.upto unifyMakesSpec)) unifyMakesUptoCard

/-- THE SECOND FORM's CARD OF 'augurlaw06.UnifySelf'. -/
def unifySelfUptoCard : Claim7 := { stood := { row := unifySelfUptoRow, standIns := [], harness := (true, "682e97518136fff9869bb06f77707f6a44fdc247b3234711b5f7788ec33a8042"), looks := true }, kinds := [], alts := [], laidByText := true, laidKinds := [.sentinel, .sentinel, .sentinel], laidTests := true, laidLooks := .later }
def UnifySelfUptoCardSaid : Prop := Claim7.holds Tryd.pinned (.plain (OpenSpec.upto unifySelfSpec)) unifySelfUptoCard

/-- THE SECOND FORM's CARD OF 'augurlaw06.UnifyTurns'. -/
def unifyTurnsUptoCard : Claim7 := { stood := { row := unifyTurnsUptoRow, standIns := [], harness := (true, "682e97518136fff9869bb06f77707f6a44fdc247b3234711b5f7788ec33a8042"), looks := true }, kinds := [], alts := [], laidByText := true, laidKinds := [.sentinel, .sentinel, .sentinel, .sentinel, .sentinel, .sentinel, .sentinel, .sentinel, .sentinel, .sentinel, .sentinel, .sentinel, .sentinel, .sentinel, .sentinel, .sentinel], laidTests := true, laidLooks := .later }
def UnifyTurnsUptoCardSaid : Prop := Claim7.holds Tryd.pinned (.plain (OpenSpec.upto unifyTurnsSpec)) unifyTurnsUptoCard

/-- THE SECOND FORM's CARD OF 'augurlaw06.UnifyForms'. -/
def unifyFormsUptoCard : Claim7 := { stood := { row := unifyFormsUptoRow, standIns := [], harness := (true, "682e97518136fff9869bb06f77707f6a44fdc247b3234711b5f7788ec33a8042"), looks := true }, kinds := [], alts := [], laidByText := true, laidKinds := [.data, .data, .data, .sentinel, .sentinel, .sentinel], laidTests := true, laidLooks := .later }
def UnifyFormsUptoCardSaid : Prop := Claim7.holds Tryd.pinned (.plain (OpenSpec.upto unifyFormsSpec)) unifyFormsUptoCard
end Rows
end Go.Proofs.YtdgekhanonfikaaDoor
