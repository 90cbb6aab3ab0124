/-
  DERIVED. GIVEN WITH THE SEED: THE CARDS: each row of YtgjifgjjcaohoaaGreatDoorRows.lean that lists a variable, with what it lists TIED to the program's text (the seventh form; the later family's looks); each row that meets fmt, with fmt's text TOLD by the authors' own Lean function (tested against real Go, not proved from fmt's source: count such statements apart). THE CARD IS WHAT COUNTS. Prove the row's statement (the work); the ties are given (YtgjifgjjcaohoaaGreatDoorTie.lean); close each card by the builder's one call (the guide's Derived/Test/ToyasCard.lean, 'card_holds'). Laid BY PROGRAM, IN A SANDBOX (cutbox-door.mjs). By AI agents, Wed Nov 11 2026. No macro, syntax, notation, axiom, sorry.
-/
import Derived.Test.YtgjifgjjcaohoaaGreatDoorRows
import GoSem.ClaimSeven
namespace Go.Proofs.YtgjifgjjcaohoaaGreatDoor
namespace Rows

/-- THE TIED CARD OF 'augurlaw10.DataReads'. -/
def dataReadsCard : Claim7 := { stood := { row := dataReadsRow, standIns := [], harness := (true, "976b49ddf373e8cfa7fa57d4534ba5ddd6c9989a934b213b25a316da9779e811"), looks := true }, kinds := [], alts := [], laidByText := true, laidKinds := [.data, .data, .data, .sentinel, .sentinel, .sentinel, .sentinel, .sentinel, .sentinel, .sentinel, .sentinel, .sentinel, .sentinel, .sentinel, .sentinel, .sentinel, .sentinel, .sentinel, .sentinel, .sentinel, .sentinel], laidTests := true, laidLooks := .later }
def DataReadsCardSaid : Prop := Claim7.holds Tryz.pinned (.plain (OpenSpec.ofChange dataReadsSpec)) dataReadsCard

/-- THE TIED CARD OF 'augurlaw10.DataForms'. -/
def dataFormsCard : Claim7 := { stood := { row := dataFormsRow, standIns := [], harness := (true, "976b49ddf373e8cfa7fa57d4534ba5ddd6c9989a934b213b25a316da9779e811"), looks := true }, kinds := [], alts := [], laidByText := true, laidKinds := [.data, .data, .data, .sentinel, .sentinel, .sentinel, .sentinel, .sentinel, .sentinel, .sentinel, .sentinel, .sentinel, .sentinel, .sentinel, .sentinel, .sentinel, .sentinel, .sentinel, .sentinel, .sentinel, .sentinel], laidTests := true, laidLooks := .later }
def DataFormsCardSaid : Prop := Claim7.holds Tryz.pinned (.plain (OpenSpec.ofChange dataFormsSpec)) dataFormsCard

/-- THE SECOND FORM's CARD OF 'augurlaw10.DataReads'. -/
def dataReadsUptoCard : Claim7 := { stood := { row := dataReadsUptoRow, standIns := [], harness := (true, "976b49ddf373e8cfa7fa57d4534ba5ddd6c9989a934b213b25a316da9779e811"), looks := true }, kinds := [], alts := [], laidByText := true, laidKinds := [.data, .data, .data, .sentinel, .sentinel, .sentinel, .sentinel, .sentinel, .sentinel, .sentinel, .sentinel, .sentinel, .sentinel, .sentinel, .sentinel, .sentinel, .sentinel, .sentinel, .sentinel, .sentinel, .sentinel], laidTests := true, laidLooks := .later }
def DataReadsUptoCardSaid : Prop := Claim7.holds Tryz.pinned (.plain (OpenSpec.upto dataReadsSpec)) dataReadsUptoCard

/-- THE SECOND FORM's CARD OF 'augurlaw10.DataForms'. -/
def dataFormsUptoCard : Claim7 := { stood := { row := dataFormsUptoRow, standIns := [], harness := (true, "976b49ddf373e8cfa7fa57d4534ba5ddd6c9989a934b213b25a316da9779e811"), looks := true }, kinds := [], alts := [], laidByText := true, laidKinds := [.data, .data, .data, .sentinel, .sentinel, .sentinel, .sentinel, .sentinel, .sentinel, .sentinel, .sentinel, .sentinel, .sentinel, .sentinel, .sentinel, .sentinel, .sentinel, .sentinel, .sentinel, .sentinel, .sentinel], laidTests := true, laidLooks := .later }
def DataFormsUptoCardSaid : Prop := Claim7.holds Tryz.pinned (.plain (OpenSpec.upto dataFormsSpec)) dataFormsUptoCard
end Rows
end Go.Proofs.YtgjifgjjcaohoaaGreatDoor
