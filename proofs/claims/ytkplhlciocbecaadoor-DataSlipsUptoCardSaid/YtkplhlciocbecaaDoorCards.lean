/-
  DERIVED. GIVEN WITH THE SEED: THE CARDS: each row of YtkplhlciocbecaaDoorRows.lean that lists a variable, with what it lists TIED to the program's text (the seventh form; the later family's looks); each row that meets fmt, with fmt's text TOLD by the authors' own Lean function (tested against real Go, not proved from fmt's source: count such statements apart). THE CARD IS WHAT COUNTS. Prove the row's statement (the work); the ties are given (YtkplhlciocbecaaDoorTie.lean); close each card by the builder's one call (the guide's Derived/Test/ToyasCard.lean, 'card_holds'). Laid BY PROGRAM, IN A SANDBOX (cutbox-door.mjs). By AI agents, Wed Nov 11 2026. No macro, syntax, notation, axiom, sorry.
-/
import Derived.Test.YtkplhlciocbecaaDoorRows
import GoSem.ClaimSeven
namespace Go.Proofs.YtkplhlciocbecaaDoor
namespace Rows

/-- THE TIED CARD OF 'augurlaw10.DataSizes'. -/
def dataSizesCard : Claim7 := { stood := { row := dataSizesRow, standIns := [], harness := (true, "0a89fb9cd9eda1aa23e63040ca8daaf34985e380b5cc8a02507bb2c898824422"), looks := true }, kinds := [], alts := [], laidByText := true, laidKinds := [.sentinel, .sentinel], laidTests := true, laidLooks := .later }
def DataSizesCardSaid : Prop := Claim7.holds Tryd.pinned (.plain (OpenSpec.ofChange dataSizesSpec)) dataSizesCard

/-- THE TIED CARD OF 'augurlaw10.DataOrders'. -/
def dataOrdersCard : Claim7 := { stood := { row := dataOrdersRow, standIns := [], harness := (true, "0a89fb9cd9eda1aa23e63040ca8daaf34985e380b5cc8a02507bb2c898824422"), looks := true }, kinds := [], alts := [], laidByText := true, laidKinds := [.sentinel, .sentinel], laidTests := true, laidLooks := .later }
def DataOrdersCardSaid : Prop := Claim7.holds Tryd.pinned (.plain (OpenSpec.ofChange dataOrdersSpec)) dataOrdersCard

/-- THE TIED CARD OF 'augurlaw10.DataDecodes'. -/
def dataDecodesCard : Claim7 := { stood := { row := dataDecodesRow, standIns := [], harness := (true, "0a89fb9cd9eda1aa23e63040ca8daaf34985e380b5cc8a02507bb2c898824422"), looks := true }, kinds := [], alts := [], laidByText := true, laidKinds := [.sentinel, .sentinel, .sentinel], laidTests := true, laidLooks := .later }
def DataDecodesCardSaid : Prop := Claim7.holds Tryd.pinned (.plain (OpenSpec.ofChange dataDecodesSpec)) dataDecodesCard

/-- THE TIED CARD OF 'augurlaw10.DataSlips'. -/
def dataSlipsCard : Claim7 := { stood := { row := dataSlipsRow, standIns := [], harness := (true, "0a89fb9cd9eda1aa23e63040ca8daaf34985e380b5cc8a02507bb2c898824422"), looks := true }, kinds := [], alts := [], laidByText := true, laidKinds := [.sentinel, .sentinel, .sentinel], laidTests := true, laidLooks := .later }
def DataSlipsCardSaid : Prop := Claim7.holds Tryd.pinned (.plain (OpenSpec.ofChange dataSlipsSpec)) dataSlipsCard

/-- THE SECOND FORM's CARD OF 'augurlaw10.DataSizes'. -/
def dataSizesUptoCard : Claim7 := { stood := { row := dataSizesUptoRow, standIns := [], harness := (true, "0a89fb9cd9eda1aa23e63040ca8daaf34985e380b5cc8a02507bb2c898824422"), looks := true }, kinds := [], alts := [], laidByText := true, laidKinds := [.sentinel, .sentinel], laidTests := true, laidLooks := .later }
def DataSizesUptoCardSaid : Prop := Claim7.holds Tryd.pinned (.plain (OpenSpec.upto dataSizesSpec)) dataSizesUptoCard

/-- THE SECOND FORM's CARD OF 'augurlaw10.DataOrders'. -/
def dataOrdersUptoCard : Claim7 := { stood := { row := dataOrdersUptoRow, standIns := [], harness := (true, "0a89fb9cd9eda1aa23e63040ca8daaf34985e380b5cc8a02507bb2c898824422"), looks := true }, kinds := [], alts := [], laidByText := true, laidKinds := [.sentinel, .sentinel], laidTests := true, laidLooks := .later }
def DataOrdersUptoCardSaid : Prop := Claim7.holds Tryd.pinned (.plain (OpenSpec.upto dataOrdersSpec)) dataOrdersUptoCard

/-- THE SECOND FORM's CARD OF 'augurlaw10.DataDecodes'. -/
def dataDecodesUptoCard : Claim7 := { stood := { row := dataDecodesUptoRow, standIns := [], harness := (true, "0a89fb9cd9eda1aa23e63040ca8daaf34985e380b5cc8a02507bb2c898824422"), looks := true }, kinds := [], alts := [], laidByText := true, laidKinds := [.sentinel, .sentinel, .sentinel], laidTests := true, laidLooks := .later }
def DataDecodesUptoCardSaid : Prop := Claim7.holds Tryd.pinned (.plain (OpenSpec.upto dataDecodesSpec)) dataDecodesUptoCard

/-- THE SECOND FORM's CARD OF 'augurlaw10.DataSlips'. -/
def dataSlipsUptoCard : Claim7 := { stood := { row := dataSlipsUptoRow, standIns := [], harness := (true, "0a89fb9cd9eda1aa23e63040ca8daaf34985e380b5cc8a02507bb2c898824422"), looks := true }, kinds := [], alts := [], laidByText := true, laidKinds := [.sentinel, .sentinel, .sentinel], laidTests := true, laidLooks := .later }
def DataSlipsUptoCardSaid : Prop := Claim7.holds Tryd.pinned (.plain (OpenSpec.upto dataSlipsSpec)) dataSlipsUptoCard
end Rows
end Go.Proofs.YtkplhlciocbecaaDoor
