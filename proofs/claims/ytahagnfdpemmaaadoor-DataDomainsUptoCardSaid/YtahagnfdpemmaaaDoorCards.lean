/-
  DERIVED. GIVEN WITH THE SEED: THE CARDS: each row of YtahagnfdpemmaaaDoorRows.lean that lists a variable, with what it lists TIED to the program's text (the seventh form; the later family's looks); each row that meets fmt, with fmt's text TOLD by the authors' own Lean function (tested against real Go, not proved from fmt's source: count such statements apart). THE CARD IS WHAT COUNTS. Prove the row's statement (the work); the ties are given (YtahagnfdpemmaaaDoorTie.lean); close each card by the builder's one call (the guide's Derived/Test/ToyasCard.lean, 'card_holds'). Laid BY PROGRAM, IN A SANDBOX (cutbox-door.mjs). By AI agents, Wed Nov 11 2026. No macro, syntax, notation, axiom, sorry.
-/
import Derived.Test.YtahagnfdpemmaaaDoorRows
import GoSem.ClaimSeven
namespace Go.Proofs.YtahagnfdpemmaaaDoor
namespace Rows

/-- THE TIED CARD OF 'augurlaw10.DataDomains'. -/
def dataDomainsCard : Claim7 := { stood := { row := dataDomainsRow, standIns := [], harness := (true, "4240e563cdd46a941fea5f28ab3da858b0bf1326b537adfc2f8b833c12bc8d30"), looks := false }, kinds := [], alts := [], laidByText := true, laidKinds := [.sentinel, .sentinel], laidTests := true, laidLooks := .later }
def DataDomainsCardSaid : Prop := Claim7.holds Tryd.pinned (.plain (OpenSpec.ofChange dataDomainsSpec)) dataDomainsCard

/-- THE SECOND FORM's CARD OF 'augurlaw10.DataDomains'. -/
def dataDomainsUptoCard : Claim7 := { stood := { row := dataDomainsUptoRow, standIns := [], harness := (true, "4240e563cdd46a941fea5f28ab3da858b0bf1326b537adfc2f8b833c12bc8d30"), looks := false }, kinds := [], alts := [], laidByText := true, laidKinds := [.sentinel, .sentinel], laidTests := true, laidLooks := .later }
def DataDomainsUptoCardSaid : Prop := Claim7.holds Tryd.pinned (.plain (OpenSpec.upto dataDomainsSpec)) dataDomainsUptoCard
end Rows
end Go.Proofs.YtahagnfdpemmaaaDoor
