/-
  DERIVED. GIVEN WITH THE SEED: THE CARDS: each row of YtfenhbjamohdgaaDoorRows.lean that lists a variable, with what it lists TIED to the program's text (the seventh form; the later family's looks); each row that meets fmt, with fmt's text TOLD by the authors' own Lean function (tested against real Go, not proved from fmt's source: count such statements apart). THE CARD IS WHAT COUNTS. Prove the row's statement (the work); the ties are given (YtfenhbjamohdgaaDoorTie.lean); close each card by the builder's one call (the guide's Derived/Test/ToyasCard.lean, 'card_holds'). Laid BY PROGRAM, IN A SANDBOX (cutbox-door.mjs). By AI agents, Wed Nov 11 2026. No macro, syntax, notation, axiom, sorry.
-/
import Derived.Test.YtfenhbjamohdgaaDoorRows
import GoSem.ClaimSeven
namespace Go.Proofs.YtfenhbjamohdgaaDoor
namespace Rows

/-- THE TIED CARD OF 'augurlaw19.HeapRoom'. -/
def heapRoomCard : Claim7 := { stood := { row := heapRoomRow, standIns := [], harness := (true, "189d49cfd623701fd97ee79e61094205a94f73a909dd9fee2ddd9bcbeb2fc358"), looks := true }, kinds := [], alts := [], laidByText := true, laidKinds := [.sentinel, .sentinel, .sentinel], laidTests := true, laidLooks := .later }
def HeapRoomCardSaid : Prop := Claim7.holds Tryd.pinned (.plain (OpenSpec.ofChange heapRoomSpec)) heapRoomCard

/-- THE TIED CARD OF 'augurlaw19.HeapLists'. -/
def heapListsCard : Claim7 := { stood := { row := heapListsRow, standIns := [], harness := (true, "189d49cfd623701fd97ee79e61094205a94f73a909dd9fee2ddd9bcbeb2fc358"), looks := true }, kinds := [], alts := [], laidByText := true, laidKinds := [.sentinel, .sentinel, .sentinel], laidTests := true, laidLooks := .later }
def HeapListsCardSaid : Prop := Claim7.holds Tryd.pinned (.plain (OpenSpec.ofChange heapListsSpec)) heapListsCard

/-- THE TIED CARD OF 'augurlaw19.HeapKeeps'. -/
def heapKeepsCard : Claim7 := { stood := { row := heapKeepsRow, standIns := [], harness := (true, "189d49cfd623701fd97ee79e61094205a94f73a909dd9fee2ddd9bcbeb2fc358"), looks := true }, kinds := [], alts := [], laidByText := true, laidKinds := [.sentinel, .sentinel, .sentinel], laidTests := true, laidLooks := .later }
def HeapKeepsCardSaid : Prop := Claim7.holds Tryd.pinned (.plain (OpenSpec.ofChange heapKeepsSpec)) heapKeepsCard

/-- THE TIED CARD OF 'augurlaw19.HeapStrange'. -/
def heapStrangeCard : Claim7 := { stood := { row := heapStrangeRow, standIns := [], harness := (true, "189d49cfd623701fd97ee79e61094205a94f73a909dd9fee2ddd9bcbeb2fc358"), looks := true }, kinds := [], alts := [], laidByText := true, laidKinds := [.sentinel, .sentinel, .sentinel], laidTests := true, laidLooks := .later }
def HeapStrangeCardSaid : Prop := Claim7.holds Tryd.pinned (.plain (OpenSpec.ofChange heapStrangeSpec)) heapStrangeCard

/-- THE TIED CARD OF 'augurlaw19.HeapPlays'. -/
def heapPlaysCard : Claim7 := { stood := { row := heapPlaysRow, standIns := [], harness := (true, "189d49cfd623701fd97ee79e61094205a94f73a909dd9fee2ddd9bcbeb2fc358"), looks := true }, kinds := [], alts := [], laidByText := true, laidKinds := [.sentinel, .sentinel, .sentinel, .sentinel, .sentinel, .sentinel, .sentinel, .sentinel, .sentinel, .sentinel, .sentinel, .sentinel, .sentinel, .sentinel, .sentinel, .sentinel], laidTests := true, laidLooks := .later }
def HeapPlaysCardSaid : Prop := Claim7.holds Tryd.pinned (.plain (OpenSpec.ofChange heapPlaysSpec)) heapPlaysCard

/-- THE SECOND FORM's CARD OF 'augurlaw19.HeapRoom'. -/
def heapRoomUptoCard : Claim7 := { stood := { row := heapRoomUptoRow, standIns := [], harness := (true, "189d49cfd623701fd97ee79e61094205a94f73a909dd9fee2ddd9bcbeb2fc358"), looks := true }, kinds := [], alts := [], laidByText := true, laidKinds := [.sentinel, .sentinel, .sentinel], laidTests := true, laidLooks := .later }
def HeapRoomUptoCardSaid : Prop := Claim7.holds Tryd.pinned (.plain (OpenSpec.upto heapRoomSpec)) heapRoomUptoCard

/-- THE SECOND FORM's CARD OF 'augurlaw19.HeapLists'. -/
def heapListsUptoCard : Claim7 := { stood := { row := heapListsUptoRow, standIns := [], harness := (true, "189d49cfd623701fd97ee79e61094205a94f73a909dd9fee2ddd9bcbeb2fc358"), looks := true }, kinds := [], alts := [], laidByText := true, laidKinds := [.sentinel, .sentinel, .sentinel], laidTests := true, laidLooks := .later }
def HeapListsUptoCardSaid : Prop := Claim7.holds Tryd.pinned (.plain (OpenSpec.upto heapListsSpec)) heapListsUptoCard

/-- THE SECOND FORM's CARD OF 'augurlaw19.HeapKeeps'. -/
def heapKeepsUptoCard : Claim7 := { stood := { row := heapKeepsUptoRow, standIns := [], harness := (true, "189d49cfd623701fd97ee79e61094205a94f73a909dd9fee2ddd9bcbeb2fc358"), looks := true }, kinds := [], alts := [], laidByText := true, laidKinds := [.sentinel, .sentinel, .sentinel], laidTests := true, laidLooks := .later }
def HeapKeepsUptoCardSaid : Prop := Claim7.holds Tryd.pinned (.plain (OpenSpec.upto heapKeepsSpec)) heapKeepsUptoCard

/-- THE SECOND FORM's CARD OF 'augurlaw19.HeapStrange'. -/
def heapStrangeUptoCard : Claim7 := { stood := { row := heapStrangeUptoRow, standIns := [], harness := (true, "189d49cfd623701fd97ee79e61094205a94f73a909dd9fee2ddd9bcbeb2fc358"), looks := true }, kinds := [], alts := [], laidByText := true, laidKinds := [.sentinel, .sentinel, .sentinel], laidTests := true, laidLooks := .later }
def HeapStrangeUptoCardSaid : Prop := Claim7.holds Tryd.pinned (.plain (OpenSpec.upto heapStrangeSpec)) heapStrangeUptoCard

/-- THE SECOND FORM's CARD OF 'augurlaw19.HeapPlays'. -/
def heapPlaysUptoCard : Claim7 := { stood := { row := heapPlaysUptoRow, standIns := [], harness := (true, "189d49cfd623701fd97ee79e61094205a94f73a909dd9fee2ddd9bcbeb2fc358"), looks := true }, kinds := [], alts := [], laidByText := true, laidKinds := [.sentinel, .sentinel, .sentinel, .sentinel, .sentinel, .sentinel, .sentinel, .sentinel, .sentinel, .sentinel, .sentinel, .sentinel, .sentinel, .sentinel, .sentinel, .sentinel], laidTests := true, laidLooks := .later }
def HeapPlaysUptoCardSaid : Prop := Claim7.holds Tryd.pinned (.plain (OpenSpec.upto heapPlaysSpec)) heapPlaysUptoCard
end Rows
end Go.Proofs.YtfenhbjamohdgaaDoor
