/-
  DERIVED. GIVEN WITH THE SEED: THE CARDS: each row of YtacdbgoffepaaaaDoorRows.lean that lists a variable, with what it lists TIED to the program's text (the seventh form; the later family's looks); each row that meets fmt, with fmt's text TOLD by the authors' own Lean function (tested against real Go, not proved from fmt's source: count such statements apart). THE CARD IS WHAT COUNTS. Prove the row's statement (the work); the ties are given (YtacdbgoffepaaaaDoorTie.lean); close each card by the builder's one call (the guide's Derived/Test/ToyasCard.lean, 'card_holds'). Laid BY PROGRAM, IN A SANDBOX (cutbox-door.mjs). By AI agents, Wed Nov 11 2026. No macro, syntax, notation, axiom, sorry.
-/
import Derived.Test.YtacdbgoffepaaaaDoorRows
import GoSem.ClaimSeven
namespace Go.Proofs.YtacdbgoffepaaaaDoor
namespace Rows

/-- THE TIED CARD OF 'amblerlaw03.SplitTells'. -/
def splitTellsCard : Claim7 := { stood := { row := splitTellsRow, standIns := [], harness := (true, "849e2ea75a1c63031dd27a554c6a567aed411599e11bd44040a6c07623cfcb87"), looks := true }, kinds := [], alts := [], laidByText := true, laidKinds := [.sentinel, .sentinel, .sentinel, .sentinel, .sentinel, .sentinel, .sentinel, .sentinel, .sentinel, .sentinel, .sentinel, .sentinel, .sentinel, .sentinel, .sentinel, .sentinel], laidTests := true, laidLooks := .later }
def SplitTellsCardSaid : Prop := Claim7.holds Tryd.pinned (.plain (OpenSpec.ofChange splitTellsSpec)) splitTellsCard

/-- THE TIED CARD OF 'amblerlaw23.CursorAll'. -/
def cursorAllCard : Claim7 := { stood := { row := cursorAllRow, standIns := [], harness := (true, "849e2ea75a1c63031dd27a554c6a567aed411599e11bd44040a6c07623cfcb87"), looks := true }, kinds := [], alts := [], laidByText := true, laidKinds := [.sentinel], laidTests := true, laidLooks := .later }
def CursorAllCardSaid : Prop := Claim7.holds Tryd.pinned (.plain (OpenSpec.ofChange cursorAllSpec)) cursorAllCard

/-- THE TIED CARD OF 'amblerlaw03.SplitEnds'. -/
def splitEndsCard : Claim7 := { stood := { row := splitEndsRow, standIns := [], harness := (true, "849e2ea75a1c63031dd27a554c6a567aed411599e11bd44040a6c07623cfcb87"), looks := true }, kinds := [], alts := [], laidByText := true, laidKinds := [.sentinel, .sentinel, .sentinel, .sentinel, .sentinel, .sentinel, .sentinel, .sentinel, .sentinel, .sentinel, .sentinel, .sentinel, .sentinel, .sentinel, .sentinel, .sentinel], laidTests := true, laidLooks := .later }
def SplitEndsCardSaid : Prop := Claim7.holds Tryd.pinned (.plain (OpenSpec.ofChange splitEndsSpec)) splitEndsCard

/-- THE TIED CARD OF 'amblerlaw03.SplitOrders'. -/
def splitOrdersCard : Claim7 := { stood := { row := splitOrdersRow, standIns := [], harness := (true, "849e2ea75a1c63031dd27a554c6a567aed411599e11bd44040a6c07623cfcb87"), looks := true }, kinds := [], alts := [], laidByText := true, laidKinds := [.sentinel], laidTests := true, laidLooks := .later }
def SplitOrdersCardSaid : Prop := Claim7.holds Tryd.pinned (.plain (OpenSpec.ofChange splitOrdersSpec)) splitOrdersCard

/-- THE TIED CARD OF 'amblerlaw23.CursorOn'. -/
def cursorOnCard : Claim7 := { stood := { row := cursorOnRow, standIns := [], harness := (true, "849e2ea75a1c63031dd27a554c6a567aed411599e11bd44040a6c07623cfcb87"), looks := true }, kinds := [], alts := [], laidByText := true, laidKinds := [.sentinel], laidTests := true, laidLooks := .later }
def CursorOnCardSaid : Prop := Claim7.holds Tryd.pinned (.plain (OpenSpec.ofChange cursorOnSpec)) cursorOnCard

/-- THE TIED CARD OF 'amblerlaw23.CursorActs'. -/
def cursorActsCard : Claim7 := { stood := { row := cursorActsRow, standIns := [], harness := (true, "849e2ea75a1c63031dd27a554c6a567aed411599e11bd44040a6c07623cfcb87"), looks := true }, kinds := [], alts := [], laidByText := true, laidKinds := [.sentinel, .sentinel, .sentinel, .sentinel, .sentinel, .sentinel, .sentinel, .sentinel, .sentinel, .sentinel, .sentinel, .sentinel, .sentinel, .sentinel, .sentinel, .sentinel], laidTests := true, laidLooks := .later }
def CursorActsCardSaid : Prop := Claim7.holds Tryd.pinned (.plain (OpenSpec.ofChange cursorActsSpec)) cursorActsCard

/-- THE TIED CARD OF 'amblerlaw24.ItersActs'. -/
def itersActsCard : Claim7 := { stood := { row := itersActsRow, standIns := [], harness := (true, "849e2ea75a1c63031dd27a554c6a567aed411599e11bd44040a6c07623cfcb87"), looks := true }, kinds := [], alts := [], laidByText := true, laidKinds := [.sentinel, .sentinel, .sentinel, .sentinel, .sentinel, .sentinel, .sentinel, .sentinel, .sentinel, .sentinel, .sentinel, .sentinel, .sentinel, .sentinel, .sentinel, .sentinel], laidTests := true, laidLooks := .later }
def ItersActsCardSaid : Prop := Claim7.holds Tryd.pinned (.plain (OpenSpec.ofChange itersActsSpec)) itersActsCard

/-- THE SECOND FORM's CARD OF 'amblerlaw03.SplitTells'. -/
def splitTellsUptoCard : Claim7 := { stood := { row := splitTellsUptoRow, standIns := [], harness := (true, "849e2ea75a1c63031dd27a554c6a567aed411599e11bd44040a6c07623cfcb87"), looks := true }, kinds := [], alts := [], laidByText := true, laidKinds := [.sentinel, .sentinel, .sentinel, .sentinel, .sentinel, .sentinel, .sentinel, .sentinel, .sentinel, .sentinel, .sentinel, .sentinel, .sentinel, .sentinel, .sentinel, .sentinel], laidTests := true, laidLooks := .later }
def SplitTellsUptoCardSaid : Prop := Claim7.holds Tryd.pinned (.plain (OpenSpec.upto splitTellsSpec)) splitTellsUptoCard

/-- THE SECOND FORM's CARD OF 'amblerlaw23.CursorAll'. -/
def cursorAllUptoCard : Claim7 := { stood := { row := cursorAllUptoRow, standIns := [], harness := (true, "849e2ea75a1c63031dd27a554c6a567aed411599e11bd44040a6c07623cfcb87"), looks := true }, kinds := [], alts := [], laidByText := true, laidKinds := [.sentinel], laidTests := true, laidLooks := .later }
def CursorAllUptoCardSaid : Prop := Claim7.holds Tryd.pinned (.plain (OpenSpec.upto cursorAllSpec)) cursorAllUptoCard

/-- THE SECOND FORM's CARD OF 'amblerlaw03.SplitEnds'. -/
def splitEndsUptoCard : Claim7 := { stood := { row := splitEndsUptoRow, standIns := [], harness := (true, "849e2ea75a1c63031dd27a554c6a567aed411599e11bd44040a6c07623cfcb87"), looks := true }, kinds := [], alts := [], laidByText := true, laidKinds := [.sentinel, .sentinel, .sentinel, .sentinel, .sentinel, .sentinel, .sentinel, .sentinel, .sentinel, .sentinel, .sentinel, .sentinel, .sentinel, .sentinel, .sentinel, .sentinel], laidTests := true, laidLooks := .later }
def SplitEndsUptoCardSaid : Prop := Claim7.holds Tryd.pinned (.plain (OpenSpec.upto splitEndsSpec)) splitEndsUptoCard

/-- THE SECOND FORM's CARD OF 'amblerlaw03.SplitOrders'. -/
def splitOrdersUptoCard : Claim7 := { stood := { row := splitOrdersUptoRow, standIns := [], harness := (true, "849e2ea75a1c63031dd27a554c6a567aed411599e11bd44040a6c07623cfcb87"), looks := true }, kinds := [], alts := [], laidByText := true, laidKinds := [.sentinel], laidTests := true, laidLooks := .later }
def SplitOrdersUptoCardSaid : Prop := Claim7.holds Tryd.pinned (.plain (OpenSpec.upto splitOrdersSpec)) splitOrdersUptoCard

/-- THE SECOND FORM's CARD OF 'amblerlaw23.CursorOn'. -/
def cursorOnUptoCard : Claim7 := { stood := { row := cursorOnUptoRow, standIns := [], harness := (true, "849e2ea75a1c63031dd27a554c6a567aed411599e11bd44040a6c07623cfcb87"), looks := true }, kinds := [], alts := [], laidByText := true, laidKinds := [.sentinel], laidTests := true, laidLooks := .later }
def CursorOnUptoCardSaid : Prop := Claim7.holds Tryd.pinned (.plain (OpenSpec.upto cursorOnSpec)) cursorOnUptoCard

/-- THE SECOND FORM's CARD OF 'amblerlaw23.CursorActs'. -/
def cursorActsUptoCard : Claim7 := { stood := { row := cursorActsUptoRow, standIns := [], harness := (true, "849e2ea75a1c63031dd27a554c6a567aed411599e11bd44040a6c07623cfcb87"), looks := true }, kinds := [], alts := [], laidByText := true, laidKinds := [.sentinel, .sentinel, .sentinel, .sentinel, .sentinel, .sentinel, .sentinel, .sentinel, .sentinel, .sentinel, .sentinel, .sentinel, .sentinel, .sentinel, .sentinel, .sentinel], laidTests := true, laidLooks := .later }
def CursorActsUptoCardSaid : Prop := Claim7.holds Tryd.pinned (.plain (OpenSpec.upto cursorActsSpec)) cursorActsUptoCard

/-- THE SECOND FORM's CARD OF 'amblerlaw24.ItersActs'. -/
def itersActsUptoCard : Claim7 := { stood := { row := itersActsUptoRow, standIns := [], harness := (true, "849e2ea75a1c63031dd27a554c6a567aed411599e11bd44040a6c07623cfcb87"), looks := true }, kinds := [], alts := [], laidByText := true, laidKinds := [.sentinel, .sentinel, .sentinel, .sentinel, .sentinel, .sentinel, .sentinel, .sentinel, .sentinel, .sentinel, .sentinel, .sentinel, .sentinel, .sentinel, .sentinel, .sentinel], laidTests := true, laidLooks := .later }
def ItersActsUptoCardSaid : Prop := Claim7.holds Tryd.pinned (.plain (OpenSpec.upto itersActsSpec)) itersActsUptoCard
end Rows
end Go.Proofs.YtacdbgoffepaaaaDoor
