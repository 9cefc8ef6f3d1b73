/-
  DERIVED. GIVEN WITH THE SEED: THE CARDS: each row of YtfnnfgiflhpefaaDoorRows.lean that lists a variable, with what it lists TIED to the program's text (the seventh form; the later family's looks); each row that meets fmt, with fmt's text TOLD by the authors' own Lean function (tested against real Go, not proved from fmt's source: count such statements apart). THE CARD IS WHAT COUNTS. Prove the row's statement (the work); the ties are given (YtfnnfgiflhpefaaDoorTie.lean); close each card by the builder's one call (the guide's Derived/Test/ToyasCard.lean, 'card_holds'). Laid BY PROGRAM, IN A SANDBOX (cutbox-door.mjs). By AI agents, Wed Nov 11 2026. No macro, syntax, notation, axiom, sorry.
-/
import Derived.Test.YtfnnfgiflhpefaaDoorRows
import GoSem.ClaimSeven
namespace Go.Proofs.YtfnnfgiflhpefaaDoor
namespace Rows

/-- THE TIED CARD OF 'amblerlaw26.PlainActs'. -/
def plainActsCard : Claim7 := { stood := { row := plainActsRow, standIns := [], harness := (true, "1fded159ec5e74886428b1a8c764af3da6c0781e488c4750fefcb2fd6d1a53a7"), looks := true }, kinds := [], alts := [], laidByText := true, laidKinds := [.sentinel, .sentinel, .sentinel, .sentinel, .sentinel, .sentinel, .sentinel, .sentinel, .sentinel, .sentinel, .sentinel, .sentinel, .sentinel, .sentinel, .sentinel, .sentinel], laidTests := true, laidLooks := .later }
def PlainActsCardSaid : Prop := Claim7.holds Tryd.pinned (.plain (OpenSpec.ofChange plainActsSpec)) plainActsCard

/-- THE TIED CARD OF 'amblerlaw26.PlainBack'. -/
def plainBackCard : Claim7 := { stood := { row := plainBackRow, standIns := [], harness := (true, "1fded159ec5e74886428b1a8c764af3da6c0781e488c4750fefcb2fd6d1a53a7"), looks := true }, kinds := [], alts := [], laidByText := true, laidKinds := [.sentinel, .sentinel, .sentinel, .sentinel, .sentinel, .sentinel, .sentinel, .sentinel, .sentinel, .sentinel, .sentinel, .sentinel, .sentinel, .sentinel, .sentinel, .sentinel], laidTests := true, laidLooks := .later }
def PlainBackCardSaid : Prop := Claim7.holds Tryd.pinned (.plain (OpenSpec.ofChange plainBackSpec)) plainBackCard

/-- THE TIED CARD OF 'amblerlaw26.PlainDiffs'. -/
def plainDiffsCard : Claim7 := { stood := { row := plainDiffsRow, standIns := [], harness := (true, "1fded159ec5e74886428b1a8c764af3da6c0781e488c4750fefcb2fd6d1a53a7"), looks := true }, kinds := [], alts := [], laidByText := true, laidKinds := [.sentinel, .sentinel, .sentinel, .sentinel, .sentinel, .sentinel, .sentinel, .sentinel, .sentinel, .sentinel, .sentinel, .sentinel, .sentinel, .sentinel, .sentinel, .sentinel], laidTests := true, laidLooks := .later }
def PlainDiffsCardSaid : Prop := Claim7.holds Tryd.pinned (.plain (OpenSpec.ofChange plainDiffsSpec)) plainDiffsCard

/-- THE SECOND FORM's CARD OF 'amblerlaw26.PlainActs'. -/
def plainActsUptoCard : Claim7 := { stood := { row := plainActsUptoRow, standIns := [], harness := (true, "1fded159ec5e74886428b1a8c764af3da6c0781e488c4750fefcb2fd6d1a53a7"), looks := true }, kinds := [], alts := [], laidByText := true, laidKinds := [.sentinel, .sentinel, .sentinel, .sentinel, .sentinel, .sentinel, .sentinel, .sentinel, .sentinel, .sentinel, .sentinel, .sentinel, .sentinel, .sentinel, .sentinel, .sentinel], laidTests := true, laidLooks := .later }
def PlainActsUptoCardSaid : Prop := Claim7.holds Tryd.pinned (.plain (OpenSpec.upto plainActsSpec)) plainActsUptoCard

/-- THE SECOND FORM's CARD OF 'amblerlaw26.PlainBack'. -/
def plainBackUptoCard : Claim7 := { stood := { row := plainBackUptoRow, standIns := [], harness := (true, "1fded159ec5e74886428b1a8c764af3da6c0781e488c4750fefcb2fd6d1a53a7"), looks := true }, kinds := [], alts := [], laidByText := true, laidKinds := [.sentinel, .sentinel, .sentinel, .sentinel, .sentinel, .sentinel, .sentinel, .sentinel, .sentinel, .sentinel, .sentinel, .sentinel, .sentinel, .sentinel, .sentinel, .sentinel], laidTests := true, laidLooks := .later }
def PlainBackUptoCardSaid : Prop := Claim7.holds Tryd.pinned (.plain (OpenSpec.upto plainBackSpec)) plainBackUptoCard

/-- THE SECOND FORM's CARD OF 'amblerlaw26.PlainDiffs'. -/
def plainDiffsUptoCard : Claim7 := { stood := { row := plainDiffsUptoRow, standIns := [], harness := (true, "1fded159ec5e74886428b1a8c764af3da6c0781e488c4750fefcb2fd6d1a53a7"), looks := true }, kinds := [], alts := [], laidByText := true, laidKinds := [.sentinel, .sentinel, .sentinel, .sentinel, .sentinel, .sentinel, .sentinel, .sentinel, .sentinel, .sentinel, .sentinel, .sentinel, .sentinel, .sentinel, .sentinel, .sentinel], laidTests := true, laidLooks := .later }
def PlainDiffsUptoCardSaid : Prop := Claim7.holds Tryd.pinned (.plain (OpenSpec.upto plainDiffsSpec)) plainDiffsUptoCard
end Rows
end Go.Proofs.YtfnnfgiflhpefaaDoor
