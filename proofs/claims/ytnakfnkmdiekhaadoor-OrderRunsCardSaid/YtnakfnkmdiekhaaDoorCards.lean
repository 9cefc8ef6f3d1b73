/-
  DERIVED. GIVEN WITH THE SEED: THE CARDS: each row of YtnakfnkmdiekhaaDoorRows.lean that lists a variable, with what it lists TIED to the program's text (the seventh form; the later family's looks); each row that meets fmt, with fmt's text TOLD by the authors' own Lean function (tested against real Go, not proved from fmt's source: count such statements apart). THE CARD IS WHAT COUNTS. Prove the row's statement (the work); the ties are given (YtnakfnkmdiekhaaDoorTie.lean); close each card by the builder's one call (the guide's Derived/Test/ToyasCard.lean, 'card_holds'). Laid BY PROGRAM, IN A SANDBOX (cutbox-door.mjs). By AI agents, Wed Nov 11 2026. No macro, syntax, notation, axiom, sorry.
-/
import Derived.Test.YtnakfnkmdiekhaaDoorRows
import GoSem.ClaimSeven
namespace Go.Proofs.YtnakfnkmdiekhaaDoor
namespace Rows

/-- THE TIED CARD OF 'amblerlaw27.OrderForms'. -/
def orderFormsCard : Claim7 := { stood := { row := orderFormsRow, standIns := [], harness := (true, "bbdead406ac2cb7b5ce86810d365e4795fa1d14ef228e7cdc08365fdbf3d4ce5"), looks := true }, kinds := [], alts := [], laidByText := true, laidKinds := [.data, .data, .data], laidTests := true, laidLooks := .later }
def OrderFormsCardSaid : Prop := Claim7.holds Tryd.pinned (.plain (OpenSpec.ofChange orderFormsSpec)) orderFormsCard

/-- THE TIED CARD OF 'amblerlaw27.OrderRuns'. -/
def orderRunsCard : Claim7 := { stood := { row := orderRunsRow, standIns := [], harness := (true, "bbdead406ac2cb7b5ce86810d365e4795fa1d14ef228e7cdc08365fdbf3d4ce5"), looks := true }, kinds := [], alts := [], laidByText := true, laidKinds := [.data, .data, .data, .sentinel], laidTests := true, laidLooks := .later }
def OrderRunsCardSaid : Prop := Claim7.holds Tryd.pinned (.plain (OpenSpec.ofChange orderRunsSpec)) orderRunsCard

/-- THE TIED CARD OF 'amblerlaw27.OrderKeys'. -/
def orderKeysCard : Claim7 := { stood := { row := orderKeysRow, standIns := [], harness := (true, "bbdead406ac2cb7b5ce86810d365e4795fa1d14ef228e7cdc08365fdbf3d4ce5"), looks := true }, kinds := [], alts := [], laidByText := true, laidKinds := [.data, .data, .data, .sentinel, .sentinel, .sentinel, .sentinel, .sentinel, .sentinel, .sentinel, .sentinel, .sentinel, .sentinel, .sentinel, .sentinel, .sentinel, .sentinel, .sentinel, .sentinel], laidTests := true, laidLooks := .later }
def OrderKeysCardSaid : Prop := Claim7.holds Tryd.pinned (.plain (OpenSpec.ofChange orderKeysSpec)) orderKeysCard

/-- THE TIED CARD OF 'amblerlaw27.OrderSorts'. -/
def orderSortsCard : Claim7 := { stood := { row := orderSortsRow, standIns := [], harness := (true, "bbdead406ac2cb7b5ce86810d365e4795fa1d14ef228e7cdc08365fdbf3d4ce5"), looks := true }, kinds := [], alts := [], laidByText := true, laidKinds := [.data, .data, .data, .sentinel, .sentinel, .sentinel, .sentinel, .sentinel, .sentinel, .sentinel, .sentinel, .sentinel, .sentinel, .sentinel, .sentinel, .sentinel, .sentinel, .sentinel, .sentinel], laidTests := true, laidLooks := .later }
def OrderSortsCardSaid : Prop := Claim7.holds Tryd.pinned (.plain (OpenSpec.ofChange orderSortsSpec)) orderSortsCard

/-- THE SECOND FORM's CARD OF 'amblerlaw27.OrderForms'. -/
def orderFormsUptoCard : Claim7 := { stood := { row := orderFormsUptoRow, standIns := [], harness := (true, "bbdead406ac2cb7b5ce86810d365e4795fa1d14ef228e7cdc08365fdbf3d4ce5"), looks := true }, kinds := [], alts := [], laidByText := true, laidKinds := [.data, .data, .data], laidTests := true, laidLooks := .later }
def OrderFormsUptoCardSaid : Prop := Claim7.holds Tryd.pinned (.plain (OpenSpec.upto orderFormsSpec)) orderFormsUptoCard

/-- THE SECOND FORM's CARD OF 'amblerlaw27.OrderRuns'. -/
def orderRunsUptoCard : Claim7 := { stood := { row := orderRunsUptoRow, standIns := [], harness := (true, "bbdead406ac2cb7b5ce86810d365e4795fa1d14ef228e7cdc08365fdbf3d4ce5"), looks := true }, kinds := [], alts := [], laidByText := true, laidKinds := [.data, .data, .data, .sentinel], laidTests := true, laidLooks := .later }
def OrderRunsUptoCardSaid : Prop := Claim7.holds Tryd.pinned (.plain (OpenSpec.upto orderRunsSpec)) orderRunsUptoCard

/-- THE SECOND FORM's CARD OF 'amblerlaw27.OrderKeys'. -/
def orderKeysUptoCard : Claim7 := { stood := { row := orderKeysUptoRow, standIns := [], harness := (true, "bbdead406ac2cb7b5ce86810d365e4795fa1d14ef228e7cdc08365fdbf3d4ce5"), looks := true }, kinds := [], alts := [], laidByText := true, laidKinds := [.data, .data, .data, .sentinel, .sentinel, .sentinel, .sentinel, .sentinel, .sentinel, .sentinel, .sentinel, .sentinel, .sentinel, .sentinel, .sentinel, .sentinel, .sentinel, .sentinel, .sentinel], laidTests := true, laidLooks := .later }
def OrderKeysUptoCardSaid : Prop := Claim7.holds Tryd.pinned (.plain (OpenSpec.upto orderKeysSpec)) orderKeysUptoCard

/-- THE SECOND FORM's CARD OF 'amblerlaw27.OrderSorts'. -/
def orderSortsUptoCard : Claim7 := { stood := { row := orderSortsUptoRow, standIns := [], harness := (true, "bbdead406ac2cb7b5ce86810d365e4795fa1d14ef228e7cdc08365fdbf3d4ce5"), looks := true }, kinds := [], alts := [], laidByText := true, laidKinds := [.data, .data, .data, .sentinel, .sentinel, .sentinel, .sentinel, .sentinel, .sentinel, .sentinel, .sentinel, .sentinel, .sentinel, .sentinel, .sentinel, .sentinel, .sentinel, .sentinel, .sentinel], laidTests := true, laidLooks := .later }
def OrderSortsUptoCardSaid : Prop := Claim7.holds Tryd.pinned (.plain (OpenSpec.upto orderSortsSpec)) orderSortsUptoCard
end Rows
end Go.Proofs.YtnakfnkmdiekhaaDoor
