/-
  DERIVED. GIVEN WITH THE SEED: THE CARDS: each row of YtgpeieohdelniaaGreatDoorRows.lean that lists a variable, with what it lists TIED to the program's text (the seventh form; the later family's looks); each row that meets fmt, with fmt's text TOLD by the authors' own Lean function (tested against real Go, not proved from fmt's source: count such statements apart). THE CARD IS WHAT COUNTS. Prove the row's statement (the work); the ties are given (YtgpeieohdelniaaGreatDoorTie.lean); close each card by the builder's one call (the guide's Derived/Test/ToyasCard.lean, 'card_holds'). Laid BY PROGRAM, IN A SANDBOX (cutbox-door.mjs). By AI agents, Wed Nov 11 2026. No macro, syntax, notation, axiom, sorry.
-/
import Derived.Test.YtgpeieohdelniaaGreatDoorRows
import GoSem.ClaimSeven
namespace Go.Proofs.YtgpeieohdelniaaGreatDoor
namespace Rows

/-- THE TIED CARD OF 'larchlaw28.ShellParses'. -/
def shellParsesCard : Claim7 := { stood := { row := shellParsesRow, standIns := [], harness := (true, "bc9193078afaa2aa5659ccd5581ae657722b072d04e7bed023220e500efc7e39"), looks := true }, kinds := [], alts := [], goes := true, laidByText := true, laidKinds := [.data, .data, .data, .sentinel, .sentinel], laidTests := true, laidLooks := .later }
def ShellParsesCardSaid : Prop := Claim7.holds Tryz.pinned (.plain (OpenSpec.ofChange shellParsesSpec)) shellParsesCard

/-- THE TIED CARD OF 'larchlaw28.ShellTells'. -/
def shellTellsCard : Claim7 := { stood := { row := shellTellsRow, standIns := [], harness := (true, "bc9193078afaa2aa5659ccd5581ae657722b072d04e7bed023220e500efc7e39"), looks := true }, kinds := [], alts := [], goes := true, laidByText := true, laidKinds := [.data, .data, .data, .sentinel, .sentinel], laidTests := true, laidLooks := .later }
def ShellTellsCardSaid : Prop := Claim7.holds Tryz.pinned (.plain (OpenSpec.ofChange shellTellsSpec)) shellTellsCard

/-- THE TIED CARD OF 'larchlaw28.ShellPrints'. -/
def shellPrintsCard : Claim7 := { stood := { row := shellPrintsRow, standIns := [], harness := (true, "bc9193078afaa2aa5659ccd5581ae657722b072d04e7bed023220e500efc7e39"), looks := true }, kinds := [], alts := [], goes := true, laidByText := true, laidKinds := [.data, .data, .data, .sentinel, .sentinel], laidTests := true, laidLooks := .later }
def ShellPrintsCardSaid : Prop := Claim7.holds Tryz.pinned (.plain (OpenSpec.ofChange shellPrintsSpec)) shellPrintsCard

/-- THE TIED CARD OF 'larchlaw28.ShellOps'. -/
def shellOpsCard : Claim7 := { stood := { row := shellOpsRow, standIns := [], harness := (true, "bc9193078afaa2aa5659ccd5581ae657722b072d04e7bed023220e500efc7e39"), looks := true }, kinds := [], alts := [], goes := true, laidByText := true, laidKinds := [.data, .data, .data, .sentinel, .sentinel], laidTests := true, laidLooks := .later }
def ShellOpsCardSaid : Prop := Claim7.holds Tryz.pinned (.plain (OpenSpec.ofChange shellOpsSpec)) shellOpsCard

/-- THE SECOND FORM's CARD OF 'larchlaw28.ShellParses'. -/
def shellParsesUptoCard : Claim7 := { stood := { row := shellParsesUptoRow, standIns := [], harness := (true, "bc9193078afaa2aa5659ccd5581ae657722b072d04e7bed023220e500efc7e39"), looks := true }, kinds := [], alts := [], goes := true, laidByText := true, laidKinds := [.data, .data, .data, .sentinel, .sentinel], laidTests := true, laidLooks := .later }
def ShellParsesUptoCardSaid : Prop := Claim7.holds Tryz.pinned (.plain (OpenSpec.upto shellParsesSpec)) shellParsesUptoCard

/-- THE SECOND FORM's CARD OF 'larchlaw28.ShellTells'. -/
def shellTellsUptoCard : Claim7 := { stood := { row := shellTellsUptoRow, standIns := [], harness := (true, "bc9193078afaa2aa5659ccd5581ae657722b072d04e7bed023220e500efc7e39"), looks := true }, kinds := [], alts := [], goes := true, laidByText := true, laidKinds := [.data, .data, .data, .sentinel, .sentinel], laidTests := true, laidLooks := .later }
def ShellTellsUptoCardSaid : Prop := Claim7.holds Tryz.pinned (.plain (OpenSpec.upto shellTellsSpec)) shellTellsUptoCard

/-- THE SECOND FORM's CARD OF 'larchlaw28.ShellPrints'. -/
def shellPrintsUptoCard : Claim7 := { stood := { row := shellPrintsUptoRow, standIns := [], harness := (true, "bc9193078afaa2aa5659ccd5581ae657722b072d04e7bed023220e500efc7e39"), looks := true }, kinds := [], alts := [], goes := true, laidByText := true, laidKinds := [.data, .data, .data, .sentinel, .sentinel], laidTests := true, laidLooks := .later }
def ShellPrintsUptoCardSaid : Prop := Claim7.holds Tryz.pinned (.plain (OpenSpec.upto shellPrintsSpec)) shellPrintsUptoCard

/-- THE SECOND FORM's CARD OF 'larchlaw28.ShellOps'. -/
def shellOpsUptoCard : Claim7 := { stood := { row := shellOpsUptoRow, standIns := [], harness := (true, "bc9193078afaa2aa5659ccd5581ae657722b072d04e7bed023220e500efc7e39"), looks := true }, kinds := [], alts := [], goes := true, laidByText := true, laidKinds := [.data, .data, .data, .sentinel, .sentinel], laidTests := true, laidLooks := .later }
def ShellOpsUptoCardSaid : Prop := Claim7.holds Tryz.pinned (.plain (OpenSpec.upto shellOpsSpec)) shellOpsUptoCard
end Rows
end Go.Proofs.YtgpeieohdelniaaGreatDoor
