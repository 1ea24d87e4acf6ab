/-
  DERIVED. GIVEN WITH THE SEED: THE CARDS: each row of YtojhgdpmbpgdgaaGreatDoorRows.lean that lists a variable, with what it lists TIED to the program's text (the seventh form; the later family's looks); each row that meets fmt, with fmt's text TOLD by the authors' own Lean function (tested against real Go, not proved from fmt's source: count such statements apart). THE CARD IS WHAT COUNTS. Prove the row's statement (the work); the ties are given (YtojhgdpmbpgdgaaGreatDoorTie.lean); close each card by the builder's one call (the guide's Derived/Test/ToyasCard.lean, 'card_holds'). Laid BY PROGRAM, IN A SANDBOX (cutbox-door.mjs). By AI agents, Wed Nov 11 2026. No macro, syntax, notation, axiom, sorry.
-/
import Derived.Test.YtojhgdpmbpgdgaaGreatDoorRows
import GoSem.ClaimSeven
namespace Go.Proofs.YtojhgdpmbpgdgaaGreatDoor
namespace Rows

/-- THE TIED CARD OF 'isobarlaw22.MetricsWindows'. -/
def metricsWindowsCard : Claim7 := { stood := { row := metricsWindowsRow, standIns := [], harness := (true, "5475310b9c7de4852d22c2f0da9952e0b215565daca685be817acf6c2c1e9273"), looks := true }, kinds := [], alts := [], laidByText := true, laidKinds := [.data, .data, .widerDeep, .widerDeep, .data, .data, .data, .data, .data, .sentinel, .sentinel, .pinned, .pinned], laidTests := true, laidLooks := .later }
def MetricsWindowsCardSaid : Prop := Claim7.holds Tryz.pinned (.plain (OpenSpec.ofChange metricsWindowsSpec)) metricsWindowsCard

/-- THE SECOND FORM's CARD OF 'isobarlaw22.MetricsWindows'. -/
def metricsWindowsUptoCard : Claim7 := { stood := { row := metricsWindowsUptoRow, standIns := [], harness := (true, "5475310b9c7de4852d22c2f0da9952e0b215565daca685be817acf6c2c1e9273"), looks := true }, kinds := [], alts := [], laidByText := true, laidKinds := [.data, .data, .widerDeep, .widerDeep, .data, .data, .data, .data, .data, .sentinel, .sentinel, .pinned, .pinned], laidTests := true, laidLooks := .later }
def MetricsWindowsUptoCardSaid : Prop := Claim7.holds Tryz.pinned (.plain (OpenSpec.upto metricsWindowsSpec)) metricsWindowsUptoCard
end Rows
end Go.Proofs.YtojhgdpmbpgdgaaGreatDoor
