/-
  DERIVED. GIVEN WITH THE SEED: THE CARDS: each row of YtpmlggjhfiljmaaGreatDoorRows.lean that lists a variable, with what it lists TIED to the program's text (the seventh form; the later family's looks); each row that meets fmt, with fmt's text TOLD by the authors' own Lean function (tested against real Go, not proved from fmt's source: count such statements apart). THE CARD IS WHAT COUNTS. Prove the row's statement (the work); the ties are given (YtpmlggjhfiljmaaGreatDoorTie.lean); close each card by the builder's one call (the guide's Derived/Test/ToyasCard.lean, 'card_holds'). Laid BY PROGRAM, IN A SANDBOX (cutbox-door.mjs). By AI agents, Wed Nov 11 2026. No macro, syntax, notation, axiom, sorry.
-/
import Derived.Test.YtpmlggjhfiljmaaGreatDoorRows
import GoSem.ClaimSeven
namespace Go.Proofs.YtpmlggjhfiljmaaGreatDoor
namespace Rows

/-- THE TIED CARD OF 'toponymtop.TopModel'. -/
def topModelCard : Claim7 := { stood := { row := topModelRow, standIns := [], harness := (true, "857ee87cd4def8f02e935a89a8b6bc7bbb18f73b966267fb87000182588f5bb7"), looks := true }, kinds := [], alts := [], laidByText := true, laidKinds := [.data, .data, .data, .data, .pinned], laidTests := true, laidLooks := .later }
def TopModelCardSaid : Prop := Claim7.holds Tryz.pinned (.plain (OpenSpec.ofChange topModelSpec)) topModelCard

/-- THE TIED CARD OF 'toponymtop.TopBack'. -/
def topBackCard : Claim7 := { stood := { row := topBackRow, standIns := [], harness := (true, "857ee87cd4def8f02e935a89a8b6bc7bbb18f73b966267fb87000182588f5bb7"), looks := true }, kinds := [], alts := [], laidByText := true, laidKinds := [.data, .data, .data, .data, .pinned], laidTests := true, laidLooks := .later }
def TopBackCardSaid : Prop := Claim7.holds Tryz.pinned (.plain (OpenSpec.ofChange topBackSpec)) topBackCard

/-- THE TIED CARD OF 'toponymtop.TopCreates'. -/
def topCreatesCard : Claim7 := { stood := { row := topCreatesRow, standIns := [], harness := (true, "857ee87cd4def8f02e935a89a8b6bc7bbb18f73b966267fb87000182588f5bb7"), looks := true }, kinds := [], alts := [], laidByText := true, laidKinds := [.data, .data, .data, .data, .pinned], laidTests := true, laidLooks := .later }
def TopCreatesCardSaid : Prop := Claim7.holds Tryz.pinned (.plain (OpenSpec.ofChange topCreatesSpec)) topCreatesCard

/-- THE TIED CARD OF 'toponymtop.TopScan'. -/
def topScanCard : Claim7 := { stood := { row := topScanRow, standIns := [], harness := (true, "857ee87cd4def8f02e935a89a8b6bc7bbb18f73b966267fb87000182588f5bb7"), looks := true }, kinds := [], alts := [], laidByText := true, laidKinds := [.data, .data, .data, .data, .pinned], laidTests := true, laidLooks := .later }
def TopScanCardSaid : Prop := Claim7.holds Tryz.pinned (.plain (OpenSpec.ofChange topScanSpec)) topScanCard

/-- THE TIED CARD OF 'toponymtop.TopLong'. -/
def topLongCard : Claim7 := { stood := { row := topLongRow, standIns := [], harness := (true, "857ee87cd4def8f02e935a89a8b6bc7bbb18f73b966267fb87000182588f5bb7"), looks := true }, kinds := [], alts := [], laidByText := true, laidKinds := [.data, .data, .data, .data, .pinned], laidTests := true, laidLooks := .later }
def TopLongCardSaid : Prop := Claim7.holds Tryz.pinned (.plain (OpenSpec.ofChange topLongSpec)) topLongCard

/-- THE SECOND FORM's CARD OF 'toponymtop.TopModel'. -/
def topModelUptoCard : Claim7 := { stood := { row := topModelUptoRow, standIns := [], harness := (true, "857ee87cd4def8f02e935a89a8b6bc7bbb18f73b966267fb87000182588f5bb7"), looks := true }, kinds := [], alts := [], laidByText := true, laidKinds := [.data, .data, .data, .data, .pinned], laidTests := true, laidLooks := .later }
def TopModelUptoCardSaid : Prop := Claim7.holds Tryz.pinned (.plain (OpenSpec.upto topModelSpec)) topModelUptoCard

/-- THE SECOND FORM's CARD OF 'toponymtop.TopBack'. -/
def topBackUptoCard : Claim7 := { stood := { row := topBackUptoRow, standIns := [], harness := (true, "857ee87cd4def8f02e935a89a8b6bc7bbb18f73b966267fb87000182588f5bb7"), looks := true }, kinds := [], alts := [], laidByText := true, laidKinds := [.data, .data, .data, .data, .pinned], laidTests := true, laidLooks := .later }
def TopBackUptoCardSaid : Prop := Claim7.holds Tryz.pinned (.plain (OpenSpec.upto topBackSpec)) topBackUptoCard

/-- THE SECOND FORM's CARD OF 'toponymtop.TopCreates'. -/
def topCreatesUptoCard : Claim7 := { stood := { row := topCreatesUptoRow, standIns := [], harness := (true, "857ee87cd4def8f02e935a89a8b6bc7bbb18f73b966267fb87000182588f5bb7"), looks := true }, kinds := [], alts := [], laidByText := true, laidKinds := [.data, .data, .data, .data, .pinned], laidTests := true, laidLooks := .later }
def TopCreatesUptoCardSaid : Prop := Claim7.holds Tryz.pinned (.plain (OpenSpec.upto topCreatesSpec)) topCreatesUptoCard

/-- THE SECOND FORM's CARD OF 'toponymtop.TopScan'. -/
def topScanUptoCard : Claim7 := { stood := { row := topScanUptoRow, standIns := [], harness := (true, "857ee87cd4def8f02e935a89a8b6bc7bbb18f73b966267fb87000182588f5bb7"), looks := true }, kinds := [], alts := [], laidByText := true, laidKinds := [.data, .data, .data, .data, .pinned], laidTests := true, laidLooks := .later }
def TopScanUptoCardSaid : Prop := Claim7.holds Tryz.pinned (.plain (OpenSpec.upto topScanSpec)) topScanUptoCard

/-- THE SECOND FORM's CARD OF 'toponymtop.TopLong'. -/
def topLongUptoCard : Claim7 := { stood := { row := topLongUptoRow, standIns := [], harness := (true, "857ee87cd4def8f02e935a89a8b6bc7bbb18f73b966267fb87000182588f5bb7"), looks := true }, kinds := [], alts := [], laidByText := true, laidKinds := [.data, .data, .data, .data, .pinned], laidTests := true, laidLooks := .later }
def TopLongUptoCardSaid : Prop := Claim7.holds Tryz.pinned (.plain (OpenSpec.upto topLongSpec)) topLongUptoCard
end Rows
end Go.Proofs.YtpmlggjhfiljmaaGreatDoor
