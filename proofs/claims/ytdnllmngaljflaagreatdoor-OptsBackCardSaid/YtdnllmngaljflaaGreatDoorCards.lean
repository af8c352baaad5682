/-
  DERIVED. GIVEN WITH THE SEED: THE CARDS: each row of YtdnllmngaljflaaGreatDoorRows.lean that lists a variable, with what it lists TIED to the program's text (the seventh form; the later family's looks); each row that meets fmt, with fmt's text TOLD by the authors' own Lean function (tested against real Go, not proved from fmt's source: count such statements apart). THE CARD IS WHAT COUNTS. Prove the row's statement (the work); the ties are given (YtdnllmngaljflaaGreatDoorTie.lean); close each card by the builder's one call (the guide's Derived/Test/ToyasCard.lean, 'card_holds'). Laid BY PROGRAM, IN A SANDBOX (cutbox-door.mjs). By AI agents, Wed Nov 11 2026. No macro, syntax, notation, axiom, sorry.
-/
import Derived.Test.YtdnllmngaljflaaGreatDoorRows
import GoSem.ClaimSeven
namespace Go.Proofs.YtdnllmngaljflaaGreatDoor
namespace Rows

/-- THE TIED CARD OF 'jigsawlaw29.OptsParse'. -/
def optsParseCard : Claim7 := { stood := { row := optsParseRow, standIns := [], harness := (true, "fbc0f3aa227e946e21e63095c9aa8acb6d3044c36a5c35474ce8c840bc6cb39f"), looks := true }, kinds := [], alts := [], laidByText := true, laidKinds := [.data, .data, .data, .data, .sentinel, .sentinel, .pinned], laidTests := true, laidLooks := .later }
def OptsParseCardSaid : Prop := Claim7.holds Tryz.pinned (.plain (OpenSpec.ofChange optsParseSpec)) optsParseCard

/-- THE TIED CARD OF 'jigsawlaw29.OptsPrint'. -/
def optsPrintCard : Claim7 := { stood := { row := optsPrintRow, standIns := [], harness := (true, "fbc0f3aa227e946e21e63095c9aa8acb6d3044c36a5c35474ce8c840bc6cb39f"), looks := true }, kinds := [], alts := [], laidByText := true, laidKinds := [.data, .data, .data, .data, .sentinel, .sentinel, .pinned], laidTests := true, laidLooks := .later }
def OptsPrintCardSaid : Prop := Claim7.holds Tryz.pinned (.plain (OpenSpec.ofChange optsPrintSpec)) optsPrintCard

/-- THE TIED CARD OF 'jigsawlaw29.OptsBack'. -/
def optsBackCard : Claim7 := { stood := { row := optsBackRow, standIns := [], harness := (true, "fbc0f3aa227e946e21e63095c9aa8acb6d3044c36a5c35474ce8c840bc6cb39f"), looks := true }, kinds := [], alts := [], laidByText := true, laidKinds := [.data, .data, .data, .data, .sentinel, .sentinel, .pinned], laidTests := true, laidLooks := .later }
def OptsBackCardSaid : Prop := Claim7.holds Tryz.pinned (.plain (OpenSpec.ofChange optsBackSpec)) optsBackCard

/-- THE TIED CARD OF 'jigsawlaw29.OptsOrder'. -/
def optsOrderCard : Claim7 := { stood := { row := optsOrderRow, standIns := [], harness := (true, "fbc0f3aa227e946e21e63095c9aa8acb6d3044c36a5c35474ce8c840bc6cb39f"), looks := true }, kinds := [], alts := [], laidByText := true, laidKinds := [.data, .data, .data, .data, .sentinel, .sentinel, .pinned], laidTests := true, laidLooks := .later }
def OptsOrderCardSaid : Prop := Claim7.holds Tryz.pinned (.plain (OpenSpec.ofChange optsOrderSpec)) optsOrderCard

/-- THE SECOND FORM's CARD OF 'jigsawlaw29.OptsParse'. -/
def optsParseUptoCard : Claim7 := { stood := { row := optsParseUptoRow, standIns := [], harness := (true, "fbc0f3aa227e946e21e63095c9aa8acb6d3044c36a5c35474ce8c840bc6cb39f"), looks := true }, kinds := [], alts := [], laidByText := true, laidKinds := [.data, .data, .data, .data, .sentinel, .sentinel, .pinned], laidTests := true, laidLooks := .later }
def OptsParseUptoCardSaid : Prop := Claim7.holds Tryz.pinned (.plain (OpenSpec.upto optsParseSpec)) optsParseUptoCard

/-- THE SECOND FORM's CARD OF 'jigsawlaw29.OptsPrint'. -/
def optsPrintUptoCard : Claim7 := { stood := { row := optsPrintUptoRow, standIns := [], harness := (true, "fbc0f3aa227e946e21e63095c9aa8acb6d3044c36a5c35474ce8c840bc6cb39f"), looks := true }, kinds := [], alts := [], laidByText := true, laidKinds := [.data, .data, .data, .data, .sentinel, .sentinel, .pinned], laidTests := true, laidLooks := .later }
def OptsPrintUptoCardSaid : Prop := Claim7.holds Tryz.pinned (.plain (OpenSpec.upto optsPrintSpec)) optsPrintUptoCard

/-- THE SECOND FORM's CARD OF 'jigsawlaw29.OptsBack'. -/
def optsBackUptoCard : Claim7 := { stood := { row := optsBackUptoRow, standIns := [], harness := (true, "fbc0f3aa227e946e21e63095c9aa8acb6d3044c36a5c35474ce8c840bc6cb39f"), looks := true }, kinds := [], alts := [], laidByText := true, laidKinds := [.data, .data, .data, .data, .sentinel, .sentinel, .pinned], laidTests := true, laidLooks := .later }
def OptsBackUptoCardSaid : Prop := Claim7.holds Tryz.pinned (.plain (OpenSpec.upto optsBackSpec)) optsBackUptoCard

/-- THE SECOND FORM's CARD OF 'jigsawlaw29.OptsOrder'. -/
def optsOrderUptoCard : Claim7 := { stood := { row := optsOrderUptoRow, standIns := [], harness := (true, "fbc0f3aa227e946e21e63095c9aa8acb6d3044c36a5c35474ce8c840bc6cb39f"), looks := true }, kinds := [], alts := [], laidByText := true, laidKinds := [.data, .data, .data, .data, .sentinel, .sentinel, .pinned], laidTests := true, laidLooks := .later }
def OptsOrderUptoCardSaid : Prop := Claim7.holds Tryz.pinned (.plain (OpenSpec.upto optsOrderSpec)) optsOrderUptoCard
end Rows
end Go.Proofs.YtdnllmngaljflaaGreatDoor
