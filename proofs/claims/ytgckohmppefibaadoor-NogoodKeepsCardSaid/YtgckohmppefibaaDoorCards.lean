/-
  DERIVED. GIVEN WITH THE SEED: THE CARDS: each row of YtgckohmppefibaaDoorRows.lean that lists a variable, with what it lists TIED to the program's text (the seventh form; the later family's looks); each row that meets fmt, with fmt's text TOLD by the authors' own Lean function (tested against real Go, not proved from fmt's source: count such statements apart). THE CARD IS WHAT COUNTS. Prove the row's statement (the work); the ties are given (YtgckohmppefibaaDoorTie.lean); close each card by the builder's one call (the guide's Derived/Test/ToyasCard.lean, 'card_holds'). Laid BY PROGRAM, IN A SANDBOX (cutbox-door.mjs). By AI agents, Wed Nov 11 2026. No macro, syntax, notation, axiom, sorry.
-/
import Derived.Test.YtgckohmppefibaaDoorRows
import GoSem.ClaimSeven
namespace Go.Proofs.YtgckohmppefibaaDoor
namespace Rows

/-- THE TIED CARD OF 'jigsawlaw24.NogoodFrom'. -/
def nogoodFromCard : Claim7 := { stood := { row := nogoodFromRow, standIns := [], harness := (true, "d62584629baf659e5eaa597389e24d9767d21e92f399a10e4eccb5c32a780c43"), looks := false }, kinds := [], alts := [], laidByText := true, laidKinds := [.data], laidTests := true, laidLooks := .later }
def NogoodFromCardSaid : Prop := Claim7.holds Tryd.pinned (.plain (OpenSpec.ofChange nogoodFromSpec)) nogoodFromCard

/-- THE TIED CARD OF 'jigsawlaw24.NogoodFilters'. -/
def nogoodFiltersCard : Claim7 := { stood := { row := nogoodFiltersRow, standIns := [], harness := (true, "d62584629baf659e5eaa597389e24d9767d21e92f399a10e4eccb5c32a780c43"), looks := false }, kinds := [], alts := [], laidByText := true, laidKinds := [.data], laidTests := true, laidLooks := .later }
def NogoodFiltersCardSaid : Prop := Claim7.holds Tryd.pinned (.plain (OpenSpec.ofChange nogoodFiltersSpec)) nogoodFiltersCard

/-- THE TIED CARD OF 'jigsawlaw24.NogoodAdds'. -/
def nogoodAddsCard : Claim7 := { stood := { row := nogoodAddsRow, standIns := [], harness := (true, "d62584629baf659e5eaa597389e24d9767d21e92f399a10e4eccb5c32a780c43"), looks := false }, kinds := [], alts := [], laidByText := true, laidKinds := [.data], laidTests := true, laidLooks := .later }
def NogoodAddsCardSaid : Prop := Claim7.holds Tryd.pinned (.plain (OpenSpec.ofChange nogoodAddsSpec)) nogoodAddsCard

/-- THE TIED CARD OF 'jigsawlaw24.NogoodKeeps'. -/
def nogoodKeepsCard : Claim7 := { stood := { row := nogoodKeepsRow, standIns := [], harness := (true, "d62584629baf659e5eaa597389e24d9767d21e92f399a10e4eccb5c32a780c43"), looks := false }, kinds := [], alts := [], laidByText := true, laidKinds := [.data], laidTests := true, laidLooks := .later }
def NogoodKeepsCardSaid : Prop := Claim7.holds Tryd.pinned (.plain (OpenSpec.ofChange nogoodKeepsSpec)) nogoodKeepsCard

/-- THE TIED CARD OF 'jigsawlaw24.NogoodApart'. -/
def nogoodApartCard : Claim7 := { stood := { row := nogoodApartRow, standIns := [], harness := (true, "d62584629baf659e5eaa597389e24d9767d21e92f399a10e4eccb5c32a780c43"), looks := false }, kinds := [], alts := [], laidByText := true, laidKinds := [.data], laidTests := true, laidLooks := .later }
def NogoodApartCardSaid : Prop := Claim7.holds Tryd.pinned (.plain (OpenSpec.ofChange nogoodApartSpec)) nogoodApartCard

/-- THE SECOND FORM's CARD OF 'jigsawlaw24.NogoodFrom'. -/
def nogoodFromUptoCard : Claim7 := { stood := { row := nogoodFromUptoRow, standIns := [], harness := (true, "d62584629baf659e5eaa597389e24d9767d21e92f399a10e4eccb5c32a780c43"), looks := false }, kinds := [], alts := [], laidByText := true, laidKinds := [.data], laidTests := true, laidLooks := .later }
def NogoodFromUptoCardSaid : Prop := Claim7.holds Tryd.pinned (.plain (OpenSpec.upto nogoodFromSpec)) nogoodFromUptoCard

/-- THE SECOND FORM's CARD OF 'jigsawlaw24.NogoodFilters'. -/
def nogoodFiltersUptoCard : Claim7 := { stood := { row := nogoodFiltersUptoRow, standIns := [], harness := (true, "d62584629baf659e5eaa597389e24d9767d21e92f399a10e4eccb5c32a780c43"), looks := false }, kinds := [], alts := [], laidByText := true, laidKinds := [.data], laidTests := true, laidLooks := .later }
def NogoodFiltersUptoCardSaid : Prop := Claim7.holds Tryd.pinned (.plain (OpenSpec.upto nogoodFiltersSpec)) nogoodFiltersUptoCard

/-- THE SECOND FORM's CARD OF 'jigsawlaw24.NogoodAdds'. -/
def nogoodAddsUptoCard : Claim7 := { stood := { row := nogoodAddsUptoRow, standIns := [], harness := (true, "d62584629baf659e5eaa597389e24d9767d21e92f399a10e4eccb5c32a780c43"), looks := false }, kinds := [], alts := [], laidByText := true, laidKinds := [.data], laidTests := true, laidLooks := .later }
def NogoodAddsUptoCardSaid : Prop := Claim7.holds Tryd.pinned (.plain (OpenSpec.upto nogoodAddsSpec)) nogoodAddsUptoCard

/-- THE SECOND FORM's CARD OF 'jigsawlaw24.NogoodKeeps'. -/
def nogoodKeepsUptoCard : Claim7 := { stood := { row := nogoodKeepsUptoRow, standIns := [], harness := (true, "d62584629baf659e5eaa597389e24d9767d21e92f399a10e4eccb5c32a780c43"), looks := false }, kinds := [], alts := [], laidByText := true, laidKinds := [.data], laidTests := true, laidLooks := .later }
def NogoodKeepsUptoCardSaid : Prop := Claim7.holds Tryd.pinned (.plain (OpenSpec.upto nogoodKeepsSpec)) nogoodKeepsUptoCard

/-- THE SECOND FORM's CARD OF 'jigsawlaw24.NogoodApart'. -/
def nogoodApartUptoCard : Claim7 := { stood := { row := nogoodApartUptoRow, standIns := [], harness := (true, "d62584629baf659e5eaa597389e24d9767d21e92f399a10e4eccb5c32a780c43"), looks := false }, kinds := [], alts := [], laidByText := true, laidKinds := [.data], laidTests := true, laidLooks := .later }
def NogoodApartUptoCardSaid : Prop := Claim7.holds Tryd.pinned (.plain (OpenSpec.upto nogoodApartSpec)) nogoodApartUptoCard
end Rows
end Go.Proofs.YtgckohmppefibaaDoor
