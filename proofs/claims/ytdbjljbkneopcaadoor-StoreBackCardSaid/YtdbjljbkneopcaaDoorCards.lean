/-
  DERIVED. GIVEN WITH THE SEED: THE CARDS: each row of YtdbjljbkneopcaaDoorRows.lean that lists a variable, with what it lists TIED to the program's text (the seventh form; the later family's looks); each row that meets fmt, with fmt's text TOLD by the authors' own Lean function (tested against real Go, not proved from fmt's source: count such statements apart). THE CARD IS WHAT COUNTS. Prove the row's statement (the work); the ties are given (YtdbjljbkneopcaaDoorTie.lean); close each card by the builder's one call (the guide's Derived/Test/ToyasCard.lean, 'card_holds'). Laid BY PROGRAM, IN A SANDBOX (cutbox-door.mjs). By AI agents, Wed Nov 11 2026. No macro, syntax, notation, axiom, sorry.
-/
import Derived.Test.YtdbjljbkneopcaaDoorRows
import GoSem.ClaimSeven
namespace Go.Proofs.YtdbjljbkneopcaaDoor
namespace Rows

/-- THE TIED CARD OF 'jigsawlaw02.DomSets'. -/
def domSetsCard : Claim7 := { stood := { row := domSetsRow, standIns := [], harness := (true, "53314ce9ce7dcc558dec7ebc94630c99f3af2ed74941d801d260390e6cb32f1f"), looks := false }, kinds := [], alts := [], laidByText := true, laidKinds := [.data], laidTests := true, laidLooks := .later }
def DomSetsCardSaid : Prop := Claim7.holds Tryd.pinned (.plain (OpenSpec.ofChange domSetsSpec)) domSetsCard

/-- THE TIED CARD OF 'jigsawlaw02.DomMade'. -/
def domMadeCard : Claim7 := { stood := { row := domMadeRow, standIns := [], harness := (true, "53314ce9ce7dcc558dec7ebc94630c99f3af2ed74941d801d260390e6cb32f1f"), looks := false }, kinds := [], alts := [], laidByText := true, laidKinds := [.data], laidTests := true, laidLooks := .later }
def DomMadeCardSaid : Prop := Claim7.holds Tryd.pinned (.plain (OpenSpec.ofChange domMadeSpec)) domMadeCard

/-- THE TIED CARD OF 'jigsawlaw03.StoreBack'. -/
def storeBackCard : Claim7 := { stood := { row := storeBackRow, standIns := [], harness := (true, "53314ce9ce7dcc558dec7ebc94630c99f3af2ed74941d801d260390e6cb32f1f"), looks := false }, kinds := [], alts := [], laidByText := true, laidKinds := [.data], laidTests := true, laidLooks := .later }
def StoreBackCardSaid : Prop := Claim7.holds Tryd.pinned (.plain (OpenSpec.ofChange storeBackSpec)) storeBackCard

/-- THE TIED CARD OF 'jigsawlaw02.DomPlays'. -/
def domPlaysCard : Claim7 := { stood := { row := domPlaysRow, standIns := [], harness := (true, "53314ce9ce7dcc558dec7ebc94630c99f3af2ed74941d801d260390e6cb32f1f"), looks := false }, kinds := [], alts := [], laidByText := true, laidKinds := [.data], laidTests := true, laidLooks := .later }
def DomPlaysCardSaid : Prop := Claim7.holds Tryd.pinned (.plain (OpenSpec.ofChange domPlaysSpec)) domPlaysCard

/-- THE TIED CARD OF 'jigsawlaw02.DomWalks'. -/
def domWalksCard : Claim7 := { stood := { row := domWalksRow, standIns := [], harness := (true, "53314ce9ce7dcc558dec7ebc94630c99f3af2ed74941d801d260390e6cb32f1f"), looks := false }, kinds := [], alts := [], laidByText := true, laidKinds := [.data], laidTests := true, laidLooks := .later }
def DomWalksCardSaid : Prop := Claim7.holds Tryd.pinned (.plain (OpenSpec.ofChange domWalksSpec)) domWalksCard

/-- THE TIED CARD OF 'jigsawlaw03.StorePlays'. -/
def storePlaysCard : Claim7 := { stood := { row := storePlaysRow, standIns := [], harness := (true, "53314ce9ce7dcc558dec7ebc94630c99f3af2ed74941d801d260390e6cb32f1f"), looks := false }, kinds := [], alts := [], laidByText := true, laidKinds := [.data], laidTests := true, laidLooks := .later }
def StorePlaysCardSaid : Prop := Claim7.holds Tryd.pinned (.plain (OpenSpec.ofChange storePlaysSpec)) storePlaysCard

/-- THE TIED CARD OF 'jigsawlaw03.StoreNil'. -/
def storeNilCard : Claim7 := { stood := { row := storeNilRow, standIns := [], harness := (true, "53314ce9ce7dcc558dec7ebc94630c99f3af2ed74941d801d260390e6cb32f1f"), looks := false }, kinds := [], alts := [], laidByText := true, laidKinds := [.data], laidTests := true, laidLooks := .later }
def StoreNilCardSaid : Prop := Claim7.holds Tryd.pinned (.plain (OpenSpec.ofChange storeNilSpec)) storeNilCard

/-- THE TIED CARD OF 'jigsawlaw24.NogoodFrom'. -/
def nogoodFromCard : Claim7 := { stood := { row := nogoodFromRow, standIns := [], harness := (true, "53314ce9ce7dcc558dec7ebc94630c99f3af2ed74941d801d260390e6cb32f1f"), looks := false }, kinds := [], alts := [], laidByText := true, laidKinds := [.data], laidTests := true, laidLooks := .later }
def NogoodFromCardSaid : Prop := Claim7.holds Tryd.pinned (.plain (OpenSpec.ofChange nogoodFromSpec)) nogoodFromCard

/-- THE TIED CARD OF 'jigsawlaw24.NogoodFilters'. -/
def nogoodFiltersCard : Claim7 := { stood := { row := nogoodFiltersRow, standIns := [], harness := (true, "53314ce9ce7dcc558dec7ebc94630c99f3af2ed74941d801d260390e6cb32f1f"), looks := false }, kinds := [], alts := [], laidByText := true, laidKinds := [.data], laidTests := true, laidLooks := .later }
def NogoodFiltersCardSaid : Prop := Claim7.holds Tryd.pinned (.plain (OpenSpec.ofChange nogoodFiltersSpec)) nogoodFiltersCard

/-- THE TIED CARD OF 'jigsawlaw24.NogoodAdds'. -/
def nogoodAddsCard : Claim7 := { stood := { row := nogoodAddsRow, standIns := [], harness := (true, "53314ce9ce7dcc558dec7ebc94630c99f3af2ed74941d801d260390e6cb32f1f"), looks := false }, kinds := [], alts := [], laidByText := true, laidKinds := [.data], laidTests := true, laidLooks := .later }
def NogoodAddsCardSaid : Prop := Claim7.holds Tryd.pinned (.plain (OpenSpec.ofChange nogoodAddsSpec)) nogoodAddsCard

/-- THE TIED CARD OF 'jigsawlaw24.NogoodKeeps'. -/
def nogoodKeepsCard : Claim7 := { stood := { row := nogoodKeepsRow, standIns := [], harness := (true, "53314ce9ce7dcc558dec7ebc94630c99f3af2ed74941d801d260390e6cb32f1f"), looks := false }, kinds := [], alts := [], laidByText := true, laidKinds := [.data], laidTests := true, laidLooks := .later }
def NogoodKeepsCardSaid : Prop := Claim7.holds Tryd.pinned (.plain (OpenSpec.ofChange nogoodKeepsSpec)) nogoodKeepsCard

/-- THE TIED CARD OF 'jigsawlaw24.NogoodApart'. -/
def nogoodApartCard : Claim7 := { stood := { row := nogoodApartRow, standIns := [], harness := (true, "53314ce9ce7dcc558dec7ebc94630c99f3af2ed74941d801d260390e6cb32f1f"), looks := false }, kinds := [], alts := [], laidByText := true, laidKinds := [.data], laidTests := true, laidLooks := .later }
def NogoodApartCardSaid : Prop := Claim7.holds Tryd.pinned (.plain (OpenSpec.ofChange nogoodApartSpec)) nogoodApartCard

/-- THE SECOND FORM's CARD OF 'jigsawlaw02.DomSets'. -/
def domSetsUptoCard : Claim7 := { stood := { row := domSetsUptoRow, standIns := [], harness := (true, "53314ce9ce7dcc558dec7ebc94630c99f3af2ed74941d801d260390e6cb32f1f"), looks := false }, kinds := [], alts := [], laidByText := true, laidKinds := [.data], laidTests := true, laidLooks := .later }
def DomSetsUptoCardSaid : Prop := Claim7.holds Tryd.pinned (.plain (OpenSpec.upto domSetsSpec)) domSetsUptoCard

/-- THE SECOND FORM's CARD OF 'jigsawlaw02.DomMade'. -/
def domMadeUptoCard : Claim7 := { stood := { row := domMadeUptoRow, standIns := [], harness := (true, "53314ce9ce7dcc558dec7ebc94630c99f3af2ed74941d801d260390e6cb32f1f"), looks := false }, kinds := [], alts := [], laidByText := true, laidKinds := [.data], laidTests := true, laidLooks := .later }
def DomMadeUptoCardSaid : Prop := Claim7.holds Tryd.pinned (.plain (OpenSpec.upto domMadeSpec)) domMadeUptoCard

/-- THE SECOND FORM's CARD OF 'jigsawlaw03.StoreBack'. -/
def storeBackUptoCard : Claim7 := { stood := { row := storeBackUptoRow, standIns := [], harness := (true, "53314ce9ce7dcc558dec7ebc94630c99f3af2ed74941d801d260390e6cb32f1f"), looks := false }, kinds := [], alts := [], laidByText := true, laidKinds := [.data], laidTests := true, laidLooks := .later }
def StoreBackUptoCardSaid : Prop := Claim7.holds Tryd.pinned (.plain (OpenSpec.upto storeBackSpec)) storeBackUptoCard

/-- THE SECOND FORM's CARD OF 'jigsawlaw02.DomPlays'. -/
def domPlaysUptoCard : Claim7 := { stood := { row := domPlaysUptoRow, standIns := [], harness := (true, "53314ce9ce7dcc558dec7ebc94630c99f3af2ed74941d801d260390e6cb32f1f"), looks := false }, kinds := [], alts := [], laidByText := true, laidKinds := [.data], laidTests := true, laidLooks := .later }
def DomPlaysUptoCardSaid : Prop := Claim7.holds Tryd.pinned (.plain (OpenSpec.upto domPlaysSpec)) domPlaysUptoCard

/-- THE SECOND FORM's CARD OF 'jigsawlaw02.DomWalks'. -/
def domWalksUptoCard : Claim7 := { stood := { row := domWalksUptoRow, standIns := [], harness := (true, "53314ce9ce7dcc558dec7ebc94630c99f3af2ed74941d801d260390e6cb32f1f"), looks := false }, kinds := [], alts := [], laidByText := true, laidKinds := [.data], laidTests := true, laidLooks := .later }
def DomWalksUptoCardSaid : Prop := Claim7.holds Tryd.pinned (.plain (OpenSpec.upto domWalksSpec)) domWalksUptoCard

/-- THE SECOND FORM's CARD OF 'jigsawlaw03.StorePlays'. -/
def storePlaysUptoCard : Claim7 := { stood := { row := storePlaysUptoRow, standIns := [], harness := (true, "53314ce9ce7dcc558dec7ebc94630c99f3af2ed74941d801d260390e6cb32f1f"), looks := false }, kinds := [], alts := [], laidByText := true, laidKinds := [.data], laidTests := true, laidLooks := .later }
def StorePlaysUptoCardSaid : Prop := Claim7.holds Tryd.pinned (.plain (OpenSpec.upto storePlaysSpec)) storePlaysUptoCard

/-- THE SECOND FORM's CARD OF 'jigsawlaw03.StoreNil'. -/
def storeNilUptoCard : Claim7 := { stood := { row := storeNilUptoRow, standIns := [], harness := (true, "53314ce9ce7dcc558dec7ebc94630c99f3af2ed74941d801d260390e6cb32f1f"), looks := false }, kinds := [], alts := [], laidByText := true, laidKinds := [.data], laidTests := true, laidLooks := .later }
def StoreNilUptoCardSaid : Prop := Claim7.holds Tryd.pinned (.plain (OpenSpec.upto storeNilSpec)) storeNilUptoCard

/-- THE SECOND FORM's CARD OF 'jigsawlaw24.NogoodFrom'. -/
def nogoodFromUptoCard : Claim7 := { stood := { row := nogoodFromUptoRow, standIns := [], harness := (true, "53314ce9ce7dcc558dec7ebc94630c99f3af2ed74941d801d260390e6cb32f1f"), looks := false }, kinds := [], alts := [], laidByText := true, laidKinds := [.data], laidTests := true, laidLooks := .later }
def NogoodFromUptoCardSaid : Prop := Claim7.holds Tryd.pinned (.plain (OpenSpec.upto nogoodFromSpec)) nogoodFromUptoCard

/-- THE SECOND FORM's CARD OF 'jigsawlaw24.NogoodFilters'. -/
def nogoodFiltersUptoCard : Claim7 := { stood := { row := nogoodFiltersUptoRow, standIns := [], harness := (true, "53314ce9ce7dcc558dec7ebc94630c99f3af2ed74941d801d260390e6cb32f1f"), looks := false }, kinds := [], alts := [], laidByText := true, laidKinds := [.data], laidTests := true, laidLooks := .later }
def NogoodFiltersUptoCardSaid : Prop := Claim7.holds Tryd.pinned (.plain (OpenSpec.upto nogoodFiltersSpec)) nogoodFiltersUptoCard

/-- THE SECOND FORM's CARD OF 'jigsawlaw24.NogoodAdds'. -/
def nogoodAddsUptoCard : Claim7 := { stood := { row := nogoodAddsUptoRow, standIns := [], harness := (true, "53314ce9ce7dcc558dec7ebc94630c99f3af2ed74941d801d260390e6cb32f1f"), looks := false }, kinds := [], alts := [], laidByText := true, laidKinds := [.data], laidTests := true, laidLooks := .later }
def NogoodAddsUptoCardSaid : Prop := Claim7.holds Tryd.pinned (.plain (OpenSpec.upto nogoodAddsSpec)) nogoodAddsUptoCard

/-- THE SECOND FORM's CARD OF 'jigsawlaw24.NogoodKeeps'. -/
def nogoodKeepsUptoCard : Claim7 := { stood := { row := nogoodKeepsUptoRow, standIns := [], harness := (true, "53314ce9ce7dcc558dec7ebc94630c99f3af2ed74941d801d260390e6cb32f1f"), looks := false }, kinds := [], alts := [], laidByText := true, laidKinds := [.data], laidTests := true, laidLooks := .later }
def NogoodKeepsUptoCardSaid : Prop := Claim7.holds Tryd.pinned (.plain (OpenSpec.upto nogoodKeepsSpec)) nogoodKeepsUptoCard

/-- THE SECOND FORM's CARD OF 'jigsawlaw24.NogoodApart'. -/
def nogoodApartUptoCard : Claim7 := { stood := { row := nogoodApartUptoRow, standIns := [], harness := (true, "53314ce9ce7dcc558dec7ebc94630c99f3af2ed74941d801d260390e6cb32f1f"), looks := false }, kinds := [], alts := [], laidByText := true, laidKinds := [.data], laidTests := true, laidLooks := .later }
def NogoodApartUptoCardSaid : Prop := Claim7.holds Tryd.pinned (.plain (OpenSpec.upto nogoodApartSpec)) nogoodApartUptoCard
end Rows
end Go.Proofs.YtdbjljbkneopcaaDoor
