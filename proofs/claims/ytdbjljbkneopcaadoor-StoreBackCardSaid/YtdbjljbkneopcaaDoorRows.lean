/-
  NARROWER THAN 'FOR EVERY INPUT', by the rows' own cells (each row's printed sentence says how): DomSets: laid · DomMade: laid · StoreBack: laid · DomPlays: laid · DomWalks: laid · StorePlays: laid · StoreNil: laid · NogoodFrom: laid · NogoodFilters: laid · NogoodAdds: laid · NogoodKeeps: laid · NogoodApart: laid.
  DERIVED. THE GIVEN ROWS OF THIS SEAT. 12 by the template 'for every input the law returns true; each argument reads behind the call as it read before'; 0 by the template 'total and deterministic' (their statements: YtdbjljbkneopcaaDoorTotals.lean).
  GIVEN WITH THE SEED: the statements are not yours to turn. If you find one false, say at which input.
  Laid BY PROGRAM, IN A SANDBOX (cutbox-rows.mjs): the forced cells as the released guide's own fill.sh prints them over the translation 3ead0089cc08b1ec… (all of the seat's roots in one cut). By AI agents, Wed Nov 11 2026. No macro, syntax, notation, axiom, sorry.
-/
import Derived.Test.YtdbjljbkneopcaaDoorChecked
import GoSem.Claim
import GoSem.ClaimJoined
import GoSem.ClaimMapViews
import Derived.JoinedTies
import Derived.KernelRfl
namespace Go.Proofs.YtdbjljbkneopcaaDoor
/- THE CELL 'sum', in the pinned program and in every row, IS THE sha256 OF THE DUMP (.gsa) THAT YtdbjljbkneopcaaDoorProg.lean LOADS. Nothing in Lean hashes anything: it is a label: what it is worth is what the hold of that sum in a sandbox is worth. -/
noncomputable def Tryd.pinned : Pinned := { name := "ytdbjljbkneopcaadoor", sum := "3ead0089cc08b1ec6b75aef274a46df49e8524c3298c00ea23bb8f0c8ff1f278", checked := Tryd.checked }
namespace Rows
def none {H : Type} : Left H := { results := [], args := [] }

/- WHAT THE LISTED PACKAGE-LEVEL VARIABLES READ AS WHEN THE CALL BEGINS. Each datum BY PROGRAM (the guide's laid-datum.mjs) off the statement by which the dump's own 'gosem.cut.vars' lays the variable. In a bare row this is a premise. The card (YtdbjljbkneopcaaDoorCards.lean) ties it to the program's text. -/
def laid_math_bits_deBruijn64tab {H : Type} : DataW H := .agg [.lit (.int .u8 0), .lit (.int .u8 1), .lit (.int .u8 56), .lit (.int .u8 2), .lit (.int .u8 57), .lit (.int .u8 49), .lit (.int .u8 28), .lit (.int .u8 3), .lit (.int .u8 61), .lit (.int .u8 58), .lit (.int .u8 42), .lit (.int .u8 50), .lit (.int .u8 38), .lit (.int .u8 29), .lit (.int .u8 17), .lit (.int .u8 4), .lit (.int .u8 62), .lit (.int .u8 47), .lit (.int .u8 59), .lit (.int .u8 36), .lit (.int .u8 45), .lit (.int .u8 43), .lit (.int .u8 51), .lit (.int .u8 22), .lit (.int .u8 53), .lit (.int .u8 39), .lit (.int .u8 33), .lit (.int .u8 30), .lit (.int .u8 24), .lit (.int .u8 18), .lit (.int .u8 12), .lit (.int .u8 5), .lit (.int .u8 63), .lit (.int .u8 55), .lit (.int .u8 48), .lit (.int .u8 27), .lit (.int .u8 60), .lit (.int .u8 41), .lit (.int .u8 37), .lit (.int .u8 16), .lit (.int .u8 46), .lit (.int .u8 35), .lit (.int .u8 44), .lit (.int .u8 21), .lit (.int .u8 52), .lit (.int .u8 32), .lit (.int .u8 23), .lit (.int .u8 11), .lit (.int .u8 54), .lit (.int .u8 26), .lit (.int .u8 40), .lit (.int .u8 15), .lit (.int .u8 34), .lit (.int .u8 20), .lit (.int .u8 31), .lit (.int .u8 10), .lit (.int .u8 25), .lit (.int .u8 14), .lit (.int .u8 19), .lit (.int .u8 9), .lit (.int .u8 13), .lit (.int .u8 8), .lit (.int .u8 7), .lit (.int .u8 6)]

/-- 'jigsawlaw02.DomSets': WHATEVER THE INPUT: true; the input reads as it did. -/
def domSetsSpec : ChangeSpec := { name := "domSets", fn := fun _ => fun
  | [d1, d2] => { results := [.lit (.bool true)], args := [d1, d2] }
  | _ => none }
def domSetsRow : OpenClaim := { program := "ytdbjljbkneopcaadoor", sum := "3ead0089cc08b1ec6b75aef274a46df49e8524c3298c00ea23bb8f0c8ff1f278", func := "jigsaw/jigsawlaw02.DomSets", spec := "domSets", unfollowed := true, recurses := true, named := ["math/bits.deBruijn64tab"], apart := false, laid := [("math/bits.deBruijn64tab", laid_math_bits_deBruijn64tab)] }
def DomSetsSaid : Prop := domSetsRow.holds Tryd.pinned (OpenSpec.ofChange domSetsSpec)

/-- ITS FALSE NEIGHBOUR: 'it returns false'. Refute it at one input. -/
def domSetsWrong : ChangeSpec := { name := "domSets", fn := fun _ => fun
  | [d1, d2] => { results := [.lit (.bool false)], args := [d1, d2] }
  | _ => none }
def DomSetsWrongFalsely : Prop := domSetsRow.holds Tryd.pinned (OpenSpec.ofChange domSetsWrong)

/-- 'jigsawlaw02.DomMade': WHATEVER THE INPUT: true; the input reads as it did. -/
def domMadeSpec : ChangeSpec := { name := "domMade", fn := fun _ => fun
  | [d1, d2, d3] => { results := [.lit (.bool true)], args := [d1, d2, d3] }
  | _ => none }
def domMadeRow : OpenClaim := { program := "ytdbjljbkneopcaadoor", sum := "3ead0089cc08b1ec6b75aef274a46df49e8524c3298c00ea23bb8f0c8ff1f278", func := "jigsaw/jigsawlaw02.DomMade", spec := "domMade", unfollowed := true, recurses := true, named := ["math/bits.deBruijn64tab"], apart := false, laid := [("math/bits.deBruijn64tab", laid_math_bits_deBruijn64tab)] }
def DomMadeSaid : Prop := domMadeRow.holds Tryd.pinned (OpenSpec.ofChange domMadeSpec)

/-- ITS FALSE NEIGHBOUR: 'it returns false'. Refute it at one input. -/
def domMadeWrong : ChangeSpec := { name := "domMade", fn := fun _ => fun
  | [d1, d2, d3] => { results := [.lit (.bool false)], args := [d1, d2, d3] }
  | _ => none }
def DomMadeWrongFalsely : Prop := domMadeRow.holds Tryd.pinned (OpenSpec.ofChange domMadeWrong)

/-- 'jigsawlaw03.StoreBack': WHATEVER THE INPUT: true; the input reads as it did. -/
def storeBackSpec : ChangeSpec := { name := "storeBack", fn := fun _ => fun
  | [d1, d2, d3] => { results := [.lit (.bool true)], args := [d1, d2, d3] }
  | _ => none }
def storeBackRow : OpenClaim := { program := "ytdbjljbkneopcaadoor", sum := "3ead0089cc08b1ec6b75aef274a46df49e8524c3298c00ea23bb8f0c8ff1f278", func := "jigsaw/jigsawlaw03.StoreBack", spec := "storeBack", unfollowed := true, recurses := true, named := ["math/bits.deBruijn64tab"], apart := false, laid := [("math/bits.deBruijn64tab", laid_math_bits_deBruijn64tab)] }
def StoreBackSaid : Prop := storeBackRow.holds Tryd.pinned (OpenSpec.ofChange storeBackSpec)

/-- ITS FALSE NEIGHBOUR: 'it returns false'. Refute it at one input. -/
def storeBackWrong : ChangeSpec := { name := "storeBack", fn := fun _ => fun
  | [d1, d2, d3] => { results := [.lit (.bool false)], args := [d1, d2, d3] }
  | _ => none }
def StoreBackWrongFalsely : Prop := storeBackRow.holds Tryd.pinned (OpenSpec.ofChange storeBackWrong)

/-- 'jigsawlaw02.DomPlays': WHATEVER THE INPUT: true; the input reads as it did. -/
def domPlaysSpec : ChangeSpec := { name := "domPlays", fn := fun _ => fun
  | [d1, d2] => { results := [.lit (.bool true)], args := [d1, d2] }
  | _ => none }
def domPlaysRow : OpenClaim := { program := "ytdbjljbkneopcaadoor", sum := "3ead0089cc08b1ec6b75aef274a46df49e8524c3298c00ea23bb8f0c8ff1f278", func := "jigsaw/jigsawlaw02.DomPlays", spec := "domPlays", unfollowed := true, recurses := true, named := ["math/bits.deBruijn64tab"], apart := false, laid := [("math/bits.deBruijn64tab", laid_math_bits_deBruijn64tab)] }
def DomPlaysSaid : Prop := domPlaysRow.holds Tryd.pinned (OpenSpec.ofChange domPlaysSpec)

/-- ITS FALSE NEIGHBOUR: 'it returns false'. Refute it at one input. -/
def domPlaysWrong : ChangeSpec := { name := "domPlays", fn := fun _ => fun
  | [d1, d2] => { results := [.lit (.bool false)], args := [d1, d2] }
  | _ => none }
def DomPlaysWrongFalsely : Prop := domPlaysRow.holds Tryd.pinned (OpenSpec.ofChange domPlaysWrong)

/-- 'jigsawlaw02.DomWalks': WHATEVER THE INPUT: true; the input reads as it did. -/
def domWalksSpec : ChangeSpec := { name := "domWalks", fn := fun _ => fun
  | [d1, d2] => { results := [.lit (.bool true)], args := [d1, d2] }
  | _ => none }
def domWalksRow : OpenClaim := { program := "ytdbjljbkneopcaadoor", sum := "3ead0089cc08b1ec6b75aef274a46df49e8524c3298c00ea23bb8f0c8ff1f278", func := "jigsaw/jigsawlaw02.DomWalks", spec := "domWalks", unfollowed := true, recurses := true, named := ["math/bits.deBruijn64tab"], apart := false, laid := [("math/bits.deBruijn64tab", laid_math_bits_deBruijn64tab)] }
def DomWalksSaid : Prop := domWalksRow.holds Tryd.pinned (OpenSpec.ofChange domWalksSpec)

/-- ITS FALSE NEIGHBOUR: 'it returns false'. Refute it at one input. -/
def domWalksWrong : ChangeSpec := { name := "domWalks", fn := fun _ => fun
  | [d1, d2] => { results := [.lit (.bool false)], args := [d1, d2] }
  | _ => none }
def DomWalksWrongFalsely : Prop := domWalksRow.holds Tryd.pinned (OpenSpec.ofChange domWalksWrong)

/-- 'jigsawlaw03.StorePlays': WHATEVER THE INPUT: true; the input reads as it did. -/
def storePlaysSpec : ChangeSpec := { name := "storePlays", fn := fun _ => fun
  | [d1, d2] => { results := [.lit (.bool true)], args := [d1, d2] }
  | _ => none }
def storePlaysRow : OpenClaim := { program := "ytdbjljbkneopcaadoor", sum := "3ead0089cc08b1ec6b75aef274a46df49e8524c3298c00ea23bb8f0c8ff1f278", func := "jigsaw/jigsawlaw03.StorePlays", spec := "storePlays", unfollowed := true, recurses := true, named := ["math/bits.deBruijn64tab"], apart := false, laid := [("math/bits.deBruijn64tab", laid_math_bits_deBruijn64tab)] }
def StorePlaysSaid : Prop := storePlaysRow.holds Tryd.pinned (OpenSpec.ofChange storePlaysSpec)

/-- ITS FALSE NEIGHBOUR: 'it returns false'. Refute it at one input. -/
def storePlaysWrong : ChangeSpec := { name := "storePlays", fn := fun _ => fun
  | [d1, d2] => { results := [.lit (.bool false)], args := [d1, d2] }
  | _ => none }
def StorePlaysWrongFalsely : Prop := storePlaysRow.holds Tryd.pinned (OpenSpec.ofChange storePlaysWrong)

/-- 'jigsawlaw03.StoreNil': WHATEVER THE INPUT: true; the input reads as it did. -/
def storeNilSpec : ChangeSpec := { name := "storeNil", fn := fun _ => fun
  | [d1, d2] => { results := [.lit (.bool true)], args := [d1, d2] }
  | _ => none }
def storeNilRow : OpenClaim := { program := "ytdbjljbkneopcaadoor", sum := "3ead0089cc08b1ec6b75aef274a46df49e8524c3298c00ea23bb8f0c8ff1f278", func := "jigsaw/jigsawlaw03.StoreNil", spec := "storeNil", unfollowed := true, recurses := true, named := ["math/bits.deBruijn64tab"], apart := false, laid := [("math/bits.deBruijn64tab", laid_math_bits_deBruijn64tab)] }
def StoreNilSaid : Prop := storeNilRow.holds Tryd.pinned (OpenSpec.ofChange storeNilSpec)

/-- ITS FALSE NEIGHBOUR: 'it returns false'. Refute it at one input. -/
def storeNilWrong : ChangeSpec := { name := "storeNil", fn := fun _ => fun
  | [d1, d2] => { results := [.lit (.bool false)], args := [d1, d2] }
  | _ => none }
def StoreNilWrongFalsely : Prop := storeNilRow.holds Tryd.pinned (OpenSpec.ofChange storeNilWrong)

/-- 'jigsawlaw24.NogoodFrom': WHATEVER THE INPUT: true; the input reads as it did. -/
def nogoodFromSpec : ChangeSpec := { name := "nogoodFrom", fn := fun _ => fun
  | [d] => { results := [.lit (.bool true)], args := [d] }
  | _ => none }
def nogoodFromRow : OpenClaim := { program := "ytdbjljbkneopcaadoor", sum := "3ead0089cc08b1ec6b75aef274a46df49e8524c3298c00ea23bb8f0c8ff1f278", func := "jigsaw/jigsawlaw24.NogoodFrom", spec := "nogoodFrom", unfollowed := true, recurses := true, named := ["math/bits.deBruijn64tab"], apart := false, laid := [("math/bits.deBruijn64tab", laid_math_bits_deBruijn64tab)] }
def NogoodFromSaid : Prop := nogoodFromRow.holds Tryd.pinned (OpenSpec.ofChange nogoodFromSpec)

/-- ITS FALSE NEIGHBOUR: 'it returns false'. Refute it at one input. -/
def nogoodFromWrong : ChangeSpec := { name := "nogoodFrom", fn := fun _ => fun
  | [d] => { results := [.lit (.bool false)], args := [d] }
  | _ => none }
def NogoodFromWrongFalsely : Prop := nogoodFromRow.holds Tryd.pinned (OpenSpec.ofChange nogoodFromWrong)

/-- 'jigsawlaw24.NogoodFilters': WHATEVER THE INPUT: true; the input reads as it did. -/
def nogoodFiltersSpec : ChangeSpec := { name := "nogoodFilters", fn := fun _ => fun
  | [d1, d2] => { results := [.lit (.bool true)], args := [d1, d2] }
  | _ => none }
def nogoodFiltersRow : OpenClaim := { program := "ytdbjljbkneopcaadoor", sum := "3ead0089cc08b1ec6b75aef274a46df49e8524c3298c00ea23bb8f0c8ff1f278", func := "jigsaw/jigsawlaw24.NogoodFilters", spec := "nogoodFilters", unfollowed := true, recurses := true, named := ["math/bits.deBruijn64tab"], apart := false, laid := [("math/bits.deBruijn64tab", laid_math_bits_deBruijn64tab)] }
def NogoodFiltersSaid : Prop := nogoodFiltersRow.holds Tryd.pinned (OpenSpec.ofChange nogoodFiltersSpec)

/-- ITS FALSE NEIGHBOUR: 'it returns false'. Refute it at one input. -/
def nogoodFiltersWrong : ChangeSpec := { name := "nogoodFilters", fn := fun _ => fun
  | [d1, d2] => { results := [.lit (.bool false)], args := [d1, d2] }
  | _ => none }
def NogoodFiltersWrongFalsely : Prop := nogoodFiltersRow.holds Tryd.pinned (OpenSpec.ofChange nogoodFiltersWrong)

/-- 'jigsawlaw24.NogoodAdds': WHATEVER THE INPUT: true; the input reads as it did. -/
def nogoodAddsSpec : ChangeSpec := { name := "nogoodAdds", fn := fun _ => fun
  | [d] => { results := [.lit (.bool true)], args := [d] }
  | _ => none }
def nogoodAddsRow : OpenClaim := { program := "ytdbjljbkneopcaadoor", sum := "3ead0089cc08b1ec6b75aef274a46df49e8524c3298c00ea23bb8f0c8ff1f278", func := "jigsaw/jigsawlaw24.NogoodAdds", spec := "nogoodAdds", unfollowed := true, recurses := true, named := ["math/bits.deBruijn64tab"], apart := false, laid := [("math/bits.deBruijn64tab", laid_math_bits_deBruijn64tab)] }
def NogoodAddsSaid : Prop := nogoodAddsRow.holds Tryd.pinned (OpenSpec.ofChange nogoodAddsSpec)

/-- ITS FALSE NEIGHBOUR: 'it returns false'. Refute it at one input. -/
def nogoodAddsWrong : ChangeSpec := { name := "nogoodAdds", fn := fun _ => fun
  | [d] => { results := [.lit (.bool false)], args := [d] }
  | _ => none }
def NogoodAddsWrongFalsely : Prop := nogoodAddsRow.holds Tryd.pinned (OpenSpec.ofChange nogoodAddsWrong)

/-- 'jigsawlaw24.NogoodKeeps': WHATEVER THE INPUT: true; the input reads as it did. -/
def nogoodKeepsSpec : ChangeSpec := { name := "nogoodKeeps", fn := fun _ => fun
  | [d1, d2, d3] => { results := [.lit (.bool true)], args := [d1, d2, d3] }
  | _ => none }
def nogoodKeepsRow : OpenClaim := { program := "ytdbjljbkneopcaadoor", sum := "3ead0089cc08b1ec6b75aef274a46df49e8524c3298c00ea23bb8f0c8ff1f278", func := "jigsaw/jigsawlaw24.NogoodKeeps", spec := "nogoodKeeps", unfollowed := true, recurses := true, named := ["math/bits.deBruijn64tab"], apart := false, laid := [("math/bits.deBruijn64tab", laid_math_bits_deBruijn64tab)] }
def NogoodKeepsSaid : Prop := nogoodKeepsRow.holds Tryd.pinned (OpenSpec.ofChange nogoodKeepsSpec)

/-- ITS FALSE NEIGHBOUR: 'it returns false'. Refute it at one input. -/
def nogoodKeepsWrong : ChangeSpec := { name := "nogoodKeeps", fn := fun _ => fun
  | [d1, d2, d3] => { results := [.lit (.bool false)], args := [d1, d2, d3] }
  | _ => none }
def NogoodKeepsWrongFalsely : Prop := nogoodKeepsRow.holds Tryd.pinned (OpenSpec.ofChange nogoodKeepsWrong)

/-- 'jigsawlaw24.NogoodApart': WHATEVER THE INPUT: true; the input reads as it did. -/
def nogoodApartSpec : ChangeSpec := { name := "nogoodApart", fn := fun _ => fun
  | [d] => { results := [.lit (.bool true)], args := [d] }
  | _ => none }
def nogoodApartRow : OpenClaim := { program := "ytdbjljbkneopcaadoor", sum := "3ead0089cc08b1ec6b75aef274a46df49e8524c3298c00ea23bb8f0c8ff1f278", func := "jigsaw/jigsawlaw24.NogoodApart", spec := "nogoodApart", unfollowed := true, recurses := true, named := ["math/bits.deBruijn64tab"], apart := false, laid := [("math/bits.deBruijn64tab", laid_math_bits_deBruijn64tab)] }
def NogoodApartSaid : Prop := nogoodApartRow.holds Tryd.pinned (OpenSpec.ofChange nogoodApartSpec)

/-- ITS FALSE NEIGHBOUR: 'it returns false'. Refute it at one input. -/
def nogoodApartWrong : ChangeSpec := { name := "nogoodApart", fn := fun _ => fun
  | [d] => { results := [.lit (.bool false)], args := [d] }
  | _ => none }
def NogoodApartWrongFalsely : Prop := nogoodApartRow.holds Tryd.pinned (OpenSpec.ofChange nogoodApartWrong)

/- THE SECOND FORM. 'bulk': how many values and letters a reading holds, each counted each time it is reached (what is shared counts as often as it is met; a slice's spare places count too). A statement '..UptoSaid' is the law's where the arguments, and the package variables that the reading takes, are together of bulk at most 1048576: NARROWER than '..Said'. Prove '..Said' where nothing that the law and all that it calls make is longer than what came in: it says more and counts as full. Else prove '..UptoSaid'. A law counts once. -/
mutual
def uptoBulk {H : Type} : DataW H → Nat
  | .lit (.string bytes) => bytes.length + 1
  | .lit _ => 1
  | .nil => 1
  | .ptr d => uptoBulk d + 1
  | .slice elems spare => uptoBulkAll elems + uptoBulkAll spare + 1
  | .agg parts => uptoBulkAll parts + 1
  | .iface _ d => uptoBulk d + 1
  | .map entries => uptoBulkEntries entries + 1
  | .held _ => 1
def uptoBulkAll {H : Type} : List (DataW H) → Nat
  | [] => 0
  | d :: r => uptoBulk d + uptoBulkAll r
def uptoBulkEntries {H : Type} : List (Lit × DataW H) → Nat
  | [] => 0
  | x :: r => uptoBulkEntry x + uptoBulkEntries r
def uptoBulkEntry {H : Type} : Lit × DataW H → Nat
  | (.string bytes, d) => bytes.length + uptoBulk d + 1
  | (_, d) => uptoBulk d + 1
 end
def uptoSmall : (H : Type) → List (DataW H) → Bool := fun _ ds => decide (uptoBulkAll ds ≤ 1048576)
def OpenSpec.upto (s : _root_.Go.ChangeSpec) : _root_.Go.OpenSpec := { _root_.Go.OpenSpec.ofChange s with cond := some uptoSmall }

/-- 'jigsawlaw02.DomSets', WHERE WHAT IT READS IS OF BULK AT MOST 1048576: true; the input reads as it did. -/
def domSetsUptoRow : OpenClaim := { program := "ytdbjljbkneopcaadoor", sum := "3ead0089cc08b1ec6b75aef274a46df49e8524c3298c00ea23bb8f0c8ff1f278", func := "jigsaw/jigsawlaw02.DomSets", spec := "domSets", unfollowed := true, recurses := true, named := ["math/bits.deBruijn64tab"], apart := false, laid := [("math/bits.deBruijn64tab", laid_math_bits_deBruijn64tab)], narrowed := true }
def DomSetsUptoSaid : Prop := domSetsUptoRow.holds Tryd.pinned (OpenSpec.upto domSetsSpec)

/-- 'jigsawlaw02.DomMade', WHERE WHAT IT READS IS OF BULK AT MOST 1048576: true; the input reads as it did. -/
def domMadeUptoRow : OpenClaim := { program := "ytdbjljbkneopcaadoor", sum := "3ead0089cc08b1ec6b75aef274a46df49e8524c3298c00ea23bb8f0c8ff1f278", func := "jigsaw/jigsawlaw02.DomMade", spec := "domMade", unfollowed := true, recurses := true, named := ["math/bits.deBruijn64tab"], apart := false, laid := [("math/bits.deBruijn64tab", laid_math_bits_deBruijn64tab)], narrowed := true }
def DomMadeUptoSaid : Prop := domMadeUptoRow.holds Tryd.pinned (OpenSpec.upto domMadeSpec)

/-- 'jigsawlaw03.StoreBack', WHERE WHAT IT READS IS OF BULK AT MOST 1048576: true; the input reads as it did. -/
def storeBackUptoRow : OpenClaim := { program := "ytdbjljbkneopcaadoor", sum := "3ead0089cc08b1ec6b75aef274a46df49e8524c3298c00ea23bb8f0c8ff1f278", func := "jigsaw/jigsawlaw03.StoreBack", spec := "storeBack", unfollowed := true, recurses := true, named := ["math/bits.deBruijn64tab"], apart := false, laid := [("math/bits.deBruijn64tab", laid_math_bits_deBruijn64tab)], narrowed := true }
def StoreBackUptoSaid : Prop := storeBackUptoRow.holds Tryd.pinned (OpenSpec.upto storeBackSpec)

/-- 'jigsawlaw02.DomPlays', WHERE WHAT IT READS IS OF BULK AT MOST 1048576: true; the input reads as it did. -/
def domPlaysUptoRow : OpenClaim := { program := "ytdbjljbkneopcaadoor", sum := "3ead0089cc08b1ec6b75aef274a46df49e8524c3298c00ea23bb8f0c8ff1f278", func := "jigsaw/jigsawlaw02.DomPlays", spec := "domPlays", unfollowed := true, recurses := true, named := ["math/bits.deBruijn64tab"], apart := false, laid := [("math/bits.deBruijn64tab", laid_math_bits_deBruijn64tab)], narrowed := true }
def DomPlaysUptoSaid : Prop := domPlaysUptoRow.holds Tryd.pinned (OpenSpec.upto domPlaysSpec)

/-- 'jigsawlaw02.DomWalks', WHERE WHAT IT READS IS OF BULK AT MOST 1048576: true; the input reads as it did. -/
def domWalksUptoRow : OpenClaim := { program := "ytdbjljbkneopcaadoor", sum := "3ead0089cc08b1ec6b75aef274a46df49e8524c3298c00ea23bb8f0c8ff1f278", func := "jigsaw/jigsawlaw02.DomWalks", spec := "domWalks", unfollowed := true, recurses := true, named := ["math/bits.deBruijn64tab"], apart := false, laid := [("math/bits.deBruijn64tab", laid_math_bits_deBruijn64tab)], narrowed := true }
def DomWalksUptoSaid : Prop := domWalksUptoRow.holds Tryd.pinned (OpenSpec.upto domWalksSpec)

/-- 'jigsawlaw03.StorePlays', WHERE WHAT IT READS IS OF BULK AT MOST 1048576: true; the input reads as it did. -/
def storePlaysUptoRow : OpenClaim := { program := "ytdbjljbkneopcaadoor", sum := "3ead0089cc08b1ec6b75aef274a46df49e8524c3298c00ea23bb8f0c8ff1f278", func := "jigsaw/jigsawlaw03.StorePlays", spec := "storePlays", unfollowed := true, recurses := true, named := ["math/bits.deBruijn64tab"], apart := false, laid := [("math/bits.deBruijn64tab", laid_math_bits_deBruijn64tab)], narrowed := true }
def StorePlaysUptoSaid : Prop := storePlaysUptoRow.holds Tryd.pinned (OpenSpec.upto storePlaysSpec)

/-- 'jigsawlaw03.StoreNil', WHERE WHAT IT READS IS OF BULK AT MOST 1048576: true; the input reads as it did. -/
def storeNilUptoRow : OpenClaim := { program := "ytdbjljbkneopcaadoor", sum := "3ead0089cc08b1ec6b75aef274a46df49e8524c3298c00ea23bb8f0c8ff1f278", func := "jigsaw/jigsawlaw03.StoreNil", spec := "storeNil", unfollowed := true, recurses := true, named := ["math/bits.deBruijn64tab"], apart := false, laid := [("math/bits.deBruijn64tab", laid_math_bits_deBruijn64tab)], narrowed := true }
def StoreNilUptoSaid : Prop := storeNilUptoRow.holds Tryd.pinned (OpenSpec.upto storeNilSpec)

/-- 'jigsawlaw24.NogoodFrom', WHERE WHAT IT READS IS OF BULK AT MOST 1048576: true; the input reads as it did. -/
def nogoodFromUptoRow : OpenClaim := { program := "ytdbjljbkneopcaadoor", sum := "3ead0089cc08b1ec6b75aef274a46df49e8524c3298c00ea23bb8f0c8ff1f278", func := "jigsaw/jigsawlaw24.NogoodFrom", spec := "nogoodFrom", unfollowed := true, recurses := true, named := ["math/bits.deBruijn64tab"], apart := false, laid := [("math/bits.deBruijn64tab", laid_math_bits_deBruijn64tab)], narrowed := true }
def NogoodFromUptoSaid : Prop := nogoodFromUptoRow.holds Tryd.pinned (OpenSpec.upto nogoodFromSpec)

/-- 'jigsawlaw24.NogoodFilters', WHERE WHAT IT READS IS OF BULK AT MOST 1048576: true; the input reads as it did. -/
def nogoodFiltersUptoRow : OpenClaim := { program := "ytdbjljbkneopcaadoor", sum := "3ead0089cc08b1ec6b75aef274a46df49e8524c3298c00ea23bb8f0c8ff1f278", func := "jigsaw/jigsawlaw24.NogoodFilters", spec := "nogoodFilters", unfollowed := true, recurses := true, named := ["math/bits.deBruijn64tab"], apart := false, laid := [("math/bits.deBruijn64tab", laid_math_bits_deBruijn64tab)], narrowed := true }
def NogoodFiltersUptoSaid : Prop := nogoodFiltersUptoRow.holds Tryd.pinned (OpenSpec.upto nogoodFiltersSpec)

/-- 'jigsawlaw24.NogoodAdds', WHERE WHAT IT READS IS OF BULK AT MOST 1048576: true; the input reads as it did. -/
def nogoodAddsUptoRow : OpenClaim := { program := "ytdbjljbkneopcaadoor", sum := "3ead0089cc08b1ec6b75aef274a46df49e8524c3298c00ea23bb8f0c8ff1f278", func := "jigsaw/jigsawlaw24.NogoodAdds", spec := "nogoodAdds", unfollowed := true, recurses := true, named := ["math/bits.deBruijn64tab"], apart := false, laid := [("math/bits.deBruijn64tab", laid_math_bits_deBruijn64tab)], narrowed := true }
def NogoodAddsUptoSaid : Prop := nogoodAddsUptoRow.holds Tryd.pinned (OpenSpec.upto nogoodAddsSpec)

/-- 'jigsawlaw24.NogoodKeeps', WHERE WHAT IT READS IS OF BULK AT MOST 1048576: true; the input reads as it did. -/
def nogoodKeepsUptoRow : OpenClaim := { program := "ytdbjljbkneopcaadoor", sum := "3ead0089cc08b1ec6b75aef274a46df49e8524c3298c00ea23bb8f0c8ff1f278", func := "jigsaw/jigsawlaw24.NogoodKeeps", spec := "nogoodKeeps", unfollowed := true, recurses := true, named := ["math/bits.deBruijn64tab"], apart := false, laid := [("math/bits.deBruijn64tab", laid_math_bits_deBruijn64tab)], narrowed := true }
def NogoodKeepsUptoSaid : Prop := nogoodKeepsUptoRow.holds Tryd.pinned (OpenSpec.upto nogoodKeepsSpec)

/-- 'jigsawlaw24.NogoodApart', WHERE WHAT IT READS IS OF BULK AT MOST 1048576: true; the input reads as it did. -/
def nogoodApartUptoRow : OpenClaim := { program := "ytdbjljbkneopcaadoor", sum := "3ead0089cc08b1ec6b75aef274a46df49e8524c3298c00ea23bb8f0c8ff1f278", func := "jigsaw/jigsawlaw24.NogoodApart", spec := "nogoodApart", unfollowed := true, recurses := true, named := ["math/bits.deBruijn64tab"], apart := false, laid := [("math/bits.deBruijn64tab", laid_math_bits_deBruijn64tab)], narrowed := true }
def NogoodApartUptoSaid : Prop := nogoodApartUptoRow.holds Tryd.pinned (OpenSpec.upto nogoodApartSpec)

end Rows
end Go.Proofs.YtdbjljbkneopcaaDoor
