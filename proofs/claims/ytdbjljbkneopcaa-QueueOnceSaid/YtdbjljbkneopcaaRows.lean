/-
  No cell of these rows narrows 'for every input' (looked for: loops, veiled, ifaces, maps, wideKeys, modest, calm, conditions, laid).
  DERIVED. THE GIVEN ROWS OF THIS SEAT. 7 by the template 'for every input the law returns true; each argument reads behind the call as it read before'; 0 by the template 'total and deterministic' (their statements: YtdbjljbkneopcaaTotals.lean).
  GIVEN WITH THE SEED: the statements are not yours to turn. If you find one false, say at which input.
  Laid BY PROGRAM, IN A SANDBOX (cutbox-rows.mjs): the forced cells as the released guide's own fill.sh prints them over the translation 8303940ea55f5600… (all of the seat's roots in one cut). By AI agents, Wed Nov 11 2026. No macro, syntax, notation, axiom, sorry.
-/
import Derived.Test.YtdbjljbkneopcaaChecked
import GoSem.Claim
import GoSem.ClaimJoined
import GoSem.ClaimMapViews
import Derived.JoinedTies
import Derived.KernelRfl
namespace Go.Proofs.Ytdbjljbkneopcaa
/- THE CELL 'sum', in the pinned program and in every row, IS THE sha256 OF THE DUMP (.gsa) THAT YtdbjljbkneopcaaProg.lean LOADS. Nothing in Lean hashes anything: it is a label: what it is worth is what the hold of that sum in a sandbox is worth. -/
noncomputable def Try.pinned : Pinned := { name := "ytdbjljbkneopcaa", sum := "8303940ea55f5600d69a409b468996c96447da30655f032111ff6d846dc479fd", checked := Try.checked }
namespace Rows
def none {H : Type} : Left H := { results := [], args := [] }

/-- 'jigsawlaw04.QueueOnce': WHATEVER THE INPUT: true; the input reads as it did. -/
def queueOnceSpec : ChangeSpec := { name := "queueOnce", fn := fun _ => fun
  | [d] => { results := [.lit (.bool true)], args := [d] }
  | _ => none }
def queueOnceRow : OpenClaim := { program := "ytdbjljbkneopcaa", sum := "8303940ea55f5600d69a409b468996c96447da30655f032111ff6d846dc479fd", func := "jigsaw/jigsawlaw04.QueueOnce", spec := "queueOnce", apart := false }
def QueueOnceSaid : Prop := queueOnceRow.holds Try.pinned (OpenSpec.ofChange queueOnceSpec)

/-- ITS FALSE NEIGHBOUR: 'it returns false'. Refute it at one input. -/
def queueOnceWrong : ChangeSpec := { name := "queueOnce", fn := fun _ => fun
  | [d] => { results := [.lit (.bool false)], args := [d] }
  | _ => none }
def QueueOnceWrongFalsely : Prop := queueOnceRow.holds Try.pinned (OpenSpec.ofChange queueOnceWrong)

/-- 'jigsawlaw04.QueuePlays': WHATEVER THE INPUT: true; the input reads as it did. -/
def queuePlaysSpec : ChangeSpec := { name := "queuePlays", fn := fun _ => fun
  | [d1, d2] => { results := [.lit (.bool true)], args := [d1, d2] }
  | _ => none }
def queuePlaysRow : OpenClaim := { program := "ytdbjljbkneopcaa", sum := "8303940ea55f5600d69a409b468996c96447da30655f032111ff6d846dc479fd", func := "jigsaw/jigsawlaw04.QueuePlays", spec := "queuePlays", apart := false }
def QueuePlaysSaid : Prop := queuePlaysRow.holds Try.pinned (OpenSpec.ofChange queuePlaysSpec)

/-- ITS FALSE NEIGHBOUR: 'it returns false'. Refute it at one input. -/
def queuePlaysWrong : ChangeSpec := { name := "queuePlays", fn := fun _ => fun
  | [d1, d2] => { results := [.lit (.bool false)], args := [d1, d2] }
  | _ => none }
def QueuePlaysWrongFalsely : Prop := queuePlaysRow.holds Try.pinned (OpenSpec.ofChange queuePlaysWrong)

/-- 'jigsawlaw04.QueueNil': WHATEVER THE INPUT: true; the input reads as it did. -/
def queueNilSpec : ChangeSpec := { name := "queueNil", fn := fun _ => fun
  | [d1, d2] => { results := [.lit (.bool true)], args := [d1, d2] }
  | _ => none }
def queueNilRow : OpenClaim := { program := "ytdbjljbkneopcaa", sum := "8303940ea55f5600d69a409b468996c96447da30655f032111ff6d846dc479fd", func := "jigsaw/jigsawlaw04.QueueNil", spec := "queueNil", apart := false }
def QueueNilSaid : Prop := queueNilRow.holds Try.pinned (OpenSpec.ofChange queueNilSpec)

/-- ITS FALSE NEIGHBOUR: 'it returns false'. Refute it at one input. -/
def queueNilWrong : ChangeSpec := { name := "queueNil", fn := fun _ => fun
  | [d1, d2] => { results := [.lit (.bool false)], args := [d1, d2] }
  | _ => none }
def QueueNilWrongFalsely : Prop := queueNilRow.holds Try.pinned (OpenSpec.ofChange queueNilWrong)

/-- 'jigsawlaw26.SchedCuts': WHATEVER THE INPUT: true; the input reads as it did. -/
def schedCutsSpec : ChangeSpec := { name := "schedCuts", fn := fun _ => fun
  | [d1, d2] => { results := [.lit (.bool true)], args := [d1, d2] }
  | _ => none }
def schedCutsRow : OpenClaim := { program := "ytdbjljbkneopcaa", sum := "8303940ea55f5600d69a409b468996c96447da30655f032111ff6d846dc479fd", func := "jigsaw/jigsawlaw26.SchedCuts", spec := "schedCuts", recurses := true, apart := false }
def SchedCutsSaid : Prop := schedCutsRow.holds Try.pinned (OpenSpec.ofChange schedCutsSpec)

/-- ITS FALSE NEIGHBOUR: 'it returns false'. Refute it at one input. -/
def schedCutsWrong : ChangeSpec := { name := "schedCuts", fn := fun _ => fun
  | [d1, d2] => { results := [.lit (.bool false)], args := [d1, d2] }
  | _ => none }
def SchedCutsWrongFalsely : Prop := schedCutsRow.holds Try.pinned (OpenSpec.ofChange schedCutsWrong)

/-- 'jigsawlaw26.SchedTerms': WHATEVER THE INPUT: true; the input reads as it did. -/
def schedTermsSpec : ChangeSpec := { name := "schedTerms", fn := fun _ => fun
  | [d] => { results := [.lit (.bool true)], args := [d] }
  | _ => none }
def schedTermsRow : OpenClaim := { program := "ytdbjljbkneopcaa", sum := "8303940ea55f5600d69a409b468996c96447da30655f032111ff6d846dc479fd", func := "jigsaw/jigsawlaw26.SchedTerms", spec := "schedTerms", recurses := true, apart := false }
def SchedTermsSaid : Prop := schedTermsRow.holds Try.pinned (OpenSpec.ofChange schedTermsSpec)

/-- ITS FALSE NEIGHBOUR: 'it returns false'. Refute it at one input. -/
def schedTermsWrong : ChangeSpec := { name := "schedTerms", fn := fun _ => fun
  | [d] => { results := [.lit (.bool false)], args := [d] }
  | _ => none }
def SchedTermsWrongFalsely : Prop := schedTermsRow.holds Try.pinned (OpenSpec.ofChange schedTermsWrong)

/-- 'jigsawlaw26.SchedRises': WHATEVER THE INPUT: true; the input reads as it did. -/
def schedRisesSpec : ChangeSpec := { name := "schedRises", fn := fun _ => fun
  | [d1, d2] => { results := [.lit (.bool true)], args := [d1, d2] }
  | _ => none }
def schedRisesRow : OpenClaim := { program := "ytdbjljbkneopcaa", sum := "8303940ea55f5600d69a409b468996c96447da30655f032111ff6d846dc479fd", func := "jigsaw/jigsawlaw26.SchedRises", spec := "schedRises", apart := false }
def SchedRisesSaid : Prop := schedRisesRow.holds Try.pinned (OpenSpec.ofChange schedRisesSpec)

/-- ITS FALSE NEIGHBOUR: 'it returns false'. Refute it at one input. -/
def schedRisesWrong : ChangeSpec := { name := "schedRises", fn := fun _ => fun
  | [d1, d2] => { results := [.lit (.bool false)], args := [d1, d2] }
  | _ => none }
def SchedRisesWrongFalsely : Prop := schedRisesRow.holds Try.pinned (OpenSpec.ofChange schedRisesWrong)

/-- 'jigsawlaw26.SchedReaches': WHATEVER THE INPUT: true; the input reads as it did. -/
def schedReachesSpec : ChangeSpec := { name := "schedReaches", fn := fun _ => fun
  | [d1, d2] => { results := [.lit (.bool true)], args := [d1, d2] }
  | _ => none }
def schedReachesRow : OpenClaim := { program := "ytdbjljbkneopcaa", sum := "8303940ea55f5600d69a409b468996c96447da30655f032111ff6d846dc479fd", func := "jigsaw/jigsawlaw26.SchedReaches", spec := "schedReaches", apart := false }
def SchedReachesSaid : Prop := schedReachesRow.holds Try.pinned (OpenSpec.ofChange schedReachesSpec)

/-- ITS FALSE NEIGHBOUR: 'it returns false'. Refute it at one input. -/
def schedReachesWrong : ChangeSpec := { name := "schedReaches", fn := fun _ => fun
  | [d1, d2] => { results := [.lit (.bool false)], args := [d1, d2] }
  | _ => none }
def SchedReachesWrongFalsely : Prop := schedReachesRow.holds Try.pinned (OpenSpec.ofChange schedReachesWrong)

/- THE SECOND FORM. 'bulk': how many values and letters a reading holds, each counted each time it is reached (what is shared counts as often as it is met; a slice's spare places count too). A statement '..UptoSaid' is the law's where the arguments, and the package variables that the reading takes, are together of bulk at most 1048576: NARROWER than '..Said'. Prove '..Said' where nothing that the law and all that it calls make is longer than what came in: it says more and counts as full. Else prove '..UptoSaid'. A law counts once. -/
mutual
def uptoBulk {H : Type} : DataW H → Nat
  | .lit (.string bytes) => bytes.length + 1
  | .lit _ => 1
  | .nil => 1
  | .ptr d => uptoBulk d + 1
  | .slice elems spare => uptoBulkAll elems + uptoBulkAll spare + 1
  | .agg parts => uptoBulkAll parts + 1
  | .iface _ d => uptoBulk d + 1
  | .map entries => uptoBulkEntries entries + 1
  | .held _ => 1
def uptoBulkAll {H : Type} : List (DataW H) → Nat
  | [] => 0
  | d :: r => uptoBulk d + uptoBulkAll r
def uptoBulkEntries {H : Type} : List (Lit × DataW H) → Nat
  | [] => 0
  | x :: r => uptoBulkEntry x + uptoBulkEntries r
def uptoBulkEntry {H : Type} : Lit × DataW H → Nat
  | (.string bytes, d) => bytes.length + uptoBulk d + 1
  | (_, d) => uptoBulk d + 1
 end
def uptoSmall : (H : Type) → List (DataW H) → Bool := fun _ ds => decide (uptoBulkAll ds ≤ 1048576)
def OpenSpec.upto (s : _root_.Go.ChangeSpec) : _root_.Go.OpenSpec := { _root_.Go.OpenSpec.ofChange s with cond := some uptoSmall }

/-- 'jigsawlaw04.QueueOnce', WHERE WHAT IT READS IS OF BULK AT MOST 1048576: true; the input reads as it did. -/
def queueOnceUptoRow : OpenClaim := { program := "ytdbjljbkneopcaa", sum := "8303940ea55f5600d69a409b468996c96447da30655f032111ff6d846dc479fd", func := "jigsaw/jigsawlaw04.QueueOnce", spec := "queueOnce", apart := false, narrowed := true }
def QueueOnceUptoSaid : Prop := queueOnceUptoRow.holds Try.pinned (OpenSpec.upto queueOnceSpec)

/-- 'jigsawlaw04.QueuePlays', WHERE WHAT IT READS IS OF BULK AT MOST 1048576: true; the input reads as it did. -/
def queuePlaysUptoRow : OpenClaim := { program := "ytdbjljbkneopcaa", sum := "8303940ea55f5600d69a409b468996c96447da30655f032111ff6d846dc479fd", func := "jigsaw/jigsawlaw04.QueuePlays", spec := "queuePlays", apart := false, narrowed := true }
def QueuePlaysUptoSaid : Prop := queuePlaysUptoRow.holds Try.pinned (OpenSpec.upto queuePlaysSpec)

/-- 'jigsawlaw04.QueueNil', WHERE WHAT IT READS IS OF BULK AT MOST 1048576: true; the input reads as it did. -/
def queueNilUptoRow : OpenClaim := { program := "ytdbjljbkneopcaa", sum := "8303940ea55f5600d69a409b468996c96447da30655f032111ff6d846dc479fd", func := "jigsaw/jigsawlaw04.QueueNil", spec := "queueNil", apart := false, narrowed := true }
def QueueNilUptoSaid : Prop := queueNilUptoRow.holds Try.pinned (OpenSpec.upto queueNilSpec)

/-- 'jigsawlaw26.SchedCuts', WHERE WHAT IT READS IS OF BULK AT MOST 1048576: true; the input reads as it did. -/
def schedCutsUptoRow : OpenClaim := { program := "ytdbjljbkneopcaa", sum := "8303940ea55f5600d69a409b468996c96447da30655f032111ff6d846dc479fd", func := "jigsaw/jigsawlaw26.SchedCuts", spec := "schedCuts", recurses := true, apart := false, narrowed := true }
def SchedCutsUptoSaid : Prop := schedCutsUptoRow.holds Try.pinned (OpenSpec.upto schedCutsSpec)

/-- 'jigsawlaw26.SchedTerms', WHERE WHAT IT READS IS OF BULK AT MOST 1048576: true; the input reads as it did. -/
def schedTermsUptoRow : OpenClaim := { program := "ytdbjljbkneopcaa", sum := "8303940ea55f5600d69a409b468996c96447da30655f032111ff6d846dc479fd", func := "jigsaw/jigsawlaw26.SchedTerms", spec := "schedTerms", recurses := true, apart := false, narrowed := true }
def SchedTermsUptoSaid : Prop := schedTermsUptoRow.holds Try.pinned (OpenSpec.upto schedTermsSpec)

/-- 'jigsawlaw26.SchedRises', WHERE WHAT IT READS IS OF BULK AT MOST 1048576: true; the input reads as it did. -/
def schedRisesUptoRow : OpenClaim := { program := "ytdbjljbkneopcaa", sum := "8303940ea55f5600d69a409b468996c96447da30655f032111ff6d846dc479fd", func := "jigsaw/jigsawlaw26.SchedRises", spec := "schedRises", apart := false, narrowed := true }
def SchedRisesUptoSaid : Prop := schedRisesUptoRow.holds Try.pinned (OpenSpec.upto schedRisesSpec)

/-- 'jigsawlaw26.SchedReaches', WHERE WHAT IT READS IS OF BULK AT MOST 1048576: true; the input reads as it did. -/
def schedReachesUptoRow : OpenClaim := { program := "ytdbjljbkneopcaa", sum := "8303940ea55f5600d69a409b468996c96447da30655f032111ff6d846dc479fd", func := "jigsaw/jigsawlaw26.SchedReaches", spec := "schedReaches", apart := false, narrowed := true }
def SchedReachesUptoSaid : Prop := schedReachesUptoRow.holds Try.pinned (OpenSpec.upto schedReachesSpec)

end Rows
end Go.Proofs.Ytdbjljbkneopcaa
