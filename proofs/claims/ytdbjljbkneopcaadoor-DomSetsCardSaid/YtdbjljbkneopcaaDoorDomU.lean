/- DomSets walked, whole. -/
import Derived.Test.YtdbjljbkneopcaaDoorDomU1
import Derived.Test.YtdbjljbkneopcaaDoorDomU2
import Derived.Test.YtdbjljbkneopcaaDoorDomU3
namespace Go.Proofs.YtdbjljbkneopcaaDoor
open Go.RowKit
theorem law2_sets (sx sy : Value) (x y : List Int) (w : World) (hx : Rd w sx x) (hy : Rd w sy y) (hT : Tab w) :
    Calls Tryd.prog 3 #[sx, sy] w (Rf.Says true w) := by
  by_cases h4 : ((Rf.of (Rf.near x)).filter fun u => !decide (u ∈ Rf.of (Rf.near y))).length = 0
  · by_cases h5 : ((Rf.of (Rf.near y)).filter fun u => !decide (u ∈ Rf.of (Rf.near x))).length = 0
    · exact law2_sets1 sx sy x y w hx hy hT ⟨h4, h5⟩
    · exact law2_sets2 sx sy x y w hx hy hT ⟨h4, h5⟩
  · exact law2_sets3 sx sy x y w hx hy hT h4
end Go.Proofs.YtdbjljbkneopcaaDoor
