/- Small laws beside the printed texts: a cell that is written twice. -/
import Derived.Test.YtdnllmngaljflaaGreatDoorProg
import Derived.WalkKit
namespace Go.Proofs.YtdnllmngaljflaaGreatDoor.Hook
open Go.RowKit
theorem cell_two (w : World) (a : Addr) (u v : Value) (h : (w.cell? a).isSome = true) : ((w.setCell a u).setCell a v).cell? a = some v := by
  refine World.cell?_setCell_same' _ _ _ ?_
  rw [World.cell?_setCell_same' _ _ _ h]
  rfl
end Go.Proofs.YtdnllmngaljflaaGreatDoor.Hook
