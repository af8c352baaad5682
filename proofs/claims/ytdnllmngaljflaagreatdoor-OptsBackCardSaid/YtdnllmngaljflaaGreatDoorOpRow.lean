import Derived.LaidMore
import Derived.MakeChecks
import Derived.Carry
import Derived.LaidSub
import Derived.Shelf.Vars
import Derived.ChangeReads
import Derived.Test.YtdnllmngaljflaaGreatDoorRowTabO
import Derived.Test.YtdnllmngaljflaaGreatDoorOpBase
namespace Go.Proofs.YtdnllmngaljflaaGreatDoorX.Ho
open Go.RowKit Go.Proofs.YtdnllmngaljflaaGreatDoorW.PrintWords Go.Proofs.YtdnllmngaljflaaGreatDoorW.PrintLast Go.Proofs.YtdnllmngaljflaaGreatDoorW.PrintMore
attribute [local go_sem] max2_int min2_int max_two min_two max_three min_three max_four min_four
set_option linter.unusedVariables false
set_option linter.unusedSimpArgs false
attribute [local go_sem] Go.Proofs.YtdnllmngaljflaaGreatDoor.Hook.cell_two
/-! ### What the rows give -/
theorem iface_cells {H : Type} {enc : TypeId × Value → H} {P : Program} {w : World} {base : Nat} {sp : Nat → Bool} {held : Bool} {fuel : Nat} {t : TypeId} {ms : Array (String × TypeId)} {cs : List Value} {nm : String} {d : DataW H} {p : List MemPlace}
    (ht : P.underlying t = some (.interface ms)) (h : DataW.trod enc P w base sp held fuel t cs = some (.iface nm d, p)) : ∃ u v, cs = [.iface u v] := by
  cases fuel with
  | zero => simp [DataW.trod] at h
  | succ n =>
    rw [DataW.trod_step] at h
    unfold DataW.trodStep at h
    rw [ht] at h
    split at h
    all_goals first
      | exact ⟨_, _, rfl⟩
      | (exfalso; simp_all; done)
theorem gErr4 : Tryz.prog.globalNamed "strconv.ErrSyntax" = some 4 := by kernel_rfl
theorem gErr5 : Tryz.prog.globalNamed "strconv.ErrRange" = some 5 := by kernel_rfl
end Go.Proofs.YtdnllmngaljflaaGreatDoorX.Ho
