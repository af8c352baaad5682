/- What the laid table gives the walks; slices of numbers that came in, opened. -/
import Derived.Test.YtgckohmppefibaaDoorRows
import Derived.Test.YtgckohmppefibaaDoorRowWords
import Derived.Test.YtgckohmppefibaaDoorDomM
import Derived.LaidMore
import Derived.MakeChecks
import Derived.Stop.Joined
import Derived.Carry
namespace Go.Proofs.YtgckohmppefibaaDoor
open Go.ChangeShapes Go.WideShapes Go.ChangeAt Go.RowKit
set_option linter.unusedSimpArgs false
set_option linter.unusedVariables false
theorem gTab : Tryd.prog.globalNamed "math/bits.deBruijn64tab" = some 0 := by kernel_rfl
theorem tTab : (Tryd.prog.globals[0]?).map (·.type) = some 124 := by kernel_rfl
abbrev laidTab : List (String × DataW Unit) := [("math/bits.deBruijn64tab", Rows.laid_math_bits_deBruijn64tab)]
theorem door_met (os : Os) (args : Array Value) : laidMetH Tryd.prog laidTab ((World.doorLaid Tryd.prog 400 os).forCall (fun _ _ => 0) ⟨#[], args, []⟩).memory :=
  laidMetH_of_parts3 (fuel := 8) (laidMet_of_run' 8 (by kernel_rfl) (by kernel_rfl)) (by kernel_rfl) (by kernel_rfl)
theorem tab_datum : (Rows.laid_math_bits_deBruijn64tab : DataW Unit) = .agg (Lib.deBruijn64tab.map fun n : Nat => .lit (.int .u8 (n : Int))) := by kernel_rfl
theorem tab_of_laid {W : World} (h : laidMetH Tryd.prog laidTab W) : Tab W := by
  rw [MakeChecks.laidMetH_plain _ _ _ (by kernel_rfl)] at h
  obtain ⟨ps, ⟨g0, t0, cs0, f0, p0, q0, hg0, ht0, hv0, hd0, _, _⟩, _, _⟩ := h
  obtain rfl := Option.some.inj (gTab.symm.trans hg0)
  obtain rfl := Option.some.inj (tTab.symm.trans ht0)
  obtain ⟨xs, m1, rfl, hx1, hlen, hn, hel⟩ := DataW.trod_array Tryd.underlying124 hd0
  have c1 : Tryd.prog.cellsOf 5 = 1 := by kernel_rfl
  rw [tab_datum] at hx1
  simp only [Prod.mk.injEq, DataW.agg.injEq] at hx1
  have cells : TabAt 0 Lib.deBruijn64tab W := fun j hj => by
    have hl : Lib.deBruijn64tab.length = 64 := by decide +kernel
    have h1 := hel j (by omega)
    rw [c1, Nat.mul_one] at h1
    obtain ⟨y, hy⟩ : ∃ y, xs[j]? = some y := ⟨_, List.getElem?_eq_getElem (by omega)⟩
    rw [hy] at h1
    obtain ⟨k, e1, e2, _⟩ := DataW.trod_int Tryd.underlying5 h1
    have h2 := congrArg (fun l : List (DataW Unit) => l[j]?) hx1.1
    simp only [List.getElem?_map, hy, Option.map_some] at h2
    rw [List.getElem?_eq_getElem hj] at h2
    simp only [Option.map_some, Option.some.injEq, e2] at h2
    have hk : k = ((Lib.deBruijn64tab.getD j 0 : Nat) : Int) := by
      rw [List.getD_eq_getElem?_getD, List.getElem?_eq_getElem hj]
      simp at h2
      exact h2.symm
    have h3 := World.var?_cell hg0 hv0 j
    rw [h3, ← hk]
    have h4 : cs0.toList[j]? = some (Value.int .u8 k) := by
      have := congrArg (fun l : List Value => l[0]?) e1
      simpa using this
    rw [← Array.getElem?_toList]
    exact h4
  refine ⟨?_, cells⟩
  have := cells 0 (by decide +kernel)
  simp only [World.cell?] at this
  split at this
  · rename_i e; exact heap_lt e
  · cases this
end Go.Proofs.YtgckohmppefibaaDoor
