/- What the laid table gives the walks; slices of numbers that came in, opened. -/
import Derived.Test.YtgckohmppefibaaDoorRows
import Derived.Test.YtgckohmppefibaaDoorRowWords
import Derived.Test.YtgckohmppefibaaDoorDomM
import Derived.LaidMore
import Derived.MakeChecks
import Derived.Stop.Joined
import Derived.Carry
namespace Go.Proofs.YtgckohmppefibaaDoor
open Go.ChangeShapes Go.WideShapes Go.ChangeAt Go.RowKit
set_option linter.unusedSimpArgs false
set_option linter.unusedVariables false
theorem gTab : Tryd.prog.globalNamed "math/bits.deBruijn64tab" = some 0 := by kernel_rfl
theorem tTab : (Tryd.prog.globals[0]?).map (·.type) = some 124 := by kernel_rfl
abbrev laidTab : List (String × DataW Unit) := [("math/bits.deBruijn64tab", Rows.laid_math_bits_deBruijn64tab)]
theorem door_met (os : Os) (args : Array Value) : laidMetH Tryd.prog laidTab ((World.doorLaid Tryd.prog 400 os).forCall (fun _ _ => 0) ⟨#[], args, []⟩).memory :=
  laidMetH_of_parts3 (fuel := 8) (laidMet_of_run' 8 (by kernel_rfl) (by kernel_rfl)) (by kernel_rfl) (by kernel_rfl)
theorem tab_datum : (Rows.laid_math_bits_deBruijn64tab : DataW Unit) = .agg (Lib.deBruijn64tab.map fun n : Nat => .lit (.int .u8 (n : Int))) := by kernel_rfl
theorem tab_of_laid {W : World} (h : laidMetH Tryd.prog laidTab W) : Tab W := by
  rw [MakeChecks.laidMetH_plain _ _ _ (by kernel_rfl)] at h
  obtain ⟨ps, ⟨g0, t0, cs0, f0, p0, q0, hg0, ht0, hv0, hd0, _, _⟩, _, _⟩ := h
  obtain rfl := Option.some.inj (gTab.symm.trans hg0)
  obtain rfl := Option.some.inj (tTab.symm.trans ht0)
  obtain ⟨xs, m1, rfl, hx1, hlen, hn, hel⟩ := DataW.trod_array Tryd.underlying124 hd0
  have c1 : Tryd.prog.cellsOf 5 = 1 := by kernel_rfl
  rw [tab_datum] at hx1
  simp only [Prod.mk.injEq, DataW.agg.injEq] at hx1
  have cells : TabAt 0 Lib.deBruijn64tab W := fun j hj => by
    have hl : Lib.deBruijn64tab.length = 64 := by decide +kernel
    have h1 := hel j (by omega)
    rw [c1, Nat.mul_one] at h1
    obtain ⟨y, hy⟩ : ∃ y, xs[j]? = some y := ⟨_, List.getElem?_eq_getElem (by omega)⟩
    rw [hy] at h1
    obtain ⟨k, e1, e2, _⟩ := DataW.trod_int Tryd.underlying5 h1
    have h2 := congrArg (fun l : List (DataW Unit) => l[j]?) hx1.1
    simp only [List.getElem?_map, hy, Option.map_some] at h2
    rw [List.getElem?_eq_getElem hj] at h2
    simp only [Option.map_some, Option.some.injEq, e2] at h2
    have hk : k = ((Lib.deBruijn64tab.getD j 0 : Nat) : Int) := by
      rw [List.getD_eq_getElem?_getD, List.getElem?_eq_getElem hj]
      simp at h2
      exact h2.symm
    have h3 := World.var?_cell hg0 hv0 j
    rw [h3, ← hk]
    have h4 : cs0.toList[j]? = some (Value.int .u8 k) := by
      have := congrArg (fun l : List Value => l[0]?) e1
      simpa using this
    rw [← Array.getElem?_toList]
    exact h4
  refine ⟨?_, cells⟩
  have := cells 0 (by decide +kernel)
  simp only [World.cell?] at this
  split at this
  · rename_i e; exact heap_lt e
  · cases this
theorem addr_add' (b o j : Nat) : (⟨b, o, none⟩ : Addr).add j = ⟨b, o + j, none⟩ := by unfold Addr.add; split <;> simp_all
set_option maxRecDepth 100000 in
theorem ints_trod {H : Type} {enc : TypeId × Value → H} {w : World} {fuel : Nat} {u : Value} {y : DataW H × List MemPlace}
    (hf : DataW.trod enc Tryd.prog w 0 (fun _ => true) true fuel 63 [u] = some y) :
    ∃ l, Rd w u l ∧ ∀ x ∈ l, -9223372036854775808 ≤ x ∧ x ≤ 9223372036854775807 := by
  rcases open_ints Tryd.underlying63 Tryd.underlying3 (by kernel_rfl) hf with ⟨hc, _⟩ | ⟨a, len, cap, zs, hc, _, hl, hm, hz, _, hcell, hwf⟩
  · obtain rfl : u = .slice none 0 0 := by simpa using hc
    exact ⟨[], ⟨⟨none, 0, rfl⟩, Nat.zero_le _, fun A n c e => by cases e; exact ⟨Nat.le_refl _, fun _ => ⟨rfl, rfl⟩⟩, fun h => by cases h⟩, fun x hx => by cases hx⟩
  · obtain rfl : u = .slice (some a) len cap := by simpa using hc
    have hzl : len ≤ zs.length := by rw [hz]; split <;> omega
    have hlen : (zs.take len).length = len := by rw [List.length_take]; omega
    refine ⟨zs.take len, ⟨⟨some a, cap, by rw [hlen]⟩, by rw [hlen]; unfold maxLen at hm; omega, fun A n c e => by cases e; exact ⟨hl, fun e => by cases e⟩, fun h0 => ?_⟩, fun x hx => i64_wf (hwf x (List.mem_of_mem_take hx))⟩
    rw [hlen] at h0 ⊢
    have h1 := hcell 0 (by omega)
    obtain ⟨b, o, sp⟩ := a
    have hsp : sp = none := by
      cases sp with
      | none => rfl
      | some x =>
        exfalso
        simp only [World.cell?, Addr.add] at h1
        simp at h1
        split at h1 <;> cases h1
    subst hsp
    refine ⟨b, o, cap, rfl, ?_, fun j hj => ?_⟩
    · rw [addr_add'] at h1
      simp only [World.cell?] at h1
      split at h1
      · rename_i e; exact heap_lt e
      · cases h1
    · have := hcell j (by omega)
      rw [addr_add'] at this
      rw [this, List.getD_eq_getElem?_getD, List.getD_eq_getElem?_getD, List.getElem?_take, if_pos hj]
set_option maxRecDepth 100000 in
theorem ints_open {H : Type} {enc : TypeId × Value → H} {w : World} {r : Reach} {b0 : Nat} {v : Value} {d : DataW H} {p : List MemPlace}
    (hv : Value.okWide Tryd.prog w r b0 63 v) (h : DataW.Trod enc Tryd.prog w 0 (fun _ => true) true 63 v d p) :
    ∃ l, Rd w v l ∧ ∀ x ∈ l, -9223372036854775808 ≤ x ∧ x ≤ 9223372036854775807 := by
  obtain ⟨a0, len0, cap0, rfl⟩ := okWide_slice Tryd.underlying63 hv
  obtain ⟨fuel, hf⟩ := h
  exact ints_trod hf
end Go.Proofs.YtgckohmppefibaaDoor
