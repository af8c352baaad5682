import Derived.Test.YtgckohmppefibaaDoorRowRaw
import Derived.Test.YtgckohmppefibaaDoorNgDoms
/- A slice of slices of small numbers that came in, opened. -/
namespace Go.Proofs.YtgckohmppefibaaDoor
open Go.ChangeShapes Go.WideShapes Go.ChangeAt Go.RowKit Go.Proofs.YtgckohmppefibaaDoorW.PrintWords Go.Proofs.YtgckohmppefibaaDoorX.Hz
set_option linter.unusedSimpArgs false
set_option linter.unusedVariables false
theorem i8Cells : Tryd.prog.cellsOf 25 = 1 := by kernel_rfl
theorem i8sCells : Tryd.prog.cellsOf 91 = 1 := by kernel_rfl
set_option maxRecDepth 100000 in
theorem i8s_open {H : Type} {enc : TypeId × Value → H} {w : World} {base : Nat} {spare : Nat → Bool} {held : Bool} {fuel : Nat} {cs : List Value} {x : DataW H × List MemPlace}
    (hf : DataW.trod enc Tryd.prog w base spare held fuel 91 cs = some x) :
    ∃ (A : Option Addr) (c : Nat) (l : List Int), cs = [.slice A l.length c] ∧ l.length ≤ c ∧ c ≤ maxLen ∧ Kd.C (Kd.int .i8) w A l.length l ∧ Sm l := by
  rcases Go.Deep.open_slice Tryd.underlying91 hf with ⟨hc, _⟩ | ⟨a, len, cap, m, n, Df, Pl, hc, _, hl, hm, hmm, _, hx⟩
  · exact ⟨none, 0, [], hc, Nat.le_refl _, Nat.zero_le _, ⟨rfl, Nat.zero_le _, fun h => absurd h (by decide)⟩, fun x hx => by cases hx⟩
  · have hlm : len ≤ m := by rw [hmm]; split <;> omega
    have each : ∀ i, i < len → ∃ q : Int, w.cell? (a.add i) = some (.int .i8 q) ∧ -128 ≤ q ∧ q ≤ 127 := by
      intro i hi
      obtain ⟨cs', h1, h2⟩ := hx i (by omega)
      rw [i8Cells, Nat.mul_one] at h1
      obtain ⟨_, hlen, hcell⟩ := World.cells?_some h1
      obtain ⟨x0, e0, _, w0⟩ := DataW.trod_int (k := .i8) Tryd.underlying25 h2
      subst e0
      have g0 := hcell 0 (by omega)
      exact ⟨x0, by simpa [Go.Deep.add_add] using g0, i8_wf w0⟩
    obtain ⟨q, hq⟩ := Go.Deep.choose_lt each
    have hln : ((List.range len).map q).length = len := by simp
    refine ⟨some a, cap, (List.range len).map q, by rw [hln]; exact hc, by rw [hln]; exact hl, hm, ⟨rfl, by rw [hln]; unfold maxLen at hm; omega, fun _ => ⟨a, rfl, fun j p hj => ?_⟩⟩, fun x hx => ?_⟩
    · have hjl : j < len := by rw [← hln]; exact (List.getElem?_eq_some_iff.1 hj).1
      rw [List.getElem?_map, List.getElem?_range hjl] at hj
      cases hj
      refine ⟨[.int .i8 (q j)], rfl, rfl, fun i u hu => ?_⟩
      match i, hu with
      | 0, hu =>
        cases hu
        show w.cell? (a.add (j * 1 + 0)) = _
        rw [Nat.mul_one, Nat.add_zero]
        exact (hq j hjl).1
      | i + 1, hu => simp at hu
    · obtain ⟨j, hj, rfl⟩ := List.mem_map.1 hx
      exact (hq j (List.mem_range.1 hj)).2
set_option maxRecDepth 100000 in
theorem i8ss_open {H : Type} {enc : TypeId × Value → H} {w : World} {base : Nat} {spare : Nat → Bool} {held : Bool} {fuel : Nat} {cs : List Value} {x : DataW H × List MemPlace}
    (hf : DataW.trod enc Tryd.prog w base spare held fuel 42 cs = some x) :
    ∃ (A : Option Addr) (c : Nat) (L : List (List Int)), cs = [.slice A L.length c] ∧ L.length ≤ c ∧ c ≤ maxLen ∧ Kd.C (Kd.slice 25 (Kd.int .i8)) w A L.length L ∧ ∀ x ∈ L, Sm x := by
  rcases Go.Deep.open_slice Tryd.underlying42 hf with ⟨hc, _⟩ | ⟨a, len, cap, m, n, Df, Pl, hc, _, hl, hm, hmm, _, hx⟩
  · exact ⟨none, 0, [], hc, Nat.le_refl _, Nat.zero_le _, ⟨rfl, Nat.zero_le _, fun h => absurd h (by decide)⟩, fun x hx => by cases hx⟩
  · have hlm : len ≤ m := by rw [hmm]; split <;> omega
    have each : ∀ i, i < len → ∃ q : List Int, (∃ A c, w.cell? (a.add i) = some (.slice A q.length c) ∧ q.length ≤ c ∧ Kd.C (Kd.int .i8) w A q.length q) ∧ Sm q := by
      intro i hi
      obtain ⟨cs', h1, h2⟩ := hx i (by omega)
      rw [i8sCells, Nat.mul_one] at h1
      obtain ⟨_, hlen, hcell⟩ := World.cells?_some h1
      obtain ⟨A, c, l, rfl, h3, _, h4, h5⟩ := i8s_open h2
      have g0 := hcell 0 (by omega)
      exact ⟨l, ⟨A, c, by simpa [Go.Deep.add_add] using g0, h3, h4⟩, h5⟩
    obtain ⟨q, hq⟩ := Go.Deep.choose_lt each
    have hln : ((List.range len).map q).length = len := by simp
    refine ⟨some a, cap, (List.range len).map q, by rw [hln]; exact hc, by rw [hln]; exact hl, hm, ⟨rfl, by rw [hln]; unfold maxLen at hm; omega, fun _ => ⟨a, rfl, fun j p hj => ?_⟩⟩, fun x hx => ?_⟩
    · have hjl : j < len := by rw [← hln]; exact (List.getElem?_eq_some_iff.1 hj).1
      rw [List.getElem?_map, List.getElem?_range hjl] at hj
      cases hj
      obtain ⟨⟨A, c, h1, h2, h3⟩, _⟩ := hq j hjl
      refine ⟨_, rfl, ⟨A, c, rfl, h2, h3⟩, fun i u hu => ?_⟩
      match i, hu with
      | 0, hu =>
        cases hu
        show w.cell? (a.add (j * 1 + 0)) = _
        rw [Nat.mul_one, Nat.add_zero]
        exact h1
      | i + 1, hu => simp at hu
    · obtain ⟨j, hj, rfl⟩ := List.mem_map.1 hx
      exact (hq j (List.mem_range.1 hj)).2
end Go.Proofs.YtgckohmppefibaaDoor
