import Derived.Test.YtgckohmppefibaaDoorRowTab
import Derived.Test.YtgckohmppefibaaDoorHzx0
import Derived.Lib.SmallJoins
import Derived.Deep.Slices
import Derived.Deep.Strs
import Derived.Test.YtgckohmppefibaaDoorNgDoms
/- A slice of the literals of chapter 24 that came in, and a slice of such slices, opened. -/
namespace Go.Proofs.YtgckohmppefibaaDoor
open Go.ChangeShapes Go.WideShapes Go.ChangeAt Go.RowKit Go.Proofs.YtgckohmppefibaaDoorW.PrintWords Go.Proofs.YtgckohmppefibaaDoorX.Hz
set_option linter.unusedSimpArgs false
set_option linter.unusedVariables false
theorem rawCells : Tryd.prog.cellsOf 27 = 3 := by kernel_rfl
theorem i8_wf {a : Int} (h : (Lit.int .i8 a).wf = true) : -128 ≤ a ∧ a ≤ 127 := by
  have e1 : IntKind.min .i8 = -128 := by decide
  have e2 : IntKind.max .i8 = 127 := by decide
  simp only [Lit.wf, Bool.and_eq_true, decide_eq_true_eq, e1, e2] at h
  exact h
def RawOk (l : List S27) : Prop := ∀ x ∈ l, (-128 ≤ x.f0 ∧ x.f0 ≤ 127) ∧ (-128 ≤ x.f1 ∧ x.f1 ≤ 127)
set_option maxRecDepth 100000 in
theorem raw_open {H : Type} {enc : TypeId × Value → H} {w : World} {base : Nat} {spare : Nat → Bool} {held : Bool} {fuel : Nat} {cs : List Value} {x : DataW H × List MemPlace}
    (hf : DataW.trod enc Tryd.prog w base spare held fuel 22 cs = some x) :
    ∃ (A : Option Addr) (c : Nat) (l : List S27), cs = [.slice A l.length c] ∧ l.length ≤ c ∧ c ≤ maxLen ∧ Kd.C k27 w A l.length l ∧ RawOk l := by
  rcases Go.Deep.open_slice Tryd.underlying22 hf with ⟨hc, _⟩ | ⟨a, len, cap, m, n, Df, Pl, hc, _, hl, hm, hmm, _, hx⟩
  · exact ⟨none, 0, [], hc, Nat.le_refl _, Nat.zero_le _, ⟨rfl, Nat.zero_le _, fun h => absurd h (by decide)⟩, fun x hx => by cases hx⟩
  · have hlm : len ≤ m := by rw [hmm]; split <;> omega
    have each : ∀ i, i < len → ∃ q : S27, (w.cell? (a.add (i * 3)) = some (.int .i8 q.f0) ∧ w.cell? (a.add (i * 3 + 1)) = some (.int .i8 q.f1) ∧ w.cell? (a.add (i * 3 + 2)) = some (.bool q.f2)) ∧ (-128 ≤ q.f0 ∧ q.f0 ≤ 127) ∧ (-128 ≤ q.f1 ∧ q.f1 ≤ 127) := by
      intro i hi
      obtain ⟨cs', h1, h2⟩ := hx i (by omega)
      rw [rawCells] at h1
      obtain ⟨_, hlen, hcell⟩ := World.cells?_some h1
      obtain ⟨y0, y1, y2, k, _, _, t0, t1, t2⟩ := Go.Deep.trod_struct3 Tryd.underlying27 h2
      match cs', hlen with
      | [u0, u1, u2], _ =>
        have k1 : Tryd.prog.cellsOf 25 = 1 := by kernel_rfl
        have k2 : Tryd.prog.cellsOf 4 = 1 := by kernel_rfl
        obtain ⟨x0, e0, _, w0⟩ := DataW.trod_int (k := .i8) Tryd.underlying25 t0
        obtain ⟨x1, e1, _, w1⟩ := DataW.trod_int (k := .i8) Tryd.underlying25 t1
        obtain ⟨x2, e2, _⟩ := DataW.trod_bool Tryd.underlying4 t2
        simp [k1, k2] at e0 e1 e2
        subst e0 e1 e2
        have g0 := hcell 0 (by omega)
        have g1 := hcell 1 (by omega)
        have g2 := hcell 2 (by omega)
        rw [Go.Deep.add_add] at g0 g1 g2
        exact ⟨⟨x0, x1, x2⟩, ⟨by simpa using g0, by simpa using g1, by simpa using g2⟩, i8_wf w0, i8_wf w1⟩
    haveI : Inhabited S27 := ⟨⟨0, 0, false⟩⟩
    obtain ⟨q, hq⟩ := Go.Deep.choose_lt each
    have hln : ((List.range len).map q).length = len := by simp
    refine ⟨some a, cap, (List.range len).map q, by rw [hln]; exact hc, by rw [hln]; exact hl, hm, ⟨rfl, by rw [hln]; unfold maxLen at hm; omega, fun _ => ⟨a, rfl, fun j p hj => ?_⟩⟩, fun x hx => ?_⟩
    · have hjl : j < len := by rw [← hln]; exact (List.getElem?_eq_some_iff.1 hj).1
      rw [List.getElem?_map, List.getElem?_range hjl] at hj
      cases hj
      obtain ⟨⟨c0, c1, c2⟩, _⟩ := hq j hjl
      refine ⟨_, rfl, k27_mk w (q j), fun i u hu => ?_⟩
      match i, hu with
      | 0, hu => cases hu; exact c0
      | 1, hu => cases hu; exact c1
      | 2, hu => cases hu; exact c2
      | i + 3, hu => simp at hu
    · obtain ⟨j, hj, rfl⟩ := List.mem_map.1 hx
      exact (hq j (List.mem_range.1 hj)).2
theorem rawsCells : Tryd.prog.cellsOf 22 = 1 := by kernel_rfl
set_option maxRecDepth 100000 in
theorem raws_open {H : Type} {enc : TypeId × Value → H} {w : World} {base : Nat} {spare : Nat → Bool} {held : Bool} {fuel : Nat} {cs : List Value} {x : DataW H × List MemPlace}
    (hf : DataW.trod enc Tryd.prog w base spare held fuel 41 cs = some x) :
    ∃ (A : Option Addr) (c : Nat) (L : List (List S27)), cs = [.slice A L.length c] ∧ L.length ≤ c ∧ c ≤ maxLen ∧ Kd.C (Kd.slice 27 k27) w A L.length L := by
  rcases Go.Deep.open_slice Tryd.underlying41 hf with ⟨hc, _⟩ | ⟨a, len, cap, m, n, Df, Pl, hc, _, hl, hm, hmm, _, hx⟩
  · exact ⟨none, 0, [], hc, Nat.le_refl _, Nat.zero_le _, ⟨rfl, Nat.zero_le _, fun h => absurd h (by decide)⟩⟩
  · have hlm : len ≤ m := by rw [hmm]; split <;> omega
    have each : ∀ i, i < len → ∃ q : List S27, ∃ A c, w.cell? (a.add i) = some (.slice A q.length c) ∧ q.length ≤ c ∧ Kd.C k27 w A q.length q := by
      intro i hi
      obtain ⟨cs', h1, h2⟩ := hx i (by omega)
      rw [rawsCells, Nat.mul_one] at h1
      obtain ⟨_, hlen, hcell⟩ := World.cells?_some h1
      obtain ⟨A, c, l, rfl, h3, _, h4, _⟩ := raw_open h2
      have g0 := hcell 0 (by omega)
      exact ⟨l, A, c, by simpa [Go.Deep.add_add] using g0, h3, h4⟩
    obtain ⟨q, hq⟩ := Go.Deep.choose_lt each
    have hln : ((List.range len).map q).length = len := by simp
    refine ⟨some a, cap, (List.range len).map q, by rw [hln]; exact hc, by rw [hln]; exact hl, hm, ⟨rfl, by rw [hln]; unfold maxLen at hm; omega, fun _ => ⟨a, rfl, fun j p hj => ?_⟩⟩⟩
    have hjl : j < len := by rw [← hln]; exact (List.getElem?_eq_some_iff.1 hj).1
    rw [List.getElem?_map, List.getElem?_range hjl] at hj
    cases hj
    obtain ⟨A, c, h1, h2, h3⟩ := hq j hjl
    refine ⟨_, rfl, ⟨A, c, rfl, h2, h3⟩, fun i u hu => ?_⟩
    match i, hu with
    | 0, hu =>
      cases hu
      show w.cell? (a.add (j * 1 + 0)) = _
      rw [Nat.mul_one, Nat.add_zero]
      exact h1
    | i + 1, hu => simp at hu
end Go.Proofs.YtgckohmppefibaaDoor
/- A slice of slices of small numbers that came in, opened. -/
namespace Go.Proofs.YtgckohmppefibaaDoor
open Go.ChangeShapes Go.WideShapes Go.ChangeAt Go.RowKit Go.Proofs.YtgckohmppefibaaDoorW.PrintWords Go.Proofs.YtgckohmppefibaaDoorX.Hz
set_option linter.unusedSimpArgs false
set_option linter.unusedVariables false
theorem i8Cells : Tryd.prog.cellsOf 25 = 1 := by kernel_rfl
theorem i8sCells : Tryd.prog.cellsOf 91 = 1 := by kernel_rfl
set_option maxRecDepth 100000 in
theorem i8s_open {H : Type} {enc : TypeId × Value → H} {w : World} {base : Nat} {spare : Nat → Bool} {held : Bool} {fuel : Nat} {cs : List Value} {x : DataW H × List MemPlace}
    (hf : DataW.trod enc Tryd.prog w base spare held fuel 91 cs = some x) :
    ∃ (A : Option Addr) (c : Nat) (l : List Int), cs = [.slice A l.length c] ∧ l.length ≤ c ∧ c ≤ maxLen ∧ Kd.C (Kd.int .i8) w A l.length l ∧ Sm l := by
  rcases Go.Deep.open_slice Tryd.underlying91 hf with ⟨hc, _⟩ | ⟨a, len, cap, m, n, Df, Pl, hc, _, hl, hm, hmm, _, hx⟩
  · exact ⟨none, 0, [], hc, Nat.le_refl _, Nat.zero_le _, ⟨rfl, Nat.zero_le _, fun h => absurd h (by decide)⟩, fun x hx => by cases hx⟩
  · have hlm : len ≤ m := by rw [hmm]; split <;> omega
    have each : ∀ i, i < len → ∃ q : Int, w.cell? (a.add i) = some (.int .i8 q) ∧ -128 ≤ q ∧ q ≤ 127 := by
      intro i hi
      obtain ⟨cs', h1, h2⟩ := hx i (by omega)
      rw [i8Cells, Nat.mul_one] at h1
      obtain ⟨_, hlen, hcell⟩ := World.cells?_some h1
      obtain ⟨x0, e0, _, w0⟩ := DataW.trod_int (k := .i8) Tryd.underlying25 h2
      subst e0
      have g0 := hcell 0 (by omega)
      exact ⟨x0, by simpa [Go.Deep.add_add] using g0, i8_wf w0⟩
    obtain ⟨q, hq⟩ := Go.Deep.choose_lt each
    have hln : ((List.range len).map q).length = len := by simp
    refine ⟨some a, cap, (List.range len).map q, by rw [hln]; exact hc, by rw [hln]; exact hl, hm, ⟨rfl, by rw [hln]; unfold maxLen at hm; omega, fun _ => ⟨a, rfl, fun j p hj => ?_⟩⟩, fun x hx => ?_⟩
    · have hjl : j < len := by rw [← hln]; exact (List.getElem?_eq_some_iff.1 hj).1
      rw [List.getElem?_map, List.getElem?_range hjl] at hj
      cases hj
      refine ⟨[.int .i8 (q j)], rfl, rfl, fun i u hu => ?_⟩
      match i, hu with
      | 0, hu =>
        cases hu
        show w.cell? (a.add (j * 1 + 0)) = _
        rw [Nat.mul_one, Nat.add_zero]
        exact (hq j hjl).1
      | i + 1, hu => simp at hu
    · obtain ⟨j, hj, rfl⟩ := List.mem_map.1 hx
      exact (hq j (List.mem_range.1 hj)).2
set_option maxRecDepth 100000 in
theorem i8ss_open {H : Type} {enc : TypeId × Value → H} {w : World} {base : Nat} {spare : Nat → Bool} {held : Bool} {fuel : Nat} {cs : List Value} {x : DataW H × List MemPlace}
    (hf : DataW.trod enc Tryd.prog w base spare held fuel 42 cs = some x) :
    ∃ (A : Option Addr) (c : Nat) (L : List (List Int)), cs = [.slice A L.length c] ∧ L.length ≤ c ∧ c ≤ maxLen ∧ Kd.C (Kd.slice 25 (Kd.int .i8)) w A L.length L ∧ ∀ x ∈ L, Sm x := by
  rcases Go.Deep.open_slice Tryd.underlying42 hf with ⟨hc, _⟩ | ⟨a, len, cap, m, n, Df, Pl, hc, _, hl, hm, hmm, _, hx⟩
  · exact ⟨none, 0, [], hc, Nat.le_refl _, Nat.zero_le _, ⟨rfl, Nat.zero_le _, fun h => absurd h (by decide)⟩, fun x hx => by cases hx⟩
  · have hlm : len ≤ m := by rw [hmm]; split <;> omega
    have each : ∀ i, i < len → ∃ q : List Int, (∃ A c, w.cell? (a.add i) = some (.slice A q.length c) ∧ q.length ≤ c ∧ Kd.C (Kd.int .i8) w A q.length q) ∧ Sm q := by
      intro i hi
      obtain ⟨cs', h1, h2⟩ := hx i (by omega)
      rw [i8sCells, Nat.mul_one] at h1
      obtain ⟨_, hlen, hcell⟩ := World.cells?_some h1
      obtain ⟨A, c, l, rfl, h3, _, h4, h5⟩ := i8s_open h2
      have g0 := hcell 0 (by omega)
      exact ⟨l, ⟨A, c, by simpa [Go.Deep.add_add] using g0, h3, h4⟩, h5⟩
    obtain ⟨q, hq⟩ := Go.Deep.choose_lt each
    have hln : ((List.range len).map q).length = len := by simp
    refine ⟨some a, cap, (List.range len).map q, by rw [hln]; exact hc, by rw [hln]; exact hl, hm, ⟨rfl, by rw [hln]; unfold maxLen at hm; omega, fun _ => ⟨a, rfl, fun j p hj => ?_⟩⟩, fun x hx => ?_⟩
    · have hjl : j < len := by rw [← hln]; exact (List.getElem?_eq_some_iff.1 hj).1
      rw [List.getElem?_map, List.getElem?_range hjl] at hj
      cases hj
      obtain ⟨⟨A, c, h1, h2, h3⟩, _⟩ := hq j hjl
      refine ⟨_, rfl, ⟨A, c, rfl, h2, h3⟩, fun i u hu => ?_⟩
      match i, hu with
      | 0, hu =>
        cases hu
        show w.cell? (a.add (j * 1 + 0)) = _
        rw [Nat.mul_one, Nat.add_zero]
        exact h1
      | i + 1, hu => simp at hu
    · obtain ⟨j, hj, rfl⟩ := List.mem_map.1 hx
      exact (hq j (List.mem_range.1 hj)).2
end Go.Proofs.YtgckohmppefibaaDoor
/- A slice of bytes that came in, opened. -/
namespace Go.Proofs.YtgckohmppefibaaDoor
open Go.ChangeShapes Go.WideShapes Go.ChangeAt Go.RowKit Go.Proofs.YtgckohmppefibaaDoorW.PrintWords Go.Proofs.YtgckohmppefibaaDoorX.Hz
set_option linter.unusedSimpArgs false
set_option linter.unusedVariables false
theorem u8Cells : Tryd.prog.cellsOf 5 = 1 := by kernel_rfl
theorem u8_wf0 {a : Int} (h : (Lit.int .u8 a).wf = true) : 0 ≤ a ∧ a ≤ 255 := by
  have e1 : IntKind.min .u8 = 0 := by decide
  have e2 : IntKind.max .u8 = 255 := by decide
  simp only [Lit.wf, Bool.and_eq_true, decide_eq_true_eq, e1, e2] at h
  exact h
set_option maxRecDepth 100000 in
theorem u8s_open {H : Type} {enc : TypeId × Value → H} {w : World} {base : Nat} {spare : Nat → Bool} {held : Bool} {fuel : Nat} {cs : List Value} {x : DataW H × List MemPlace}
    (hf : DataW.trod enc Tryd.prog w base spare held fuel 70 cs = some x) :
    ∃ (A : Option Addr) (c : Nat) (l : List Int), cs = [.slice A l.length c] ∧ l.length ≤ c ∧ c ≤ maxLen ∧ Kd.C (Kd.int .u8) w A l.length l ∧ (∀ v ∈ l, 0 ≤ v ∧ v ≤ 255) := by
  rcases Go.Deep.open_slice Tryd.underlying70 hf with ⟨hc, _⟩ | ⟨a, len, cap, m, n, Df, Pl, hc, _, hl, hm, hmm, _, hx⟩
  · exact ⟨none, 0, [], hc, Nat.le_refl _, Nat.zero_le _, ⟨rfl, Nat.zero_le _, fun h => absurd h (by decide)⟩, fun x hx => by cases hx⟩
  · have hlm : len ≤ m := by rw [hmm]; split <;> omega
    have each : ∀ i, i < len → ∃ q : Int, w.cell? (a.add i) = some (.int .u8 q) ∧ 0 ≤ q ∧ q ≤ 255 := by
      intro i hi
      obtain ⟨cs', h1, h2⟩ := hx i (by omega)
      rw [u8Cells, Nat.mul_one] at h1
      obtain ⟨_, hlen, hcell⟩ := World.cells?_some h1
      obtain ⟨x0, e0, _, w0⟩ := DataW.trod_int (k := .u8) Tryd.underlying5 h2
      subst e0
      have g0 := hcell 0 (by omega)
      exact ⟨x0, by simpa [Go.Deep.add_add] using g0, u8_wf0 w0⟩
    obtain ⟨q, hq⟩ := Go.Deep.choose_lt each
    have hln : ((List.range len).map q).length = len := by simp
    refine ⟨some a, cap, (List.range len).map q, by rw [hln]; exact hc, by rw [hln]; exact hl, hm, ⟨rfl, by rw [hln]; unfold maxLen at hm; omega, fun _ => ⟨a, rfl, fun j p hj => ?_⟩⟩, fun x hx => ?_⟩
    · have hjl : j < len := by rw [← hln]; exact (List.getElem?_eq_some_iff.1 hj).1
      rw [List.getElem?_map, List.getElem?_range hjl] at hj
      cases hj
      refine ⟨[.int .u8 (q j)], rfl, rfl, fun i u hu => ?_⟩
      match i, hu with
      | 0, hu =>
        cases hu
        show w.cell? (a.add (j * 1 + 0)) = _
        rw [Nat.mul_one, Nat.add_zero]
        exact (hq j hjl).1
      | i + 1, hu => simp at hu
    · obtain ⟨j, hj, rfl⟩ := List.mem_map.1 hx
      exact (hq j (List.mem_range.1 hj)).2
end Go.Proofs.YtgckohmppefibaaDoor
