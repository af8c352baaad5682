/- A slice of the acts of chapter 02 that came in, opened. -/
import Derived.Test.YtdbjljbkneopcaaDoorRowTab
import Derived.Test.YtdbjljbkneopcaaDoorDomZ
import Derived.Lib.SmallJoins
import Derived.Deep.Slices
import Derived.Deep.Strs
namespace Go.Proofs.YtdbjljbkneopcaaDoor
open Go.ChangeShapes Go.WideShapes Go.ChangeAt Go.RowKit
set_option linter.unusedSimpArgs false
set_option linter.unusedVariables false
theorem actCells : Tryd.prog.cellsOf 66 = 3 := by kernel_rfl
set_option maxRecDepth 100000 in
theorem acts_open {H : Type} {enc : TypeId × Value → H} {w : World} {r : Reach} {b0 : Nat} {v : Value} {d : DataW H} {p : List MemPlace}
    (hv : Value.okWide Tryd.prog w r b0 64 v) (h : DataW.Trod enc Tryd.prog w 0 (fun _ => true) true 64 v d p) :
    ∃ (A : Option Addr) (len cap : Nat) (D V : Nat → Int) (SL : Nat → Value) (LL : Nat → List Int), v = .slice A len cap ∧ len ≤ cap ∧ cap ≤ 9223372036854775807 ∧ Rf.Acts w A len D V SL LL := by
  obtain ⟨a0, len0, cap0, rfl⟩ := okWide_slice Tryd.underlying64 hv
  obtain ⟨fuel, hf⟩ := h
  rcases Go.Deep.open_slice Tryd.underlying64 hf with ⟨hc, _⟩ | ⟨a, len, cap, m, n, Df, Pl, hc, _, hl, hm, hmm, _, hx⟩
  · simp [Value.cells] at hc
    obtain ⟨rfl, rfl, rfl⟩ := hc
    exact ⟨none, 0, 0, fun _ => 0, fun _ => 0, fun _ => .slice none 0 0, fun _ => [], rfl, Nat.le_refl _, Nat.zero_le _, ⟨fun i hi => by omega⟩⟩
  · simp [Value.cells] at hc
    obtain ⟨rfl, rfl, rfl⟩ := hc
    have hmc : m = cap0 := by simpa using hmm
    subst hmc
    have each : ∀ i, i < len0 → ∃ q : Int × Int × Value × List Int, (w.cell? (a.add (i * 3)) = some (.int .u8 q.1) ∧ w.cell? (a.add (i * 3 + 1)) = some (.int .i64 q.2.1) ∧ w.cell? (a.add (i * 3 + 2)) = some q.2.2.1) ∧
        (0 ≤ q.1 ∧ q.1 ≤ 255) ∧ (-9223372036854775808 ≤ q.2.1 ∧ q.2.1 ≤ 9223372036854775807) ∧ Rd w q.2.2.1 q.2.2.2 := by
      intro i hi
      obtain ⟨cs', h1, h2⟩ := hx i (by omega)
      rw [actCells] at h1
      obtain ⟨_, hlen, hcell⟩ := World.cells?_some h1
      obtain ⟨y0, y1, y2, k, _, _, t0, t1, t2⟩ := Go.Deep.trod_struct3 Tryd.underlying66 h2
      match cs', hlen with
      | [u0, u1, u2], _ =>
        have k1 : Tryd.prog.cellsOf 5 = 1 := by kernel_rfl
        have k2 : Tryd.prog.cellsOf 3 = 1 := by kernel_rfl
        have k3 : Tryd.prog.cellsOf 22 = 1 := by kernel_rfl
        obtain ⟨x0, e0, _, w0⟩ := DataW.trod_int (k := .u8) Tryd.underlying5 t0
        obtain ⟨x1, e1, _, w1⟩ := DataW.trod_int (k := .i64) Tryd.underlying3 t1
        simp [k1, k2, k3] at e0 e1 t2
        subst e0 e1
        obtain ⟨l, hr, _⟩ := ints_trod t2
        have g0 := hcell 0 (by omega)
        have g1 := hcell 1 (by omega)
        have g2 := hcell 2 (by omega)
        rw [Go.Deep.add_add] at g0 g1 g2
        exact ⟨(x0, x1, u2, l), ⟨by simpa using g0, by simpa using g1, by simpa using g2⟩, u8_wf w0, i64_wf w1, hr⟩
    obtain ⟨q, hq⟩ := Go.Deep.choose_lt each
    refine ⟨some a, len0, m, fun i => (q i).1, fun i => (q i).2.1, fun i => (q i).2.2.1, fun i => (q i).2.2.2, rfl, hl, by unfold maxLen at hm; omega, ⟨?_⟩⟩
    intro i hi
    have hi4 := (hq i hi).1
    obtain ⟨b, o, sp⟩ := a
    have hsp : sp = none := by
      cases sp with
      | none => rfl
      | some x =>
        exfalso
        have h0 := (hq 0 (by omega)).1.1
        simp only [Nat.zero_mul, World.cell?, Addr.add] at h0
        simp at h0
        split at h0 <;> cases h0
    subst hsp
    rw [addr_add', addr_add', addr_add'] at hi4
    have hb : b < w.heap.size := by
      have := hi4.1
      simp only [World.cell?] at this
      split at this
      · rename_i e; exact heap_lt e
      · cases this
    exact ⟨b, o, rfl, hb, hi4.1, by rw [Nat.add_assoc]; exact hi4.2.1, by rw [Nat.add_assoc]; exact hi4.2.2, (hq i hi).2.1, (hq i hi).2.2.1, (hq i hi).2.2.2⟩
end Go.Proofs.YtdbjljbkneopcaaDoor
