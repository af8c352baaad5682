/- A slice of acts that came in, opened. -/
import Derived.Test.YtdbjljbkneopcaaQueueL
import Derived.Test.YtdbjljbkneopcaaRowWords
import Derived.Lib.SmallJoins
import Derived.Deep.Slices
namespace Go.Proofs.Ytdbjljbkneopcaa
open Go.ChangeShapes Go.WideShapes Go.ChangeAt Go.RowKit
set_option linter.unusedSimpArgs false
set_option linter.unusedVariables false
theorem addr_add (b o j : Nat) : (⟨b, o, none⟩ : Addr).add j = ⟨b, o + j, none⟩ := by unfold Addr.add; split <;> simp_all
theorem actCells : Try.prog.cellsOf 27 = 4 := by kernel_rfl
theorem acts_open {H : Type} {enc : TypeId × Value → H} {w : World} {r : Reach} {b0 : Nat} {v : Value} {d : DataW H} {p : List MemPlace}
    (hv : Value.okWide Try.prog w r b0 22 v) (h : DataW.Trod enc Try.prog w 0 (fun _ => true) true 22 v d p) :
    ∃ (A : Option Addr) (len cap : Nat) (D I B M : Nat → Int), v = .slice A len cap ∧ len ≤ cap ∧ cap ≤ 9223372036854775807 ∧ Qu.Acts w A len D I B M := by
  obtain ⟨a0, len0, cap0, rfl⟩ := okWide_slice Try.underlying22 hv
  obtain ⟨fuel, hf⟩ := h
  rcases Go.Deep.open_slice Try.underlying22 hf with ⟨hc, _⟩ | ⟨a, len, cap, m, n, Df, Pl, hc, _, hl, hm, hmm, _, hx⟩
  · simp [Value.cells] at hc
    obtain ⟨rfl, rfl, rfl⟩ := hc
    exact ⟨none, 0, 0, fun _ => 0, fun _ => 0, fun _ => 0, fun _ => 0, rfl, Nat.le_refl _, by decide, ⟨fun i hi => by omega, fun i hi => by omega, fun i hi => by omega, fun i hi => by omega, fun i hi => by omega⟩⟩
  · simp [Value.cells] at hc
    obtain ⟨rfl, rfl, rfl⟩ := hc
    have hmc : m = cap0 := by simpa using hmm
    subst hmc
    have each : ∀ i, i < len0 → ∃ q : Int × Int × Int × Int, (w.cell? (a.add (i * 4)) = some (.int .u8 q.1) ∧ w.cell? (a.add (i * 4 + 1)) = some (.int .i64 q.2.1) ∧ w.cell? (a.add (i * 4 + 2)) = some (.int .i64 q.2.2.1) ∧ w.cell? (a.add (i * 4 + 3)) = some (.int .u8 q.2.2.2)) ∧
        (0 ≤ q.1 ∧ q.1 ≤ 255) ∧ (-9223372036854775808 ≤ q.2.1 ∧ q.2.1 ≤ 9223372036854775807) ∧ (-9223372036854775808 ≤ q.2.2.1 ∧ q.2.2.1 ≤ 9223372036854775807) ∧ (0 ≤ q.2.2.2 ∧ q.2.2.2 ≤ 255) := by
      intro i hi
      obtain ⟨cs', h1, h2⟩ := hx i (by omega)
      rw [actCells] at h1
      obtain ⟨_, hlen, hcell⟩ := World.cells?_some h1
      cases n with
      | zero => simp [DataW.trod] at h2
      | succ n =>
        obtain ⟨y0, y1, y2, y3, k, _, _, t0, t1, t2, t3⟩ := Go.Joins.trod_struct4 Try.underlying27 h2
        match cs', hlen with
        | [u0, u1, u2, u3], _ =>
          obtain ⟨x0, e0, _, w0⟩ := DataW.trod_int (k := .u8) Try.underlying5 t0
          obtain ⟨x1, e1, _, w1⟩ := DataW.trod_int (k := .i64) Try.underlying3 t1
          obtain ⟨x2, e2, _, w2⟩ := DataW.trod_int (k := .i64) Try.underlying3 t2
          obtain ⟨x3, e3, _, w3⟩ := DataW.trod_int (k := .u8) Try.underlying5 t3
          have k1 : Try.prog.cellsOf 5 = 1 := by kernel_rfl
          have k2 : Try.prog.cellsOf 3 = 1 := by kernel_rfl
          simp [k1, k2] at e0 e1 e2 e3
          subst e0 e1 e2 e3
          have g0 := hcell 0 (by omega)
          have g1 := hcell 1 (by omega)
          have g2 := hcell 2 (by omega)
          have g3 := hcell 3 (by omega)
          rw [Go.Deep.add_add] at g0 g1 g2 g3
          exact ⟨(x0, x1, x2, x3), ⟨by simpa using g0, by simpa using g1, by simpa using g2, by simpa using g3⟩, u8_wf w0, i64_wf w1, i64_wf w2, u8_wf w3⟩
    obtain ⟨q, hq⟩ := Go.Deep.choose_lt each
    refine ⟨some a, len0, m, fun i => (q i).1, fun i => (q i).2.1, fun i => (q i).2.2.1, fun i => (q i).2.2.2, rfl, hl, by unfold maxLen at hm; omega, ⟨?_, fun i hi => (hq i hi).2.1, fun i hi => (hq i hi).2.2.1, fun i hi => (hq i hi).2.2.2.1, fun i hi => (hq i hi).2.2.2.2⟩⟩
    intro i hi
    have h0 := (hq 0 (by omega)).1.1
    have hi4 := (hq i hi).1
    obtain ⟨b, o, sp⟩ := a
    have hsp : sp = none := by
      cases sp with
      | none => rfl
      | some x =>
        exfalso
        simp only [Nat.zero_mul, World.cell?, Addr.add] at h0
        simp at h0
        split at h0 <;> cases h0
    subst hsp
    rw [addr_add, addr_add, addr_add, addr_add] at hi4
    have hb : b < w.heap.size := by
      have := hi4.1
      simp only [World.cell?] at this
      split at this
      · rename_i e; exact heap_lt e
      · cases this
    exact ⟨b, o, rfl, hb, hi4.1, by rw [Nat.add_assoc]; exact hi4.2.1, by rw [Nat.add_assoc]; exact hi4.2.2.1, by rw [Nat.add_assoc]; exact hi4.2.2.2⟩
end Go.Proofs.Ytdbjljbkneopcaa
