/- A slice of slices of numbers that came in, opened. -/
import Derived.Test.YtdbjljbkneopcaaDoorRowTab
import Derived.Test.YtdbjljbkneopcaaDoorStoreI
import Derived.Lib.SmallJoins
import Derived.Deep.Slices
import Derived.Deep.Strs
namespace Go.Proofs.YtdbjljbkneopcaaDoor
open Go.ChangeShapes Go.WideShapes Go.ChangeAt Go.RowKit
set_option linter.unusedSimpArgs false
set_option linter.unusedVariables false
theorem intsCells : Tryd.prog.cellsOf 22 = 1 := by kernel_rfl
theorem Rd.own_lt {w : World} {b o c : Nat} {l : List Int} (h : Rd w (.slice (some ⟨b, o, none⟩) l.length c) l) (hl : 0 < l.length) : b < w.heap.size := h.blk hl
set_option maxRecDepth 100000 in
theorem rows_open {H : Type} {enc : TypeId × Value → H} {w : World} {r : Reach} {b0 : Nat} {v : Value} {d : DataW H} {p : List MemPlace}
    (hv : Value.okWide Tryd.prog w r b0 39 v) (h : DataW.Trod enc Tryd.prog w 0 (fun _ => true) true 39 v d p) :
    ∃ L : List (List Int), Rr (fun _ => True) w v L := by
  obtain ⟨a0, len0, cap0, rfl⟩ := okWide_slice Tryd.underlying39 hv
  obtain ⟨fuel, hf⟩ := h
  rcases Go.Deep.open_slice Tryd.underlying39 hf with ⟨hc, _⟩ | ⟨a, len, cap, m, n, Df, Pl, hc, _, hl, hm, hmm, _, hx⟩
  · simp [Value.cells] at hc
    obtain ⟨rfl, rfl, rfl⟩ := hc
    exact ⟨[], ⟨⟨none, 0, rfl⟩, Nat.zero_le _, fun A n c e => (by cases e; exact ⟨Nat.le_refl _, fun _ => ⟨rfl, rfl⟩⟩), fun h => (by cases h)⟩⟩
  · simp [Value.cells] at hc
    obtain ⟨rfl, rfl, rfl⟩ := hc
    have hmc : m = cap0 := by simpa using hmm
    subst hmc
    have each : ∀ i, i < len0 → ∃ q : Value × List Int, w.cell? (a.add i) = some q.1 ∧ Rd w q.1 q.2 := by
      intro i hi
      obtain ⟨cs', h1, h2⟩ := hx i (by omega)
      rw [intsCells] at h1
      obtain ⟨_, hlen, hcell⟩ := World.cells?_some h1
      match cs', hlen with
      | [u0], _ =>
        obtain ⟨l, hr, _⟩ := ints_trod h2
        have g0 := hcell 0 (by omega)
        rw [Go.Deep.add_add] at g0
        exact ⟨(u0, l), by simpa using g0, hr⟩
    obtain ⟨q, hq⟩ := Go.Deep.choose_lt each
    have hln : ((List.range len0).map fun i => (q i).2).length = len0 := by simp
    refine ⟨(List.range len0).map fun i => (q i).2, ⟨⟨some a, m, by rw [hln]⟩, by rw [hln]; unfold maxLen at hm; omega, fun A n c e => (by cases e; exact ⟨hl, fun e => by cases e⟩), fun h0 => ?_⟩⟩
    rw [hln] at h0 ⊢
    obtain ⟨b, o, sp⟩ := a
    have hsp : sp = none := by
      cases sp with
      | none => rfl
      | some x =>
        exfalso
        have h0 := (hq 0 h0).1
        simp only [World.cell?, Addr.add] at h0
        simp at h0
        split at h0 <;> cases h0
    subst hsp
    have hb : b < w.heap.size := by
      have := (hq 0 h0).1
      rw [addr_add'] at this
      simp only [World.cell?] at this
      split at this
      · rename_i e; exact heap_lt e
      · cases this
    refine ⟨b, o, m, rfl, hb, trivial, fun j hj => ⟨(q j).1, ?_, ?_, fun _ _ => trivial⟩⟩
    · have := (hq j hj).1
      rwa [addr_add'] at this
    · have e : ((List.range len0).map fun i => (q i).2).getD j [] = (q j).2 := by
        rw [List.getD_eq_getElem?_getD, List.getElem?_map, List.getElem?_range hj]
        rfl
      rw [e]
      exact (hq j hj).2
end Go.Proofs.YtdbjljbkneopcaaDoor
