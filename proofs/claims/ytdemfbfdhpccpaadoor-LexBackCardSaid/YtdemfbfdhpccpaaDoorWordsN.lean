/- Small words that all walks of this seat use. -/
import Derived.Test.YtdemfbfdhpccpaaDoorProg
import Derived.WalkKit
import Derived.KernelRfl
import Derived.Lib.Hide
import Derived.WalkSpells
import Derived.Deep.QuietTactic
import Derived.BigQuiet
import Derived.StillTailTactics
namespace Go.Proofs.YtdemfbfdhpccpaaDoor
open Go.RowKit
set_option linter.unusedSimpArgs false
set_option linter.unusedVariables false

theorem ret_int {k : IntKind} {a b : Int} (h : a = b) : Ending.returned (.int k a) = .returned (.int k b) := by rw [h]
theorem ret_bool {a b : Bool} (h : a = b) : Ending.returned (.bool a) = .returned (.bool b) := by rw [h]
theorem wrap64_in (x : Int) : -9223372036854775808 ≤ wrap64 x ∧ wrap64 x ≤ 9223372036854775807 := by unfold wrap64; omega
theorem below_drewN {B : Nat} {a w : World} (h : Below B a w) (n : Nat) : Below B a (w.drewN n) := ⟨h.os, h.tape, h.output, h.size, h.block⟩
theorem below_alloc {w0 W : World} (h : Below w0.heap.size w0 W) (o : Obj) : Below w0.heap.size w0 (W.alloc o) := h.alloc h.size o
theorem below_call {w0 W w' : World} (h : Below w0.heap.size w0 W) (hb : Below W.heap.size W w') : Below w0.heap.size w0 w' := h.trans (hb.mono h.size)
theorem below_set {w0 W : World} (h : Below w0.heap.size w0 W) {p : Addr} (hp : w0.heap.size ≤ p.block) (u : Value) : Below w0.heap.size w0 (W.setCell p u) := h.setCell hp u
/-- Go's max and min of two whole numbers, as Lean's own. -/
theorem go_max_int (ats : Array TypeId) (ty : TypeId) (k : IntKind) (x y : Int) : Builtin.max_ ats ty #[.int k x, .int k y] = pure (.int k (max x y)) := by
  simp only [Builtin.max_, List.foldlM_cons, List.foldlM_nil, Builtin.max2, gt_iff_lt]
  have e : max x y = if x < y then y else x := by split <;> omega
  rw [e]; split <;> rfl
theorem go_min_int (ats : Array TypeId) (ty : TypeId) (k : IntKind) (x y : Int) : Builtin.min_ ats ty #[.int k x, .int k y] = pure (.int k (min x y)) := by
  simp only [Builtin.min_, List.foldlM_cons, List.foldlM_nil, Builtin.min2]
  have e : min x y = if y < x then y else x := by split <;> omega
  rw [e]; split <;> rfl
theorem bcell {W w1 : World} (hb : Below W.heap.size W w1) : (∀ b o, b < W.heap.size → w1.cell? ⟨b, o, none⟩ = W.cell? ⟨b, o, none⟩) ∧ (∀ b o, b < W.heap.size → w1.frozen? ⟨b, o, none⟩ = W.frozen? ⟨b, o, none⟩) :=
  ⟨fun b o h => hb.cell (p := ⟨b, o, none⟩) h, fun b o h => hb.frozen (p := ⟨b, o, none⟩) h⟩
end Go.Proofs.YtdemfbfdhpccpaaDoor
