/- The contract of room; a number is set. -/
import Derived.Test.YtdbjljbkneopcaaDoorDomI
import Derived.Laws.MakeOwn
namespace Go.Proofs.YtdbjljbkneopcaaDoor
open Go.RowKit
set_option linter.unusedSimpArgs false
set_option linter.unusedVariables false

/-- Words of nothing. -/
def Dm.Rm (low high : Int) (w : World) (e : Ending) (w' : World) : Prop :=
  ∃ (b n : Nat), e = .returned (.agg #[.int .i64 (low - low % 64), .slice (some ⟨b, 0, none⟩) n n, .int .i64 0, .int .i64 0, .int .i64 0]) ∧ (n : Int) = (high - high % 64 - (low - low % 64)) / 64 + 1 ∧
    Sl w' 140 1 (.slice (some ⟨b, 0, none⟩) n n) n (Dm.u64s (List.replicate n 0)) ∧ w.heap.size ≤ b ∧ Below w.heap.size w w'
set_option maxHeartbeats 1000000 in
theorem dom_room (low high : Int) (w : World) (h1 : -1000000 ≤ low) (h2 : low ≤ high) (h3 : high ≤ 1000000) :
    Calls Tryd.prog 88 #[.int .i64 low, .int .i64 high] w (Dm.Rm low high w) := by
  obtain ⟨n, hn⟩ : ∃ n : Nat, (n : Int) = (high - high % 64 - (low - low % 64)) / 64 + 1 := ⟨((high - high % 64 - (low - low % 64)) / 64 + 1).toNat, by omega⟩
  have hmk : ∀ w : World, (Instr.makeSlice 23 (.int .i64 (n : Int)) (.int .i64 (n : Int))).run Tryd.prog w = .ok (.slice (some ⟨w.heap.size, 0, none⟩) n n) (w.alloc (.cells (madeCells #[.int .u64 0] n) 140)) := by
    intro w
    obtain ⟨i0, hi, hz0, hz1, hz2⟩ := info_parts infoU64
    have := run_makeSlice (P := Tryd.prog) w 23 140 i0 (.int .u64 0) Tryd.underlying23 hi hz0 .i64 .i64 (n : Int) (n : Int) (by omega) (by omega) (by rw [hz1]; omega) (by rw [hz2]; omega) (by omega)
    rw [this, hz1, Nat.mul_one]
    rfl
  have P1 := Lib.hid (fun w => dom_place low w (by omega) (by omega))
  have P2 := Lib.hid (fun w => dom_place high w (by omega) (by omega))
  have hnn := hn.symm
  have HN := Lib.hid hn
  clear hn
  go_enter Tryd.func88, Tryd.ntmps88
  go_wp2_with fail
  refine (P1.out _).mono ?_
  rintro e w1 ⟨rfl, rfl⟩
  go_wp2_with fail
  refine (P2.out _).mono ?_
  rintro e w1 ⟨rfl, rfl⟩
  go_wp2_with fail
  refine (P1.out _).mono ?_
  rintro e w1 ⟨rfl, rfl⟩
  go_wp2_with fail
  refine bodyPost_ret (v := .agg #[.int .i64 (low - low % 64), .slice (some ⟨w.heap.size + 1, 0, none⟩) n n, .int .i64 0, .int .i64 0, .int .i64 0]) (by simp [results, Tryd.results88, go_sem]) rfl ?_
  refine ⟨w.heap.size + 1, n, rfl, HN.out, ?_, by omega, below_alloc (below_alloc (Below.refl _ _) _) _⟩
  have hz := heap_new (w.alloc (.cells #[.int .i64 (low - low % 64), .slice (some ⟨w.heap.size + 1, 0, none⟩) n n, .int .i64 0, .int .i64 0, .int .i64 0] 25)) (.cells (madeCells #[.int .u64 0] n) 140)
  rw [show (w.alloc (.cells #[.int .i64 (low - low % 64), .slice (some ⟨w.heap.size + 1, 0, none⟩) n n, .int .i64 0, .int .i64 0, .int .i64 0] 25)).heap.size = w.heap.size + 1 from by simp] at hz
  refine ⟨by simp [Dm.u64s], .inr ⟨w.heap.size + 1, 0, n, _, rfl, hz, Nat.le_refl _, by unfold maxLen; omega, by rw [size_madeCells]; omega, fun j hj => ?_⟩⟩
  have := toList_madeCells_one (.int .u64 0) n
  rw [← Array.getElem?_toList, this, List.getElem?_replicate, if_pos (by omega)]
  unfold Dm.u64s
  rw [List.map_replicate, List.getElem?_replicate, if_pos (by omega)]
  rfl
end Go.Proofs.YtdbjljbkneopcaaDoor
