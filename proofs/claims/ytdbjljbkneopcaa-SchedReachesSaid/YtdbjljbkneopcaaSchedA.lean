/- The contract of sched.Schedule.Check. -/
import Derived.Test.YtdbjljbkneopcaaWords
namespace Go.Proofs.Ytdbjljbkneopcaa
open Go.RowKit
set_option linter.unusedSimpArgs false
set_option linter.unusedVariables false

/-- What Check tells of a schedule: 0 or 2. -/
def Sched.chk (k u n d : Int) : Int :=
  if (k = 1 ∧ 1 ≤ u ∧ u ≤ 1000000 ∧ n = 0 ∧ d = 0) ∨ (k = 2 ∧ 1 ≤ u ∧ u ≤ 1000000 ∧ 1 ≤ d ∧ d < n ∧ n ≤ 1000) ∨ ((k = 0 ∨ k = 3 ∨ k = 4) ∧ u = 0 ∧ n = 0 ∧ d = 0) then 0 else 2

set_option maxHeartbeats 400000 in
theorem sched_check (k u n d : Int) (w : World) :
    Calls Try.prog 22 #[.agg #[.int .i64 k, .int .i64 u, .int .i64 n, .int .i64 d]] w fun e w' =>
      e = .returned (.int .i64 (Sched.chk k u n d)) ∧ Below w.heap.size w w' := by
  go_enter Try.func22, Try.ntmps22
  go_wp2
  all_goals
    go_ret
    refine ⟨ret_int ?_, (Below.refl _ _).alloc (Nat.le_refl _) _⟩
    (try simp only [beq_iff_eq, beq_eq_false_iff_ne, ne_eq, decide_eq_true_eq, decide_eq_false_iff_not, Bool.not_eq_true', Bool.not_eq_false'] at *)
    unfold Sched.chk
    first | (rw [if_pos (by omega)]; done) | (rw [if_neg (by omega)]; done) | trace_state


theorem sched_check_yes (k u n d : Int) (w : World) (h : Sched.chk k u n d = 0) :
    Calls Try.prog 22 #[.agg #[.int .i64 k, .int .i64 u, .int .i64 n, .int .i64 d]] w fun e w' =>
      e = .returned (.int .i64 0) ∧ Below w.heap.size w w' := by
  have := sched_check k u n d w
  rwa [h] at this
theorem sched_check_no (k u n d : Int) (w : World) (h : Sched.chk k u n d ≠ 0) :
    Calls Try.prog 22 #[.agg #[.int .i64 k, .int .i64 u, .int .i64 n, .int .i64 d]] w fun e w' =>
      e = .returned (.int .i64 2) ∧ Below w.heap.size w w' := by
  have := sched_check k u n d w
  have e : Sched.chk k u n d = 2 := by
    unfold Sched.chk at h ⊢
    split at h
    · exact absurd rfl h
    · rw [if_neg ‹_›]
  rwa [e] at this
end Go.Proofs.Ytdbjljbkneopcaa
