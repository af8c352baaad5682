/- The laws wakes and QueueNil of layer 4, walked: they tell true. -/
import Derived.Test.YtdbjljbkneopcaaQueueV
namespace Go.Proofs.Ytdbjljbkneopcaa
open Go.RowKit
set_option linter.unusedSimpArgs false
set_option linter.unusedVariables false

theorem queue_push_nil (id bucket : Int) (w : World) : Calls Try.prog 11 #[.pointer none, .int .i64 id, .int .i64 bucket] w fun e w' => e = .returned (.bool false) ∧ w = w' := by
  go_enter Try.func11, Try.ntmps11
  go_wp2_with (go_at_call 30; refine (queue_is_nil _ _).mono ?_; rintro e w1 ⟨rfl, rfl⟩)
  go_ret
  exact ⟨rfl, rfl⟩
theorem queue_has_nil (id : Int) (w : World) : Calls Try.prog 13 #[.pointer none, .int .i64 id] w fun e w' => e = .returned (.bool false) ∧ w = w' := by
  go_enter Try.func13, Try.ntmps13
  go_wp2_with (go_at_call 30; refine (queue_is_nil _ _).mono ?_; rintro e w1 ⟨rfl, rfl⟩)
  go_ret
  exact ⟨rfl, rfl⟩
theorem queue_len_nil (w : World) : Calls Try.prog 15 #[.pointer none] w fun e w' => e = .returned (.int .i64 0) ∧ w = w' := by
  go_enter Try.func15, Try.ntmps15
  go_wp2
  go_loop [3, 5] (fun s3 s5 => s3 = .int .i64 0 ∧ ∃ j : Nat, j ≤ 4 ∧ s5 = .int .i64 j) (fun _ s5 => 4 - (intOf s5).toNat)
  case atStart => exact ⟨rfl, 0, by omega, rfl⟩
  case round =>
    obtain ⟨rfl, j, hj, rfl⟩ := hrel
    rcases Nat.lt_or_ge j 4 with h | h
    · go_wp2
      go_round
      case rel => exact ⟨rfl, j + 1, by omega, by go_num⟩
      case measure => simp [intOf]; omega
    · go_wp2
      go_ret
      exact ⟨rfl, rfl⟩

set_option maxHeartbeats 1000000 in
theorem queue_wakes (w : World) : Calls Try.prog 14 #[] w fun e w' => e = .returned (.bool true) ∧ Below w.heap.size w w' := by
  go_enter Try.func14, Try.ntmps14
  go_wp2_with fail
  refine (queue_new 6 _ (by omega)).mono ?_
  rintro e w1 ⟨g, S1, rfl, a1, n1, b1⟩
  go_wp2_with fail
  refine (queue_push 3 1 _ (by decide) (by decide) a1 (by decide) (by decide)).mono ?_
  rintro e w2 ⟨rfl, S2, a2, f2, c2⟩
  go_wp2_with fail
  refine (queue_push 5 0 _ (by decide) (by decide) a2 (by decide) (by decide)).mono ?_
  rintro e w3 ⟨rfl, S3, a3, f3, c3⟩
  go_wp2_with fail
  refine (queue_push_no 3 0 _ (by decide) a3 (Or.inr (by decide))).mono ?_
  rintro e w4 ⟨rfl, rfl⟩
  go_wp2_with fail
  refine (queue_pop _ (by decide) (by decide) a3 1 ⟨by decide, by decide, by decide⟩).mono ?_
  rintro e w5 ⟨rfl, S5, a5, f5, c5⟩
  go_wp2_with fail
  refine (queue_pop _ (by decide) (by decide) a5 0 ⟨by decide, by decide, by decide⟩).mono ?_
  rintro e w6 ⟨rfl, S6, a6, f6, c6⟩
  go_wp2_with fail
  refine (queue_pop_none _ a6).mono ?_
  rintro e w7 ⟨rfl, rfl⟩
  go_wp2_with fail
  go_ret
  have k1 : ∀ k, S1 k → w.heap.size ≤ k := n1
  have k2 : ∀ k, S2 k → w.heap.size ≤ k := fun k hk => (c2 k hk).elim (k1 k) (fun h => Nat.le_trans b1.size h)
  have B2 := Fr.below b1 f2 k1
  have k3 : ∀ k, S3 k → w.heap.size ≤ k := fun k hk => (c3 k hk).elim (k2 k) (fun h => Nat.le_trans B2.size h)
  have B3 := Fr.below B2 f3 k2
  have k5 : ∀ k, S5 k → w.heap.size ≤ k := fun k hk => (c5 k hk).elim (k3 k) (fun h => Nat.le_trans B3.size h)
  have B5 := Fr.below B3 f5 k3
  exact ⟨rfl, Fr.below B5 f6 k5⟩

set_option maxHeartbeats 1000000 in
theorem law_queue_nil (id bucket : Int) (w : World) : Calls Try.prog 5 #[.int .i64 id, .int .i64 bucket] w fun e w' => e = .returned (.bool true) ∧ Below w.heap.size w w' := by
  go_enter Try.func5, Try.ntmps5
  go_wp2_with fail
  refine (queue_clear_nil _).mono ?_
  rintro e w1 ⟨rfl, rfl⟩
  go_wp2_with fail
  refine (queue_pop_nil _).mono ?_
  rintro e w1 ⟨rfl, rfl⟩
  go_wp2_with fail
  refine (queue_new _ _ (by omega)).mono ?_
  rintro e w1 ⟨g, S1, rfl, a1, n1, b1⟩
  rw [show (min 0 id).toNat = 0 from by omega] at a1
  have A1 := Lib.hid a1
  clear a1
  go_wp2_with fail
  refine (queue_wakes _).mono ?_
  rintro e w2 ⟨rfl, b2⟩
  have A2 := Lib.hid (A1.out.call b2)
  go_wp2_with fail
  refine (queue_push_nil _ _ _).mono ?_
  rintro e w3 ⟨rfl, rfl⟩
  go_wp2_with fail
  refine (queue_has_nil _ _).mono ?_
  rintro e w3 ⟨rfl, rfl⟩
  go_wp2_with fail
  refine (queue_len_nil _).mono ?_
  rintro e w3 ⟨rfl, rfl⟩
  go_wp2_with fail
  refine (queue_push_no _ _ _ (by decide) A2.out (Or.inl (by omega))).mono ?_
  rintro e w3 ⟨rfl, rfl⟩
  go_wp2_with fail
  refine (queue_push_no _ _ _ (by decide) A2.out (Or.inl (by omega))).mono ?_
  rintro e w3 ⟨rfl, rfl⟩
  go_wp2_with fail
  refine (queue_len _ (by decide) A2.out).mono ?_
  rintro e w3 ⟨rfl, rfl⟩
  go_wp2_with fail
  go_ret
  exact ⟨rfl, below_call b1 b2⟩
end Go.Proofs.Ytdbjljbkneopcaa
