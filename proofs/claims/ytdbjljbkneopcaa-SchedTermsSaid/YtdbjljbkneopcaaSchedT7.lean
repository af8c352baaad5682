/- The law SchedTerms, walked: it tells true. -/
import Derived.Test.YtdbjljbkneopcaaSchedW
namespace Go.Proofs.Ytdbjljbkneopcaa
open Go.RowKit
set_option linter.unusedSimpArgs false
set_option linter.unusedVariables false

/-- Term and the document's, at every whole number. -/
def Sched.term (k : Int) : Int := Sched.luby k.toNat

set_option maxHeartbeats 400000 in
theorem sched_term_any (k : Int) (w : World) (h : k ≤ 9223372036854775807) :
    Calls Try.prog 27 #[.int .i64 k] w fun e w' => e = .returned (.int .i64 (Sched.term k)) ∧ w = w' := by
  rcases Int.lt_or_le k 0 with hk | hk
  · have HF := Lib.hid (show Sched.term k = 0 by unfold Sched.term; rw [show k.toNat = 0 from by omega, Sched.luby_zero]; rfl)
    go_enter Try.func27, Try.ntmps27
    go_wp2
    go_loop [0] (fun x => x = .int .i64 k) (fun x => 0)
    case atStart => rfl
    case round =>
      obtain rfl := hrel
      go_wp2
      go_ret
      exact ⟨ret_int HF.out.symm, rfl⟩
  · obtain ⟨m, rfl⟩ := Int.eq_ofNat_of_zero_le hk
    exact sched_term m w (by omega)
set_option maxHeartbeats 400000 in
theorem ref_term_any (k : Int) (w : World) (h : k ≤ 9223372036854775807) :
    Calls Try.prog 28 #[.int .i64 k] w fun e w' => e = .returned (.int .i64 (Sched.term k)) ∧ w = w' := by
  rcases Int.lt_or_le k 0 with hk | hk
  · have HF := Lib.hid (show Sched.term k = 0 by unfold Sched.term; rw [show k.toNat = 0 from by omega, Sched.luby_zero]; rfl)
    go_enter Try.func28, Try.ntmps28
    go_wp2
    go_ret
    exact ⟨ret_int HF.out.symm, rfl⟩
  · obtain ⟨m, rfl⟩ := Int.eq_ofNat_of_zero_le hk
    exact ref_term m m w (Nat.le_refl _) (by omega)

set_option maxHeartbeats 400000 in
theorem law_terms (k : Int) (w : World) (h : k ≤ 9223372036854775807) :
    Calls Try.prog 7 #[.int .i64 k] w fun e w' => e = .returned (.bool true) ∧ Below w.heap.size w w' := by
  have b1 : 0 ≤ max 0 k % 62 := by omega
  have b2 : max 0 k % 62 ≤ 61 := by omega
  go_enter Try.func7, Try.ntmps7
  go_wp2
  go_region
  have c3 := wrap64_in (2 ^ (max 0 k % 62).toNat)
  have c4 := wrap64_in (wrap64 (2 ^ (max 0 k % 62).toNat) - 1)
  generalize wrap64 (wrap64 (2 ^ (max 0 k % 62).toNat) - 1) = e4 at *
  generalize wrap64 (2 ^ (max 0 k % 62).toNat) = e3 at *
  have c2 : max 0 k % 5000 ≤ 9223372036854775807 := by omega
  generalize max 0 k % 5000 = e2 at *
  obtain ⟨_, c3⟩ := c3
  obtain ⟨_, c4⟩ := c4
  go_wp2
  go_loop [20] (fun x => ∃ j : Nat, j ≤ 4 ∧ x = .int .i64 j) (fun x => 4 - (intOf x).toNat)
  case atStart => exact ⟨0, by omega, rfl⟩
  case round =>
    obtain ⟨j, hj, rfl⟩ := hrel
    have hc : j = 0 ∨ j = 1 ∨ j = 2 ∨ j = 3 ∨ j = 4 := by omega
    rcases hc with rfl | rfl | rfl | rfl | rfl
    all_goals
      go_wp2_with (first
        | (go_at_call 27; refine (sched_term_any _ _ (by assumption)).mono ?_; rintro e w' ⟨rfl, rfl⟩)
        | (go_at_call 28; refine (ref_term_any _ _ (by assumption)).mono ?_; rintro e w' ⟨rfl, rfl⟩)
        | (go_at_call 26; refine (sched_wakes _).mono ?_; rintro e w' ⟨rfl, hb⟩))
      first
        | exact ⟨⟨1, by omega, rfl⟩, by simp [intOf]⟩
        | exact ⟨⟨2, by omega, rfl⟩, by simp [intOf]⟩
        | exact ⟨⟨3, by omega, rfl⟩, by simp [intOf]⟩
        | exact ⟨⟨4, by omega, rfl⟩, by simp [intOf]⟩
        | (go_ret
           exact ⟨rfl, by repeat (first | exact Below.refl _ _ | refine below_call ?_ (by assumption) | refine Below.drew ?_ | refine below_alloc ?_ _)⟩)
end Go.Proofs.Ytdbjljbkneopcaa
