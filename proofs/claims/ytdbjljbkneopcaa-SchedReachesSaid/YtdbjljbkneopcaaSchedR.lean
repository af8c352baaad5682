/- The contracts of the document's answer for layer 26: Check, Term, Cutoff. -/
import Derived.Test.YtdbjljbkneopcaaSchedC
namespace Go.Proofs.Ytdbjljbkneopcaa
open Go.RowKit
set_option linter.unusedSimpArgs false
set_option linter.unusedVariables false

theorem Sched.chk_iff (k u n d : Int) : Sched.chk k u n d = 0 ↔ ((k = 1 ∧ 1 ≤ u ∧ u ≤ 1000000 ∧ n = 0 ∧ d = 0) ∨ (k = 2 ∧ 1 ≤ u ∧ u ≤ 1000000 ∧ 1 ≤ d ∧ d < n ∧ n ≤ 1000) ∨ ((k = 0 ∨ k = 3 ∨ k = 4) ∧ u = 0 ∧ n = 0 ∧ d = 0)) := by
  unfold Sched.chk
  split
  · simp_all
  · simp_all
theorem Sched.step_low (m j : Nat) (h1 : 1 ≤ m) (h2 : m ≤ 9223372036854775807) (hj : 2 ^ j ≤ m) (hg : m < 2 * 2 ^ j) : Lib.bitLen m = j + 1 := by
  have f := Sched.bitLen_facts m h1 h2
  have a := Sched.bitLen_lt m (j + 1) h2 (by rw [Nat.pow_succ]; omega)
  rcases Nat.lt_or_ge (Lib.bitLen m) (j + 1) with h | h
  · exfalso
    have := Nat.pow_le_pow_right (n := 2) (by omega) (show Lib.bitLen m ≤ j by omega)
    omega
  · omega

set_option maxHeartbeats 1000000 in
set_option maxRecDepth 100000 in
theorem ref_term (n : Nat) : ∀ (m : Nat) (w : World), m ≤ n → m ≤ 9223372036854775807 →
    Calls Try.prog 28 #[.int .i64 m] w fun e w' => e = .returned (.int .i64 (Sched.luby m)) ∧ w = w' := by
  induction n with
  | zero =>
    intro m w hm _
    obtain rfl : m = 0 := by omega
    go_enter Try.func28, Try.ntmps28
    go_wp2
    go_ret
    exact ⟨ret_int (by rw [Sched.luby_zero]; rfl), rfl⟩
  | succ n ih =>
    intro m w hmn hm
    have IH := Lib.hid ih
    clear ih
    rcases Nat.eq_zero_or_pos m with rfl | hp
    · go_enter Try.func28, Try.ntmps28
      go_wp2
      go_ret
      exact ⟨ret_int (by rw [Sched.luby_zero]; rfl), rfl⟩
    · by_cases hmax : m = 9223372036854775807
      · have Hm := Lib.hid hmax
        have hb : ((m : Int) == 9223372036854775807) = true := by simp; omega
        clear hmax
        go_enter Try.func28, Try.ntmps28
        go_wp2
        go_ret
        refine ⟨ret_int ?_, rfl⟩
        rw [Hm.out]
        decide +kernel
      · have hb : ((m : Int) == 9223372036854775807) = false := by simp; omega
        have hm' : m ≤ 9223372036854775806 := by omega
        clear hmax
        go_enter Try.func28, Try.ntmps28
        go_wp2
        go_loop [3] (fun x => ∃ P : Int, 1 ≤ P ∧ P ≤ 2305843009213693952 ∧ P ≤ m ∧ x = .int .i64 P ∧ Hid (∃ j, j ≤ 61 ∧ P = (2 ^ j : Nat))) (fun x => m - (intOf x).toNat)
        case atStart => exact ⟨1, by omega, by omega, by omega, rfl, ⟨0, by omega, rfl⟩⟩
        case round =>
          obtain ⟨P, hP1, hP2, hP3, rfl, hj⟩ := hrel
          have K := Lib.hid (And.intro hm hm')
          by_cases c1 : P * 2 - 1 < (m : Int)
          · by_cases c2 : P < 2305843009213693952
            · go_wp2
              go_round
              case rel =>
                refine ⟨P * 2, by omega, ?_, by omega, rfl, ?_⟩
                · obtain ⟨j, hj1, rfl⟩ := hj.out
                  rcases Nat.lt_or_ge j 61 with g | g
                  · have := Nat.pow_le_pow_right (n := 2) (by omega) (show j + 1 ≤ 61 by omega)
                    rw [Nat.pow_succ] at this; omega
                  · have := Nat.pow_le_pow_right (n := 2) (by omega) g
                    omega
                · obtain ⟨j, hj1, rfl⟩ := hj.out
                  refine ⟨j + 1, ?_, by rw [Nat.pow_succ]; omega⟩
                  rcases Nat.lt_or_ge j 61 with g | g
                  · omega
                  · have := Nat.pow_le_pow_right (n := 2) (by omega) g
                    omega
              case measure => simp [intOf]; omega
            · have hfin : Sched.luby m = Sched.luby (m - (P.toNat * 2 - 1)) := by
                obtain ⟨j, hj1, rfl⟩ := hj.out
                have h61 : (2 : Nat) ^ j = 2305843009213693952 := by omega
                have hL := Sched.step_low m 62 hp hm (by omega) (by omega)
                rw [Sched.luby_next m hp hm (by rw [hL]; omega), hL]
                refine congrArg Sched.luby ?_
                rw [Int.toNat_natCast, h61]
                omega
              have HF := Lib.hid hfin
              have hne : (P * 2 - 1 == (m : Int)) = false := by simp; omega
              have hP4 : P ≤ 3000000000000000000 := by omega
              have c4 : decide (P < 2305843009213693952) = false := by simpa using c2
              clear hfin hP2 c2
              go_wp2_with fail
              rw [show ((m : Int) - (P * 2 - 1)) = ((m - (P.toNat * 2 - 1) : Nat) : Int) from by omega]
              refine (IH.out (m - (P.toNat * 2 - 1)) _ (by omega) (by omega)).mono ?_
              rintro e w' ⟨rfl, rfl⟩
              go_wp2
              go_ret
              exact ⟨ret_int (by rw [HF.out]), rfl⟩
          · by_cases c3 : P * 2 - 1 = (m : Int)
            · have hne : (P * 2 - 1 == (m : Int)) = true := by simp; omega
              have hfin : (Sched.luby m : Int) = P := by
                obtain ⟨j, hj1, rfl⟩ := hj.out
                have hL := Sched.step_low m j hp hm (by omega) (by omega)
                rw [Sched.luby_end m hp (by rw [hL, Nat.pow_succ]; omega), hL]
                rfl
              have HF := Lib.hid hfin
              clear hfin c3
              go_wp2
              go_ret
              exact ⟨ret_int (by rw [HF.out]), rfl⟩
            · have hne : (P * 2 - 1 == (m : Int)) = false := by simp; omega
              have hfin : Sched.luby m = Sched.luby (m - P.toNat + 1) := by
                obtain ⟨j, hj1, rfl⟩ := hj.out
                have hL := Sched.step_low m j hp hm (by omega) (by omega)
                rw [Sched.luby_next m hp hm (by rw [hL, Nat.pow_succ]; omega), hL]
                congr 1
                rw [Int.toNat_natCast, Nat.add_sub_cancel]
                omega
              have HF := Lib.hid hfin
              clear hfin
              go_wp2_with fail
              rw [show ((m : Int) - P + 1) = ((m - P.toNat + 1 : Nat) : Int) from by omega]
              refine (IH.out (m - P.toNat + 1) _ (by omega) (by omega)).mono ?_
              rintro e w' ⟨rfl, rfl⟩
              go_wp2
              go_ret
              exact ⟨ret_int (by rw [HF.out]), rfl⟩

set_option maxHeartbeats 400000 in
theorem ref_check (k u n d : Int) (w : World) :
    Calls Try.prog 21 #[.int .i64 k, .int .i64 u, .int .i64 n, .int .i64 d] w fun e w' => e = .returned (.bool (Sched.chk k u n d == 0)) ∧ w = w' := by
  go_enter Try.func21, Try.ntmps21
  go_wp2
  all_goals
    go_ret
    refine ⟨ret_bool ?_, rfl⟩
    (try simp only [beq_iff_eq, beq_eq_false_iff_ne, ne_eq, decide_eq_true_eq, decide_eq_false_iff_not, Bool.not_eq_true', Bool.not_eq_false'] at *)
    rw [Bool.eq_iff_iff]
    simp only [beq_iff_eq, Sched.chk_iff]
    (try simp only [Bool.and_eq_true, Bool.or_eq_true, beq_iff_eq, decide_eq_true_eq, Bool.false_eq_true, true_iff, false_iff])
    omega
end Go.Proofs.Ytdbjljbkneopcaa
