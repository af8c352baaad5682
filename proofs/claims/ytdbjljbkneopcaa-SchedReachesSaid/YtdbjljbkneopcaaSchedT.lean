/- The contract of sched.Term: Luby's sequence. -/
import Derived.Test.YtdbjljbkneopcaaShelf
import Derived.Test.YtdbjljbkneopcaaWords
import Derived.Test.YtdbjljbkneopcaaSchedM
namespace Go.Proofs.Ytdbjljbkneopcaa
open Go.RowKit
set_option linter.unusedSimpArgs false
set_option linter.unusedVariables false

set_option maxHeartbeats 400000 in
theorem sched_term (k : Nat) (w : World) (h : k ≤ 9223372036854775807) :
    Calls Try.prog 27 #[.int .i64 k] w fun e w' => e = .returned (.int .i64 (Sched.luby k)) ∧ w = w' := by
  go_enter Try.func27, Try.ntmps27
  go_wp2
  go_loop [0] (fun x => ∃ m : Nat, m ≤ 9223372036854775807 ∧ x = .int .i64 m ∧ Hid (Sched.luby k = Sched.luby m)) (fun x => (intOf x).toNat)
  case atStart => exact ⟨k, h, rfl, rfl⟩
  case round =>
    obtain ⟨m, hm, rfl, hl⟩ := hrel
    by_cases h1 : 1 ≤ m
    · obtain ⟨hL1, hL2, hp1, hp2⟩ := Sched.bitLen_facts m h1 hm
      have HP := Lib.hid (And.intro hp1 hp2)
      clear hp1 hp2
      have HW1 := Lib.hid (Sched.w1 (Lib.bitLen m) hL2)
      have HW2 := Lib.hid (Sched.w2 (Lib.bitLen m - 1) (by omega))
      have HE := Lib.hid (Sched.luby_end m h1)
      have HN := Lib.hid (Sched.luby_next m h1 hm)
      have Hpow := Lib.hid (Sched.half _ hL1)
      go_wp2_with (go_at_call 31; refine (Try.bits_Len _ _ (by omega) (by omega)).mono ?_; rintro e w' ⟨rfl, rfl⟩)
      · go_ret
        refine ⟨ret_int ?_, rfl⟩
        have hb := ‹(_ == _) = true›
        rw [HW1.out, beq_iff_eq] at hb
        have e1 := Sched.icast (Lib.bitLen m)
        rw [HW2.out, hl.out, HE.out (by omega), Sched.icast]
      · have hb := ‹(_ == _) = false›
        rw [HW1.out, beq_eq_false_iff_ne] at hb
        have e1 := Sched.icast (Lib.bitLen m)
        have e2 := Sched.icast (Lib.bitLen m - 1)
        have P := HP.out
        have Q := Hpow.out
        have R := Nat.one_le_two_pow (n := Lib.bitLen m - 1)
        have hw : wrap64 (↑m - wrap64 (wrap64 (2 ^ (Lib.bitLen m - 1)) - 1)) = ((m + 1 - 2 ^ (Lib.bitLen m - 1) : Nat) : Int) := by
          rw [HW2.out]
          unfold wrap64
          omega
        rw [hw]
        have hm2 : 2 ≤ m := by
          rcases Nat.lt_or_ge 1 m with g | g
          · omega
          · exfalso
            have : m = 1 := by omega
            subst this
            exact hb (by decide)
        have hL3 : 2 ≤ Lib.bitLen m := by
          rcases Nat.lt_or_ge (Lib.bitLen m) 2 with g | g
          · exfalso
            have : Lib.bitLen m = 1 := by omega
            rw [this] at P
            omega
          · exact g
        have hh := Sched.half (Lib.bitLen m - 1) (by omega)
        have R2 := Nat.one_le_two_pow (n := Lib.bitLen m - 1 - 1)
        refine ⟨⟨_, by omega, rfl, ?_⟩, by simp [intOf]; omega⟩
        show Sched.luby k = _
        rw [hl.out, HN.out (by omega)]
    · go_wp2
      go_ret
      obtain rfl : m = 0 := by omega
      exact ⟨ret_int (by rw [hl.out, Sched.luby_zero]; rfl), rfl⟩
end Go.Proofs.Ytdbjljbkneopcaa
