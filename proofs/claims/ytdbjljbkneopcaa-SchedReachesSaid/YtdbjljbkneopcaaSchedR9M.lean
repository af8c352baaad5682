/- The first run that may fail so often, as plain numbers. -/
import Derived.Test.YtdbjljbkneopcaaSchedR8M
namespace Go.Proofs.Ytdbjljbkneopcaa
open Go.RowKit
set_option linter.unusedSimpArgs false
set_option linter.unusedVariables false

theorem Sched.luby_top (i : Nat) (h1 : 1 ≤ i) (h2 : i ≤ 63) : Sched.luby (2 ^ i - 1) = 2 ^ (i - 1) := by
  have hp := Nat.one_le_two_pow (n := i)
  have hh := Sched.half i h1
  have hp2 := Nat.one_le_two_pow (n := i - 1)
  have hm := Nat.pow_le_pow_right (n := 2) (by omega) h2
  have hL := Sched.step_low (2 ^ i - 1) (i - 1) (by omega) (by omega) (by omega) (by omega)
  rw [Sched.luby_end _ (by omega) (by rw [hL, show i - 1 + 1 = i from by omega]; omega), hL]
  rfl
theorem Sched.luby_below (m : Nat) : ∀ i, 2 ≤ i → i ≤ 63 → 1 ≤ m → m < 2 ^ i - 1 → Sched.luby m ≤ 2 ^ (i - 2) := by
  induction m using Nat.strongRecOn with
  | ind m ih =>
    intro i h2 h3 h1 hm
    have hpm := Nat.pow_le_pow_right (n := 2) (by omega) h3
    have f := Sched.bitLen_facts m h1 (by omega)
    have hL : Lib.bitLen m ≤ i := Sched.bitLen_lt m i (by omega) (by omega)
    by_cases he : m + 1 = 2 ^ Lib.bitLen m
    · rw [Sched.luby_end m h1 he]
      have : Lib.bitLen m ≤ i - 1 := by
        rcases Nat.lt_or_ge (Lib.bitLen m) i with g | g
        · omega
        · exfalso
          have : Lib.bitLen m = i := by omega
          rw [this] at he; omega
      exact Nat.pow_le_pow_right (by omega) (by omega)
    · rw [Sched.luby_next m h1 (by omega) he]
      have hh := Sched.half (Lib.bitLen m) f.1
      have hp := Nat.one_le_two_pow (n := Lib.bitLen m - 1)
      have hi := Nat.pow_le_pow_right (n := 2) (by omega) (show Lib.bitLen m - 1 ≤ i - 1 by omega)
      have h2p : 2 ≤ 2 ^ (Lib.bitLen m - 1) := by
        rcases Nat.lt_or_ge 1 (Lib.bitLen m) with g | g
        · have := Nat.pow_le_pow_right (n := 2) (by omega) (show 1 ≤ Lib.bitLen m - 1 by omega)
          omega
        · exfalso
          have e : Lib.bitLen m = 1 := by omega
          rw [e] at he f
          omega
      rcases Nat.lt_or_ge (m + 1 - 2 ^ (Lib.bitLen m - 1)) (2 ^ (i - 1) - 1) with g | g
      · have hi2 := Sched.half i (by omega)
        refine ih _ (by omega) i h2 h3 (by omega) (by omega)
      · have e : m + 1 - 2 ^ (Lib.bitLen m - 1) = 2 ^ (i - 1) - 1 := by omega
        rw [e, Sched.luby_top (i - 1) (by omega) (by omega)]
        exact Nat.le_refl _
theorem Sched.cut_luby_eq (u : Int) (m : Nat) (h : Sched.chk 1 u 0 0 = 0) (hm : 1 ≤ m) : Sched.cut 1 u 0 0 m = min (u * min (Sched.luby m : Int) 1000000) 1000000 := by
  unfold Sched.cut
  rw [if_neg (by omega), if_pos rfl, Int.toNat_natCast]
theorem Sched.cut_mono (u : Int) (a b : Nat) (hu : 1 ≤ u) (h : a ≤ b) : min (u * min (a : Int) 1000000) 1000000 ≤ min (u * min (b : Int) 1000000) 1000000 := by
  have h1 : min (a : Int) 1000000 ≤ min (b : Int) 1000000 := by omega
  have h2 : u * min (a : Int) 1000000 ≤ u * min (b : Int) 1000000 := Int.mul_le_mul_of_nonneg_left h1 (by omega)
  omega
/-- Of a Luby's runs ahead of 2^(i+1) - 1 none may fail more often than run 2^i - 1. -/
theorem Sched.cut_luby_below (u : Int) (i m : Nat) (h : Sched.chk 1 u 0 0 = 0) (hu : 1 ≤ u) (h1 : 1 ≤ i) (h2 : i ≤ 62) (hm : 1 ≤ m) (hlt : m < 2 ^ (i + 1) - 1) :
    Sched.cut 1 u 0 0 m ≤ Sched.cut 1 u 0 0 (2 ^ i - 1 : Nat) := by
  have hp := Nat.one_le_two_pow (n := i)
  have h2p : 2 ≤ 2 ^ i := by have := Nat.pow_le_pow_right (n := 2) (by omega) h1; omega
  rw [Sched.cut_luby_eq u m h hm, Sched.cut_luby_eq u (2 ^ i - 1) h (by omega), Sched.luby_top i h1 (by omega)]
  refine Sched.cut_mono u _ _ hu ?_
  have := Sched.luby_below m (i + 1) (by omega) (by omega) hm hlt
  rwa [show i + 1 - 2 = i - 1 from by omega] at this
theorem Sched.cut_luby_top (u : Int) (i : Nat) (h : Sched.chk 1 u 0 0 = 0) (hu : 1 ≤ u) (h1 : 1 ≤ i) (h2 : i ≤ 63) (hlt : Sched.cut 1 u 0 0 (2 ^ i - 1 : Nat) < 1000000) : i ≤ 20 := by
  have hp := Nat.one_le_two_pow (n := i)
  have h2p : 2 ≤ 2 ^ i := by have := Nat.pow_le_pow_right (n := 2) (by omega) h1; omega
  rw [Sched.cut_luby_eq u (2 ^ i - 1) h (by omega), Sched.luby_top i h1 h2] at hlt
  rcases Nat.lt_or_ge 20 i with g | g
  · exfalso
    have h3 := Nat.pow_le_pow_right (n := 2) (by omega) (show 20 ≤ i - 1 by omega)
    have h4 : min ((2 ^ (i - 1) : Nat) : Int) 1000000 = 1000000 := by omega
    rw [h4] at hlt
    omega
  · exact g

/-- r is the first run of a schedule that may fail n times. -/
structure Sched.First (k u n d N r : Int) : Prop where
  pos : 1 ≤ r
  le : r ≤ 2097151
  yes : min N 1000000 ≤ Sched.cut k u n d r
  no : ∀ j, 1 ≤ j → j < r → Sched.cut k u n d j < min N 1000000
end Go.Proofs.Ytdbjljbkneopcaa
