/- The contracts of sched.Schedule.Limit and of the law's own helper near. -/
import Derived.Test.YtdbjljbkneopcaaSchedA
namespace Go.Proofs.Ytdbjljbkneopcaa
open Go.RowKit
set_option linter.unusedSimpArgs false
set_option linter.unusedVariables false

/-- Limit tells k - 1 of a run k of Lds and Dds. -/
def Sched.lim (k u n d x : Int) : Int × Bool := if Sched.chk k u n d = 0 ∧ 1 ≤ x ∧ (k = 3 ∨ k = 4) then (x - 1, true) else (0, false)

set_option maxHeartbeats 400000 in
theorem sched_limit_no (k u n d x : Int) (w : World) (h : Sched.chk k u n d ≠ 0) :
    Calls Try.prog 24 #[.agg #[.int .i64 k, .int .i64 u, .int .i64 n, .int .i64 d], .int .i64 x] w fun e w' =>
      e = .returned (.tuple #[.int .i64 (Sched.lim k u n d x).1, .bool (Sched.lim k u n d x).2]) ∧ Below w.heap.size w w' := by
  have e : Sched.lim k u n d x = (0, false) := by unfold Sched.lim; rw [if_neg (by omega)]
  rw [e]
  have H := Lib.hid h
  clear h e
  go_enter Try.func24, Try.ntmps24
  go_wp2_with (go_at_call 22; refine (sched_check_no _ _ _ _ _ H.out).mono ?_; rintro e w' ⟨rfl, hb⟩)
  go_ret2
  exact ⟨rfl, ((Below.refl _ _).alloc (Nat.le_refl _) _).trans (hb.mono (by simp))⟩

set_option maxHeartbeats 400000 in
theorem sched_limit_yes (k u n d x : Int) (w : World) (h : Sched.chk k u n d = 0) (hx : x ≤ 9223372036854775807) :
    Calls Try.prog 24 #[.agg #[.int .i64 k, .int .i64 u, .int .i64 n, .int .i64 d], .int .i64 x] w fun e w' =>
      e = .returned (.tuple #[.int .i64 (Sched.lim k u n d x).1, .bool (Sched.lim k u n d x).2]) ∧ Below w.heap.size w w' := by
  have H := Lib.hid h
  clear h
  go_enter Try.func24, Try.ntmps24
  go_wp2_with (go_at_call 22; refine (sched_check_yes _ _ _ _ _ H.out).mono ?_; rintro e w' ⟨rfl, hb⟩; have hc1 := (bcell hb).1; have hc2 := (bcell hb).2)
  all_goals
    go_ret2
    have h := H.out
    refine ⟨?_, ((Below.refl _ _).alloc (Nat.le_refl _) _).trans (hb.mono (by simp))⟩
    (try simp only [bne_iff_ne, bne_eq_false_iff_eq, ne_eq] at *)
    first
      | (rw [show Sched.lim k u n d x = (x - 1, true) from by unfold Sched.lim; rw [if_pos (by omega)]]; rfl)
      | (rw [show Sched.lim k u n d x = (0, false) from by unfold Sched.lim; rw [if_neg (by omega)]]; rfl)

theorem sched_limit (k u n d x : Int) (w : World) (hx : x ≤ 9223372036854775807) :
    Calls Try.prog 24 #[.agg #[.int .i64 k, .int .i64 u, .int .i64 n, .int .i64 d], .int .i64 x] w fun e w' =>
      e = .returned (.tuple #[.int .i64 (Sched.lim k u n d x).1, .bool (Sched.lim k u n d x).2]) ∧ Below w.heap.size w w' := by
  by_cases h : Sched.chk k u n d = 0
  · exact sched_limit_yes k u n d x w h hx
  · exact sched_limit_no k u n d x w h

/-- The schedule near any one that may be. -/
def Sched.nearK (k : Int) : Int := max 0 k % 5
def Sched.nearU (k u : Int) : Int := if Sched.nearK k = 1 ∨ Sched.nearK k = 2 then 1 + max 0 u % 1000000 else 0
def Sched.nearD (k d : Int) : Int := if Sched.nearK k = 2 then 1 + max 0 d % 999 else 0
def Sched.nearN (k n d : Int) : Int := if Sched.nearK k = 2 then Sched.nearD k d + 1 + max 0 n % (1000 - Sched.nearD k d) else 0

theorem Sched.near_chk (k u n d : Int) : Sched.chk (Sched.nearK k) (Sched.nearU k u) (Sched.nearN k n d) (Sched.nearD k d) = 0 := by
  unfold Sched.nearU Sched.nearN Sched.chk
  have h0 : 0 ≤ Sched.nearK k ∧ Sched.nearK k ≤ 4 := by unfold Sched.nearK; omega
  have h1 : Sched.nearK k = 2 → 1 ≤ Sched.nearD k d ∧ Sched.nearD k d ≤ 999 := by intro h; unfold Sched.nearD; rw [if_pos h]; omega
  have h2 : Sched.nearK k ≠ 2 → Sched.nearD k d = 0 := by intro h; unfold Sched.nearD; rw [if_neg h]
  generalize Sched.nearK k = a at *
  generalize Sched.nearD k d = b at *
  apply if_pos
  by_cases c1 : a = 1
  · subst c1; simp; omega
  · by_cases c2 : a = 2
    · subst c2
      have := Int.emod_nonneg (max 0 n) (show 1000 - b ≠ 0 by omega)
      have := Int.emod_lt_of_pos (max 0 n) (show 0 < 1000 - b by omega)
      generalize max 0 n % (1000 - b) = q at *
      simp; omega
    · rw [if_neg (by omega), if_neg (by omega)]; omega

set_option maxHeartbeats 400000 in
theorem sched_near (k u n d : Int) (w : World) (hk : k ≤ 9223372036854775807) (hu : u ≤ 9223372036854775807) (hn : n ≤ 9223372036854775807) (hd : d ≤ 9223372036854775807) :
    Calls Try.prog 20 #[.agg #[.int .i64 k, .int .i64 u, .int .i64 n, .int .i64 d]] w fun e w' =>
      e = .returned (.agg #[.int .i64 (Sched.nearK k), .int .i64 (Sched.nearU k u), .int .i64 (Sched.nearN k n d), .int .i64 (Sched.nearD k d)]) ∧ Below w.heap.size w w' := by
  by_cases c2 : max 0 k % 5 = 2
  · have hD : 1 ≤ 1 + max 0 d % 999 ∧ 1 + max 0 d % 999 ≤ 999 := by omega
    have C2 := Lib.hid c2
    have B2 : (max 0 k % 5 == 2) = true := by simpa using c2
    have B1 : (max 0 k % 5 == 1) = false := by simp; omega
    clear c2
    go_enter Try.func20, Try.ntmps20
    go_wp2
    have hne : (1000 - (1 + max 0 d % 999) == 0) = false := by simp; omega
    have q0 := Int.emod_nonneg (max 0 n) (show 1000 - (1 + max 0 d % 999) ≠ 0 by omega)
    have q1 := Int.emod_lt_of_pos (max 0 n) (show 0 < 1000 - (1 + max 0 d % 999) by omega)
    go_region
    all_goals
      go_wp2
      refine bodyPost_ret (v := .agg #[.int .i64 (max 0 k % 5), .int .i64 (1 + max 0 u % 1000000), .int .i64 (1 + max 0 d % 999 + 1 + max 0 n % (1000 - (1 + max 0 d % 999))), .int .i64 (1 + max 0 d % 999)]) (by simp [results, Try.results20, go_sem]) rfl ⟨?_, ?_⟩
      · have h2 : Sched.nearK k = 2 := C2.out
        have h3 : Sched.nearD k d = 1 + max 0 d % 999 := by unfold Sched.nearD; rw [if_pos h2]
        unfold Sched.nearU Sched.nearN
        rw [if_pos (by omega), if_pos h2, h3]
        rfl
      · repeat (first | exact Below.refl _ _ | refine Below.drew ?_ | refine Below.alloc ?_ (by simp; omega) _ | refine Below.alloc ?_ (by simp) _ | refine Below.alloc ?_ (Nat.le_refl _) _)
  · by_cases c1 : max 0 k % 5 = 1
    · have C1 := Lib.hid c1
      have B2 : (max 0 k % 5 == 2) = false := by simp; omega
      have B1 : (max 0 k % 5 == 1) = true := by simpa using c1
      clear c1 c2
      go_enter Try.func20, Try.ntmps20
      go_wp2
      refine bodyPost_ret (v := .agg #[.int .i64 (max 0 k % 5), .int .i64 (1 + max 0 u % 1000000), .int .i64 0, .int .i64 0]) (by simp [results, Try.results20, go_sem]) rfl ⟨?_, ?_⟩
      · have := C1.out
        unfold Sched.nearU Sched.nearN Sched.nearD Sched.nearK
        rw [if_pos (by omega), if_neg (by omega), if_neg (by omega)]
      · exact (((Below.refl _ _).alloc (Nat.le_refl _) _).alloc (by simp) _).alloc (by simp; omega) _
    · have C1 := Lib.hid c1
      have C2 := Lib.hid c2
      have B2 : (max 0 k % 5 == 2) = false := by simp; omega
      have B1 : (max 0 k % 5 == 1) = false := by simp; omega
      clear c1 c2
      go_enter Try.func20, Try.ntmps20
      go_wp2
      refine bodyPost_ret (v := .agg #[.int .i64 (max 0 k % 5), .int .i64 0, .int .i64 0, .int .i64 0]) (by simp [results, Try.results20, go_sem]) rfl ⟨?_, ?_⟩
      · have := C1.out
        have := C2.out
        unfold Sched.nearU Sched.nearN Sched.nearD Sched.nearK
        rw [if_neg (by omega), if_neg (by omega), if_neg (by omega)]
      · exact (((Below.refl _ _).alloc (Nat.le_refl _) _).alloc (by simp) _).alloc (by simp; omega) _
end Go.Proofs.Ytdbjljbkneopcaa
