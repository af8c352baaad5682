/- The contract of sched.Schedule.Cutoff. -/
import Derived.Test.YtdbjljbkneopcaaSchedA
import Derived.Test.YtdbjljbkneopcaaSchedT
namespace Go.Proofs.Ytdbjljbkneopcaa
open Go.RowKit
set_option linter.unusedSimpArgs false
set_option linter.unusedVariables false

def Sched.gstep (n d c : Int) : Int := min (max (c * n / d) (c + 1)) 1000000
def Sched.geo (n d : Int) : Nat → Int → Int
  | 0, c => c
  | j + 1, c => if c < 1000000 then Sched.geo n d j (Sched.gstep n d c) else c
def Sched.cut (k u n d x : Int) : Int :=
  if Sched.chk k u n d ≠ 0 ∨ x < 1 then 0
  else if k = 1 then min (u * min (Sched.luby x.toNat : Int) 1000000) 1000000
  else if k = 2 then Sched.geo n d (x.toNat - 1) u
  else 1000000

set_option maxHeartbeats 400000 in
theorem sched_cutoff_no1 (k u n d x : Int) (w : World) (h : Sched.chk k u n d ≠ 0) :
    Calls Try.prog 25 #[.agg #[.int .i64 k, .int .i64 u, .int .i64 n, .int .i64 d], .int .i64 x] w fun e w' =>
      e = .returned (.int .i64 0) ∧ Below w.heap.size w w' := by
  have H := Lib.hid h
  clear h
  go_enter Try.func25, Try.ntmps25
  go_wp2_with (go_at_call 22; refine (sched_check_no _ _ _ _ _ H.out).mono ?_; rintro e w' ⟨rfl, hb⟩)
  go_ret
  exact ⟨rfl, ((Below.refl _ _).alloc (Nat.le_refl _) _).trans (hb.mono (by simp))⟩

set_option maxHeartbeats 400000 in
theorem sched_cutoff_no2 (k u n d x : Int) (w : World) (h : Sched.chk k u n d = 0) (hx : x < 1) :
    Calls Try.prog 25 #[.agg #[.int .i64 k, .int .i64 u, .int .i64 n, .int .i64 d], .int .i64 x] w fun e w' =>
      e = .returned (.int .i64 0) ∧ Below w.heap.size w w' := by
  have H := Lib.hid h
  clear h
  go_enter Try.func25, Try.ntmps25
  go_wp2_with (go_at_call 22; refine (sched_check_yes _ _ _ _ _ H.out).mono ?_; rintro e w' ⟨rfl, hb⟩)
  go_ret
  exact ⟨rfl, ((Below.refl _ _).alloc (Nat.le_refl _) _).trans (hb.mono (by simp))⟩

set_option maxHeartbeats 400000 in
theorem sched_cutoff_luby (u : Int) (x : Nat) (w : World) (h : Sched.chk 1 u 0 0 = 0) (hu : 1 ≤ u) (hu2 : u ≤ 1000000) (hx : 1 ≤ x) (hx2 : x ≤ 9223372036854775807) :
    Calls Try.prog 25 #[.agg #[.int .i64 1, .int .i64 u, .int .i64 0, .int .i64 0], .int .i64 x] w fun e w' =>
      e = .returned (.int .i64 (min (u * min (Sched.luby x : Int) 1000000) 1000000)) ∧ Below w.heap.size w w' := by
  have H := Lib.hid h
  clear h
  go_enter Try.func25, Try.ntmps25
  go_wp2_with (go_at_call 22; refine (sched_check_yes _ _ _ _ _ H.out).mono ?_; rintro e w' ⟨rfl, hb⟩; have hc1 := (bcell hb).1; have hc2 := (bcell hb).2)
  go_quiet ((go_at_call 27; exact Calls.quiet_of_same ((sched_term _ _ hx2).mono fun _ _ h => ⟨h.1, h.2.symm⟩)))
  have hm : 0 ≤ u * min (Sched.luby x : Int) 1000000 ∧ u * min (Sched.luby x : Int) 1000000 ≤ 1000000000000 := by
    have h1 : 0 ≤ min (Sched.luby x : Int) 1000000 := by omega
    have h2 : min (Sched.luby x : Int) 1000000 ≤ 1000000 := by omega
    generalize min (Sched.luby x : Int) 1000000 = m at *
    exact ⟨Int.mul_nonneg (by omega) h1, Int.le_trans (Int.mul_le_mul hu2 h2 h1 (by omega)) (by omega)⟩
  have Hw := Lib.hid (show wrap64 (u * min (Sched.luby x : Int) 1000000) = u * min (Sched.luby x : Int) 1000000 by
    generalize u * min (Sched.luby x : Int) 1000000 = m at *
    unfold wrap64; omega)
  clear hm
  go_wp2
  go_ret
  exact ⟨ret_int (by rw [Hw.out]), (((Below.refl _ _).alloc (Nat.le_refl _) _).trans (hb.mono (by simp)) |> (below_drewN · _))⟩

set_option maxHeartbeats 400000 in
theorem sched_cutoff_geo (u n d : Int) (x : Nat) (w : World) (h : Sched.chk 2 u n d = 0) (hu : 1 ≤ u) (hu2 : u ≤ 1000000) (hd : 1 ≤ d) (hdn : d < n) (hn : n ≤ 1000) (hx : 1 ≤ x) (hx2 : x ≤ 9223372036854775807) :
    Calls Try.prog 25 #[.agg #[.int .i64 2, .int .i64 u, .int .i64 n, .int .i64 d], .int .i64 x] w fun e w' =>
      e = .returned (.int .i64 (Sched.geo n d (x - 1) u)) ∧ Below w.heap.size w w' := by
  have H := Lib.hid h
  clear h
  go_enter Try.func25, Try.ntmps25
  go_wp2_with (go_at_call 22; refine (sched_check_yes _ _ _ _ _ H.out).mono ?_; rintro e w' ⟨rfl, hb⟩; have hc1 := (bcell hb).1; have hc2 := (bcell hb).2)
  go_loop [5, 6] (fun c i => ∃ (j : Nat) (y : Int), j + 1 ≤ x ∧ 1 ≤ y ∧ y ≤ 1000000 ∧ i = .int .i64 (j + 1 : Nat) ∧ c = .int .i64 y ∧ Hid (Sched.geo n d (x - 1) u = Sched.geo n d (x - 1 - j) y)) (fun _ i => x - (intOf i).toNat)
  case atStart => exact ⟨0, u, hx, hu, hu2, rfl, rfl, rfl⟩
  case round =>
    obtain ⟨j, y, hj, hy1, hy2, rfl, rfl, hg⟩ := hrel
    have hm1 : 0 ≤ y * n := Int.mul_nonneg (by omega) (by omega)
    have hm2 : y * n ≤ 1000000000 := Int.le_trans (Int.mul_le_mul hy2 hn (by omega) (by omega)) (by omega)
    have hq1 : 0 ≤ y * n / d := Int.ediv_nonneg hm1 (by omega)
    have hq2 : y * n / d ≤ 1000000000 := Int.le_trans (Int.ediv_le_self _ hm1) hm2
    by_cases h1 : j + 1 < x
    · by_cases h2 : y < 1000000
      · go_wp2
        go_round
        case rel =>
          refine ⟨j + 1, _, by omega, ?_, ?_, rfl, rfl, ?_⟩
          · omega
          · omega
          · show Sched.geo n d (x - 1) u = _
            rw [hg.out, show x - 1 - j = (x - 1 - (j + 1)) + 1 from by omega]
            simp only [Sched.geo, Sched.gstep, h2, if_true]
        case measure => simp [intOf]; omega
      · go_wp2
        go_ret
        refine ⟨ret_int ?_, ((Below.refl _ _).alloc (Nat.le_refl _) _).trans (hb.mono (by simp))⟩
        rw [hg.out]
        generalize x - 1 - j = q
        cases q with
        | zero => rfl
        | succ q => show y = if y < 1000000 then _ else y; rw [if_neg (by omega)]
    · go_wp2
      go_ret
      refine ⟨ret_int ?_, ((Below.refl _ _).alloc (Nat.le_refl _) _).trans (hb.mono (by simp))⟩
      rw [hg.out, show x - 1 - j = 0 from by omega]
      rfl

set_option maxHeartbeats 400000 in
theorem sched_cutoff_other (k : Int) (x : Nat) (w : World) (hk : k = 0 ∨ k = 3 ∨ k = 4) (h : Sched.chk k 0 0 0 = 0) (hx : 1 ≤ x) :
    Calls Try.prog 25 #[.agg #[.int .i64 k, .int .i64 0, .int .i64 0, .int .i64 0], .int .i64 x] w fun e w' =>
      e = .returned (.int .i64 1000000) ∧ Below w.heap.size w w' := by
  have H := Lib.hid h
  clear h
  have k1 : (k == 1) = false := by simp; omega
  have k2 : (k == 2) = false := by simp; omega
  clear hk
  go_enter Try.func25, Try.ntmps25
  go_wp2_with (go_at_call 22; refine (sched_check_yes _ _ _ _ _ H.out).mono ?_; rintro e w' ⟨rfl, hb⟩; have hc1 := (bcell hb).1; have hc2 := (bcell hb).2)
  go_ret
  exact ⟨rfl, ((Below.refl _ _).alloc (Nat.le_refl _) _).trans (hb.mono (by simp))⟩

/-- Cutoff, at every schedule and every run. -/
theorem sched_cutoff (k u n d x : Int) (w : World) (hx : x ≤ 9223372036854775807) :
    Calls Try.prog 25 #[.agg #[.int .i64 k, .int .i64 u, .int .i64 n, .int .i64 d], .int .i64 x] w fun e w' =>
      e = .returned (.int .i64 (Sched.cut k u n d x)) ∧ Below w.heap.size w w' := by
  by_cases h : Sched.chk k u n d = 0
  · by_cases h1 : x < 1
    · have e : Sched.cut k u n d x = 0 := by unfold Sched.cut; rw [if_pos (Or.inr h1)]
      rw [e]; exact sched_cutoff_no2 k u n d x w h h1
    · have e : Sched.cut k u n d x = if k = 1 then min (u * min (Sched.luby x.toNat : Int) 1000000) 1000000 else if k = 2 then Sched.geo n d (x.toNat - 1) u else 1000000 := by
        unfold Sched.cut; rw [if_neg (by omega)]
      rw [e]
      have hh := h
      unfold Sched.chk at hh
      obtain ⟨x, rfl⟩ := Int.eq_ofNat_of_zero_le (show 0 ≤ x by omega)
      rw [Int.toNat_natCast]
      split at hh
      · rename_i c
        rcases c with ⟨rfl, a1, a2, rfl, rfl⟩ | ⟨rfl, a1, a2, a3, a4, a5⟩ | ⟨a1, rfl, rfl, rfl⟩
        · rw [if_pos rfl]; exact sched_cutoff_luby u x w h a1 a2 (by omega) (by omega)
        · rw [if_neg (by omega), if_pos rfl]; exact sched_cutoff_geo u n d x w h a1 a2 a3 a4 a5 (by omega) (by omega)
        · rw [if_neg (by omega), if_neg (by omega)]; exact sched_cutoff_other k x w a1 h (by omega)
      · omega
  · have e : Sched.cut k u n d x = 0 := by unfold Sched.cut; rw [if_pos (Or.inl h)]
    rw [e]; exact sched_cutoff_no1 k u n d x w h
end Go.Proofs.Ytdbjljbkneopcaa
