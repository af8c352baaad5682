/- The contracts of layer 26's own check (wakes) and of the document's Cutoff. -/
import Derived.Test.YtdbjljbkneopcaaSchedC
import Derived.Test.YtdbjljbkneopcaaSchedL
import Derived.Test.YtdbjljbkneopcaaSchedR
namespace Go.Proofs.Ytdbjljbkneopcaa
open Go.RowKit
set_option linter.unusedSimpArgs false
set_option linter.unusedVariables false

set_option maxHeartbeats 400000 in
theorem sched_wakes (w : World) :
    Calls Try.prog 26 #[] w fun e w' => e = .returned (.bool true) ∧ Below w.heap.size w w' := by
  have e1 : Sched.cut 2 10 3 2 1 = 10 := by decide
  have e2 : Sched.cut 2 10 3 2 2 = 15 := by decide
  have e3 : Sched.cut 2 10 3 2 4 = 33 := by decide
  have e4 : Sched.cut 1 5 0 0 2 = 5 := by decide
  have e5 : Sched.cut 1 5 0 0 3 = 10 := by decide
  have e6 : Sched.luby 7 = 4 := by decide
  have e7 : Sched.lim 3 0 0 0 3 = (2, true) := by decide
  have e8 : Sched.chk 7 0 0 0 = 2 := by decide
  go_enter Try.func26, Try.ntmps26
  go_wp2_with (first
    | (go_at_call 25; refine (sched_cutoff _ _ _ _ _ _ (by omega)).mono ?_; rintro e w' ⟨rfl, hb⟩; have hc1 := (bcell hb).1; have hc2 := (bcell hb).2; have hz1 : w.heap.size < w'.heap.size := (by have := hb.size; (try simp at this); omega); have hz2 : w.heap.size + 1 < w'.heap.size := (by have := hb.size; (try simp at this); omega))
    | (go_at_call 24; refine (sched_limit _ _ _ _ _ _ (by omega)).mono ?_; rintro e w' ⟨rfl, hb⟩; have hc1 := (bcell hb).1; have hc2 := (bcell hb).2; have hz1 : w.heap.size < w'.heap.size := (by have := hb.size; (try simp at this); omega); have hz2 : w.heap.size + 1 < w'.heap.size := (by have := hb.size; (try simp at this); omega))
    | (go_at_call 22; refine (sched_check _ _ _ _ _).mono ?_; rintro e w' ⟨rfl, hb⟩; have hc1 := (bcell hb).1; have hc2 := (bcell hb).2; have hz1 : w.heap.size < w'.heap.size := (by have := hb.size; (try simp at this); omega); have hz2 : w.heap.size + 1 < w'.heap.size := (by have := hb.size; (try simp at this); omega))
    | (go_at_call 27; refine (sched_term 7 _ (by omega)).mono ?_; rintro e w' ⟨rfl, rfl⟩))
  go_ret
  exact ⟨rfl, by repeat (first | exact Below.refl _ _ | refine below_call ?_ (by assumption) | refine below_alloc ?_ _)⟩

theorem Sched.geo_step (n d y : Int) (q : Nat) (h : y < 1000000) : Sched.geo n d (q + 1) y = Sched.geo n d q (Sched.gstep n d y) := by
  simp only [Sched.geo, h, if_true]

set_option maxHeartbeats 400000 in
theorem ref_cutoff_luby (u : Int) (x : Nat) (w : World) (hu : 1 ≤ u) (hu2 : u ≤ 1000000) (hx : 1 ≤ x) (hx2 : x ≤ 9223372036854775807) :
    Calls Try.prog 23 #[.int .i64 1, .int .i64 u, .int .i64 0, .int .i64 0, .int .i64 x] w fun e w' =>
      e = .returned (.int .i64 (min (u * min (Sched.luby x : Int) 1000000) 1000000)) ∧ w = w' := by
  have hl := Sched.luby_bd x hx2
  generalize hv : min (u * min (Sched.luby x : Int) 1000000) 1000000 = v
  have Hv := Lib.hid hv
  clear hv
  by_cases c1 : Sched.luby x > 1000000
  · go_enter Try.func23, Try.ntmps23
    go_wp2_with (go_at_call 28; refine (ref_term x x _ (Nat.le_refl _) hx2).mono ?_; rintro e w' ⟨rfl, rfl⟩)
    go_ret
    refine ⟨ret_int ?_, rfl⟩
    rw [← Hv.out, show min (Sched.luby x : Int) 1000000 = 1000000 from by omega]
    omega
  · have hm : 0 ≤ u * (Sched.luby x : Int) ∧ u * (Sched.luby x : Int) ≤ 1000000000000 :=
      ⟨Int.mul_nonneg (by omega) (by omega), Int.le_trans (Int.mul_le_mul hu2 (show (Sched.luby x : Int) ≤ 1000000 by omega) (by omega) (by omega)) (by omega)⟩
    obtain ⟨hm1, hm2⟩ := hm
    go_enter Try.func23, Try.ntmps23
    go_wp2_with (go_at_call 28; refine (ref_term x x _ (Nat.le_refl _) hx2).mono ?_; rintro e w' ⟨rfl, rfl⟩)
    all_goals
      go_ret
      refine ⟨ret_int ?_, rfl⟩
      rw [← Hv.out, show min (Sched.luby x : Int) 1000000 = (Sched.luby x : Int) from by omega]
      omega

set_option maxHeartbeats 400000 in
theorem ref_cutoff_other (k u n d x : Int) (w : World) (hk : k = 0 ∨ k = 3 ∨ k = 4) :
    Calls Try.prog 23 #[.int .i64 k, .int .i64 u, .int .i64 n, .int .i64 d, .int .i64 x] w fun e w' =>
      e = .returned (.int .i64 1000000) ∧ w = w' := by
  have k1 : (k == 1) = false := by simp; omega
  have k2 : (k != 2) = true := by simp; omega
  clear hk
  go_enter Try.func23, Try.ntmps23
  go_wp2
  go_ret
  exact ⟨rfl, rfl⟩

set_option maxHeartbeats 800000 in
theorem ref_cutoff_geo (u n d : Int) (x : Nat) (w : World) (hu : 1 ≤ u) (hu2 : u ≤ 1000000) (hd : 1 ≤ d) (hdn : d < n) (hn : n ≤ 1000) (hx : 1 ≤ x) (hx2 : x ≤ 9223372036854775807) :
    Calls Try.prog 23 #[.int .i64 2, .int .i64 u, .int .i64 n, .int .i64 d, .int .i64 x] w fun e w' =>
      e = .returned (.int .i64 (Sched.geo n d (x - 1) u)) ∧ w = w' := by
  go_enter Try.func23, Try.ntmps23
  go_wp2
  go_loop [12, 13, 14] (fun c i _ => ∃ (j : Nat) (y : Int), j + 1 ≤ x ∧ 1 ≤ y ∧ y ≤ 1000000 ∧ i = .int .i64 (j + 1 : Nat) ∧ c = .int .i64 y ∧ Hid (Sched.geo n d (x - 1) u = Sched.geo n d (x - 1 - j) y)) (fun _ i _ => x - (intOf i).toNat)
  case atStart => exact ⟨0, u, hx, hu, hu2, rfl, rfl, rfl⟩
  case round =>
    obtain ⟨j, y, hj, hy1, hy2, rfl, rfl, hg⟩ := hrel
    have hm1 : 0 ≤ y * n := Int.mul_nonneg (by omega) (by omega)
    have hm2 : y * n ≤ 1000000000 := Int.le_trans (Int.mul_le_mul hy2 hn (by omega) (by omega)) (by omega)
    have hq1 : 0 ≤ y * n / d := Int.ediv_nonneg hm1 (by omega)
    have hq2 : y * n / d ≤ 1000000000 := Int.le_trans (Int.ediv_le_self _ hm1) hm2
    by_cases h1 : j + 1 < x
    · by_cases h2 : y < 1000000
      · have HS := Lib.hid (Sched.geo_step n d y (x - 1 - (j + 1)) h2)
        have HG := Lib.hid (show Sched.gstep n d y = min (max (y * n / d) (y + 1)) 1000000 from rfl)
        go_wp2
        all_goals
          go_round
          case rel =>
            refine ⟨j + 1, _, by omega, ?_, ?_, rfl, rfl, ?_⟩
            · omega
            · omega
            · show Sched.geo n d (x - 1) u = _
              rw [hg.out, show x - 1 - j = (x - 1 - (j + 1)) + 1 from by omega, HS.out, HG.out]
              congr 1
              omega
          case measure => simp [intOf]; omega
      · go_wp2
        go_ret
        refine ⟨ret_int ?_, rfl⟩
        rw [hg.out]
        generalize x - 1 - j = q
        cases q with
        | zero => rfl
        | succ q => show y = if y < 1000000 then _ else y; rw [if_neg (by omega)]
    · go_wp2
      go_ret
      refine ⟨ret_int ?_, rfl⟩
      rw [hg.out, show x - 1 - j = 0 from by omega]
      rfl

theorem ref_cutoff (k u n d x : Int) (w : World) (h : Sched.chk k u n d = 0) (hx0 : 1 ≤ x) (hx : x ≤ 9223372036854775807) :
    Calls Try.prog 23 #[.int .i64 k, .int .i64 u, .int .i64 n, .int .i64 d, .int .i64 x] w fun e w' =>
      e = .returned (.int .i64 (Sched.cut k u n d x)) ∧ w = w' := by
  have e : Sched.cut k u n d x = if k = 1 then min (u * min (Sched.luby x.toNat : Int) 1000000) 1000000 else if k = 2 then Sched.geo n d (x.toNat - 1) u else 1000000 := by
    unfold Sched.cut; rw [if_neg (by omega)]
  rw [e]
  obtain ⟨x, rfl⟩ := Int.eq_ofNat_of_zero_le (show 0 ≤ x by omega)
  rw [Int.toNat_natCast]
  rcases (Sched.chk_iff k u n d).1 h with ⟨rfl, a1, a2, rfl, rfl⟩ | ⟨rfl, a1, a2, a3, a4, a5⟩ | ⟨a1, rfl, rfl, rfl⟩
  · rw [if_pos rfl]; exact ref_cutoff_luby u x w a1 a2 (by omega) (by omega)
  · rw [if_neg (by omega), if_pos rfl]; exact ref_cutoff_geo u n d x w a1 a2 a3 a4 a5 (by omega) (by omega)
  · rw [if_neg (by omega), if_neg (by omega)]; exact ref_cutoff_other k _ _ _ _ w a1
end Go.Proofs.Ytdbjljbkneopcaa
