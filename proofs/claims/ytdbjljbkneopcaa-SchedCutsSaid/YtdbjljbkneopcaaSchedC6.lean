/- The law SchedCuts, walked: it tells true. -/
import Derived.Test.YtdbjljbkneopcaaSchedW
import Derived.Test.YtdbjljbkneopcaaHeap
import Derived.Deep.RegionHeld3
import Derived.Deep.DeepCutAuto
import Derived.Deep.CutBlock
namespace Go.Proofs.Ytdbjljbkneopcaa
open Go.RowKit
set_option linter.unusedSimpArgs false
set_option linter.unusedVariables false

set_option maxHeartbeats 1000000 in
set_option maxRecDepth 100000 in
theorem law_cuts (k u n d x : Int) (w : World) (hk : k ≤ 9223372036854775807) (hu : u ≤ 9223372036854775807) (hn : n ≤ 9223372036854775807) (hd : d ≤ 9223372036854775807) (hx : x ≤ 9223372036854775807) :
    Calls Try.prog 6 #[.agg #[.int .i64 k, .int .i64 u, .int .i64 n, .int .i64 d], .int .i64 x] w fun e w' => e = .returned (.bool true) ∧ Below w.heap.size w w' := by
  go_enter Try.func6, Try.ntmps6
  go_wp2
  go_region_held3 (fun w' => (w'.cell? ⟨w.heap.size, 0, none⟩ = some (.int .i64 k) ∧ w'.cell? ⟨w.heap.size, 1, none⟩ = some (.int .i64 u) ∧ w'.cell? ⟨w.heap.size, 2, none⟩ = some (.int .i64 n) ∧ w'.cell? ⟨w.heap.size, 3, none⟩ = some (.int .i64 d)) ∧ w.heap.size < w'.heap.size ∧ Below w.heap.size w w')
    (first
      | exact ⟨⟨hs1, hs2, hs3, hs4⟩, hs5, hs6⟩
      | exact ⟨⟨by simp [go_sem], by simp [go_sem], by simp [go_sem], by simp [go_sem]⟩, by simp, (below_alloc (Below.refl _ _) _).drew⟩
      | exact ⟨⟨((bcell (below_alloc (Below.refl _ _) _)).1 _ _ (by assumption)).trans (by assumption), ((bcell (below_alloc (Below.refl _ _) _)).1 _ _ (by assumption)).trans (by assumption), ((bcell (below_alloc (Below.refl _ _) _)).1 _ _ (by assumption)).trans (by assumption), ((bcell (below_alloc (Below.refl _ _) _)).1 _ _ (by assumption)).trans (by assumption)⟩, by simp; omega, below_alloc (by assumption) _⟩)
    (first | (go_at_call 20; refine (sched_near _ _ _ _ _ hk hu hn hd).mono ?_; rintro e w' ⟨rfl, hb⟩; have hs1 : w'.cell? ⟨w.heap.size, 0, none⟩ = some (.int .i64 k) := (by rw [(bcell hb).1 _ _ (by simp)]; simp [go_sem]); have hs2 : w'.cell? ⟨w.heap.size, 1, none⟩ = some (.int .i64 u) := (by rw [(bcell hb).1 _ _ (by simp)]; simp [go_sem]); have hs3 : w'.cell? ⟨w.heap.size, 2, none⟩ = some (.int .i64 n) := (by rw [(bcell hb).1 _ _ (by simp)]; simp [go_sem]); have hs4 : w'.cell? ⟨w.heap.size, 3, none⟩ = some (.int .i64 d) := (by rw [(bcell hb).1 _ _ (by simp)]; simp [go_sem]); have hs5 : w.heap.size < w'.heap.size := (by have := hb.size; simp at this; omega); have hs6 : Below w.heap.size w w' := (by refine Below.trans ?_ (hb.mono (by simp)); repeat (first | exact Below.refl _ _ | refine Below.drew ?_ | refine below_alloc ?_ _))))
  have hq := Sched.near_chk k u n d
  have HQ := Lib.hid hq
  clear hq
  have hs7 : w'.heap.size < w'.heap.size + 1 := by omega
  generalize Sched.nearK k = k2 at *
  generalize Sched.nearU k u = u2 at *
  generalize Sched.nearN k n d = n2 at *
  generalize Sched.nearD k d = d2 at *
  go_wp2
  go_loopw [19] (fun i wr => ∃ j : Nat, j ≤ 2 ∧ i = .int .i64 j ∧ Hid (wr.heap[w'.heap.size]? = some (.cells #[.int .i64 k, .int .i64 u, .int .i64 n, .int .i64 d, .int .i64 k2, .int .i64 u2, .int .i64 n2, .int .i64 d2] 45 (0, 0))) ∧ Hid (w'.heap.size < wr.heap.size) ∧ Hid (Below w.heap.size w wr)) (fun i _ => 2 - (intOf i).toNat)
  case atStart => exact ⟨0, by omega, rfl, heap_new _ _, heap_lt (heap_new _ _), below_alloc hs6 _⟩
  case round =>
    obtain ⟨j, hj, rfl, hB, hZ, hW⟩ := hrel
    rcases Nat.lt_or_ge j 2 with hlt | hge
    · go_upto_region 3 with fail
      go_cut [6] (fun s6 wx => ∃ (g : Nat) (a b c d1 : Int), s6 = .pointer (some ⟨g, 0, none⟩) ∧ Hid (wx.heap[g]? = some (.cells #[.int .i64 a, .int .i64 b, .int .i64 c, .int .i64 d1] 45 (0, 0))) ∧ Hid (wx.heap[w'.heap.size]? = some (.cells #[.int .i64 k, .int .i64 u, .int .i64 n, .int .i64 d, .int .i64 k2, .int .i64 u2, .int .i64 n2, .int .i64 d2] 45 (0, 0))) ∧ Hid (w'.heap.size < wx.heap.size) ∧ Hid (Below w.heap.size w wx))
      case first =>
        have hc : j = 0 ∨ j = 1 := by omega
        rcases hc with rfl | rfl
        · have e0 := cell_of hB.out 0
          have e1 := cell_of hB.out 1
          have e2 := cell_of hB.out 2
          have e3 := cell_of hB.out 3
          go_wp2_with fail
          go_meet
          exact ⟨_, k, u, n, d, rfl, heap_new _ _, heap_alloc hB.out _, Nat.lt_of_lt_of_le hZ.out (by simp), below_alloc hW.out _⟩
        · have e0 := cell_of hB.out 4
          have e1 := cell_of hB.out 5
          have e2 := cell_of hB.out 6
          have e3 := cell_of hB.out 7
          go_wp2_with fail
          go_meet
          exact ⟨_, k2, u2, n2, d2, rfl, heap_new _ _, heap_alloc hB.out _, Nat.lt_of_lt_of_le hZ.out (by simp), below_alloc hW.out _⟩
      case rest =>
        obtain ⟨g, a, b, c, d1, rfl, hG, hB1, hZ1, hW1⟩ := hcut
        have e0 := cell_of hG.out 0
        have e1 := cell_of hG.out 1
        have e2 := cell_of hG.out 2
        have e3 := cell_of hG.out 3
        by_cases ok : Sched.chk a b c d1 = 0
        · have Hok := Lib.hid ok
          have okb : (Sched.chk a b c d1 == 0) = true := by simpa using ok
          clear ok
          go_wp2_with (first
            | (go_at_call 21; refine (ref_check _ _ _ _ _).mono ?_; rintro e w' ⟨rfl, rfl⟩)
            | (go_at_call 22; refine (sched_check _ _ _ _ _).mono ?_; rintro e w4 ⟨rfl, hb4⟩))
          clear e0 e1 e2 e3
          have HG4 := Lib.hid (heap_alloc (heap_call hG.out hb4) (.cells #[.int .i64 x, .int .i64 (max 0 x % 200)] 3))
          have HB4 := Lib.hid (heap_alloc (heap_call hB1.out hb4) (.cells #[.int .i64 x, .int .i64 (max 0 x % 200)] 3))
          have HN4 := Lib.hid (heap_new w4 (.cells #[.int .i64 x, .int .i64 (max 0 x % 200)] 3))
          have HW4 := Lib.hid (below_alloc (below_call hW1.out hb4) (.cells #[.int .i64 x, .int .i64 (max 0 x % 200)] 3))
          have HZ4 := Lib.hid (Nat.lt_of_lt_of_le hZ1.out (Nat.le_trans hb4.size (Nat.le_of_lt (heap_lt HN4.out))))
          clear hb4
          go_loopw [43] (fun i wy => ∃ q : Nat, q ≤ 2 ∧ i = .int .i64 q ∧ Hid (wy.heap[g]? = some (.cells #[.int .i64 a, .int .i64 b, .int .i64 c, .int .i64 d1] 45 (0, 0))) ∧ Hid (wy.heap[w'.heap.size]? = some (.cells #[.int .i64 k, .int .i64 u, .int .i64 n, .int .i64 d, .int .i64 k2, .int .i64 u2, .int .i64 n2, .int .i64 d2] 45 (0, 0))) ∧ Hid (wy.heap[w4.heap.size]? = some (.cells #[.int .i64 x, .int .i64 (max 0 x % 200)] 3 (0, 0))) ∧ Hid (Below w.heap.size w wy)) (fun i _ => 2 - (intOf i).toNat)
          case atStart => exact ⟨0, by omega, rfl, HG4, HB4, HN4, HW4⟩
          case round =>
            obtain ⟨q, hq, rfl, hG2, hB2, hN2, hW2⟩ := hrel
            rcases Nat.lt_or_ge q 2 with hq2 | hq2
            · go_upto_region 9 with fail
              go_cut [9] (fun s9 wx => ∃ y : Int, y ≤ 9223372036854775807 ∧ s9 = .int .i64 y ∧ Hid (wx.heap[g]? = some (.cells #[.int .i64 a, .int .i64 b, .int .i64 c, .int .i64 d1] 45 (0, 0))) ∧ Hid (wx.heap[w'.heap.size]? = some (.cells #[.int .i64 k, .int .i64 u, .int .i64 n, .int .i64 d, .int .i64 k2, .int .i64 u2, .int .i64 n2, .int .i64 d2] 45 (0, 0))) ∧ Hid (wx.heap[w4.heap.size]? = some (.cells #[.int .i64 x, .int .i64 (max 0 x % 200)] 3 (0, 0))) ∧ Hid (Below w.heap.size w wx))
              case first =>
                have hc : q = 0 ∨ q = 1 := by omega
                rcases hc with rfl | rfl
                · have e0 := cell_of hN2.out 0
                  go_wp2_with fail
                  go_meet
                  exact ⟨x, hx, rfl, hG2, hB2, hN2, hW2⟩
                · have e0 := cell_of hN2.out 1
                  go_wp2_with fail
                  go_meet
                  exact ⟨_, by omega, rfl, hG2, hB2, hN2, hW2⟩
              case rest =>
                obtain ⟨y, hy, rfl, hG3, hB3, hN3, hW3⟩ := hcut
                have e0 := cell_of hG3.out 0
                have e1 := cell_of hG3.out 1
                have e2 := cell_of hG3.out 2
                have e3 := cell_of hG3.out 3
                by_cases hy1 : 1 ≤ y
                · by_cases c3 : a = 3
                  · have v2 : Sched.lim 3 b c d1 y = (y - 1, true) := by subst c3; unfold Sched.lim; rw [if_pos ⟨Hok.out, hy1, Or.inl rfl⟩]
                    subst c3
                    go_wp2_with (first
                      | (go_at_call 23; refine (ref_cutoff _ _ _ _ _ _ Hok.out hy1 hy).mono ?_; rintro e w5 ⟨rfl, rfl⟩)
                      | (go_at_call 24; refine (sched_limit _ _ _ _ _ _ hy).mono ?_; rintro e w5 ⟨rfl, hb5⟩; have g5 := Lib.hid (heap_call (by exact hG3.out) hb5); have e50 := cell_of g5.out 0; have e51 := cell_of g5.out 1; have e52 := cell_of g5.out 2; have e53 := cell_of g5.out 3)
                      | (go_at_call 25; refine (sched_cutoff _ _ _ _ _ _ hy).mono ?_; rintro e w6 ⟨rfl, hb6⟩))
                    go_roundw
                    case rel => exact ⟨q + 1, by omega, by go_num, heap_call (heap_call hG3.out hb5) hb6, heap_call (heap_call hB3.out hb5) hb6, heap_call (heap_call hN3.out hb5) hb6, below_call (below_call hW3.out hb5) hb6⟩
                    case measure => simp [intOf]; omega
                  · by_cases c4 : a = 4
                    · have v2 : Sched.lim 4 b c d1 y = (y - 1, true) := by subst c4; unfold Sched.lim; rw [if_pos ⟨Hok.out, hy1, Or.inr rfl⟩]
                      subst c4
                      clear c3
                      go_wp2_with (first
                        | (go_at_call 23; refine (ref_cutoff _ _ _ _ _ _ Hok.out hy1 hy).mono ?_; rintro e w5 ⟨rfl, rfl⟩)
                        | (go_at_call 24; refine (sched_limit _ _ _ _ _ _ hy).mono ?_; rintro e w5 ⟨rfl, hb5⟩; have g5 := Lib.hid (heap_call (by exact hG3.out) hb5); have e50 := cell_of g5.out 0; have e51 := cell_of g5.out 1; have e52 := cell_of g5.out 2; have e53 := cell_of g5.out 3)
                        | (go_at_call 25; refine (sched_cutoff _ _ _ _ _ _ hy).mono ?_; rintro e w6 ⟨rfl, hb6⟩))
                      go_roundw
                      case rel => exact ⟨q + 1, by omega, by go_num, heap_call (heap_call hG3.out hb5) hb6, heap_call (heap_call hB3.out hb5) hb6, heap_call (heap_call hN3.out hb5) hb6, below_call (below_call hW3.out hb5) hb6⟩
                      case measure => simp [intOf]; omega
                    · have v2 : Sched.lim a b c d1 y = (0, false) := by unfold Sched.lim; rw [if_neg (by have := Hok.out; omega)]
                      have c3b : (a == 3) = false := by simpa using c3
                      have c4b : (a == 4) = false := by simpa using c4
                      clear c3 c4
                      go_wp2_with (first
                        | (go_at_call 23; refine (ref_cutoff _ _ _ _ _ _ Hok.out hy1 hy).mono ?_; rintro e w5 ⟨rfl, rfl⟩)
                        | (go_at_call 24; refine (sched_limit _ _ _ _ _ _ hy).mono ?_; rintro e w5 ⟨rfl, hb5⟩; have g5 := Lib.hid (heap_call (by exact hG3.out) hb5); have e50 := cell_of g5.out 0; have e51 := cell_of g5.out 1; have e52 := cell_of g5.out 2; have e53 := cell_of g5.out 3)
                        | (go_at_call 25; refine (sched_cutoff _ _ _ _ _ _ hy).mono ?_; rintro e w6 ⟨rfl, hb6⟩))
                      go_roundw
                      case rel => exact ⟨q + 1, by omega, by go_num, heap_call (heap_call hG3.out hb5) hb6, heap_call (heap_call hB3.out hb5) hb6, heap_call (heap_call hN3.out hb5) hb6, below_call (below_call hW3.out hb5) hb6⟩
                      case measure => simp [intOf]; omega
                · have v1 : Sched.cut a b c d1 y = 0 := by unfold Sched.cut; rw [if_pos (Or.inr (by omega))]
                  have v2 : Sched.lim a b c d1 y = (0, false) := by unfold Sched.lim; rw [if_neg (by have := Hok.out; omega)]
                  go_wp2_with (first
                    | (go_at_call 24; refine (sched_limit _ _ _ _ _ _ hy).mono ?_; rintro e w5 ⟨rfl, hb5⟩; have g5 := Lib.hid (heap_call (by exact hG3.out) hb5); have e50 := cell_of g5.out 0; have e51 := cell_of g5.out 1; have e52 := cell_of g5.out 2; have e53 := cell_of g5.out 3)
                    | (go_at_call 25; refine (sched_cutoff _ _ _ _ _ _ hy).mono ?_; rintro e w6 ⟨rfl, hb6⟩))
                  go_roundw
                  case rel => exact ⟨q + 1, by omega, by go_num, heap_call (heap_call hG3.out hb5) hb6, heap_call (heap_call hB3.out hb5) hb6, heap_call (heap_call hN3.out hb5) hb6, below_call (below_call hW3.out hb5) hb6⟩
                  case measure => simp [intOf]; omega
            · have hc : q = 2 := by omega
              subst hc
              go_wp2
              go_roundw
              case rel => exact ⟨j + 1, by omega, by go_num, hB2, Nat.lt_of_lt_of_le (Nat.lt_succ_self _) (heap_lt hB2.out), hW2⟩
              case measure => simp [intOf]; omega
        · have Hok := Lib.hid ok
          have okb : (Sched.chk a b c d1 == 0) = false := by simpa using ok
          clear ok
          go_wp2_with (first
            | (go_at_call 21; refine (ref_check _ _ _ _ _).mono ?_; rintro e w' ⟨rfl, rfl⟩)
            | (go_at_call 22; refine (sched_check _ _ _ _ _).mono ?_; rintro e w4 ⟨rfl, hb4⟩))
          clear e0 e1 e2 e3
          have HG4 := Lib.hid (heap_alloc (heap_call hG.out hb4) (.cells #[.int .i64 x, .int .i64 (max 0 x % 200)] 3))
          have HB4 := Lib.hid (heap_alloc (heap_call hB1.out hb4) (.cells #[.int .i64 x, .int .i64 (max 0 x % 200)] 3))
          have HN4 := Lib.hid (heap_new w4 (.cells #[.int .i64 x, .int .i64 (max 0 x % 200)] 3))
          have HW4 := Lib.hid (below_alloc (below_call hW1.out hb4) (.cells #[.int .i64 x, .int .i64 (max 0 x % 200)] 3))
          have HZ4 := Lib.hid (Nat.lt_of_lt_of_le hZ1.out (Nat.le_trans hb4.size (Nat.le_of_lt (heap_lt HN4.out))))
          clear hb4
          go_loopw [43] (fun i wy => ∃ q : Nat, q ≤ 2 ∧ i = .int .i64 q ∧ Hid (wy.heap[g]? = some (.cells #[.int .i64 a, .int .i64 b, .int .i64 c, .int .i64 d1] 45 (0, 0))) ∧ Hid (wy.heap[w'.heap.size]? = some (.cells #[.int .i64 k, .int .i64 u, .int .i64 n, .int .i64 d, .int .i64 k2, .int .i64 u2, .int .i64 n2, .int .i64 d2] 45 (0, 0))) ∧ Hid (wy.heap[w4.heap.size]? = some (.cells #[.int .i64 x, .int .i64 (max 0 x % 200)] 3 (0, 0))) ∧ Hid (Below w.heap.size w wy)) (fun i _ => 2 - (intOf i).toNat)
          case atStart => exact ⟨0, by omega, rfl, HG4, HB4, HN4, HW4⟩
          case round =>
            obtain ⟨q, hq, rfl, hG2, hB2, hN2, hW2⟩ := hrel
            rcases Nat.lt_or_ge q 2 with hq2 | hq2
            · go_upto_region 9 with fail
              go_cut [9] (fun s9 wx => ∃ y : Int, y ≤ 9223372036854775807 ∧ s9 = .int .i64 y ∧ Hid (wx.heap[g]? = some (.cells #[.int .i64 a, .int .i64 b, .int .i64 c, .int .i64 d1] 45 (0, 0))) ∧ Hid (wx.heap[w'.heap.size]? = some (.cells #[.int .i64 k, .int .i64 u, .int .i64 n, .int .i64 d, .int .i64 k2, .int .i64 u2, .int .i64 n2, .int .i64 d2] 45 (0, 0))) ∧ Hid (wx.heap[w4.heap.size]? = some (.cells #[.int .i64 x, .int .i64 (max 0 x % 200)] 3 (0, 0))) ∧ Hid (Below w.heap.size w wx))
              case first =>
                have hc : q = 0 ∨ q = 1 := by omega
                rcases hc with rfl | rfl
                · have e0 := cell_of hN2.out 0
                  go_wp2_with fail
                  go_meet
                  exact ⟨x, hx, rfl, hG2, hB2, hN2, hW2⟩
                · have e0 := cell_of hN2.out 1
                  go_wp2_with fail
                  go_meet
                  exact ⟨_, by omega, rfl, hG2, hB2, hN2, hW2⟩
              case rest =>
                obtain ⟨y, hy, rfl, hG3, hB3, hN3, hW3⟩ := hcut
                have e0 := cell_of hG3.out 0
                have e1 := cell_of hG3.out 1
                have e2 := cell_of hG3.out 2
                have e3 := cell_of hG3.out 3
                have v1 : Sched.cut a b c d1 y = 0 := by unfold Sched.cut; rw [if_pos (Or.inl Hok.out)]
                have v2 : Sched.lim a b c d1 y = (0, false) := by unfold Sched.lim; rw [if_neg (fun h => Hok.out h.1)]
                go_wp2_with (first
                  | (go_at_call 24; refine (sched_limit _ _ _ _ _ _ hy).mono ?_; rintro e w5 ⟨rfl, hb5⟩; have g5 := Lib.hid (heap_call (by exact hG3.out) hb5); have e50 := cell_of g5.out 0; have e51 := cell_of g5.out 1; have e52 := cell_of g5.out 2; have e53 := cell_of g5.out 3)
                  | (go_at_call 25; refine (sched_cutoff _ _ _ _ _ _ hy).mono ?_; rintro e w6 ⟨rfl, hb6⟩))
                go_roundw
                case rel => exact ⟨q + 1, by omega, by go_num, heap_call (heap_call hG3.out hb5) hb6, heap_call (heap_call hB3.out hb5) hb6, heap_call (heap_call hN3.out hb5) hb6, below_call (below_call hW3.out hb5) hb6⟩
                case measure => simp [intOf]; omega
            · have hc : q = 2 := by omega
              subst hc
              go_wp2
              go_roundw
              case rel => exact ⟨j + 1, by omega, by go_num, hB2, Nat.lt_of_lt_of_le (Nat.lt_succ_self _) (heap_lt hB2.out), hW2⟩
              case measure => simp [intOf]; omega
    · have hc : j = 2 := by omega
      subst hc
      go_wp2_with (go_at_call 26; refine (sched_wakes _).mono ?_; rintro e w5 ⟨rfl, hb5⟩)
      go_ret
      exact ⟨rfl, below_call hW.out hb5⟩
end Go.Proofs.Ytdbjljbkneopcaa
