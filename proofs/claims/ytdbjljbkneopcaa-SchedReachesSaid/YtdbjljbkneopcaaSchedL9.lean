/- The law SchedReaches, walked: it tells true. -/
import Derived.Test.YtdbjljbkneopcaaSchedR9
import Derived.Deep.DeepCutAuto
import Derived.Deep.CutBlock
namespace Go.Proofs.Ytdbjljbkneopcaa
open Go.RowKit
set_option linter.unusedSimpArgs false
set_option linter.unusedVariables false

theorem Sched.chk_unit (k u n d v : Int) (h : Sched.chk k u n d = 0) (hk : k = 1 ∨ k = 2) (h1 : 1 ≤ v) (h2 : v ≤ 1000000) : Sched.chk k v n d = 0 := by
  rw [Sched.chk_iff] at h ⊢
  omega

set_option maxHeartbeats 1000000 in
set_option maxRecDepth 100000 in
/-- Behind the first statement: of the schedule near. -/
theorem law_reaches (k u n d x : Int) (w : World) (hk : k ≤ 9223372036854775807) (hu : u ≤ 9223372036854775807) (hn : n ≤ 9223372036854775807) (hd : d ≤ 9223372036854775807) (hx : -9223372036854775808 ≤ x) (hx2 : x ≤ 9223372036854775807) :
    Calls Try.prog 9 #[.agg #[.int .i64 k, .int .i64 u, .int .i64 n, .int .i64 d], .int .i64 x] w fun e w' => e = .returned (.bool true) ∧ Below w.heap.size w w' := by
  have hq := Sched.near_chk k u n d
  generalize hk2 : Sched.nearK k = k2 at *
  generalize hu2 : Sched.nearU k u = u2 at *
  generalize hn2 : Sched.nearN k n d = n2 at *
  generalize hd2 : Sched.nearD k d = d2 at *
  have HK := Lib.hid (And.intro (And.intro hk2 hu2) (And.intro hn2 hd2))
  clear hk2 hu2 hn2 hd2
  have hc1 : k2 = 1 → Sched.chk k2 (max u2 50) n2 d2 = 0 := fun h => Sched.chk_unit _ _ _ _ _ hq (Or.inl h) (by omega) (by have := (Sched.chk_iff _ _ _ _).1 hq; omega)
  have hc2 : k2 = 2 → Sched.chk k2 (max u2 1000) n2 d2 = 0 := fun h => Sched.chk_unit _ _ _ _ _ hq (Or.inr h) (by omega) (by have := (Sched.chk_iff _ _ _ _).1 hq; omega)
  have HC1 := Lib.hid hc1
  have HC2 := Lib.hid hc2
  have HC0 := Lib.hid hq
  clear hc1 hc2 hq
  by_cases ok : Sched.chk k u n d = 0
  · have Hok := Lib.hid ok
    clear ok
    by_cases c1 : k2 = 1
    · have hchk := HC1.out c1
      have b1 : (k2 == 1) = true := by simpa using c1
      have b2 : (k2 == 2) = false := by simp; omega
      clear c1
      have Hchk := Lib.hid hchk
      clear hchk
      go_enter Try.func9, Try.ntmps9
      go_wp2_with (first
        | (go_at_call 29; refine (sched_reaches _ _ _ _ _ _ Hok.out).mono ?_; rintro e w1 ⟨r0, rfl, hr0, hb1⟩; have g1 := Lib.hid (heap_call (heap_new w _) hb1); have e10 := cell_of g1.out 0; have e11 := cell_of g1.out 1; have e12 := cell_of g1.out 2; have e13 := cell_of g1.out 3)
        | (go_at_call 22; refine (sched_check_yes _ _ _ _ _ Hok.out).mono ?_; rintro e w2 ⟨rfl, hb2⟩; have g2 := Lib.hid (heap_call g1.out hb2); have e20 := cell_of g2.out 0; have e21 := cell_of g2.out 1; have e22 := cell_of g2.out 2; have e23 := cell_of g2.out 3)
        | (go_at_call 20; refine (sched_near _ _ _ _ _ hk hu hn hd).mono ?_; rintro e w3 ⟨rfl, hb3⟩; rw [HK.out.1.1, HK.out.1.2, HK.out.2.1, HK.out.2.2]))
      have hchk := Hchk.out
      have HC := Lib.hid (hchk : Sched.chk k2 (max u2 50) n2 d2 = 0)
      have HT := Lib.hid (heap_alloc (heap_new w3 (.cells #[.int .i64 k2, .int .i64 (max u2 50), .int .i64 n2, .int .i64 d2] 45)) (.cells #[.int .i64 x, .int .i64 (max 0 x % 20000)] 3))
      have HN := Lib.hid (heap_new (w3.alloc (.cells #[.int .i64 k2, .int .i64 (max u2 50), .int .i64 n2, .int .i64 d2] 45)) (.cells #[.int .i64 x, .int .i64 (max 0 x % 20000)] 3))
      have HW := Lib.hid (below_alloc (below_alloc (below_call (below_call (below_call (below_alloc (Below.refl w.heap.size w) _) hb1) hb2) hb3) (.cells #[.int .i64 k2, .int .i64 (max u2 50), .int .i64 n2, .int .i64 d2] 45)) (.cells #[.int .i64 x, .int .i64 (max 0 x % 20000)] 3))
      have hb5 : max 0 x % 20000 ≤ 9223372036854775807 := by omega
      generalize (max u2 50) = U at *
      rw [show (w3.alloc (.cells #[.int .i64 k2, .int .i64 U, .int .i64 n2, .int .i64 d2] 45)).heap.size = w3.heap.size + 1 from by simp] at HN
      go_loopw [43] (fun s43 wx => ∃ j : Nat, j ≤ 2 ∧ s43 = .int .i64 j ∧ Hid (wx.heap[w3.heap.size]? = some (.cells #[.int .i64 k2, .int .i64 U, .int .i64 n2, .int .i64 d2] 45 (0, 0))) ∧ Hid (wx.heap[w3.heap.size + 1]? = some (.cells #[.int .i64 x, .int .i64 (max 0 x % 20000)] 3 (0, 0))) ∧ Hid (Below w.heap.size w wx)) (fun s43 _ => 2 - (intOf s43).toNat)
      case atStart => exact ⟨0, by omega, rfl, HT, HN, HW⟩
      case round =>
        obtain ⟨j, hj, rfl, hT, hN, hW⟩ := hrel
        rcases Nat.lt_or_ge j 2 with hj2 | hj2
        · go_upto_region 11 with fail
          go_cut [8] (fun s8 wx => ∃ y : Int, y ≤ 9223372036854775807 ∧ s8 = .int .i64 y ∧ Hid (wx.heap[w3.heap.size]? = some (.cells #[.int .i64 k2, .int .i64 U, .int .i64 n2, .int .i64 d2] 45 (0, 0))) ∧ Hid (wx.heap[w3.heap.size + 1]? = some (.cells #[.int .i64 x, .int .i64 (max 0 x % 20000)] 3 (0, 0))) ∧ Hid (Below w.heap.size w wx))
          case first =>
            have hc : j = 0 ∨ j = 1 := by omega
            rcases hc with rfl | rfl
            · have e0 := cell_of hN.out 0
              go_wp2_with fail
              go_meet
              exact ⟨x, hx2, rfl, hT, hN, hW⟩
            · have e0 := cell_of hN.out 1
              go_wp2_with fail
              go_meet
              exact ⟨_, hb5, rfl, hT, hN, hW⟩
          case rest =>
            obtain ⟨y, hy, rfl, hT2, hN2, hW2⟩ := hcut
            have e0 := cell_of hT2.out 0
            have e1 := cell_of hT2.out 1
            have e2 := cell_of hT2.out 2
            have e3 := cell_of hT2.out 3
            go_wp2_with (first
              | (go_at_call 29; refine (sched_reaches _ _ _ _ _ _ HC.out).mono ?_; rintro e w4 ⟨r, rfl, hr, hb4⟩; have hr1 := hr.pos; have hr2 := hr.le; have hr3 : ¬ Sched.cut k2 U n2 d2 r < min y 1000000 := Int.not_lt.2 hr.yes; have Hr4 := Lib.hid hr.no; clear hr; have g4 := Lib.hid (heap_call hT2.out hb4); have e40 := cell_of g4.out 0; have e41 := cell_of g4.out 1; have e42 := cell_of g4.out 2; have e43 := cell_of g4.out 3)
              | (go_at_call 25; refine (sched_cutoff _ _ _ _ _ _ (by omega)).mono ?_; rintro e w5 ⟨rfl, hb5⟩))
            have g5 := Lib.hid (heap_call g4.out hb5)
            have n5 := Lib.hid (heap_call (heap_call hN2.out hb4) hb5)
            have W5 := Lib.hid (below_call (below_call hW2.out hb4) hb5)
            clear hr3
            go_loopw [10] (fun s10 wx => ∃ q : Int, 1 ≤ q ∧ q ≤ r ∧ s10 = .int .i64 q ∧ Hid (wx.heap[w3.heap.size]? = some (.cells #[.int .i64 k2, .int .i64 U, .int .i64 n2, .int .i64 d2] 45 (0, 0))) ∧ Hid (wx.heap[w3.heap.size + 1]? = some (.cells #[.int .i64 x, .int .i64 (max 0 x % 20000)] 3 (0, 0))) ∧ Hid (Below w.heap.size w wx)) (fun s10 _ => (r - intOf s10).toNat)
            case atStart => exact ⟨_, by omega, by omega, rfl, g5, n5, W5⟩
            case round =>
              obtain ⟨q, hq1, hq2, rfl, g6, n6, W6⟩ := hrel
              by_cases hqr : q < r
              · have hno : ¬ min y 1000000 ≤ Sched.cut k2 U n2 d2 q := Int.not_le.2 (Hr4.out q hq1 hqr)
                have f0 := cell_of g6.out 0
                have f1 := cell_of g6.out 1
                have f2 := cell_of g6.out 2
                have f3 := cell_of g6.out 3
                go_wp2_with (go_at_call 25; refine (sched_cutoff _ _ _ _ _ _ (by omega)).mono ?_; rintro e w7 ⟨rfl, hb7⟩)
                go_roundw
                case rel => exact ⟨q + 1, by omega, by omega, rfl, heap_call g6.out hb7, heap_call n6.out hb7, below_call W6.out hb7⟩
                case measure => simp [intOf]; omega
              · go_wp2
                go_roundw
                case rel => exact ⟨j + 1, by omega, by go_num, g6, n6, W6⟩
                case measure => simp [intOf]; omega
        · obtain rfl : j = 2 := by omega
          go_wp2_with (go_at_call 26; refine (sched_wakes _).mono ?_; rintro e w5 ⟨rfl, hb5⟩)
          go_ret
          exact ⟨rfl, below_call hW.out hb5⟩
    · by_cases c2 : k2 = 2
      · have hchk := HC2.out c2
        have b1 : (k2 == 1) = false := by simpa using c1
        have b2 : (k2 == 2) = true := by simpa using c2
        clear c1 c2
        have Hchk := Lib.hid hchk
        clear hchk
        go_enter Try.func9, Try.ntmps9
        go_wp2_with (first
          | (go_at_call 29; refine (sched_reaches _ _ _ _ _ _ Hok.out).mono ?_; rintro e w1 ⟨r0, rfl, hr0, hb1⟩; have g1 := Lib.hid (heap_call (heap_new w _) hb1); have e10 := cell_of g1.out 0; have e11 := cell_of g1.out 1; have e12 := cell_of g1.out 2; have e13 := cell_of g1.out 3)
          | (go_at_call 22; refine (sched_check_yes _ _ _ _ _ Hok.out).mono ?_; rintro e w2 ⟨rfl, hb2⟩; have g2 := Lib.hid (heap_call g1.out hb2); have e20 := cell_of g2.out 0; have e21 := cell_of g2.out 1; have e22 := cell_of g2.out 2; have e23 := cell_of g2.out 3)
          | (go_at_call 20; refine (sched_near _ _ _ _ _ hk hu hn hd).mono ?_; rintro e w3 ⟨rfl, hb3⟩; rw [HK.out.1.1, HK.out.1.2, HK.out.2.1, HK.out.2.2]))
        have hchk := Hchk.out
        have HC := Lib.hid (hchk : Sched.chk k2 (max u2 1000) n2 d2 = 0)
        have HT := Lib.hid (heap_alloc (heap_new w3 (.cells #[.int .i64 k2, .int .i64 (max u2 1000), .int .i64 n2, .int .i64 d2] 45)) (.cells #[.int .i64 x, .int .i64 (max 0 x % 20000)] 3))
        have HN := Lib.hid (heap_new (w3.alloc (.cells #[.int .i64 k2, .int .i64 (max u2 1000), .int .i64 n2, .int .i64 d2] 45)) (.cells #[.int .i64 x, .int .i64 (max 0 x % 20000)] 3))
        have HW := Lib.hid (below_alloc (below_alloc (below_call (below_call (below_call (below_alloc (Below.refl w.heap.size w) _) hb1) hb2) hb3) (.cells #[.int .i64 k2, .int .i64 (max u2 1000), .int .i64 n2, .int .i64 d2] 45)) (.cells #[.int .i64 x, .int .i64 (max 0 x % 20000)] 3))
        have hb5 : max 0 x % 20000 ≤ 9223372036854775807 := by omega
        generalize (max u2 1000) = U at *
        rw [show (w3.alloc (.cells #[.int .i64 k2, .int .i64 U, .int .i64 n2, .int .i64 d2] 45)).heap.size = w3.heap.size + 1 from by simp] at HN
        go_loopw [43] (fun s43 wx => ∃ j : Nat, j ≤ 2 ∧ s43 = .int .i64 j ∧ Hid (wx.heap[w3.heap.size]? = some (.cells #[.int .i64 k2, .int .i64 U, .int .i64 n2, .int .i64 d2] 45 (0, 0))) ∧ Hid (wx.heap[w3.heap.size + 1]? = some (.cells #[.int .i64 x, .int .i64 (max 0 x % 20000)] 3 (0, 0))) ∧ Hid (Below w.heap.size w wx)) (fun s43 _ => 2 - (intOf s43).toNat)
        case atStart => exact ⟨0, by omega, rfl, HT, HN, HW⟩
        case round =>
          obtain ⟨j, hj, rfl, hT, hN, hW⟩ := hrel
          rcases Nat.lt_or_ge j 2 with hj2 | hj2
          · go_upto_region 11 with fail
            go_cut [8] (fun s8 wx => ∃ y : Int, y ≤ 9223372036854775807 ∧ s8 = .int .i64 y ∧ Hid (wx.heap[w3.heap.size]? = some (.cells #[.int .i64 k2, .int .i64 U, .int .i64 n2, .int .i64 d2] 45 (0, 0))) ∧ Hid (wx.heap[w3.heap.size + 1]? = some (.cells #[.int .i64 x, .int .i64 (max 0 x % 20000)] 3 (0, 0))) ∧ Hid (Below w.heap.size w wx))
            case first =>
              have hc : j = 0 ∨ j = 1 := by omega
              rcases hc with rfl | rfl
              · have e0 := cell_of hN.out 0
                go_wp2_with fail
                go_meet
                exact ⟨x, hx2, rfl, hT, hN, hW⟩
              · have e0 := cell_of hN.out 1
                go_wp2_with fail
                go_meet
                exact ⟨_, hb5, rfl, hT, hN, hW⟩
            case rest =>
              obtain ⟨y, hy, rfl, hT2, hN2, hW2⟩ := hcut
              have e0 := cell_of hT2.out 0
              have e1 := cell_of hT2.out 1
              have e2 := cell_of hT2.out 2
              have e3 := cell_of hT2.out 3
              go_wp2_with (first
                | (go_at_call 29; refine (sched_reaches _ _ _ _ _ _ HC.out).mono ?_; rintro e w4 ⟨r, rfl, hr, hb4⟩; have hr1 := hr.pos; have hr2 := hr.le; have hr3 : ¬ Sched.cut k2 U n2 d2 r < min y 1000000 := Int.not_lt.2 hr.yes; have Hr4 := Lib.hid hr.no; clear hr; have g4 := Lib.hid (heap_call hT2.out hb4); have e40 := cell_of g4.out 0; have e41 := cell_of g4.out 1; have e42 := cell_of g4.out 2; have e43 := cell_of g4.out 3)
                | (go_at_call 25; refine (sched_cutoff _ _ _ _ _ _ (by omega)).mono ?_; rintro e w5 ⟨rfl, hb5⟩))
              have g5 := Lib.hid (heap_call g4.out hb5)
              have n5 := Lib.hid (heap_call (heap_call hN2.out hb4) hb5)
              have W5 := Lib.hid (below_call (below_call hW2.out hb4) hb5)
              clear hr3
              go_loopw [10] (fun s10 wx => ∃ q : Int, 1 ≤ q ∧ q ≤ r ∧ s10 = .int .i64 q ∧ Hid (wx.heap[w3.heap.size]? = some (.cells #[.int .i64 k2, .int .i64 U, .int .i64 n2, .int .i64 d2] 45 (0, 0))) ∧ Hid (wx.heap[w3.heap.size + 1]? = some (.cells #[.int .i64 x, .int .i64 (max 0 x % 20000)] 3 (0, 0))) ∧ Hid (Below w.heap.size w wx)) (fun s10 _ => (r - intOf s10).toNat)
              case atStart => exact ⟨_, by omega, by omega, rfl, g5, n5, W5⟩
              case round =>
                obtain ⟨q, hq1, hq2, rfl, g6, n6, W6⟩ := hrel
                by_cases hqr : q < r
                · have hno : ¬ min y 1000000 ≤ Sched.cut k2 U n2 d2 q := Int.not_le.2 (Hr4.out q hq1 hqr)
                  have f0 := cell_of g6.out 0
                  have f1 := cell_of g6.out 1
                  have f2 := cell_of g6.out 2
                  have f3 := cell_of g6.out 3
                  go_wp2_with (go_at_call 25; refine (sched_cutoff _ _ _ _ _ _ (by omega)).mono ?_; rintro e w7 ⟨rfl, hb7⟩)
                  go_roundw
                  case rel => exact ⟨q + 1, by omega, by omega, rfl, heap_call g6.out hb7, heap_call n6.out hb7, below_call W6.out hb7⟩
                  case measure => simp [intOf]; omega
                · go_wp2
                  go_roundw
                  case rel => exact ⟨j + 1, by omega, by go_num, g6, n6, W6⟩
                  case measure => simp [intOf]; omega
          · obtain rfl : j = 2 := by omega
            go_wp2_with (go_at_call 26; refine (sched_wakes _).mono ?_; rintro e w5 ⟨rfl, hb5⟩)
            go_ret
            exact ⟨rfl, below_call hW.out hb5⟩
      · have hchk := HC0.out
        have b1 : (k2 == 1) = false := by simpa using c1
        have b2 : (k2 == 2) = false := by simpa using c2
        clear c1 c2
        have Hchk := Lib.hid hchk
        clear hchk
        go_enter Try.func9, Try.ntmps9
        go_wp2_with (first
          | (go_at_call 29; refine (sched_reaches _ _ _ _ _ _ Hok.out).mono ?_; rintro e w1 ⟨r0, rfl, hr0, hb1⟩; have g1 := Lib.hid (heap_call (heap_new w _) hb1); have e10 := cell_of g1.out 0; have e11 := cell_of g1.out 1; have e12 := cell_of g1.out 2; have e13 := cell_of g1.out 3)
          | (go_at_call 22; refine (sched_check_yes _ _ _ _ _ Hok.out).mono ?_; rintro e w2 ⟨rfl, hb2⟩; have g2 := Lib.hid (heap_call g1.out hb2); have e20 := cell_of g2.out 0; have e21 := cell_of g2.out 1; have e22 := cell_of g2.out 2; have e23 := cell_of g2.out 3)
          | (go_at_call 20; refine (sched_near _ _ _ _ _ hk hu hn hd).mono ?_; rintro e w3 ⟨rfl, hb3⟩; rw [HK.out.1.1, HK.out.1.2, HK.out.2.1, HK.out.2.2]))
        have hchk := Hchk.out
        have HC := Lib.hid (hchk : Sched.chk k2 u2 n2 d2 = 0)
        have HT := Lib.hid (heap_alloc (heap_new w3 (.cells #[.int .i64 k2, .int .i64 u2, .int .i64 n2, .int .i64 d2] 45)) (.cells #[.int .i64 x, .int .i64 (max 0 x % 20000)] 3))
        have HN := Lib.hid (heap_new (w3.alloc (.cells #[.int .i64 k2, .int .i64 u2, .int .i64 n2, .int .i64 d2] 45)) (.cells #[.int .i64 x, .int .i64 (max 0 x % 20000)] 3))
        have HW := Lib.hid (below_alloc (below_alloc (below_call (below_call (below_call (below_alloc (Below.refl w.heap.size w) _) hb1) hb2) hb3) (.cells #[.int .i64 k2, .int .i64 u2, .int .i64 n2, .int .i64 d2] 45)) (.cells #[.int .i64 x, .int .i64 (max 0 x % 20000)] 3))
        have hb5 : max 0 x % 20000 ≤ 9223372036854775807 := by omega
        generalize u2 = U at *
        rw [show (w3.alloc (.cells #[.int .i64 k2, .int .i64 U, .int .i64 n2, .int .i64 d2] 45)).heap.size = w3.heap.size + 1 from by simp] at HN
        go_loopw [43] (fun s43 wx => ∃ j : Nat, j ≤ 2 ∧ s43 = .int .i64 j ∧ Hid (wx.heap[w3.heap.size]? = some (.cells #[.int .i64 k2, .int .i64 U, .int .i64 n2, .int .i64 d2] 45 (0, 0))) ∧ Hid (wx.heap[w3.heap.size + 1]? = some (.cells #[.int .i64 x, .int .i64 (max 0 x % 20000)] 3 (0, 0))) ∧ Hid (Below w.heap.size w wx)) (fun s43 _ => 2 - (intOf s43).toNat)
        case atStart => exact ⟨0, by omega, rfl, HT, HN, HW⟩
        case round =>
          obtain ⟨j, hj, rfl, hT, hN, hW⟩ := hrel
          rcases Nat.lt_or_ge j 2 with hj2 | hj2
          · go_upto_region 11 with fail
            go_cut [8] (fun s8 wx => ∃ y : Int, y ≤ 9223372036854775807 ∧ s8 = .int .i64 y ∧ Hid (wx.heap[w3.heap.size]? = some (.cells #[.int .i64 k2, .int .i64 U, .int .i64 n2, .int .i64 d2] 45 (0, 0))) ∧ Hid (wx.heap[w3.heap.size + 1]? = some (.cells #[.int .i64 x, .int .i64 (max 0 x % 20000)] 3 (0, 0))) ∧ Hid (Below w.heap.size w wx))
            case first =>
              have hc : j = 0 ∨ j = 1 := by omega
              rcases hc with rfl | rfl
              · have e0 := cell_of hN.out 0
                go_wp2_with fail
                go_meet
                exact ⟨x, hx2, rfl, hT, hN, hW⟩
              · have e0 := cell_of hN.out 1
                go_wp2_with fail
                go_meet
                exact ⟨_, hb5, rfl, hT, hN, hW⟩
            case rest =>
              obtain ⟨y, hy, rfl, hT2, hN2, hW2⟩ := hcut
              have e0 := cell_of hT2.out 0
              have e1 := cell_of hT2.out 1
              have e2 := cell_of hT2.out 2
              have e3 := cell_of hT2.out 3
              go_wp2_with (first
                | (go_at_call 29; refine (sched_reaches _ _ _ _ _ _ HC.out).mono ?_; rintro e w4 ⟨r, rfl, hr, hb4⟩; have hr1 := hr.pos; have hr2 := hr.le; have hr3 : ¬ Sched.cut k2 U n2 d2 r < min y 1000000 := Int.not_lt.2 hr.yes; have Hr4 := Lib.hid hr.no; clear hr; have g4 := Lib.hid (heap_call hT2.out hb4); have e40 := cell_of g4.out 0; have e41 := cell_of g4.out 1; have e42 := cell_of g4.out 2; have e43 := cell_of g4.out 3)
                | (go_at_call 25; refine (sched_cutoff _ _ _ _ _ _ (by omega)).mono ?_; rintro e w5 ⟨rfl, hb5⟩))
              have g5 := Lib.hid (heap_call g4.out hb5)
              have n5 := Lib.hid (heap_call (heap_call hN2.out hb4) hb5)
              have W5 := Lib.hid (below_call (below_call hW2.out hb4) hb5)
              clear hr3
              go_loopw [10] (fun s10 wx => ∃ q : Int, 1 ≤ q ∧ q ≤ r ∧ s10 = .int .i64 q ∧ Hid (wx.heap[w3.heap.size]? = some (.cells #[.int .i64 k2, .int .i64 U, .int .i64 n2, .int .i64 d2] 45 (0, 0))) ∧ Hid (wx.heap[w3.heap.size + 1]? = some (.cells #[.int .i64 x, .int .i64 (max 0 x % 20000)] 3 (0, 0))) ∧ Hid (Below w.heap.size w wx)) (fun s10 _ => (r - intOf s10).toNat)
              case atStart => exact ⟨_, by omega, by omega, rfl, g5, n5, W5⟩
              case round =>
                obtain ⟨q, hq1, hq2, rfl, g6, n6, W6⟩ := hrel
                by_cases hqr : q < r
                · have hno : ¬ min y 1000000 ≤ Sched.cut k2 U n2 d2 q := Int.not_le.2 (Hr4.out q hq1 hqr)
                  have f0 := cell_of g6.out 0
                  have f1 := cell_of g6.out 1
                  have f2 := cell_of g6.out 2
                  have f3 := cell_of g6.out 3
                  go_wp2_with (go_at_call 25; refine (sched_cutoff _ _ _ _ _ _ (by omega)).mono ?_; rintro e w7 ⟨rfl, hb7⟩)
                  go_roundw
                  case rel => exact ⟨q + 1, by omega, by omega, rfl, heap_call g6.out hb7, heap_call n6.out hb7, below_call W6.out hb7⟩
                  case measure => simp [intOf]; omega
                · go_wp2
                  go_roundw
                  case rel => exact ⟨j + 1, by omega, by go_num, g6, n6, W6⟩
                  case measure => simp [intOf]; omega
          · obtain rfl : j = 2 := by omega
            go_wp2_with (go_at_call 26; refine (sched_wakes _).mono ?_; rintro e w5 ⟨rfl, hb5⟩)
            go_ret
            exact ⟨rfl, below_call hW.out hb5⟩
  · have Hok := Lib.hid ok
    clear ok
    by_cases c1 : k2 = 1
    · have hchk := HC1.out c1
      have b1 : (k2 == 1) = true := by simpa using c1
      have b2 : (k2 == 2) = false := by simp; omega
      clear c1
      have Hchk := Lib.hid hchk
      clear hchk
      go_enter Try.func9, Try.ntmps9
      go_wp2_with (first
        | (go_at_call 29; refine (sched_reaches_no _ _ _ _ _ _ Hok.out).mono ?_; rintro e w1 ⟨rfl, hb1⟩; have g1 := Lib.hid (heap_call (heap_new w _) hb1); have e10 := cell_of g1.out 0; have e11 := cell_of g1.out 1; have e12 := cell_of g1.out 2; have e13 := cell_of g1.out 3)
        | (go_at_call 22; refine (sched_check_no _ _ _ _ _ Hok.out).mono ?_; rintro e w2 ⟨rfl, hb2⟩; have g2 := Lib.hid (heap_call g1.out hb2); have e20 := cell_of g2.out 0; have e21 := cell_of g2.out 1; have e22 := cell_of g2.out 2; have e23 := cell_of g2.out 3)
        | (go_at_call 20; refine (sched_near _ _ _ _ _ hk hu hn hd).mono ?_; rintro e w3 ⟨rfl, hb3⟩; rw [HK.out.1.1, HK.out.1.2, HK.out.2.1, HK.out.2.2]))
      have hchk := Hchk.out
      have HC := Lib.hid (hchk : Sched.chk k2 (max u2 50) n2 d2 = 0)
      have HT := Lib.hid (heap_alloc (heap_new w3 (.cells #[.int .i64 k2, .int .i64 (max u2 50), .int .i64 n2, .int .i64 d2] 45)) (.cells #[.int .i64 x, .int .i64 (max 0 x % 20000)] 3))
      have HN := Lib.hid (heap_new (w3.alloc (.cells #[.int .i64 k2, .int .i64 (max u2 50), .int .i64 n2, .int .i64 d2] 45)) (.cells #[.int .i64 x, .int .i64 (max 0 x % 20000)] 3))
      have HW := Lib.hid (below_alloc (below_alloc (below_call (below_call (below_call (below_alloc (Below.refl w.heap.size w) _) hb1) hb2) hb3) (.cells #[.int .i64 k2, .int .i64 (max u2 50), .int .i64 n2, .int .i64 d2] 45)) (.cells #[.int .i64 x, .int .i64 (max 0 x % 20000)] 3))
      have hb5 : max 0 x % 20000 ≤ 9223372036854775807 := by omega
      generalize (max u2 50) = U at *
      rw [show (w3.alloc (.cells #[.int .i64 k2, .int .i64 U, .int .i64 n2, .int .i64 d2] 45)).heap.size = w3.heap.size + 1 from by simp] at HN
      go_loopw [43] (fun s43 wx => ∃ j : Nat, j ≤ 2 ∧ s43 = .int .i64 j ∧ Hid (wx.heap[w3.heap.size]? = some (.cells #[.int .i64 k2, .int .i64 U, .int .i64 n2, .int .i64 d2] 45 (0, 0))) ∧ Hid (wx.heap[w3.heap.size + 1]? = some (.cells #[.int .i64 x, .int .i64 (max 0 x % 20000)] 3 (0, 0))) ∧ Hid (Below w.heap.size w wx)) (fun s43 _ => 2 - (intOf s43).toNat)
      case atStart => exact ⟨0, by omega, rfl, HT, HN, HW⟩
      case round =>
        obtain ⟨j, hj, rfl, hT, hN, hW⟩ := hrel
        rcases Nat.lt_or_ge j 2 with hj2 | hj2
        · go_upto_region 11 with fail
          go_cut [8] (fun s8 wx => ∃ y : Int, y ≤ 9223372036854775807 ∧ s8 = .int .i64 y ∧ Hid (wx.heap[w3.heap.size]? = some (.cells #[.int .i64 k2, .int .i64 U, .int .i64 n2, .int .i64 d2] 45 (0, 0))) ∧ Hid (wx.heap[w3.heap.size + 1]? = some (.cells #[.int .i64 x, .int .i64 (max 0 x % 20000)] 3 (0, 0))) ∧ Hid (Below w.heap.size w wx))
          case first =>
            have hc : j = 0 ∨ j = 1 := by omega
            rcases hc with rfl | rfl
            · have e0 := cell_of hN.out 0
              go_wp2_with fail
              go_meet
              exact ⟨x, hx2, rfl, hT, hN, hW⟩
            · have e0 := cell_of hN.out 1
              go_wp2_with fail
              go_meet
              exact ⟨_, hb5, rfl, hT, hN, hW⟩
          case rest =>
            obtain ⟨y, hy, rfl, hT2, hN2, hW2⟩ := hcut
            have e0 := cell_of hT2.out 0
            have e1 := cell_of hT2.out 1
            have e2 := cell_of hT2.out 2
            have e3 := cell_of hT2.out 3
            go_wp2_with (first
              | (go_at_call 29; refine (sched_reaches _ _ _ _ _ _ HC.out).mono ?_; rintro e w4 ⟨r, rfl, hr, hb4⟩; have hr1 := hr.pos; have hr2 := hr.le; have hr3 : ¬ Sched.cut k2 U n2 d2 r < min y 1000000 := Int.not_lt.2 hr.yes; have Hr4 := Lib.hid hr.no; clear hr; have g4 := Lib.hid (heap_call hT2.out hb4); have e40 := cell_of g4.out 0; have e41 := cell_of g4.out 1; have e42 := cell_of g4.out 2; have e43 := cell_of g4.out 3)
              | (go_at_call 25; refine (sched_cutoff _ _ _ _ _ _ (by omega)).mono ?_; rintro e w5 ⟨rfl, hb5⟩))
            have g5 := Lib.hid (heap_call g4.out hb5)
            have n5 := Lib.hid (heap_call (heap_call hN2.out hb4) hb5)
            have W5 := Lib.hid (below_call (below_call hW2.out hb4) hb5)
            clear hr3
            go_loopw [10] (fun s10 wx => ∃ q : Int, 1 ≤ q ∧ q ≤ r ∧ s10 = .int .i64 q ∧ Hid (wx.heap[w3.heap.size]? = some (.cells #[.int .i64 k2, .int .i64 U, .int .i64 n2, .int .i64 d2] 45 (0, 0))) ∧ Hid (wx.heap[w3.heap.size + 1]? = some (.cells #[.int .i64 x, .int .i64 (max 0 x % 20000)] 3 (0, 0))) ∧ Hid (Below w.heap.size w wx)) (fun s10 _ => (r - intOf s10).toNat)
            case atStart => exact ⟨_, by omega, by omega, rfl, g5, n5, W5⟩
            case round =>
              obtain ⟨q, hq1, hq2, rfl, g6, n6, W6⟩ := hrel
              by_cases hqr : q < r
              · have hno : ¬ min y 1000000 ≤ Sched.cut k2 U n2 d2 q := Int.not_le.2 (Hr4.out q hq1 hqr)
                have f0 := cell_of g6.out 0
                have f1 := cell_of g6.out 1
                have f2 := cell_of g6.out 2
                have f3 := cell_of g6.out 3
                go_wp2_with (go_at_call 25; refine (sched_cutoff _ _ _ _ _ _ (by omega)).mono ?_; rintro e w7 ⟨rfl, hb7⟩)
                go_roundw
                case rel => exact ⟨q + 1, by omega, by omega, rfl, heap_call g6.out hb7, heap_call n6.out hb7, below_call W6.out hb7⟩
                case measure => simp [intOf]; omega
              · go_wp2
                go_roundw
                case rel => exact ⟨j + 1, by omega, by go_num, g6, n6, W6⟩
                case measure => simp [intOf]; omega
        · obtain rfl : j = 2 := by omega
          go_wp2_with (go_at_call 26; refine (sched_wakes _).mono ?_; rintro e w5 ⟨rfl, hb5⟩)
          go_ret
          exact ⟨rfl, below_call hW.out hb5⟩
    · by_cases c2 : k2 = 2
      · have hchk := HC2.out c2
        have b1 : (k2 == 1) = false := by simpa using c1
        have b2 : (k2 == 2) = true := by simpa using c2
        clear c1 c2
        have Hchk := Lib.hid hchk
        clear hchk
        go_enter Try.func9, Try.ntmps9
        go_wp2_with (first
          | (go_at_call 29; refine (sched_reaches_no _ _ _ _ _ _ Hok.out).mono ?_; rintro e w1 ⟨rfl, hb1⟩; have g1 := Lib.hid (heap_call (heap_new w _) hb1); have e10 := cell_of g1.out 0; have e11 := cell_of g1.out 1; have e12 := cell_of g1.out 2; have e13 := cell_of g1.out 3)
          | (go_at_call 22; refine (sched_check_no _ _ _ _ _ Hok.out).mono ?_; rintro e w2 ⟨rfl, hb2⟩; have g2 := Lib.hid (heap_call g1.out hb2); have e20 := cell_of g2.out 0; have e21 := cell_of g2.out 1; have e22 := cell_of g2.out 2; have e23 := cell_of g2.out 3)
          | (go_at_call 20; refine (sched_near _ _ _ _ _ hk hu hn hd).mono ?_; rintro e w3 ⟨rfl, hb3⟩; rw [HK.out.1.1, HK.out.1.2, HK.out.2.1, HK.out.2.2]))
        have hchk := Hchk.out
        have HC := Lib.hid (hchk : Sched.chk k2 (max u2 1000) n2 d2 = 0)
        have HT := Lib.hid (heap_alloc (heap_new w3 (.cells #[.int .i64 k2, .int .i64 (max u2 1000), .int .i64 n2, .int .i64 d2] 45)) (.cells #[.int .i64 x, .int .i64 (max 0 x % 20000)] 3))
        have HN := Lib.hid (heap_new (w3.alloc (.cells #[.int .i64 k2, .int .i64 (max u2 1000), .int .i64 n2, .int .i64 d2] 45)) (.cells #[.int .i64 x, .int .i64 (max 0 x % 20000)] 3))
        have HW := Lib.hid (below_alloc (below_alloc (below_call (below_call (below_call (below_alloc (Below.refl w.heap.size w) _) hb1) hb2) hb3) (.cells #[.int .i64 k2, .int .i64 (max u2 1000), .int .i64 n2, .int .i64 d2] 45)) (.cells #[.int .i64 x, .int .i64 (max 0 x % 20000)] 3))
        have hb5 : max 0 x % 20000 ≤ 9223372036854775807 := by omega
        generalize (max u2 1000) = U at *
        rw [show (w3.alloc (.cells #[.int .i64 k2, .int .i64 U, .int .i64 n2, .int .i64 d2] 45)).heap.size = w3.heap.size + 1 from by simp] at HN
        go_loopw [43] (fun s43 wx => ∃ j : Nat, j ≤ 2 ∧ s43 = .int .i64 j ∧ Hid (wx.heap[w3.heap.size]? = some (.cells #[.int .i64 k2, .int .i64 U, .int .i64 n2, .int .i64 d2] 45 (0, 0))) ∧ Hid (wx.heap[w3.heap.size + 1]? = some (.cells #[.int .i64 x, .int .i64 (max 0 x % 20000)] 3 (0, 0))) ∧ Hid (Below w.heap.size w wx)) (fun s43 _ => 2 - (intOf s43).toNat)
        case atStart => exact ⟨0, by omega, rfl, HT, HN, HW⟩
        case round =>
          obtain ⟨j, hj, rfl, hT, hN, hW⟩ := hrel
          rcases Nat.lt_or_ge j 2 with hj2 | hj2
          · go_upto_region 11 with fail
            go_cut [8] (fun s8 wx => ∃ y : Int, y ≤ 9223372036854775807 ∧ s8 = .int .i64 y ∧ Hid (wx.heap[w3.heap.size]? = some (.cells #[.int .i64 k2, .int .i64 U, .int .i64 n2, .int .i64 d2] 45 (0, 0))) ∧ Hid (wx.heap[w3.heap.size + 1]? = some (.cells #[.int .i64 x, .int .i64 (max 0 x % 20000)] 3 (0, 0))) ∧ Hid (Below w.heap.size w wx))
            case first =>
              have hc : j = 0 ∨ j = 1 := by omega
              rcases hc with rfl | rfl
              · have e0 := cell_of hN.out 0
                go_wp2_with fail
                go_meet
                exact ⟨x, hx2, rfl, hT, hN, hW⟩
              · have e0 := cell_of hN.out 1
                go_wp2_with fail
                go_meet
                exact ⟨_, hb5, rfl, hT, hN, hW⟩
            case rest =>
              obtain ⟨y, hy, rfl, hT2, hN2, hW2⟩ := hcut
              have e0 := cell_of hT2.out 0
              have e1 := cell_of hT2.out 1
              have e2 := cell_of hT2.out 2
              have e3 := cell_of hT2.out 3
              go_wp2_with (first
                | (go_at_call 29; refine (sched_reaches _ _ _ _ _ _ HC.out).mono ?_; rintro e w4 ⟨r, rfl, hr, hb4⟩; have hr1 := hr.pos; have hr2 := hr.le; have hr3 : ¬ Sched.cut k2 U n2 d2 r < min y 1000000 := Int.not_lt.2 hr.yes; have Hr4 := Lib.hid hr.no; clear hr; have g4 := Lib.hid (heap_call hT2.out hb4); have e40 := cell_of g4.out 0; have e41 := cell_of g4.out 1; have e42 := cell_of g4.out 2; have e43 := cell_of g4.out 3)
                | (go_at_call 25; refine (sched_cutoff _ _ _ _ _ _ (by omega)).mono ?_; rintro e w5 ⟨rfl, hb5⟩))
              have g5 := Lib.hid (heap_call g4.out hb5)
              have n5 := Lib.hid (heap_call (heap_call hN2.out hb4) hb5)
              have W5 := Lib.hid (below_call (below_call hW2.out hb4) hb5)
              clear hr3
              go_loopw [10] (fun s10 wx => ∃ q : Int, 1 ≤ q ∧ q ≤ r ∧ s10 = .int .i64 q ∧ Hid (wx.heap[w3.heap.size]? = some (.cells #[.int .i64 k2, .int .i64 U, .int .i64 n2, .int .i64 d2] 45 (0, 0))) ∧ Hid (wx.heap[w3.heap.size + 1]? = some (.cells #[.int .i64 x, .int .i64 (max 0 x % 20000)] 3 (0, 0))) ∧ Hid (Below w.heap.size w wx)) (fun s10 _ => (r - intOf s10).toNat)
              case atStart => exact ⟨_, by omega, by omega, rfl, g5, n5, W5⟩
              case round =>
                obtain ⟨q, hq1, hq2, rfl, g6, n6, W6⟩ := hrel
                by_cases hqr : q < r
                · have hno : ¬ min y 1000000 ≤ Sched.cut k2 U n2 d2 q := Int.not_le.2 (Hr4.out q hq1 hqr)
                  have f0 := cell_of g6.out 0
                  have f1 := cell_of g6.out 1
                  have f2 := cell_of g6.out 2
                  have f3 := cell_of g6.out 3
                  go_wp2_with (go_at_call 25; refine (sched_cutoff _ _ _ _ _ _ (by omega)).mono ?_; rintro e w7 ⟨rfl, hb7⟩)
                  go_roundw
                  case rel => exact ⟨q + 1, by omega, by omega, rfl, heap_call g6.out hb7, heap_call n6.out hb7, below_call W6.out hb7⟩
                  case measure => simp [intOf]; omega
                · go_wp2
                  go_roundw
                  case rel => exact ⟨j + 1, by omega, by go_num, g6, n6, W6⟩
                  case measure => simp [intOf]; omega
          · obtain rfl : j = 2 := by omega
            go_wp2_with (go_at_call 26; refine (sched_wakes _).mono ?_; rintro e w5 ⟨rfl, hb5⟩)
            go_ret
            exact ⟨rfl, below_call hW.out hb5⟩
      · have hchk := HC0.out
        have b1 : (k2 == 1) = false := by simpa using c1
        have b2 : (k2 == 2) = false := by simpa using c2
        clear c1 c2
        have Hchk := Lib.hid hchk
        clear hchk
        go_enter Try.func9, Try.ntmps9
        go_wp2_with (first
          | (go_at_call 29; refine (sched_reaches_no _ _ _ _ _ _ Hok.out).mono ?_; rintro e w1 ⟨rfl, hb1⟩; have g1 := Lib.hid (heap_call (heap_new w _) hb1); have e10 := cell_of g1.out 0; have e11 := cell_of g1.out 1; have e12 := cell_of g1.out 2; have e13 := cell_of g1.out 3)
          | (go_at_call 22; refine (sched_check_no _ _ _ _ _ Hok.out).mono ?_; rintro e w2 ⟨rfl, hb2⟩; have g2 := Lib.hid (heap_call g1.out hb2); have e20 := cell_of g2.out 0; have e21 := cell_of g2.out 1; have e22 := cell_of g2.out 2; have e23 := cell_of g2.out 3)
          | (go_at_call 20; refine (sched_near _ _ _ _ _ hk hu hn hd).mono ?_; rintro e w3 ⟨rfl, hb3⟩; rw [HK.out.1.1, HK.out.1.2, HK.out.2.1, HK.out.2.2]))
        have hchk := Hchk.out
        have HC := Lib.hid (hchk : Sched.chk k2 u2 n2 d2 = 0)
        have HT := Lib.hid (heap_alloc (heap_new w3 (.cells #[.int .i64 k2, .int .i64 u2, .int .i64 n2, .int .i64 d2] 45)) (.cells #[.int .i64 x, .int .i64 (max 0 x % 20000)] 3))
        have HN := Lib.hid (heap_new (w3.alloc (.cells #[.int .i64 k2, .int .i64 u2, .int .i64 n2, .int .i64 d2] 45)) (.cells #[.int .i64 x, .int .i64 (max 0 x % 20000)] 3))
        have HW := Lib.hid (below_alloc (below_alloc (below_call (below_call (below_call (below_alloc (Below.refl w.heap.size w) _) hb1) hb2) hb3) (.cells #[.int .i64 k2, .int .i64 u2, .int .i64 n2, .int .i64 d2] 45)) (.cells #[.int .i64 x, .int .i64 (max 0 x % 20000)] 3))
        have hb5 : max 0 x % 20000 ≤ 9223372036854775807 := by omega
        generalize u2 = U at *
        rw [show (w3.alloc (.cells #[.int .i64 k2, .int .i64 U, .int .i64 n2, .int .i64 d2] 45)).heap.size = w3.heap.size + 1 from by simp] at HN
        go_loopw [43] (fun s43 wx => ∃ j : Nat, j ≤ 2 ∧ s43 = .int .i64 j ∧ Hid (wx.heap[w3.heap.size]? = some (.cells #[.int .i64 k2, .int .i64 U, .int .i64 n2, .int .i64 d2] 45 (0, 0))) ∧ Hid (wx.heap[w3.heap.size + 1]? = some (.cells #[.int .i64 x, .int .i64 (max 0 x % 20000)] 3 (0, 0))) ∧ Hid (Below w.heap.size w wx)) (fun s43 _ => 2 - (intOf s43).toNat)
        case atStart => exact ⟨0, by omega, rfl, HT, HN, HW⟩
        case round =>
          obtain ⟨j, hj, rfl, hT, hN, hW⟩ := hrel
          rcases Nat.lt_or_ge j 2 with hj2 | hj2
          · go_upto_region 11 with fail
            go_cut [8] (fun s8 wx => ∃ y : Int, y ≤ 9223372036854775807 ∧ s8 = .int .i64 y ∧ Hid (wx.heap[w3.heap.size]? = some (.cells #[.int .i64 k2, .int .i64 U, .int .i64 n2, .int .i64 d2] 45 (0, 0))) ∧ Hid (wx.heap[w3.heap.size + 1]? = some (.cells #[.int .i64 x, .int .i64 (max 0 x % 20000)] 3 (0, 0))) ∧ Hid (Below w.heap.size w wx))
            case first =>
              have hc : j = 0 ∨ j = 1 := by omega
              rcases hc with rfl | rfl
              · have e0 := cell_of hN.out 0
                go_wp2_with fail
                go_meet
                exact ⟨x, hx2, rfl, hT, hN, hW⟩
              · have e0 := cell_of hN.out 1
                go_wp2_with fail
                go_meet
                exact ⟨_, hb5, rfl, hT, hN, hW⟩
            case rest =>
              obtain ⟨y, hy, rfl, hT2, hN2, hW2⟩ := hcut
              have e0 := cell_of hT2.out 0
              have e1 := cell_of hT2.out 1
              have e2 := cell_of hT2.out 2
              have e3 := cell_of hT2.out 3
              go_wp2_with (first
                | (go_at_call 29; refine (sched_reaches _ _ _ _ _ _ HC.out).mono ?_; rintro e w4 ⟨r, rfl, hr, hb4⟩; have hr1 := hr.pos; have hr2 := hr.le; have hr3 : ¬ Sched.cut k2 U n2 d2 r < min y 1000000 := Int.not_lt.2 hr.yes; have Hr4 := Lib.hid hr.no; clear hr; have g4 := Lib.hid (heap_call hT2.out hb4); have e40 := cell_of g4.out 0; have e41 := cell_of g4.out 1; have e42 := cell_of g4.out 2; have e43 := cell_of g4.out 3)
                | (go_at_call 25; refine (sched_cutoff _ _ _ _ _ _ (by omega)).mono ?_; rintro e w5 ⟨rfl, hb5⟩))
              have g5 := Lib.hid (heap_call g4.out hb5)
              have n5 := Lib.hid (heap_call (heap_call hN2.out hb4) hb5)
              have W5 := Lib.hid (below_call (below_call hW2.out hb4) hb5)
              clear hr3
              go_loopw [10] (fun s10 wx => ∃ q : Int, 1 ≤ q ∧ q ≤ r ∧ s10 = .int .i64 q ∧ Hid (wx.heap[w3.heap.size]? = some (.cells #[.int .i64 k2, .int .i64 U, .int .i64 n2, .int .i64 d2] 45 (0, 0))) ∧ Hid (wx.heap[w3.heap.size + 1]? = some (.cells #[.int .i64 x, .int .i64 (max 0 x % 20000)] 3 (0, 0))) ∧ Hid (Below w.heap.size w wx)) (fun s10 _ => (r - intOf s10).toNat)
              case atStart => exact ⟨_, by omega, by omega, rfl, g5, n5, W5⟩
              case round =>
                obtain ⟨q, hq1, hq2, rfl, g6, n6, W6⟩ := hrel
                by_cases hqr : q < r
                · have hno : ¬ min y 1000000 ≤ Sched.cut k2 U n2 d2 q := Int.not_le.2 (Hr4.out q hq1 hqr)
                  have f0 := cell_of g6.out 0
                  have f1 := cell_of g6.out 1
                  have f2 := cell_of g6.out 2
                  have f3 := cell_of g6.out 3
                  go_wp2_with (go_at_call 25; refine (sched_cutoff _ _ _ _ _ _ (by omega)).mono ?_; rintro e w7 ⟨rfl, hb7⟩)
                  go_roundw
                  case rel => exact ⟨q + 1, by omega, by omega, rfl, heap_call g6.out hb7, heap_call n6.out hb7, below_call W6.out hb7⟩
                  case measure => simp [intOf]; omega
                · go_wp2
                  go_roundw
                  case rel => exact ⟨j + 1, by omega, by go_num, g6, n6, W6⟩
                  case measure => simp [intOf]; omega
          · obtain rfl : j = 2 := by omega
            go_wp2_with (go_at_call 26; refine (sched_wakes _).mono ?_; rintro e w5 ⟨rfl, hb5⟩)
            go_ret
            exact ⟨rfl, below_call hW.out hb5⟩
end Go.Proofs.Ytdbjljbkneopcaa
