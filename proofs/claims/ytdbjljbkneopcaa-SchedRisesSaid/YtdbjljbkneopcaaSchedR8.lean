/- The law SchedRises, walked: it tells true. -/
import Derived.Test.YtdbjljbkneopcaaSchedR8M
import Derived.Test.YtdbjljbkneopcaaHeap
import Derived.Deep.DeepCutAuto
import Derived.Deep.CutBlock
namespace Go.Proofs.Ytdbjljbkneopcaa
open Go.RowKit
set_option linter.unusedSimpArgs false
set_option linter.unusedVariables false

set_option maxHeartbeats 1000000 in
set_option maxRecDepth 100000 in
theorem law_rises (k u n d i : Int) (w : World) (hk : k ≤ 9223372036854775807) (hu : u ≤ 9223372036854775807) (hn : n ≤ 9223372036854775807) (hd : d ≤ 9223372036854775807) (hi : 0 ≤ i) (hi2 : i ≤ 255) :
    Calls Try.prog 8 #[.agg #[.int .i64 k, .int .i64 u, .int .i64 n, .int .i64 d], .int .u8 i] w fun e w' => e = .returned (.bool true) ∧ Below w.heap.size w w' := by
  go_enter Try.func8, Try.ntmps8
  go_wp2_with (go_at_call 20; refine (sched_near _ _ _ _ _ hk hu hn hd).mono ?_; rintro e w1 ⟨rfl, hb1⟩)
  have HQ := Lib.hid (Sched.near_chk k u n d)
  have HS := Lib.hid (heap_call (heap_new w _) hb1)
  have HW := Lib.hid (below_call (below_alloc (Below.refl w.heap.size w) _) hb1)
  generalize Sched.nearK k = k2 at *
  generalize Sched.nearU k u = u2 at *
  generalize Sched.nearN k n d = n2 at *
  generalize Sched.nearD k d = d2 at *
  clear hb1
  have HS1 := Lib.hid (heap_alloc HS.out (.cells #[.int .i64 k2, .int .i64 u2, .int .i64 n2, .int .i64 d2] 45))
  have HT1 := Lib.hid (heap_new w1 (.cells #[.int .i64 k2, .int .i64 u2, .int .i64 n2, .int .i64 d2] 45))
  have HW1 := Lib.hid (below_alloc HW.out (.cells #[.int .i64 k2, .int .i64 u2, .int .i64 n2, .int .i64 d2] 45))
  go_wp2_with fail
  go_loopw [6, 7] (fun s6 s7 wx => ∃ (q : Nat) (l : Int), q + 1 ≤ 61 ∧ s7 = .int .i64 (q + 1 : Nat) ∧ s6 = .int .i64 l ∧ Hid (l = if q = 0 then 0 else Sched.cut k2 u2 n2 d2 q) ∧ Hid (wx.heap[w.heap.size]? = some (.cells #[.int .i64 k, .int .i64 u, .int .i64 n, .int .i64 d] 45 (0, 0))) ∧ Hid (wx.heap[w1.heap.size]? = some (.cells #[.int .i64 k2, .int .i64 u2, .int .i64 n2, .int .i64 d2] 45 (0, 0))) ∧ Hid (Below w.heap.size w wx)) (fun _ s7 _ => 61 - (intOf s7).toNat)
  case atStart => exact ⟨0, 0, by omega, rfl, rfl, rfl, HS1, HT1, HW1⟩
  case round =>
    obtain ⟨q, l, hq, rfl, rfl, hl, hS2, hT2, hW2⟩ := hrel
    rcases Nat.lt_or_ge q 60 with hq2 | hq2
    · have e0 := cell_of hT2.out 0
      have e1 := cell_of hT2.out 1
      have e2 := cell_of hT2.out 2
      have e3 := cell_of hT2.out 3
      have hbd := Sched.cut_bd k2 u2 n2 d2 ((q : Int) + 1) HQ.out (by omega) (by omega)
      obtain ⟨hbd1, hbd2⟩ := hbd
      have hr : k2 = 2 → l < Sched.cut k2 u2 n2 d2 ((q : Int) + 1) ∨ 1000000 ≤ Sched.cut k2 u2 n2 d2 ((q : Int) + 1) := by
        intro h
        rw [hl.out]
        split
        · omega
        · subst h
          exact Sched.cut_rises u2 n2 d2 q HQ.out (by omega)
      generalize hcv : Sched.cut k2 u2 n2 d2 ((q : Int) + 1) = cv at *
      have Hcv := Lib.hid hcv
      clear hcv
      by_cases c2 : k2 = 2
      · have c2b : (k2 == 2) = true := by simpa using c2
        have hr2 := hr c2
        clear c2 hr
        rcases Int.lt_or_le l cv with h5 | h5
        · clear hr2
          go_wp2_with (go_at_call 25; refine (sched_cutoff _ _ _ _ _ _ (by omega)).mono ?_; rintro e w3 ⟨rfl, hb3⟩; rw [Hcv.out]; have g3 := Lib.hid (heap_call hT2.out hb3); have e30 := cell_of g3.out 0)
          go_roundw
          case rel => exact ⟨q + 1, cv, by omega, by go_num, rfl, (by show cv = _; rw [if_neg (by omega), ← Hcv.out, Int.natCast_add]; rfl), heap_call hS2.out hb3, heap_call hT2.out hb3, below_call hW2.out hb3⟩
          case measure => simp [intOf]; omega
        · have h6 : 1000000 ≤ cv := by omega
          clear hr2
          go_wp2_with (go_at_call 25; refine (sched_cutoff _ _ _ _ _ _ (by omega)).mono ?_; rintro e w3 ⟨rfl, hb3⟩; rw [Hcv.out]; have g3 := Lib.hid (heap_call hT2.out hb3); have e30 := cell_of g3.out 0)
          go_roundw
          case rel => exact ⟨q + 1, cv, by omega, by go_num, rfl, (by show cv = _; rw [if_neg (by omega), ← Hcv.out, Int.natCast_add]; rfl), heap_call hS2.out hb3, heap_call hT2.out hb3, below_call hW2.out hb3⟩
          case measure => simp [intOf]; omega
      · have c2b : (k2 == 2) = false := by simpa using c2
        clear c2 hr
        go_wp2_with (go_at_call 25; refine (sched_cutoff _ _ _ _ _ _ (by omega)).mono ?_; rintro e w3 ⟨rfl, hb3⟩; rw [Hcv.out]; have g3 := Lib.hid (heap_call hT2.out hb3); have e30 := cell_of g3.out 0)
        go_roundw
        case rel => exact ⟨q + 1, cv, by omega, by go_num, rfl, (by show cv = _; rw [if_neg (by omega), ← Hcv.out, Int.natCast_add]; rfl), heap_call hS2.out hb3, heap_call hT2.out hb3, below_call hW2.out hb3⟩
        case measure => simp [intOf]; omega
    · have e0 := cell_of hS2.out 1
      obtain rfl : q = 60 := by omega
      rw [show ((60 + 1 : Nat) : Int) = 61 from rfl]
      clear e0
      obtain ⟨wo, rfl⟩ : ∃ wo : World, wo = wr := ⟨_, rfl⟩
      have e0 := cell_of hS2.out 1
      obtain ⟨N, hN⟩ : ∃ N : Nat, i % 8 = N := ⟨(i % 8).toNat, by omega⟩
      have hN7 : N ≤ 7 := by omega
      obtain ⟨p, hp, hp2, hp3⟩ : ∃ p : Nat, wrap64 ((2 : Int) ^ (1 + N)) = p ∧ Hid (p = 2 ^ (N + 1)) ∧ p ≤ 256 := by
        have h : ∀ N : Fin 8, wrap64 ((2 : Int) ^ (1 + N.val)) = (2 ^ (N.val + 1) : Nat) ∧ 2 ^ (N.val + 1) ≤ 256 := by decide +kernel
        exact ⟨2 ^ (N + 1), (h ⟨N, by omega⟩).1, rfl, (h ⟨N, by omega⟩).2⟩
      go_wp2_with fail
      have hU1 : 1 ≤ 1 + max 0 u % 1000 := by omega
      have hU2 : 1 + max 0 u % 1000 ≤ 1000 := by omega
      generalize 1 + max 0 u % 1000 = U at *
      have HL1 := Lib.hid (heap_new wo (.cells #[.int .i64 1, .int .i64 U, .int .i64 0, .int .i64 0] 45))
      have HW3 := Lib.hid (below_alloc hW2.out (.cells #[.int .i64 1, .int .i64 U, .int .i64 0, .int .i64 0] 45))
      clear e0
      have HN := Lib.hid hN
      clear hN
      go_loopw [11, 12] (fun s11 s12 wx => ∃ (m : Nat) (z : Int), 1 ≤ m ∧ m ≤ p ∧ s12 = .int .i64 m ∧ s11 = .int .i64 z ∧ Hid (z = U * Sched.sum m) ∧ 0 ≤ z ∧ z ≤ 1024000 ∧ Hid (wx.heap[wo.heap.size]? = some (.cells #[.int .i64 1, .int .i64 U, .int .i64 0, .int .i64 0] 45 (0, 0))) ∧ Hid (Below w.heap.size w wx)) (fun _ s12 _ => 256 - (intOf s12).toNat)
      case atStart => exact ⟨1, 0, by omega, by have := hp2.out; have := Nat.one_le_two_pow (n := N + 1); omega, rfl, rfl, by show (0 : Int) = _; rw [show Sched.sum 1 = 0 from by decide]; simp, by omega, by omega, HL1, HW3⟩
      case round =>
        obtain ⟨m, z, hm1, hm2, rfl, rfl, hz, hz1, hz2, hL2, hW4⟩ := hrel
        by_cases hlt : m < p
        · have e0 := cell_of hL2.out 0
          have e1 := cell_of hL2.out 1
          have e2 := cell_of hL2.out 2
          have e3 := cell_of hL2.out 3
          have hcl := Sched.cut_luby U m hU1 hU2 hm1 (by omega)
          have hls := Sched.luby_small ⟨m, by omega⟩
          have hss := Sched.sum_small ⟨m + 1, by omega⟩
          have hz3 : z + U * (Sched.luby m : Int) = U * (Sched.sum (m + 1) : Int) := by
            rw [hz.out, ← Int.mul_add]; rfl
          have hz4 : 0 ≤ U * (Sched.luby m : Int) := Int.mul_nonneg (by omega) (by omega)
          have hz5 : U * (Sched.sum (m + 1) : Int) ≤ 1000 * 1024 := Int.mul_le_mul hU2 (by simp at hss; omega) (by omega) (by omega)
          have HZ3 := Lib.hid hz3
          have hz6 : z + U * (Sched.luby m : Int) ≤ 1024000 := by omega
          clear hls hss hz3 hz5
          go_wp2_with (go_at_call 25; refine (sched_cutoff _ _ _ _ _ _ (by omega)).mono ?_; rintro e w3 ⟨rfl, hb3⟩)
          go_roundw
          case rel => exact ⟨m + 1, _, by omega, by omega, by go_num, rfl, HZ3.out, by omega, by omega, heap_call hL2.out hb3, below_call hW4.out hb3⟩
          case measure => simp [intOf]; omega
        · have e1 := cell_of hL2.out 1
          have hmp : m = p := by omega
          have hfin : z = U * (((N + 1) * 2 ^ N : Nat) : Int) := by
            rw [hz.out, hmp, hp2.out, Sched.sum_at ⟨N + 1, by omega⟩ (by simp)]
            rfl
          have HF := Lib.hid hfin
          clear hfin hmp
          go_wp2_with (go_at_call 26; refine (sched_wakes _).mono ?_; rintro e w5 ⟨rfl, hb5⟩; have g5 := Lib.hid (heap_call hL2.out hb5); have e50 := cell_of g5.out 1)
          go_ret
          refine ⟨ret_bool ?_, below_call hW4.out hb5⟩
          rw [beq_iff_eq, Sched.fin_eq U N hU1 hU2 hN7]
          exact HF.out
end Go.Proofs.Ytdbjljbkneopcaa
