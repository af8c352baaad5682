/- The contract of sched.Schedule.Reaches: the first run that may fail so often. -/
import Derived.Test.YtdbjljbkneopcaaSchedR9M
import Derived.Test.YtdbjljbkneopcaaHeap
namespace Go.Proofs.Ytdbjljbkneopcaa
open Go.RowKit
set_option linter.unusedSimpArgs false
set_option linter.unusedVariables false

def Sched.Reach (k u n d N : Int) (w : World) (e : Ending) (w' : World) : Prop := ∃ r, e = .returned (.int .i64 r) ∧ Sched.First k u n d N r ∧ Below w.heap.size w w'

set_option maxHeartbeats 1000000 in
theorem sched_reaches_luby (u N : Int) (w : World) (h : Sched.chk 1 u 0 0 = 0) (hu : 1 ≤ u) :
    Calls Try.prog 29 #[.agg #[.int .i64 1, .int .i64 u, .int .i64 0, .int .i64 0], .int .i64 N] w (Sched.Reach 1 u 0 0 N w) := by
  have H := Lib.hid h
  have hcl := Sched.cut_luby_top u
  have Hcl := Lib.hid hcl
  clear h hcl
  go_enter Try.func29, Try.ntmps29
  go_wp2_with (go_at_call 22; refine (sched_check_yes _ _ _ _ _ H.out).mono ?_; rintro e w1 ⟨rfl, hb1⟩; have g1 := Lib.hid (heap_call (heap_new w _) hb1); have e10 := cell_of g1.out 0)
  have hW1 := Lib.hid (below_call (below_alloc (Below.refl w.heap.size w) _) hb1)
  clear e10 hb1
  generalize hM : min N 1000000 = M at *
  have hM1 : M ≤ 1000000 := by omega
  have HM := Lib.hid hM
  clear hM
  go_loopw [5] (fun s5 wx => ∃ m : Nat, 1 ≤ m ∧ m ≤ 2097151 ∧ s5 = .int .i64 m ∧ Hid (∃ i, 1 ≤ i ∧ i ≤ 21 ∧ m = 2 ^ i - 1) ∧ Hid (∀ j : Int, 1 ≤ j → j < m → Sched.cut 1 u 0 0 j < M) ∧ Hid (wx.heap[w.heap.size]? = some (.cells #[.int .i64 1, .int .i64 u, .int .i64 0, .int .i64 0] 45 (0, 0))) ∧ Hid (Below w.heap.size w wx)) (fun s5 _ => 2097152 - (intOf s5).toNat)
  case atStart => exact ⟨1, by omega, by omega, rfl, ⟨1, by omega, by omega, rfl⟩, fun j h1 h2 => by omega, g1, hW1⟩
  case round =>
    obtain ⟨m, hm1, hm2, rfl, hp, hno, g2, hW2⟩ := hrel
    have e0 := cell_of g2.out 0
    have e1 := cell_of g2.out 1
    have e2 := cell_of g2.out 2
    have e3 := cell_of g2.out 3
    by_cases c : M ≤ Sched.cut 1 u 0 0 m
    · go_wp2_with (go_at_call 25; refine (sched_cutoff _ _ _ _ _ _ (by omega)).mono ?_; rintro e w3 ⟨rfl, hb3⟩)
      go_ret
      exact ⟨_, rfl, ⟨by omega, by omega, by rw [HM.out]; exact c, by rw [HM.out]; exact hno.out⟩, below_call hW2.out hb3⟩
    · have hlt : Sched.cut 1 u 0 0 m < M := by omega
      have hnext : (∃ i, 1 ≤ i ∧ i ≤ 21 ∧ 2 * m + 1 = 2 ^ i - 1) ∧ 2 * m + 1 ≤ 2097151 ∧ ∀ j : Int, 1 ≤ j → j < 2 * m + 1 → Sched.cut 1 u 0 0 j < M := by
        obtain ⟨i, hi1, hi2, rfl⟩ := hp.out
        have hi3 := Hcl.out i H.out hu hi1 (by omega) (by omega)
        have hp0 := Nat.one_le_two_pow (n := i)
        refine ⟨⟨i + 1, by omega, by omega, by rw [Nat.pow_succ]; omega⟩, ?_, ?_⟩
        · have := Nat.pow_le_pow_right (n := 2) (by omega) hi3; omega
        · intro j hj1 hj2
          obtain ⟨j, rfl⟩ := Int.eq_ofNat_of_zero_le (show 0 ≤ j by omega)
          refine Int.lt_of_le_of_lt (Sched.cut_luby_below u i j H.out hu hi1 (by omega) (by omega) ?_) hlt
          rw [Nat.pow_succ]; omega
      have HN := Lib.hid hnext
      have hb2 := hnext.2.1
      clear hnext c
      go_wp2_with (go_at_call 25; refine (sched_cutoff _ _ _ _ _ _ (by omega)).mono ?_; rintro e w3 ⟨rfl, hb3⟩)
      go_roundw
      case rel => exact ⟨2 * m + 1, by omega, by omega, by go_num, HN.out.1, HN.out.2.2, heap_call g2.out hb3, below_call hW2.out hb3⟩
      case measure => simp [intOf]; omega

set_option maxHeartbeats 1000000 in
theorem sched_reaches_other (k u n d N : Int) (w : World) (h : Sched.chk k u n d = 0) (hk : k ≠ 1) :
    Calls Try.prog 29 #[.agg #[.int .i64 k, .int .i64 u, .int .i64 n, .int .i64 d], .int .i64 N] w (Sched.Reach k u n d N w) := by
  have H := Lib.hid h
  have hkb : (k == 1) = false := by simpa using hk
  have hrise : ∀ m : Nat, 1 ≤ m → (m : Int) ≤ Sched.cut k u n d m → Sched.cut k u n d m < 1000000 → ((m + 1 : Nat) : Int) ≤ Sched.cut k u n d (m + 1 : Nat) := by
    intro m h1 h2 h3
    rcases (Sched.chk_iff k u n d).1 h with ⟨a1, _⟩ | ⟨rfl, a1, a2, a3, a4, a5⟩ | ⟨a1, rfl, rfl, rfl⟩
    · exact absurd a1 hk
    · have := Sched.cut_rises u n d m h (by omega)
      rw [show ((m : Int) + 1) = ((m + 1 : Nat) : Int) from rfl] at this
      omega
    · exfalso
      unfold Sched.cut at h3
      rw [if_neg (by omega), if_neg (by omega), if_neg (by omega)] at h3
      omega
  have Hr := Lib.hid hrise
  clear h hk hrise
  go_enter Try.func29, Try.ntmps29
  go_wp2_with (go_at_call 22; refine (sched_check_yes _ _ _ _ _ H.out).mono ?_; rintro e w1 ⟨rfl, hb1⟩; have g1 := Lib.hid (heap_call (heap_new w _) hb1); have e10 := cell_of g1.out 0)
  have hW1 := Lib.hid (below_call (below_alloc (Below.refl w.heap.size w) _) hb1)
  clear e10 hb1
  generalize hM : min N 1000000 = M at *
  have hM1 : M ≤ 1000000 := by omega
  have HM := Lib.hid hM
  clear hM
  go_loopw [6] (fun s6 wx => ∃ m : Nat, 1 ≤ m ∧ m ≤ 1000000 ∧ s6 = .int .i64 m ∧ Hid ((m : Int) ≤ Sched.cut k u n d m) ∧ Hid (∀ j : Int, 1 ≤ j → j < m → Sched.cut k u n d j < M) ∧ Hid (wx.heap[w.heap.size]? = some (.cells #[.int .i64 k, .int .i64 u, .int .i64 n, .int .i64 d] 45 (0, 0))) ∧ Hid (Below w.heap.size w wx)) (fun s6 _ => 1000001 - (intOf s6).toNat)
  case atStart => exact ⟨1, by omega, by omega, rfl, (Sched.cut_bd k u n d 1 H.out (by omega) (by omega)).1, fun j h1 h2 => by omega, g1, hW1⟩
  case round =>
    obtain ⟨m, hm1, hm2, rfl, hp, hno, g2, hW2⟩ := hrel
    have e0 := cell_of g2.out 0
    have e1 := cell_of g2.out 1
    have e2 := cell_of g2.out 2
    have e3 := cell_of g2.out 3
    by_cases c : M ≤ Sched.cut k u n d m
    · have c' : ¬ Sched.cut k u n d m < M := by omega
      clear c
      go_wp2_with (go_at_call 25; refine (sched_cutoff _ _ _ _ _ _ (by omega)).mono ?_; rintro e w3 ⟨rfl, hb3⟩)
      go_ret
      exact ⟨_, rfl, ⟨by omega, by omega, by rw [HM.out]; omega, by rw [HM.out]; exact hno.out⟩, below_call hW2.out hb3⟩
    · have hlt : Sched.cut k u n d m < M := by omega
      have hm3 : m + 1 ≤ 1000000 := by have := hp.out; omega
      clear c
      go_wp2_with (go_at_call 25; refine (sched_cutoff _ _ _ _ _ _ (by omega)).mono ?_; rintro e w3 ⟨rfl, hb3⟩)
      go_roundw
      case rel =>
        refine ⟨m + 1, by omega, by omega, by go_num, Hr.out m hm1 hp.out (by omega), ?_, heap_call g2.out hb3, below_call hW2.out hb3⟩
        intro j hj1 hj2
        rcases Int.lt_or_le j m with g | g
        · exact hno.out j hj1 g
        · obtain rfl : j = m := by omega
          exact hlt
      case measure => simp [intOf]; omega

theorem sched_reaches (k u n d N : Int) (w : World) (h : Sched.chk k u n d = 0) :
    Calls Try.prog 29 #[.agg #[.int .i64 k, .int .i64 u, .int .i64 n, .int .i64 d], .int .i64 N] w (Sched.Reach k u n d N w) := by
  by_cases hk : k = 1
  · rcases (Sched.chk_iff k u n d).1 h with ⟨rfl, a1, a2, rfl, rfl⟩ | ⟨a, _⟩ | ⟨a, _⟩
    · exact sched_reaches_luby u N w h a1
    · omega
    · omega
  · exact sched_reaches_other k u n d N w h hk
theorem sched_reaches_no (k u n d N : Int) (w : World) (h : Sched.chk k u n d ≠ 0) :
    Calls Try.prog 29 #[.agg #[.int .i64 k, .int .i64 u, .int .i64 n, .int .i64 d], .int .i64 N] w fun e w' => e = .returned (.int .i64 0) ∧ Below w.heap.size w w' := by
  have H := Lib.hid h
  clear h
  go_enter Try.func29, Try.ntmps29
  go_wp2_with (go_at_call 22; refine (sched_check_no _ _ _ _ _ H.out).mono ?_; rintro e w1 ⟨rfl, hb1⟩)
  go_ret
  exact ⟨rfl, below_call (below_alloc (Below.refl w.heap.size w) _) hb1⟩
end Go.Proofs.Ytdbjljbkneopcaa
