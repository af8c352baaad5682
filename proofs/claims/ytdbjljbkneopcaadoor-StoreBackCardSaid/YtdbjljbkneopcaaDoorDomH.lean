/- The contracts of above, and of the functions that Without, Only, AtLeast and AtMost hand on. -/
import Derived.Test.YtdbjljbkneopcaaDoorDomG
namespace Go.Proofs.YtdbjljbkneopcaaDoor
open Go.RowKit
set_option linter.unusedSimpArgs false
set_option linter.unusedVariables false

/-- A word's value: its bits say p. -/
def Dm.Kd (p : Int → Bool) (a : Int) (w : World) (e : Ending) (w' : World) : Prop :=
  ∃ x : Nat, e = .returned (.int .u64 (x : Int)) ∧ x < 18446744073709551616 ∧ (∀ b : Nat, b < 64 → x.testBit b = p (a + b)) ∧ Below w.heap.size w w'
theorem Bt.ones (b : Nat) (hb : b < 64) : (18446744073709551615 : Nat).testBit b = true := by
  rw [show (18446744073709551615 : Nat) = 2 ^ 64 - 1 from rfl, Nat.testBit_two_pow_sub_one]
  simp [hb]
theorem Bt.shl (x r : Nat) : IntKind.u64.wrap ((x : Int) * 2 ^ r) = ((2 ^ r * x % 2 ^ 64 : Nat) : Int) := by
  rw [IntKind.wrap_u64]
  rw [show ((x : Int) * 2 ^ r) = ((2 ^ r * x : Nat) : Int) from by simp [Int.mul_comm]]
  omega
theorem Bt.shl_bit (x r b : Nat) (hb : b < 64) : (2 ^ r * x % 2 ^ 64).testBit b = (decide (r ≤ b) && x.testBit (b - r)) := by
  rw [Nat.testBit_mod_two_pow, Nat.testBit_two_pow_mul]
  simp [hb]

set_option maxHeartbeats 400000 in
theorem dom_above (a v : Int) (w : World) (h1 : -2000000 ≤ a) (h2 : a ≤ 2000000) (h3 : -2000000 ≤ v) (h4 : v ≤ 2000000) :
    Calls Tryd.prog 104 #[.int .i64 a, .int .i64 v] w (Dm.Kd (fun u => decide (v ≤ u)) a w) := by
  rcases Int.lt_or_le a v with h | h
  · rcases Int.lt_or_le (v - a) 64 with g | g
    · obtain ⟨r, rfl⟩ : ∃ r : Nat, v = a + r := ⟨(v - a).toNat, by omega⟩
      have e1 : a + (r : Int) - a = r := by omega
      have S := Lib.hid (Bt.shl 18446744073709551615 r)
      go_enter Tryd.func104, Tryd.ntmps104
      go_wp2_with fail
      go_ret
      refine ⟨2 ^ r * 18446744073709551615 % 2 ^ 64, ?_, Nat.mod_lt _ (by decide), fun b hb => ?_, Below.refl _ _⟩
      · exact ret_int (by have := S.out; rwa [show ((18446744073709551615 : Nat) : Int) = 18446744073709551615 from rfl] at this)
      · rw [Bt.shl_bit _ _ _ hb]
        by_cases hr : r ≤ b
        · rw [Bt.ones _ (by omega), decide_eq_true hr]
          exact (decide_eq_true (by omega)).symm
        · rw [decide_eq_false hr]
          exact (decide_eq_false (by omega)).symm
    · go_enter Tryd.func104, Tryd.ntmps104
      go_wp2_with fail
      go_ret
      exact ⟨0, rfl, by decide, fun b hb => by rw [Nat.zero_testBit]; exact (decide_eq_false (by omega)).symm, Below.refl _ _⟩
  · go_enter Tryd.func104, Tryd.ntmps104
    go_wp2_with fail
    go_ret
    exact ⟨18446744073709551615, rfl, by decide, fun b hb => by rw [Bt.ones b hb]; exact (decide_eq_true (by omega)).symm, Below.refl _ _⟩

set_option maxHeartbeats 400000 in
theorem dom_atleast_1 (a v : Int) (x c : Nat) (w : World) (hc : w.heap[c]? = some (.cells #[.int .i64 v] 3 (0, 0))) (h1 : -2000000 ≤ a) (h2 : a ≤ 2000000) (h3 : -2000000 ≤ v) (h4 : v ≤ 2000000) :
    Calls Tryd.prog 103 #[.int .i64 a, .int .u64 (x : Int), .pointer (some ⟨c, 0, none⟩)] w (Dm.Kd (fun u => decide (v ≤ u)) a w) := by
  have c0 := cell_of hc 0
  have H := Lib.hid (dom_above a v w h1 h2 h3 h4)
  clear hc
  go_enter Tryd.func103, Tryd.ntmps103
  go_wp2_with fail
  refine H.out.mono ?_
  rintro e w2 ⟨y, rfl, hy⟩
  go_wp2_with fail
  go_ret
  exact ⟨y, rfl, hy⟩
set_option maxHeartbeats 400000 in
theorem dom_atmost_1 (a v : Int) (x c : Nat) (w : World) (hc : w.heap[c]? = some (.cells #[.int .i64 v] 3 (0, 0))) (h1 : -2000000 ≤ a) (h2 : a ≤ 2000000) (h3 : -1900000 ≤ v) (h4 : v ≤ 1900000) :
    Calls Tryd.prog 105 #[.int .i64 a, .int .u64 (x : Int), .pointer (some ⟨c, 0, none⟩)] w (Dm.Kd (fun u => decide (u ≤ v)) a w) := by
  have c0 := cell_of hc 0
  have H := Lib.hid (dom_above a (v + 1) w h1 h2 (by omega) (by omega))
  clear hc
  go_enter Tryd.func105, Tryd.ntmps105
  go_wp2_with fail
  refine H.out.mono ?_
  rintro e w2 ⟨y, rfl, hy, hb, hbe⟩
  have HB := Lib.hid hb
  clear hb
  go_wp2_with fail
  go_ret
  refine ⟨18446744073709551615 - y, ret_int (Bt.flip_int y hy), by omega, fun b hb => ?_, hbe⟩
  rw [Bt.flip y b hy hb, HB.out b hb]
  by_cases h : v + 1 ≤ a + b
  · rw [decide_eq_true h]
    exact (decide_eq_false (by omega)).symm
  · rw [decide_eq_false h]
    exact (decide_eq_true (by omega)).symm
theorem Bt.one (r b : Nat) (hr : r < 64) (hb : b < 64) : (2 ^ r * 1 % 2 ^ 64).testBit b = decide (b = r) := by
  rw [Bt.shl_bit _ _ _ hb]
  by_cases h : b = r
  · subst h; simp
  · rw [decide_eq_false h]
    by_cases h2 : r ≤ b
    · obtain ⟨i, hi⟩ : ∃ i, b - r = i + 1 := ⟨b - r - 1, by omega⟩
      rw [hi, Nat.testBit_succ]
      simp
    · simp [h2]
set_option maxHeartbeats 400000 in
theorem dom_only_1 (a v : Int) (x c : Nat) (w : World) (hc : w.heap[c]? = some (.cells #[.int .i64 v] 3 (0, 0))) (ha : a % 64 = 0) (h1 : -2000000 ≤ a) (h2 : a ≤ 2000000) (h3 : -9223372036854775808 ≤ v) (h4 : v ≤ 9223372036854775807) :
    Calls Tryd.prog 106 #[.int .i64 a, .int .u64 (x : Int), .pointer (some ⟨c, 0, none⟩)] w (Dm.Kd (fun u => decide (u = v)) a w) := by
  have c0 := cell_of hc 0
  have H := Lib.hid (dom_place v w h3 h4)
  clear hc
  by_cases hp : a = v - v % 64
  · obtain ⟨r, hr⟩ : ∃ r : Nat, v = a + r := ⟨(v % 64).toNat, by omega⟩
    have hr64 : r < 64 := by omega
    have e2 : (a == v - v % 64) = true := by rw [beq_iff_eq]; exact hp
    have e1 : v - a = r := by omega
    have S := Lib.hid (Bt.shl 1 r)
    have HR := Lib.hid hr
    clear hp hr
    go_enter Tryd.func106, Tryd.ntmps106
    go_wp2_with fail
    refine H.out.mono ?_
    rintro e w2 ⟨rfl, rfl⟩
    go_wp2_with fail
    go_ret
    refine ⟨2 ^ r * 1 % 2 ^ 64, ret_int (by rw [← S.out]; simp), Nat.mod_lt _ (by decide), fun b hb => ?_, Below.refl _ _⟩
    rw [Bt.one r b hr64 hb, HR.out]
    exact decide_eq_decide.2 ⟨fun h => by omega, fun h => by omega⟩
  · have e2 : (a == v - v % 64) = false := by rw [beq_eq_false_iff_ne]; exact hp
    go_enter Tryd.func106, Tryd.ntmps106
    go_wp2_with fail
    refine H.out.mono ?_
    rintro e w2 ⟨rfl, rfl⟩
    go_wp2_with fail
    go_ret
    exact ⟨0, rfl, by decide, fun b hb => by rw [Nat.zero_testBit]; exact (decide_eq_false (by omega)).symm, Below.refl _ _⟩
set_option maxHeartbeats 400000 in
theorem dom_without_1 (a v : Int) (x c : Nat) (w : World) (hc : w.heap[c]? = some (.cells #[.int .i64 v] 3 (0, 0))) (ha : a % 64 = 0) (h1 : -2000000 ≤ a) (h2 : a ≤ 2000000) (h3 : -9223372036854775808 ≤ v) (h4 : v ≤ 9223372036854775807) :
    Calls Tryd.prog 126 #[.int .i64 a, .int .u64 (x : Int), .pointer (some ⟨c, 0, none⟩)] w (Dm.Kd (fun u => !decide (u = v)) a w) := by
  have c0 := cell_of hc 0
  have H := Lib.hid (dom_place v w h3 h4)
  clear hc
  by_cases hp : a = v - v % 64
  · obtain ⟨r, hr⟩ : ∃ r : Nat, v = a + r := ⟨(v % 64).toNat, by omega⟩
    have hr64 : r < 64 := by omega
    have e2 : (a == v - v % 64) = true := by rw [beq_iff_eq]; exact hp
    have e1 : v - a = r := by omega
    have S := Lib.hid (Bt.shl 1 r)
    have HR := Lib.hid hr
    clear hp hr
    go_enter Tryd.func126, Tryd.ntmps126
    go_wp2_with fail
    refine H.out.mono ?_
    rintro e w2 ⟨rfl, rfl⟩
    go_wp2_with fail
    go_ret
    have hlt : 2 ^ r * 1 % 2 ^ 64 < 18446744073709551616 := Nat.mod_lt _ (by decide)
    refine ⟨18446744073709551615 - 2 ^ r * 1 % 2 ^ 64, ret_int (by rw [← Bt.flip_int _ hlt, ← S.out]; simp), by omega, fun b hb => ?_, Below.refl _ _⟩
    rw [Bt.flip _ _ hlt hb, Bt.one r b hr64 hb, HR.out]
    exact congrArg (!·) (decide_eq_decide.2 ⟨fun h => by omega, fun h => by omega⟩)
  · have e2 : (a == v - v % 64) = false := by rw [beq_eq_false_iff_ne]; exact hp
    go_enter Tryd.func126, Tryd.ntmps126
    go_wp2_with fail
    refine H.out.mono ?_
    rintro e w2 ⟨rfl, rfl⟩
    go_wp2_with fail
    go_ret
    refine ⟨18446744073709551615, rfl, by decide, fun b hb => ?_, Below.refl _ _⟩
    rw [Bt.ones b hb]
    have : ¬ a + (b : Int) = v := by omega
    simp [this]
end Go.Proofs.YtdbjljbkneopcaaDoor
