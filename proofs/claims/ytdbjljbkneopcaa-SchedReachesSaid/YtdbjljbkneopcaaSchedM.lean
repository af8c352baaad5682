/- Luby's sequence as plain numbers: no program in sight. -/
import Derived.Lib.ItoaNum
import Derived.WalkKit
namespace Go.Proofs.Ytdbjljbkneopcaa
open Go.RowKit
set_option linter.unusedSimpArgs false
set_option linter.unusedVariables false

def Sched.lubF : Nat → Nat → Nat
  | 0, _ => 0
  | f + 1, k => if k = 0 then 0 else if k + 1 = 2 ^ Lib.bitLen k then 2 ^ (Lib.bitLen k - 1) else Sched.lubF f (k + 1 - 2 ^ (Lib.bitLen k - 1))
def Sched.luby (k : Nat) : Nat := Sched.lubF 64 k

theorem Sched.bitLen_facts (m : Nat) (h1 : 1 ≤ m) (h2 : m ≤ 9223372036854775807) :
    1 ≤ Lib.bitLen m ∧ Lib.bitLen m ≤ 63 ∧ 2 ^ (Lib.bitLen m - 1) ≤ m ∧ m < 2 ^ Lib.bitLen m := by
  have h := Lib.bitLenAux_bounds 64 m (by omega) (by omega)
  have e : Lib.bitLenAux 64 m = Lib.bitLen m := rfl
  rw [e] at h
  refine ⟨h.1, ?_, h.2.1, h.2.2⟩
  rcases Nat.lt_or_ge 63 (Lib.bitLen m) with hlt | hge
  · exfalso
    have := Nat.pow_le_pow_right (n := 2) (by omega) (show 63 ≤ Lib.bitLen m - 1 by omega)
    omega
  · exact hge

theorem Sched.bitLen_lt (m L : Nat) (h2 : m ≤ 9223372036854775807) (h : m < 2 ^ L) : Lib.bitLen m ≤ L := by
  rcases Nat.eq_zero_or_pos m with rfl | hp
  · have : Lib.bitLen 0 = 0 := by decide
    omega
  · have f := Sched.bitLen_facts m hp h2
    rcases Nat.lt_or_ge L (Lib.bitLen m) with hlt | hge
    · exfalso
      have := Nat.pow_le_pow_right (n := 2) (by omega) (show L ≤ Lib.bitLen m - 1 by omega)
      omega
    · exact hge

theorem Sched.lubF_step (f k : Nat) : Sched.lubF (f + 1) k = if k = 0 then 0 else if k + 1 = 2 ^ Lib.bitLen k then 2 ^ (Lib.bitLen k - 1) else Sched.lubF f (k + 1 - 2 ^ (Lib.bitLen k - 1)) := rfl

theorem Sched.lubF_fuel : ∀ (L k f g : Nat), k ≤ 9223372036854775807 → Lib.bitLen k ≤ L → L < f → L < g → Sched.lubF f k = Sched.lubF g k := by
  intro L
  induction L with
  | zero =>
    intro k f g hk hL hf hg
    obtain ⟨f, rfl⟩ : ∃ x, f = x + 1 := ⟨f - 1, by omega⟩
    obtain ⟨g, rfl⟩ : ∃ x, g = x + 1 := ⟨g - 1, by omega⟩
    rcases Nat.eq_zero_or_pos k with rfl | hp
    · rw [Sched.lubF_step, Sched.lubF_step, if_pos rfl, if_pos rfl]
    · have := Sched.bitLen_facts k hp hk; omega
  | succ L ih =>
    intro k f g hk hL hf hg
    obtain ⟨f, rfl⟩ : ∃ x, f = x + 1 := ⟨f - 1, by omega⟩
    obtain ⟨g, rfl⟩ : ∃ x, g = x + 1 := ⟨g - 1, by omega⟩
    rw [Sched.lubF_step, Sched.lubF_step]
    by_cases h0 : k = 0
    · rw [if_pos h0, if_pos h0]
    · rw [if_neg h0, if_neg h0]
      by_cases h1 : k + 1 = 2 ^ Lib.bitLen k
      · rw [if_pos h1, if_pos h1]
      · rw [if_neg h1, if_neg h1]
        have fa := Sched.bitLen_facts k (by omega) hk
        have e : 2 ^ Lib.bitLen k = 2 * 2 ^ (Lib.bitLen k - 1) := by
          rw [← Nat.pow_succ']; congr 1; omega
        have hp : 1 ≤ 2 ^ (Lib.bitLen k - 1) := Nat.one_le_two_pow
        refine ih _ _ _ (by omega) (Nat.le_trans (Sched.bitLen_lt _ (Lib.bitLen k - 1) (by omega) (by omega)) (by omega)) (by omega) (by omega)

theorem Sched.luby_zero : Sched.luby 0 = 0 := by decide
theorem Sched.luby_end (m : Nat) (h1 : 1 ≤ m) (he : m + 1 = 2 ^ Lib.bitLen m) : Sched.luby m = 2 ^ (Lib.bitLen m - 1) := by
  unfold Sched.luby
  rw [Sched.lubF_step, if_neg (by omega), if_pos he]
theorem Sched.luby_next (m : Nat) (h1 : 1 ≤ m) (h2 : m ≤ 9223372036854775807) (he : m + 1 ≠ 2 ^ Lib.bitLen m) : Sched.luby m = Sched.luby (m + 1 - 2 ^ (Lib.bitLen m - 1)) := by
  have fa := Sched.bitLen_facts m h1 h2
  have e : 2 ^ Lib.bitLen m = 2 * 2 ^ (Lib.bitLen m - 1) := by
    rw [← Nat.pow_succ']; congr 1; omega
  have hp : 1 ≤ 2 ^ (Lib.bitLen m - 1) := Nat.one_le_two_pow
  have hl := Sched.bitLen_lt (m + 1 - 2 ^ (Lib.bitLen m - 1)) (Lib.bitLen m - 1) (by omega) (by omega)
  conv => lhs; unfold Sched.luby
  rw [Sched.lubF_step, if_neg (by omega), if_neg he]
  exact Sched.lubF_fuel 62 _ _ _ (by omega) (by omega) (by omega) (by omega)

theorem Sched.luby_lt : ∀ (L m : Nat), m ≤ 9223372036854775807 → Lib.bitLen m ≤ L → Sched.luby m ≤ 4611686018427387904 ∧ (1 ≤ m → 1 ≤ Sched.luby m) := by
  intro L
  induction L with
  | zero =>
    intro m hm hL
    rcases Nat.eq_zero_or_pos m with rfl | hp
    · simp [Sched.luby_zero]
    · have := Sched.bitLen_facts m hp hm; omega
  | succ L ih =>
    intro m hm hL
    rcases Nat.eq_zero_or_pos m with rfl | hp
    · simp [Sched.luby_zero]
    · have fa := Sched.bitLen_facts m hp hm
      have e : 2 ^ Lib.bitLen m = 2 * 2 ^ (Lib.bitLen m - 1) := by
        rw [← Nat.pow_succ']; congr 1; omega
      have hp' : 1 ≤ 2 ^ (Lib.bitLen m - 1) := Nat.one_le_two_pow
      by_cases he : m + 1 = 2 ^ Lib.bitLen m
      · rw [Sched.luby_end m hp he]
        have := Nat.pow_le_pow_right (n := 2) (by omega) (show Lib.bitLen m - 1 ≤ 62 by omega)
        omega
      · rw [Sched.luby_next m hp hm he]
        have := ih (m + 1 - 2 ^ (Lib.bitLen m - 1)) (by omega) (Nat.le_trans (Sched.bitLen_lt _ (Lib.bitLen m - 1) (by omega) (by omega)) (by omega))
        omega
theorem Sched.luby_bd (m : Nat) (hm : m ≤ 9223372036854775807) : Sched.luby m ≤ 4611686018427387904 ∧ (1 ≤ m → 1 ≤ Sched.luby m) := Sched.luby_lt _ m hm (Nat.le_refl _)

theorem Sched.half (L : Nat) (h : 1 ≤ L) : 2 ^ L = 2 * 2 ^ (L - 1) := by
  obtain ⟨L, rfl⟩ : ∃ x, L = x + 1 := ⟨L - 1, by omega⟩
  rw [Nat.pow_succ, Nat.add_sub_cancel, Nat.mul_comm]
theorem Sched.icast (L : Nat) : ((2 ^ L : Nat) : Int) = (2 : Int) ^ L := by simp
theorem Sched.w1 (L : Nat) (h : L ≤ 63) : wrap64 (wrap64 (2 ^ L) - 1) = 2 ^ L - 1 := by
  have h : ∀ L : Fin 64, wrap64 (wrap64 ((2 : Int) ^ L.val) - 1) = (2 : Int) ^ L.val - 1 := by decide +kernel
  exact h ⟨L, by omega⟩
theorem Sched.w2 (L : Nat) (h : L ≤ 62) : wrap64 (2 ^ L) = 2 ^ L := by
  have h : ∀ L : Fin 63, wrap64 ((2 : Int) ^ L.val) = (2 : Int) ^ L.val := by decide +kernel
  exact h ⟨L, by omega⟩
end Go.Proofs.Ytdbjljbkneopcaa
