/- Cutoffs as plain numbers: they rise; Luby's terms summed. -/
import Derived.Test.YtdbjljbkneopcaaSchedW
namespace Go.Proofs.Ytdbjljbkneopcaa
open Go.RowKit
set_option linter.unusedSimpArgs false
set_option linter.unusedVariables false

theorem Sched.gstep_bd (n d c : Int) (h1 : 1 ≤ c) (h2 : c < 1000000) : c < Sched.gstep n d c ∧ Sched.gstep n d c ≤ 1000000 := by
  unfold Sched.gstep
  omega
theorem Sched.geo_bd (n d : Int) : ∀ (j : Nat) (c : Int), 1 ≤ c → c ≤ 1000000 → 1 ≤ Sched.geo n d j c ∧ c ≤ Sched.geo n d j c ∧ Sched.geo n d j c ≤ 1000000 := by
  intro j
  induction j with
  | zero => intro c h1 h2; exact ⟨h1, Int.le_refl _, h2⟩
  | succ j ih =>
    intro c h1 h2
    by_cases h : c < 1000000
    · rw [Sched.geo_step n d c j h]
      have g := Sched.gstep_bd n d c h1 h
      have := ih (Sched.gstep n d c) (by omega) g.2
      omega
    · show 1 ≤ (if c < 1000000 then _ else c) ∧ c ≤ (if c < 1000000 then _ else c) ∧ (if c < 1000000 then _ else c) ≤ 1000000
      rw [if_neg h]; omega
theorem Sched.geo_next (n d : Int) : ∀ (j : Nat) (c : Int), 1 ≤ c → c ≤ 1000000 → Sched.geo n d (j + 1) c = if Sched.geo n d j c < 1000000 then Sched.gstep n d (Sched.geo n d j c) else Sched.geo n d j c := by
  intro j
  induction j with
  | zero => intro c _ _; rfl
  | succ j ih =>
    intro c h1 h2
    by_cases h : c < 1000000
    · have g := Sched.gstep_bd n d c h1 h
      rw [Sched.geo_step n d c (j + 1) h, Sched.geo_step n d c j h]
      exact ih _ (by omega) g.2
    · have e : ∀ q, Sched.geo n d (q + 1) c = c := fun q => by show (if c < 1000000 then _ else c) = c; rw [if_neg h]
      rw [e, e, if_neg h]
theorem Sched.cut_bd (k u n d x : Int) (h : Sched.chk k u n d = 0) (hx : 1 ≤ x) (hx2 : x ≤ 9223372036854775807) : 1 ≤ Sched.cut k u n d x ∧ Sched.cut k u n d x ≤ 1000000 := by
  unfold Sched.cut
  rw [if_neg (by omega)]
  rcases (Sched.chk_iff k u n d).1 h with ⟨rfl, a1, a2, rfl, rfl⟩ | ⟨rfl, a1, a2, a3, a4, a5⟩ | ⟨a1, rfl, rfl, rfl⟩
  · rw [if_pos rfl]
    have := (Sched.luby_bd x.toNat (by omega)).2 (by omega)
    have h1 : 1 ≤ min (Sched.luby x.toNat : Int) 1000000 := by omega
    generalize min (Sched.luby x.toNat : Int) 1000000 = m at *
    have : 1 * 1 ≤ u * m := Int.mul_le_mul a1 h1 (by omega) (by omega)
    generalize u * m = z at *
    omega
  · rw [if_neg (by omega), if_pos rfl]
    have := Sched.geo_bd n d (x.toNat - 1) u a1 a2
    omega
  · rw [if_neg (by omega), if_neg (by omega)]; omega
theorem Sched.cut_rises (u n d x : Int) (h : Sched.chk 2 u n d = 0) (hx : 1 ≤ x) : Sched.cut 2 u n d x < Sched.cut 2 u n d (x + 1) ∨ 1000000 ≤ Sched.cut 2 u n d (x + 1) := by
  have e : ∀ y, 1 ≤ y → Sched.cut 2 u n d y = Sched.geo n d (y.toNat - 1) u := by
    intro y hy
    unfold Sched.cut; rw [if_neg (by omega), if_neg (by omega), if_pos rfl]
  have a := (Sched.chk_iff 2 u n d).1 h
  rw [e x hx, e (x + 1) (by omega), show (x + 1).toNat - 1 = (x.toNat - 1) + 1 from by omega, Sched.geo_next n d _ u (by omega) (by omega)]
  have b := Sched.geo_bd n d (x.toNat - 1) u (by omega) (by omega)
  split
  · have := Sched.gstep_bd n d _ b.1 ‹_›
    omega
  · omega

def Sched.sum : Nat → Nat
  | 0 => 0
  | m + 1 => Sched.sum m + Sched.luby m
theorem Sched.luby_small : ∀ m : Fin 256, Sched.luby m.val ≤ 128 := by decide +kernel
theorem Sched.sum_small : ∀ m : Fin 257, Sched.sum m.val ≤ 1024 := by decide +kernel
theorem Sched.sum_at : ∀ n : Fin 9, 1 ≤ n.val → Sched.sum (2 ^ n.val) = n.val * 2 ^ (n.val - 1) := by decide +kernel
theorem Sched.cut_luby (u : Int) (m : Nat) (h1 : 1 ≤ u) (h2 : u ≤ 1000) (hm : 1 ≤ m) (hm2 : m < 256) : Sched.cut 1 u 0 0 m = u * Sched.luby m := by
  unfold Sched.cut
  rw [if_neg (by have := (Sched.chk_iff 1 u 0 0).2 (by omega); omega), if_pos rfl]
  have := Sched.luby_small ⟨m, hm2⟩
  simp only [Int.toNat_natCast] at *
  rw [show min (Sched.luby m : Int) 1000000 = (Sched.luby m : Int) from by omega]
  have h3 : u * (Sched.luby m : Int) ≤ 1000 * 128 := Int.mul_le_mul h2 (by omega) (by omega) (by omega)
  omega
theorem Sched.fin_eq (U : Int) (N : Nat) (h1 : 1 ≤ U) (h2 : U ≤ 1000) (hN : N ≤ 7) : wrap64 (wrap64 (U * (1 + (N : Int))) * 2 ^ N) = U * (((N + 1) * 2 ^ N : Nat) : Int) := by
  have h : N = 0 ∨ N = 1 ∨ N = 2 ∨ N = 3 ∨ N = 4 ∨ N = 5 ∨ N = 6 ∨ N = 7 := by omega
  rcases h with rfl | rfl | rfl | rfl | rfl | rfl | rfl | rfl <;> (unfold wrap64; simp; omega)
end Go.Proofs.Ytdbjljbkneopcaa
