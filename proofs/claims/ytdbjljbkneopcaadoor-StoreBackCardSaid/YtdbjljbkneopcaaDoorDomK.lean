/- A number is set in words. -/
import Derived.Test.YtdbjljbkneopcaaDoorDomJ
namespace Go.Proofs.YtdbjljbkneopcaaDoor
open Go.RowKit
set_option linter.unusedSimpArgs false
set_option linter.unusedVariables false

/-- A bit more in a word. -/
theorem Bt.or_bit (x r b : Nat) (hr : r < 64) (hb : b < 64) : (x ||| 2 ^ r * 1 % 2 ^ 64).testBit b = (x.testBit b || decide (b = r)) := by
  rw [Nat.testBit_or, Bt.one r b hr hb]
theorem Bt.els_set (off : Int) (cur : List Nat) (i r : Nat) (hi : i < cur.length) (hr : r < 64) (u : Int) : u ∈ Bt.els off (cur.set i (cur.getD i 0 ||| 2 ^ r * 1 % 2 ^ 64)) ↔ u ∈ Bt.els off cur ∨ u = off + 64 * i + r := by
  rw [Bt.els_mem, Bt.els_mem]
  have hget : ∀ j, (cur.set i (cur.getD i 0 ||| 2 ^ r * 1 % 2 ^ 64)).getD j 0 = if i = j then cur.getD i 0 ||| 2 ^ r * 1 % 2 ^ 64 else cur.getD j 0 := fun j => by
    rw [List.getD_eq_getElem?_getD, List.getElem?_set]
    by_cases e : i = j
    · subst e
      rw [if_pos rfl, if_pos rfl, if_pos hi]
      rfl
    · rw [if_neg e, if_neg e, List.getD_eq_getElem?_getD]
  constructor
  · rintro ⟨j, b, hj, hb, ht, rfl⟩
    rw [List.length_set] at hj
    rw [hget] at ht
    by_cases e : i = j
    · subst e
      rw [if_pos rfl, Bt.or_bit _ _ _ hr hb] at ht
      rcases Bool.or_eq_true _ _ ▸ ht with h | h
      · exact Or.inl ⟨i, b, hj, hb, h, rfl⟩
      · right
        rw [of_decide_eq_true h]
    · rw [if_neg e] at ht
      exact Or.inl ⟨j, b, hj, hb, ht, rfl⟩
  · rintro (⟨j, b, hj, hb, ht, rfl⟩ | rfl)
    · refine ⟨j, b, by simpa using hj, hb, ?_, rfl⟩
      rw [hget]
      by_cases e : i = j
      · subst e
        rw [if_pos rfl, Bt.or_bit _ _ _ hr hb, ht]
        rfl
      · rw [if_neg e]; exact ht
    · refine ⟨i, r, by simpa using hi, hr, ?_, rfl⟩
      rw [hget, if_pos rfl, Bt.or_bit _ _ _ hr hr]
      simp
theorem Bt.els_zero (off : Int) (n : Nat) : Bt.els off (List.replicate n 0) = [] := by
  rw [List.eq_nil_iff_forall_not_mem]
  intro u hu
  obtain ⟨i, b, hi, hb, ht, _⟩ := (Bt.els_mem _ _ _).1 hu
  rw [List.getD_eq_getElem?_getD, List.getElem?_replicate] at ht
  split at ht <;> simp at ht
end Go.Proofs.YtdbjljbkneopcaaDoor
