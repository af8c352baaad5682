/- From the least number on Next tells all: the plain laws of DomWalks. -/
import Derived.Test.YtdbjljbkneopcaaDoorDomT
namespace Go.Proofs.YtdbjljbkneopcaaDoor
open Go.RowKit
set_option linter.unusedSimpArgs false
set_option linter.unusedVariables false

/-- Behind the j-th number of a rising list stands the next one. -/
theorem Rf.next_at (l : List Int) (hl : l.Pairwise (· < ·)) (j : Nat) (hj : j < l.length) : Rf.next l (l.getD j 0) = l[j + 1]? := by
  have hg : ∀ i, (hi : i < l.length) → l.getD i 0 = l[i] := fun i hi => by rw [List.getD_eq_getElem?_getD, List.getElem?_eq_getElem hi]; rfl
  have hp := List.pairwise_iff_getElem.1 hl
  by_cases h : j + 1 < l.length
  · rw [List.getElem?_eq_getElem h]
    refine Rf.next_some l hl _ _ (List.getElem_mem h) ?_ ?_
    · rw [hg j hj]; exact hp j (j + 1) hj h (by omega)
    · intro u hu hv
      obtain ⟨i, hi, rfl⟩ := List.getElem_of_mem hu
      rw [hg j hj] at hv
      rcases Nat.lt_or_ge i (j + 1) with h1 | h1
      · rcases Nat.lt_or_ge i j with h2 | h2
        · have := hp i j hi hj h2; omega
        · have : i = j := by omega
          subst this; omega
      · rcases Nat.lt_or_ge (j + 1) i with h2 | h2
        · have := hp (j + 1) i h hi h2; omega
        · have : i = j + 1 := by omega
          subst this; omega
  · rw [List.getElem?_eq_none (by omega)]
    refine Rf.next_none l _ fun u hu => ?_
    obtain ⟨i, hi, rfl⟩ := List.getElem_of_mem hu
    rw [hg j hj]
    rcases Nat.lt_or_ge i j with h1 | h1
    · have := hp i j hi hj h1; omega
    · have : i = j := by omega
      subst this; omega
/-- Ahead of the j-th number stands the one before it. -/
theorem Rf.prev_at (l : List Int) (hl : l.Pairwise (· < ·)) (j : Nat) (hj : j < l.length) : Rf.prev l (l.getD j 0) = if j = 0 then none else l[j - 1]? := by
  have hg : ∀ i, (hi : i < l.length) → l.getD i 0 = l[i] := fun i hi => by rw [List.getD_eq_getElem?_getD, List.getElem?_eq_getElem hi]; rfl
  have hp := List.pairwise_iff_getElem.1 hl
  by_cases h : j = 0
  · subst h
    rw [if_pos rfl]
    refine Rf.prev_none l _ fun u hu => ?_
    obtain ⟨i, hi, rfl⟩ := List.getElem_of_mem hu
    rw [hg 0 hj]
    rcases Nat.eq_zero_or_pos i with h1 | h1
    · subst h1; omega
    · have := hp 0 i hj hi h1; omega
  · rw [if_neg h, List.getElem?_eq_getElem (show j - 1 < l.length by omega)]
    refine Rf.prev_some l hl _ _ (List.getElem_mem _) ?_ ?_
    · rw [hg j hj]; exact hp (j - 1) j (by omega) hj (by omega)
    · intro u hu hv
      obtain ⟨i, hi, rfl⟩ := List.getElem_of_mem hu
      rw [hg j hj] at hv
      rcases Nat.lt_or_ge i j with h1 | h1
      · rcases Nat.lt_or_ge i (j - 1) with h2 | h2
        · have := hp i (j - 1) hi (by omega) h2; omega
        · have : i = j - 1 := by omega
          subst this; omega
      · rcases Nat.lt_or_ge j i with h2 | h2
        · have := hp j i hj hi h2; omega
        · have : i = j := by omega
          subst this; omega
/-- What is at least v, and what is at most v, have v in common alone. -/
theorem Rf.both (l : List Int) (v : Int) : ((l.filter fun u => decide (v ≤ u)).filter fun u => decide (u ∈ l.filter fun z => decide (z ≤ v))) = l.filter fun u => decide (u = v) := by
  rw [List.filter_filter]
  refine List.filter_congr fun u hu => ?_
  rw [Bool.eq_iff_iff]
  simp only [Bool.and_eq_true, decide_eq_true_eq, List.mem_filter]
  constructor
  · rintro ⟨h1, h2⟩; omega
  · intro h; exact ⟨⟨hu, by omega⟩, by omega⟩
theorem Rf.both_length (l : List Int) (v : Int) : (l.filter fun u => decide (v ≤ u)).length + (l.filter fun u => decide (u ≤ v)).length = l.length + (l.filter fun u => decide (u = v)).length := by
  induction l with
  | nil => rfl
  | cons x r ih =>
    simp only [List.filter_cons, List.length_cons]
    by_cases h1 : v ≤ x <;> by_cases h2 : x ≤ v <;> by_cases h3 : x = v <;> simp [h1, h2, h3] <;> omega
/-- A slice of its own, turned in place. -/
def Rf.Turned (l : List Int) (sv : Value) (w : World) (e : Ending) (w' : World) : Prop := e = .returned (.tuple #[]) ∧ Sl w' 3 1 sv l.length (Iv l.reverse) ∧ Fr (fun k => sv.ownBlock = some k) w w'
theorem go_reverse (sv : Value) (l : List Int) (w : World) (h : Sl w 3 1 sv l.length (Iv l)) (hn : 0 < l.length) : Calls Tryd.prog 45 #[sv] w (Rf.Turned l sv w) := by
  have hbig := h.big
  obtain ⟨b, o, c, cs, rfl, hc, h3, h4, h5, h6⟩ := h.form hn
  refine (Tryd.slices_Reverse_int_cells b o l.length c l w (Nat.le_refl _) hbig (Iv.cell h) (fun j hj => frozen_of hc (o + j))).mono ?_
  rintro e w' ⟨rfl, q, rfl⟩
  rw [List.take_length]
  have hvl : (l.reverse.map (Value.int .i64)).length = l.length := by simp
  obtain ⟨cs', g1, g2, g3, g4⟩ := heap_setCells b (l.reverse.map (Value.int .i64)) o (w.drewN q) cs 3 (0, 0) (heap_drewN hc q) (by rw [hvl]; omega)
  refine ⟨rfl, ⟨by simp [Iv], .inr ⟨b, o, c, cs', rfl, g1, h3, h4, by omega, fun j hj => ?_⟩⟩, ?_⟩
  · rw [g4 j (by rw [hvl]; omega)]
    rfl
  · refine (Fr.drewN (Fr.refl _ w) q).trans ?_
    refine (Fr.setCells b _ o (w.drewN q)).mono ?_
    intro i _ e
    show some b = some i
    rw [e]
theorem Rf.take_next (l : List Int) (hl : l.Pairwise (· < ·)) (j : Nat) (hj : j < l.length) : ((Rf.next l (l.getD j 0)).getD 0 = l.getD (j + 1) 0) ∧ (Rf.next l (l.getD j 0)).isSome = decide (j + 1 < l.length) := by
  rw [Rf.next_at l hl j hj, List.getD_eq_getElem?_getD]
  refine ⟨rfl, ?_⟩
  by_cases h : j + 1 < l.length
  · rw [List.getElem?_eq_getElem h, decide_eq_true h]; rfl
  · rw [List.getElem?_eq_none (by omega), decide_eq_false h]; rfl
/-- The number ahead of place i, or 0. -/
def Rf.ahead (l : List Int) (i : Nat) : Int := if i = 0 then 0 else l.getD (i - 1) 0
theorem Rf.take_prev (l : List Int) (hl : l.Pairwise (· < ·)) (i : Nat) (hi : i + 1 ≤ l.length) : ((Rf.prev l (Rf.ahead l (i + 1))).getD 0 = Rf.ahead l i) ∧ (Rf.prev l (Rf.ahead l (i + 1))).isSome = decide (0 < i) := by
  have e : Rf.ahead l (i + 1) = l.getD i 0 := by unfold Rf.ahead; rw [if_neg (by omega)]; rfl
  rw [e, Rf.prev_at l hl i (by omega)]
  unfold Rf.ahead
  by_cases h : i = 0
  · subst h; exact ⟨rfl, rfl⟩
  · rw [if_neg h, if_neg h, decide_eq_true (by omega), List.getD_eq_getElem?_getD, List.getElem?_eq_getElem (by omega)]
    exact ⟨rfl, rfl⟩
theorem Rf.drop_step (l : List Int) (i : Nat) (hi : i + 1 ≤ l.length) : (l.drop i).reverse = (l.drop (i + 1)).reverse ++ [Rf.ahead l (i + 1)] := by
  have e : Rf.ahead l (i + 1) = l[i] := by
    unfold Rf.ahead; rw [if_neg (by omega), List.getD_eq_getElem?_getD, List.getElem?_eq_getElem (by omega)]; rfl
  rw [e, List.drop_eq_getElem_cons (show i < l.length by omega), List.reverse_cons]
theorem Rf.ahead_last (l : List Int) : Rf.ahead l l.length = l.getLastD 0 := by
  unfold Rf.ahead
  by_cases h : l.length = 0
  · rw [if_pos h, List.length_eq_zero_iff.1 h]; rfl
  · rw [if_neg h, List.getLastD_eq_getLast?, List.getLast?_eq_getElem?, List.getD_eq_getElem?_getD]
end Go.Proofs.YtdbjljbkneopcaaDoor
