/- What two sets have, what the one has and the other hasn't: the plain law of DomSets. -/
import Derived.Test.YtdbjljbkneopcaaDoorDomT
namespace Go.Proofs.YtdbjljbkneopcaaDoor
open Go.RowKit
set_option linter.unusedSimpArgs false
set_option linter.unusedVariables false

theorem Rf.parts (d : List Int) (p : Int → Bool) : (d.filter p).length + (d.filter fun u => !p u).length = d.length := by
  induction d with
  | nil => rfl
  | cons x r ih =>
    rw [List.filter_cons, List.filter_cons]
    cases h : p x <;> simp <;> omega
theorem Rf.apart (d e : List Int) : ((d.filter fun u => decide (u ∈ e)).filter fun u => decide (u ∈ d.filter fun z => !decide (z ∈ e))) = [] := by
  rw [List.filter_eq_nil_iff]
  intro u hu
  rw [List.mem_filter] at hu
  simp
  intro _
  simpa using hu.2
theorem Dm.chg4 (a : List Int) : Dm.chg a [] = 4 ↔ 0 < a.length := by
  unfold Dm.chg
  constructor
  · intro h
    split at h
    · omega
    · rename_i h1
      have : a.length ≠ 0 := fun e => h1 (by rw [e]; rfl)
      omega
  · intro h
    rw [if_neg (by simp; omega), if_pos (show ([] : List Int).length = 0 from rfl)]
/-- What DomSets asks of the sizes. -/
theorem Rf.sets (d e a b f : List Int) (hd : d.Pairwise (· < ·)) (he : e.Pairwise (· < ·)) (ha : a = d.filter fun u => decide (u ∈ e)) (hb : b = d.filter fun u => !decide (u ∈ e)) (hf : f = e.filter fun u => !decide (u ∈ d)) :
    a.length + b.length = d.length ∧ (d = e ↔ a.length = d.length ∧ a.length = e.length) ∧ (d = e ↔ b.length = 0 ∧ f.length = 0) := by
  have hp : a.length + b.length = d.length := by rw [ha, hb]; exact Rf.parts d _
  have hs := Dm.same_iff d e hd he
  rw [Dm.chg0, ← ha] at hs
  refine ⟨hp, ?_, ?_⟩
  · rw [← hs]
    constructor <;> rintro ⟨h1, h2⟩ <;> constructor <;> omega
  · constructor
    · intro h
      have h2 := hs.2 h
      refine ⟨by omega, ?_⟩
      rw [hf, h]
      rw [List.length_eq_zero_iff, List.filter_eq_nil_iff]
      intro u hu
      simp [hu]
    · rintro ⟨h1, h2⟩
      refine int_ext _ _ hd he fun x => ?_
      rw [hb, List.length_eq_zero_iff, List.filter_eq_nil_iff] at h1
      rw [hf, List.length_eq_zero_iff, List.filter_eq_nil_iff] at h2
      constructor
      · intro hx
        have := h1 x hx
        simpa using this
      · intro hx
        have := h2 x hx
        simpa using this
end Go.Proofs.YtdbjljbkneopcaaDoor
