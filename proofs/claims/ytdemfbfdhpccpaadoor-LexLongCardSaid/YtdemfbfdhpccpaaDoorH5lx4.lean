-- Printed by wip/tools/hp.sh (functions of the translation, out of Lean's print of them).
import Derived.Test.YtdemfbfdhpccpaaDoorH5lx0
import Derived.Test.YtdemfbfdhpccpaaDoorH5lx1
import Derived.Test.YtdemfbfdhpccpaaDoorH5lx2
import Derived.Test.YtdemfbfdhpccpaaDoorH5lx3
namespace Go.Proofs.YtdemfbfdhpccpaaDoorX.H5l
open Go.RowKit Go.Proofs.YtdemfbfdhpccpaaDoorW.PrintWords Go.Proofs.YtdemfbfdhpccpaaDoorW.PrintLast Go.Proofs.YtdemfbfdhpccpaaDoorW.PrintMore
attribute [local go_sem] max2_int min2_int max_two min_two max_three min_three max_four min_four   -- for this text's walks alone
set_option linter.unusedVariables false
set_option linter.unusedSimpArgs false
attribute [local go_sem] Go.Proofs.YtdemfbfdhpccpaaDoor.Hook.cell_two

/-! ### jigsawref05_Lex: function 9 -/
theorem sz_len (s : ByteArray) : s.data.toList.length = s.size := by rw [Array.length_toList]; rfl
theorem bt_get (s : ByteArray) (i : Nat) (c : UInt8) (h : s.data.toList[i]? = some c) : bt s (i : Int) = (c.toNat : Int) := by
  obtain ⟨h1, h2⟩ := List.getElem?_eq_some_iff.1 h
  have h3 : i < s.size := by rw [Array.length_toList] at h1; exact h1
  have h4 : s[i] = c := h2
  unfold bt
  simp [h3, h4]
theorem ref_letter_f (c : UInt8) : jigsawref05_letter.f (c.toNat : Int) = some (Go.Proofs.YtdemfbfdhpccpaaDoor.Lx.lt c) := by
  unfold jigsawref05_letter.f Go.Proofs.YtdemfbfdhpccpaaDoor.Lx.lt
  repeat' split
  all_goals (congr 1; rw [Bool.eq_iff_iff]; simp; omega)
theorem ref_digit_f (c : UInt8) : jigsawref05_digit.f (c.toNat : Int) = some (Go.Proofs.YtdemfbfdhpccpaaDoor.Lx.dg c) := by
  unfold jigsawref05_digit.f Go.Proofs.YtdemfbfdhpccpaaDoor.Lx.dg
  repeat' split
  all_goals (congr 1; rw [Bool.eq_iff_iff]; simp; omega)
theorem lt_inn (c : UInt8) : Go.Proofs.YtdemfbfdhpccpaaDoor.Lx.lt c = true → Go.Proofs.YtdemfbfdhpccpaaDoor.Lx.inn c = true := by unfold Go.Proofs.YtdemfbfdhpccpaaDoor.Lx.inn; intro h; rw [h]; rfl
theorem ref_word_l0 (s : ByteArray) (hs : s.size ≤ 1000000000000000) (at_ : Nat) (c0 : UInt8) (h0 : s.data.toList[at_]? = some c0) (hl : Go.Proofs.YtdemfbfdhpccpaaDoor.Lx.lt c0 = true) : ∀ (d n k : Nat), s.size ≤ at_ + n + d → at_ + n ≤ s.size → 0 < n → d < k →
    jigsawref05_word.l0 k s at_ n = some ((n + Go.Proofs.YtdemfbfdhpccpaaDoor.Lx.run Go.Proofs.YtdemfbfdhpccpaaDoor.Lx.inn (s.data.toList.drop (at_ + n)) : Nat) : Int) := by
  intro d
  induction d with
  | zero =>
    intro n k h1 h2 h3 hk
    obtain ⟨k, rfl⟩ : ∃ m, k = m + 1 := ⟨k - 1, by omega⟩
    have e : wrap64 ((at_ : Int) + (n : Int)) = ((at_ + n : Nat) : Int) := by unfold wrap64; omega
    have hd : s.data.toList.drop (at_ + n) = [] := List.drop_eq_nil_of_le (by rw [sz_len]; omega)
    rw [hd]
    simp only [jigsawref05_word.l0]
    rw [e, if_neg (by omega)]
    rfl
  | succ d ih =>
    intro n k h1 h2 h3 hk
    obtain ⟨k, rfl⟩ : ∃ m, k = m + 1 := ⟨k - 1, by omega⟩
    have e : wrap64 ((at_ : Int) + (n : Int)) = ((at_ + n : Nat) : Int) := by unfold wrap64; omega
    have e1 : wrap64 ((n : Int) + 1) = ((n + 1 : Nat) : Int) := by unfold wrap64; omega
    simp only [jigsawref05_word.l0]
    rw [e]
    by_cases hlt : at_ + n < s.size
    · have hlen : at_ + n < s.data.toList.length := by rw [sz_len]; exact hlt
      have hg : s.data.toList[at_ + n]? = some s.data.toList[at_ + n] := List.getElem?_eq_getElem hlen
      generalize hc : s.data.toList[at_ + n] = c at hg
      have hdrop : s.data.toList.drop (at_ + n) = c :: s.data.toList.drop (at_ + (n + 1)) := by rw [List.drop_eq_getElem_cons hlen, hc]; rfl
      rw [if_pos (by omega), if_pos (by omega), bt_get s _ c hg, ref_letter_f, ref_digit_f, hdrop, Go.Proofs.YtdemfbfdhpccpaaDoor.Lx.run_cons]
      simp only [Option.bind_some]
      rw [e1]
      have IH := ih (n + 1) k (by omega) (by omega) (by omega) (by omega)
      rw [show Go.Proofs.YtdemfbfdhpccpaaDoor.Lx.inn c = (Go.Proofs.YtdemfbfdhpccpaaDoor.Lx.lt c || Go.Proofs.YtdemfbfdhpccpaaDoor.Lx.dg c || decide (c.toNat = 95)) from rfl]
      cases hlc : Go.Proofs.YtdemfbfdhpccpaaDoor.Lx.lt c with
      | true =>
        rw [if_pos rfl, IH]
        simp only [Bool.true_or, if_true]
        generalize Go.Proofs.YtdemfbfdhpccpaaDoor.Lx.run Go.Proofs.YtdemfbfdhpccpaaDoor.Lx.inn (s.data.toList.drop (at_ + (n + 1))) = R; exact congrArg some (by omega)
      | false =>
        rw [if_neg (by decide), if_neg (by omega)]
        cases hdc : Go.Proofs.YtdemfbfdhpccpaaDoor.Lx.dg c with
        | true =>
          rw [if_pos rfl, IH]
          simp only [Bool.false_or, Bool.true_or, if_true]
          generalize Go.Proofs.YtdemfbfdhpccpaaDoor.Lx.run Go.Proofs.YtdemfbfdhpccpaaDoor.Lx.inn (s.data.toList.drop (at_ + (n + 1))) = R; exact congrArg some (by omega)
        | false =>
          rw [if_neg (by decide)]
          by_cases h95 : c.toNat = 95
          · rw [if_pos (by omega), IH, if_pos (by simp [h95])]
            generalize Go.Proofs.YtdemfbfdhpccpaaDoor.Lx.run Go.Proofs.YtdemfbfdhpccpaaDoor.Lx.inn (s.data.toList.drop (at_ + (n + 1))) = R; exact congrArg some (by omega)
          · rw [if_neg (by omega), if_neg (by simp [h95])]
            simp
    · have hd : s.data.toList.drop (at_ + n) = [] := List.drop_eq_nil_of_le (by rw [sz_len]; omega)
      rw [if_neg (by omega), hd]
      rfl
theorem ref_word_f (s : ByteArray) (hs : s.size ≤ 1000000000000000) (at_ : Nat) (hat : at_ ≤ s.size) (k : Nat) (hk : s.size < k) : jigsawref05_word.f k s at_ = some ((Go.Proofs.YtdemfbfdhpccpaaDoor.Lx.word (s.data.toList.drop at_) : Nat) : Int) := by
  obtain ⟨k, rfl⟩ : ∃ m, k = m + 1 := ⟨k - 1, by omega⟩
  unfold jigsawref05_word.f
  have e : wrap64 ((at_ : Int) + 0) = (at_ : Int) := by unfold wrap64; omega
  have e1 : wrap64 ((0 : Int) + 1) = ((1 : Nat) : Int) := by unfold wrap64; omega
  simp only [jigsawref05_word.l0]
  rw [e]
  by_cases hlt : at_ < s.size
  · have hlen : at_ < s.data.toList.length := by rw [sz_len]; exact hlt
    have hg : s.data.toList[at_]? = some s.data.toList[at_] := List.getElem?_eq_getElem hlen
    generalize hc : s.data.toList[at_] = c at hg
    have hdrop : s.data.toList.drop at_ = c :: s.data.toList.drop (at_ + 1) := by rw [List.drop_eq_getElem_cons hlen, hc]
    rw [if_pos (by omega), if_pos (by omega), bt_get s _ c hg, ref_letter_f, ref_digit_f, hdrop]
    simp only [Option.bind_some]
    rw [show Go.Proofs.YtdemfbfdhpccpaaDoor.Lx.word (c :: s.data.toList.drop (at_ + 1)) = (if Go.Proofs.YtdemfbfdhpccpaaDoor.Lx.lt c then Go.Proofs.YtdemfbfdhpccpaaDoor.Lx.run Go.Proofs.YtdemfbfdhpccpaaDoor.Lx.inn (s.data.toList.drop (at_ + 1)) + 1 else 0) from rfl]
    cases hlc : Go.Proofs.YtdemfbfdhpccpaaDoor.Lx.lt c with
    | true =>
      rw [if_pos rfl, e1, ref_word_l0 s hs at_ c hg hlc (s.size - at_ - 1) 1 k (by omega) (by omega) (by omega) (by omega), if_pos rfl]
      generalize Go.Proofs.YtdemfbfdhpccpaaDoor.Lx.run Go.Proofs.YtdemfbfdhpccpaaDoor.Lx.inn (s.data.toList.drop (at_ + 1)) = R; exact congrArg some (by omega)
    | false =>
      simp
  · have hd : s.data.toList.drop at_ = [] := List.drop_eq_nil_of_le (by rw [sz_len]; omega)
    rw [if_neg (by omega), hd]; rfl
theorem val_snoc (l : List UInt8) (c : UInt8) : Go.Proofs.YtdemfbfdhpccpaaDoor.Lx.val (l ++ [c]) = 10 * Go.Proofs.YtdemfbfdhpccpaaDoor.Lx.val l + (c.toNat - 48) := by
  unfold Go.Proofs.YtdemfbfdhpccpaaDoor.Lx.val; rw [List.foldl_append]; rfl
theorem val_lt : ∀ (n : Nat) (l : List UInt8), l.length = n → (∀ c ∈ l, Go.Proofs.YtdemfbfdhpccpaaDoor.Lx.dg c = true) → Go.Proofs.YtdemfbfdhpccpaaDoor.Lx.val l < 10 ^ n := by
  intro n
  induction n with
  | zero => intro l h _; rw [List.length_eq_zero_iff.1 h]; decide
  | succ n ih =>
    intro l h hd
    have hne : l ≠ [] := fun e => by rw [e] at h; cases h
    rw [← List.dropLast_concat_getLast hne] at hd ⊢
    rw [val_snoc]
    have h1 := ih l.dropLast (by rw [List.length_dropLast, h]; rfl) (fun c hc => hd c (List.mem_append_left _ hc))
    have h2 := hd (l.getLast hne) (List.mem_append_right _ List.mem_cons_self)
    unfold Go.Proofs.YtdemfbfdhpccpaaDoor.Lx.dg at h2
    rw [decide_eq_true_eq] at h2
    rw [Nat.pow_succ]
    omega
/-- What a number comes to: r digits from 'fr' on. -/
def numR (fr a sg : Int) (r : Nat) (z : Bool) (V : Int) : Int × Int × Int :=
  if r = 0 then (0, 0, 0) else if 10 < r ∨ 1 < r ∧ z = true ∨ sg < 0 ∧ r = 1 ∧ z = true then (0, 0, 15) else (fr + r - a, sg * V, 0)
theorem numR_no {r : Nat} {sg : Int} (h : ¬ (r : Int) > 10) : ¬ (10 < r ∨ 1 < r ∧ false = true ∨ sg < 0 ∧ r = 1 ∧ false = true) := by
  rintro (h1 | ⟨_, h1⟩ | ⟨_, _, h1⟩)
  · omega
  · exact Bool.noConfusion h1
  · exact Bool.noConfusion h1
theorem numR_no2 {r : Nat} {sg : Int} {z : Bool} (h : ¬ (r : Int) > 10) (h2 : ¬ (r : Int) > 1) (h3 : ¬ sg < 0) : ¬ (10 < r ∨ 1 < r ∧ z = true ∨ sg < 0 ∧ r = 1 ∧ z = true) := by
  rintro (h1 | ⟨h1, _⟩ | ⟨h1, _, _⟩)
  · omega
  · omega
  · exact h3 h1
theorem ref_number_j2 (s : ByteArray) (hs : s.size ≤ 1000000000000000) (a fr r : Nat) (sg V : Int) (hsg : sg = 1 ∨ sg = -1) (hV : 0 ≤ V ∧ V ≤ 10000000000) (ha : a ≤ fr) (hr : fr + r ≤ s.size) (k : Nat) (hk : 0 < k) :
    jigsawref05_number.j2 k s a ((fr : Int) + r) sg fr V = some (numR fr a sg r (decide (s.data.toList[fr]? = some 48)) V) := by
  obtain ⟨k, rfl⟩ : ∃ m, k = m + 1 := ⟨k - 1, by omega⟩
  have e1 : wrap64 ((fr : Int) + r - fr) = (r : Int) := by unfold wrap64; omega
  have e2 : wrap64 ((fr : Int) + r - a) = (fr : Int) + r - a := by unfold wrap64; omega
  have e3 : wrap64 (sg * V) = sg * V := by rcases hsg with rfl | rfl <;> (unfold wrap64; omega)
  have eb : ∀ (h : 0 < r), (bt s (fr : Int) = 48) ↔ decide (s.data.toList[fr]? = some 48) = true := by
    intro h
    have hl : fr < s.data.toList.length := by rw [sz_len]; omega
    rw [bt_get s fr _ (List.getElem?_eq_getElem hl), decide_eq_true_eq, List.getElem?_eq_getElem hl, Option.some.injEq, ← UInt8.toNat_inj]
    simp only [UInt8.toNat_ofNat]
    omega
  simp only [jigsawref05_number.j2]
  rw [e1, e2, e3]
  unfold numR
  by_cases h0 : r = 0
  · rw [if_pos (by omega), if_pos h0]
  · rw [if_neg (by omega), if_neg h0]
    have EB := eb (by omega)
    generalize decide (s.data.toList[fr]? = some 48) = z at EB ⊢
    by_cases h1 : (r : Int) > 10
    · rw [if_pos h1, if_pos (by omega)]
    · rw [if_neg h1]
      have p0 : 0 ≤ (fr : Int) := by omega
      have p1 : (fr : Int) < (s.size : Int) := by omega
      by_cases h2 : (r : Int) > 1
      · rw [if_pos h2, if_pos p0, if_pos p1]
        by_cases hz : bt s (fr : Int) = 48
        · rw [if_pos hz, if_pos (Or.inr (Or.inl ⟨by omega, EB.1 hz⟩))]
        · have hz2 : z = false := by cases z with | false => rfl | true => exact absurd (EB.2 rfl) hz
          rw [if_neg hz, hz2, if_neg (numR_no h1), ite_self, ite_self]
      · rw [if_neg h2]
        have hr1 : r = 1 := by omega
        by_cases h3 : sg < 0
        · rw [if_pos h3, if_pos (by omega), if_pos p0, if_pos p1]
          by_cases hz : bt s (fr : Int) = 48
          · rw [if_pos hz, if_pos (Or.inr (Or.inr ⟨h3, hr1, EB.1 hz⟩))]
          · have hz2 : z = false := by cases z with | false => rfl | true => exact absurd (EB.2 rfl) hz
            rw [if_neg hz, hz2, if_neg (numR_no h1)]
        · rw [if_neg h3, if_neg (numR_no2 h1 h2 h3)]
theorem ref_number_l0 (s : ByteArray) (hs : s.size ≤ 1000000000000000) (a fr : Nat) (sg : Int) (hsg : sg = 1 ∨ sg = -1) (ha : a ≤ fr) (hfr : fr ≤ s.size) : ∀ (d i k : Nat), Go.Proofs.YtdemfbfdhpccpaaDoor.Lx.run Go.Proofs.YtdemfbfdhpccpaaDoor.Lx.dg (s.data.toList.drop fr) = i + d → d + 1 < k →
    jigsawref05_number.l0 k s a ((fr : Int) + i) sg fr (Go.Proofs.YtdemfbfdhpccpaaDoor.Lx.val ((s.data.toList.drop fr).take (min i 10)) : Int) = some (numR fr a sg (i + d) (decide (s.data.toList[fr]? = some 48)) (Go.Proofs.YtdemfbfdhpccpaaDoor.Lx.val ((s.data.toList.drop fr).take (min (i + d) 10)) : Int)) := by
  intro d
  have hrl := Go.Proofs.YtdemfbfdhpccpaaDoor.Lx.run_le Go.Proofs.YtdemfbfdhpccpaaDoor.Lx.dg (s.data.toList.drop fr)
  rw [List.length_drop, sz_len] at hrl
  have hVb : ∀ i, i ≤ Go.Proofs.YtdemfbfdhpccpaaDoor.Lx.run Go.Proofs.YtdemfbfdhpccpaaDoor.Lx.dg (s.data.toList.drop fr) → ((Go.Proofs.YtdemfbfdhpccpaaDoor.Lx.val ((s.data.toList.drop fr).take (min i 10)) : Nat) : Int) ≤ 10000000000 := by
    intro i hi
    refine Int.ofNat_le.2 (Nat.le_of_lt (?_ : _ < 10000000000))
    refine Nat.lt_of_lt_of_le (val_lt (min i 10) _ (by rw [List.length_take, List.length_drop, sz_len]; omega) fun c hc => ?_) (Nat.le_trans (Nat.pow_le_pow_right (by omega) (Nat.min_le_right i 10)) (by decide))
    obtain ⟨j, hj⟩ := List.mem_iff_getElem?.1 hc
    rw [List.getElem?_take] at hj
    split at hj
    · obtain ⟨c', h1, h2⟩ := Go.Proofs.YtdemfbfdhpccpaaDoor.Lx.run_lt Go.Proofs.YtdemfbfdhpccpaaDoor.Lx.dg (s.data.toList.drop fr) j (by omega)
      rw [hj] at h1; cases h1; exact h2
    · cases hj
  induction d with
  | zero =>
    intro i k hR hk
    obtain ⟨k, rfl⟩ : ∃ m, k = m + 1 := ⟨k - 1, by omega⟩
    have hv := hVb i (by omega)
    have J := ref_number_j2 s hs a fr i sg (Go.Proofs.YtdemfbfdhpccpaaDoor.Lx.val ((s.data.toList.drop fr).take (min i 10)) : Int) hsg ⟨Int.natCast_nonneg _, hv⟩ ha (by omega) k (by omega)
    simp only [jigsawref05_number.l0]
    by_cases hlt : fr + i < s.size
    · have hl : fr + i < s.data.toList.length := by rw [sz_len]; exact hlt
      have hg : s.data.toList[fr + i]? = some s.data.toList[fr + i] := List.getElem?_eq_getElem hl
      have hnd := Go.Proofs.YtdemfbfdhpccpaaDoor.Lx.run_end Go.Proofs.YtdemfbfdhpccpaaDoor.Lx.dg (s.data.toList.drop fr) s.data.toList[fr + i] (by rw [List.getElem?_drop, hR]; exact hg)
      rw [if_pos (by omega), if_pos (by omega), show ((fr : Int) + i) = ((fr + i : Nat) : Int) from by omega, bt_get s _ _ hg, ref_digit_f, hnd]
      simp only [Option.bind_some]
      rw [if_neg (by decide), show ((fr + i : Nat) : Int) = (fr : Int) + i from by omega]
      exact J
    · rw [if_neg (by omega)]
      exact J
  | succ d ih =>
    intro i k hR hk
    obtain ⟨k, rfl⟩ : ∃ m, k = m + 1 := ⟨k - 1, by omega⟩
    have hv := Lib.hid (hVb i (by omega))
    clear hVb
    simp only [jigsawref05_number.l0]
    have hlt : fr + i < s.size := by omega
    have hl : fr + i < s.data.toList.length := by rw [sz_len]; exact hlt
    have hg : s.data.toList[fr + i]? = some s.data.toList[fr + i] := List.getElem?_eq_getElem hl
    obtain ⟨c, hc1, hc2⟩ := Go.Proofs.YtdemfbfdhpccpaaDoor.Lx.run_lt Go.Proofs.YtdemfbfdhpccpaaDoor.Lx.dg (s.data.toList.drop fr) i (by omega)
    rw [List.getElem?_drop] at hc1
    rw [hc1] at hg
    have IH := ih (i + 1) k (by omega) (by omega)
    have e1 : wrap64 ((fr : Int) + i + 1) = (fr : Int) + (i + 1 : Nat) := by unfold wrap64; omega
    have e2 : wrap64 ((fr : Int) + i - fr) = (i : Int) := by unfold wrap64; omega
    have hc3 := hc2
    unfold Go.Proofs.YtdemfbfdhpccpaaDoor.Lx.dg at hc3
    rw [decide_eq_true_eq] at hc3
    rw [if_pos (by omega), if_pos (by omega), show ((fr : Int) + i) = ((fr + i : Nat) : Int) from by omega, bt_get s _ _ hc1, ref_digit_f, hc2]
    simp only [Option.bind_some, if_true]
    rw [show ((fr + i : Nat) : Int) = (fr : Int) + i from by omega, e1, e2]
    rw [show i + (d + 1) = i + 1 + d from by omega]
    by_cases h2 : (i : Int) < 10
    · rw [if_pos h2, show min i 10 = i from by omega]
      have ht : (s.data.toList.drop fr).take (min (i + 1) 10) = (s.data.toList.drop fr).take i ++ [c] := by
        rw [show min (i + 1) 10 = i + 1 from by omega]
        have h3 : (s.data.toList.drop fr)[i]? = some c := by rw [List.getElem?_drop]; exact hc1
        obtain ⟨h4, h5⟩ := List.getElem?_eq_some_iff.1 h3
        rw [List.take_succ_eq_append_getElem h4, h5]
      rw [ht, val_snoc] at IH
      have hv2 := hv.out
      rw [show min i 10 = i from by omega] at hv2
      rw [show wrap64 (wrap64 (wrap64 (10 * (Go.Proofs.YtdemfbfdhpccpaaDoor.Lx.val ((s.data.toList.drop fr).take i) : Int)) + wrap64 (c.toNat : Int)) - 48) = ((10 * Go.Proofs.YtdemfbfdhpccpaaDoor.Lx.val ((s.data.toList.drop fr).take i) + (c.toNat - 48) : Nat) : Int) from by
        generalize Go.Proofs.YtdemfbfdhpccpaaDoor.Lx.val ((s.data.toList.drop fr).take i) = V at hv2 ⊢
        have hc4 : ((10 * V + (c.toNat - 48) : Nat) : Int) = 10 * (V : Int) + ((c.toNat : Int) - 48) := by omega
        rw [hc4]
        have hc5 : (c.toNat : Int) ≤ 57 ∧ 48 ≤ (c.toNat : Int) := by omega
        generalize (c.toNat : Int) = C at hc5 ⊢
        have hV0 : 0 ≤ (V : Int) := Int.natCast_nonneg V
        generalize (V : Int) = U at hv2 hV0 ⊢
        unfold wrap64; omega]
      exact IH
    · rw [if_neg h2, show min i 10 = 10 from by omega]
      rw [show min (i + 1) 10 = 10 from by omega] at IH
      exact IH
theorem ref_number_f (s : ByteArray) (hs : s.size ≤ 1000000000000000) (at_ : Nat) (hat : at_ < s.size) (k : Nat) (hk : s.size + 3 < k) :
    jigsawref05_number.f k s at_ = some (α := Int × Int × Int) (if Go.Proofs.YtdemfbfdhpccpaaDoor.Lx.cnt (s.data.toList.drop at_) = 0 then (0, 0, 0) else if Go.Proofs.YtdemfbfdhpccpaaDoor.Lx.bad (s.data.toList.drop at_) = true then (0, 0, 15) else (((Go.Proofs.YtdemfbfdhpccpaaDoor.Lx.nlen (s.data.toList.drop at_) : Nat) : Int), Go.Proofs.YtdemfbfdhpccpaaDoor.Lx.num (s.data.toList.drop at_), 0)) := by
  have hl : at_ < s.data.toList.length := by rw [sz_len]; exact hat
  have hg : s.data.toList[at_]? = some s.data.toList[at_] := List.getElem?_eq_getElem hl
  generalize hc : s.data.toList[at_] = c at hg
  have hdrop : s.data.toList.drop at_ = c :: s.data.toList.drop (at_ + 1) := by rw [List.drop_eq_getElem_cons hl, hc]
  have hneg : Go.Proofs.YtdemfbfdhpccpaaDoor.Lx.neg (s.data.toList.drop at_) = decide (c.toNat = 45) := by
    rw [hdrop]; unfold Go.Proofs.YtdemfbfdhpccpaaDoor.Lx.neg
    rw [Bool.eq_iff_iff]
    simp [List.isPrefixOf, ← UInt8.toNat_inj]
    omega
  have K : ∀ (fr : Nat) (sg : Int), (sg = 1 ∨ sg = -1) → at_ ≤ fr → fr ≤ s.size → (fr : Int) - at_ = (if Go.Proofs.YtdemfbfdhpccpaaDoor.Lx.neg (s.data.toList.drop at_) then 1 else 0) → (sg = if Go.Proofs.YtdemfbfdhpccpaaDoor.Lx.neg (s.data.toList.drop at_) then -1 else 1) → Go.Proofs.YtdemfbfdhpccpaaDoor.Lx.digs (s.data.toList.drop at_) = s.data.toList.drop fr →
      jigsawref05_number.j0 k s at_ fr sg = some (α := Int × Int × Int) (if Go.Proofs.YtdemfbfdhpccpaaDoor.Lx.cnt (s.data.toList.drop at_) = 0 then (0, 0, 0) else if Go.Proofs.YtdemfbfdhpccpaaDoor.Lx.bad (s.data.toList.drop at_) = true then (0, 0, 15) else (((Go.Proofs.YtdemfbfdhpccpaaDoor.Lx.nlen (s.data.toList.drop at_) : Nat) : Int), Go.Proofs.YtdemfbfdhpccpaaDoor.Lx.num (s.data.toList.drop at_), 0)) := by
    intro fr sg h1 h2 h3 h4 h5 h6
    obtain ⟨k, rfl⟩ : ∃ m, k = m + 1 := ⟨k - 1, by omega⟩
    simp only [jigsawref05_number.j0]
    have hr := Go.Proofs.YtdemfbfdhpccpaaDoor.Lx.run_le Go.Proofs.YtdemfbfdhpccpaaDoor.Lx.dg (s.data.toList.drop fr)
    rw [List.length_drop, sz_len] at hr
    have L := ref_number_l0 s hs at_ fr sg h1 h2 h3 (Go.Proofs.YtdemfbfdhpccpaaDoor.Lx.run Go.Proofs.YtdemfbfdhpccpaaDoor.Lx.dg (s.data.toList.drop fr)) 0 k (by omega) (by omega)
    simp only [Nat.zero_min, List.take_zero, Nat.zero_add, Int.natCast_zero, Int.add_zero] at L
    rw [show ((Go.Proofs.YtdemfbfdhpccpaaDoor.Lx.val [] : Nat) : Int) = 0 from rfl] at L
    rw [L]
    congr 1
    unfold numR Go.Proofs.YtdemfbfdhpccpaaDoor.Lx.bad Go.Proofs.YtdemfbfdhpccpaaDoor.Lx.nlen Go.Proofs.YtdemfbfdhpccpaaDoor.Lx.num Go.Proofs.YtdemfbfdhpccpaaDoor.Lx.cnt
    rw [h6]
    generalize hR : Go.Proofs.YtdemfbfdhpccpaaDoor.Lx.run Go.Proofs.YtdemfbfdhpccpaaDoor.Lx.dg (s.data.toList.drop fr) = R at *
    by_cases hR0 : R = 0
    · rw [if_pos hR0, if_pos hR0]
    · rw [if_neg hR0, if_neg hR0]
      have hz : (decide (s.data.toList[fr]? = some 48) = true) ↔ (s.data.toList.drop fr).head? = some 48 := by
        rw [decide_eq_true_eq, List.head?_drop]
      generalize decide (s.data.toList[fr]? = some 48) = z at hz ⊢
      have hsg : sg < 0 ↔ Go.Proofs.YtdemfbfdhpccpaaDoor.Lx.neg (s.data.toList.drop at_) = true := by
        rw [h5]; split <;> simp_all
      have hiff : (10 < R ∨ 1 < R ∧ z = true ∨ sg < 0 ∧ R = 1 ∧ z = true) ↔ (10 < R ∨ 1 < R ∧ (s.data.toList.drop fr).head? = some 48 ∨ Go.Proofs.YtdemfbfdhpccpaaDoor.Lx.neg (s.data.toList.drop at_) = true ∧ R = 1 ∧ (s.data.toList.drop fr).head? = some 48) := by rw [hz, hsg]
      by_cases hb : 10 < R ∨ 1 < R ∧ (s.data.toList.drop fr).head? = some 48 ∨ Go.Proofs.YtdemfbfdhpccpaaDoor.Lx.neg (s.data.toList.drop at_) = true ∧ R = 1 ∧ (s.data.toList.drop fr).head? = some 48
      · rw [if_pos (hiff.2 hb), if_pos (decide_eq_true hb)]
      · rw [if_neg (fun e => hb (hiff.1 e)), if_neg (fun e => hb (of_decide_eq_true e))]
        have hR10 : R ≤ 10 := by omega
        rw [Nat.min_eq_left hR10, h5]
        congr 1
        split at h4
        · rw [if_pos ‹_›]; omega
        · rw [if_neg ‹_›]; omega
  unfold jigsawref05_number.f
  rw [if_pos (by omega), if_pos (by omega), bt_get s _ _ hg]
  by_cases h45 : c.toNat = 45
  · rw [if_pos (by omega), show wrap64 ((at_ : Int) + 1) = ((at_ + 1 : Nat) : Int) from by unfold wrap64; omega]
    have hn : Go.Proofs.YtdemfbfdhpccpaaDoor.Lx.neg (s.data.toList.drop at_) = true := by rw [hneg]; simp [h45]
    exact K (at_ + 1) (-1) (Or.inr rfl) (by omega) (by omega) (by rw [if_pos hn]; omega) (by rw [if_pos hn]) (by unfold Go.Proofs.YtdemfbfdhpccpaaDoor.Lx.digs; rw [if_pos hn, List.drop_drop])
  · rw [if_neg (by omega)]
    have hn : Go.Proofs.YtdemfbfdhpccpaaDoor.Lx.neg (s.data.toList.drop at_) = false := by rw [hneg]; simp [h45]
    exact K at_ 1 (Or.inl rfl) (by omega) (by omega) (by rw [hn]; simp) (by rw [hn]; rfl) (by unfold Go.Proofs.YtdemfbfdhpccpaaDoor.Lx.digs; rw [hn]; rfl)

def toS43 (t : Go.Proofs.YtdemfbfdhpccpaaDoor.Lx.T) : S43 := ⟨t.k, ⟨t.s.toArray⟩, t.n, (t.a : Int)⟩
def refRes : Except (Nat × Int) (List Go.Proofs.YtdemfbfdhpccpaaDoor.Lx.T) → List S43 × Int × Int
  | .error (a, e) => ([], (a : Int), e)
  | .ok l => (l.map toS43, 0, 0)
def jigsawref05_Lex.f (a0 : ByteArray) : Option (List S43 × Int × Int) := if a0.size > 1048576 then some ([], 1048576, 13) else some (refRes (Go.Proofs.YtdemfbfdhpccpaaDoor.Lx.lex a0.data.toList))
/-- The tokens from a place on, blanks ahead. -/
def Lg (t : List UInt8) (b : Bool) (at_ : Nat) : Except (Nat × Int) (List Go.Proofs.YtdemfbfdhpccpaaDoor.Lx.T) := Go.Proofs.YtdemfbfdhpccpaaDoor.Lx.go t (t.length + 1) (at_ + Go.Proofs.YtdemfbfdhpccpaaDoor.Lx.sk b (t.drop at_))
def Lpre (xs : List Go.Proofs.YtdemfbfdhpccpaaDoor.Lx.T) : Except (Nat × Int) (List Go.Proofs.YtdemfbfdhpccpaaDoor.Lx.T) → Except (Nat × Int) (List Go.Proofs.YtdemfbfdhpccpaaDoor.Lx.T)
  | .error e => .error e
  | .ok l => .ok (xs ++ l)
theorem Lg_blank (t : List UInt8) (at_ : Nat) (c : UInt8) (h : t[at_]? = some c) (hb : Go.Proofs.YtdemfbfdhpccpaaDoor.Lx.bl c = true) : Lg t false at_ = Lg t false (at_ + 1) := by
  obtain ⟨h1, h2⟩ := List.getElem?_eq_some_iff.1 h
  unfold Lg
  rw [List.drop_eq_getElem_cons h1, h2, show Go.Proofs.YtdemfbfdhpccpaaDoor.Lx.sk false (c :: t.drop (at_ + 1)) = (if Go.Proofs.YtdemfbfdhpccpaaDoor.Lx.bl c then Go.Proofs.YtdemfbfdhpccpaaDoor.Lx.sk false (t.drop (at_ + 1)) + 1 else if c.toNat = 37 then Go.Proofs.YtdemfbfdhpccpaaDoor.Lx.sk true (t.drop (at_ + 1)) + 1 else 0) from rfl, if_pos hb, show at_ + (Go.Proofs.YtdemfbfdhpccpaaDoor.Lx.sk false (t.drop (at_ + 1)) + 1) = at_ + 1 + Go.Proofs.YtdemfbfdhpccpaaDoor.Lx.sk false (t.drop (at_ + 1)) from by omega]
theorem Lg_hash (t : List UInt8) (at_ : Nat) (c : UInt8) (h : t[at_]? = some c) (hc : c.toNat = 37) : Lg t false at_ = Lg t true at_ := by
  obtain ⟨h1, h2⟩ := List.getElem?_eq_some_iff.1 h
  unfold Lg
  rw [List.drop_eq_getElem_cons h1, h2, show Go.Proofs.YtdemfbfdhpccpaaDoor.Lx.sk false (c :: t.drop (at_ + 1)) = (if Go.Proofs.YtdemfbfdhpccpaaDoor.Lx.bl c then Go.Proofs.YtdemfbfdhpccpaaDoor.Lx.sk false (t.drop (at_ + 1)) + 1 else if c.toNat = 37 then Go.Proofs.YtdemfbfdhpccpaaDoor.Lx.sk true (t.drop (at_ + 1)) + 1 else 0) from rfl, if_neg (by unfold Go.Proofs.YtdemfbfdhpccpaaDoor.Lx.bl; simp [hc]), if_pos hc, show Go.Proofs.YtdemfbfdhpccpaaDoor.Lx.sk true (c :: t.drop (at_ + 1)) = (if c.toNat = 10 then Go.Proofs.YtdemfbfdhpccpaaDoor.Lx.sk false (t.drop (at_ + 1)) + 1 else Go.Proofs.YtdemfbfdhpccpaaDoor.Lx.sk true (t.drop (at_ + 1)) + 1) from rfl, if_neg (by omega)]
theorem Lg_in (t : List UInt8) (at_ : Nat) (c : UInt8) (h : t[at_]? = some c) (hc : c.toNat ≠ 10) : Lg t true at_ = Lg t true (at_ + 1) := by
  obtain ⟨h1, h2⟩ := List.getElem?_eq_some_iff.1 h
  unfold Lg
  rw [List.drop_eq_getElem_cons h1, h2, show Go.Proofs.YtdemfbfdhpccpaaDoor.Lx.sk true (c :: t.drop (at_ + 1)) = (if c.toNat = 10 then Go.Proofs.YtdemfbfdhpccpaaDoor.Lx.sk false (t.drop (at_ + 1)) + 1 else Go.Proofs.YtdemfbfdhpccpaaDoor.Lx.sk true (t.drop (at_ + 1)) + 1) from rfl, if_neg hc, show at_ + (Go.Proofs.YtdemfbfdhpccpaaDoor.Lx.sk true (t.drop (at_ + 1)) + 1) = at_ + 1 + Go.Proofs.YtdemfbfdhpccpaaDoor.Lx.sk true (t.drop (at_ + 1)) from by omega]
theorem Lg_out (t : List UInt8) (at_ : Nat) (h : ∀ c, t[at_]? = some c → c.toNat = 10) : Lg t true at_ = Lg t false at_ := by
  unfold Lg
  by_cases h1 : at_ < t.length
  · have h2 := h _ (List.getElem?_eq_getElem h1)
    generalize hc : t[at_] = c at h2
    rw [List.drop_eq_getElem_cons h1, hc, show Go.Proofs.YtdemfbfdhpccpaaDoor.Lx.sk true (c :: t.drop (at_ + 1)) = (if c.toNat = 10 then Go.Proofs.YtdemfbfdhpccpaaDoor.Lx.sk false (t.drop (at_ + 1)) + 1 else Go.Proofs.YtdemfbfdhpccpaaDoor.Lx.sk true (t.drop (at_ + 1)) + 1) from rfl, if_pos h2, show Go.Proofs.YtdemfbfdhpccpaaDoor.Lx.sk false (c :: t.drop (at_ + 1)) = (if Go.Proofs.YtdemfbfdhpccpaaDoor.Lx.bl c then Go.Proofs.YtdemfbfdhpccpaaDoor.Lx.sk false (t.drop (at_ + 1)) + 1 else if c.toNat = 37 then Go.Proofs.YtdemfbfdhpccpaaDoor.Lx.sk true (t.drop (at_ + 1)) + 1 else 0) from rfl, if_pos (by unfold Go.Proofs.YtdemfbfdhpccpaaDoor.Lx.bl; simp [h2])]
  · rw [List.drop_eq_nil_of_le (by omega)]; rfl
theorem Lg_end (t : List UInt8) (at_ : Nat) (h : ¬ at_ < t.length) : Lg t false at_ = .ok [] := Go.Proofs.YtdemfbfdhpccpaaDoor.Lx.go_end _ _ _ (by omega)
theorem Lg_tok (t : List UInt8) (at_ : Nat) (c : UInt8) (h : t[at_]? = some c) (h1 : Go.Proofs.YtdemfbfdhpccpaaDoor.Lx.bl c = false) (h2 : c.toNat ≠ 37) {k : Int} {n : Nat} {v : Int} (ht : Go.Proofs.YtdemfbfdhpccpaaDoor.Lx.tok (t.drop at_) = .ok (k, n, v)) (xs : List Go.Proofs.YtdemfbfdhpccpaaDoor.Lx.T) :
    Lpre xs (Lg t false at_) = Lpre (xs ++ [⟨k, (t.drop at_).take n, v, at_⟩]) (Lg t false (at_ + n)) := by
  obtain ⟨hl, hg⟩ := List.getElem?_eq_some_iff.1 h
  have hz : Go.Proofs.YtdemfbfdhpccpaaDoor.Lx.sk false (t.drop at_) = 0 := by rw [List.drop_eq_getElem_cons hl, hg]; exact Go.Proofs.YtdemfbfdhpccpaaDoor.Lx.sk_zero _ _ h1 h2
  unfold Lg
  rw [hz, show at_ + 0 = at_ from rfl, Go.Proofs.YtdemfbfdhpccpaaDoor.Lx.go_ok t (t.length + 1) at_ (by omega) hl ht]
  cases Go.Proofs.YtdemfbfdhpccpaaDoor.Lx.go t (t.length + 1) (at_ + n + Go.Proofs.YtdemfbfdhpccpaaDoor.Lx.sk false (t.drop (at_ + n))) with
  | error e => rfl
  | ok l => simp [Lpre]
theorem Lg_bad (t : List UInt8) (at_ : Nat) (c : UInt8) (h : t[at_]? = some c) (h1 : Go.Proofs.YtdemfbfdhpccpaaDoor.Lx.bl c = false) (h2 : c.toNat ≠ 37) {e : Int} (ht : Go.Proofs.YtdemfbfdhpccpaaDoor.Lx.tok (t.drop at_) = .error e) (xs : List Go.Proofs.YtdemfbfdhpccpaaDoor.Lx.T) :
    Lpre xs (Lg t false at_) = .error (at_, e) := by
  obtain ⟨hl, hg⟩ := List.getElem?_eq_some_iff.1 h
  have hz : Go.Proofs.YtdemfbfdhpccpaaDoor.Lx.sk false (t.drop at_) = 0 := by rw [List.drop_eq_getElem_cons hl, hg]; exact Go.Proofs.YtdemfbfdhpccpaaDoor.Lx.sk_zero _ _ h1 h2
  unfold Lg
  rw [hz, show at_ + 0 = at_ from rfl, Go.Proofs.YtdemfbfdhpccpaaDoor.Lx.go_err t (t.length + 1) at_ (by omega) hl ht]; rfl
/-- What has been collected, and what is still to come, as the loop's head knows it. -/
structure RL (s : ByteArray) (w wr : World) (v : Value) (at_ : Nat) (b : Bool) (xs : List Go.Proofs.YtdemfbfdhpccpaaDoor.Lx.T) : Prop where
  le : at_ ≤ s.size
  len : xs.length ≤ at_
  row : Kd.R k43 43 wr w.heap.size (fun _ => True) v (xs.map toS43)
  bel : Below w.heap.size w wr
  fin : Go.Proofs.YtdemfbfdhpccpaaDoor.Lx.lex s.data.toList = Lpre xs (Lg s.data.toList b at_)
theorem RL.drawn {s : ByteArray} {w wr w' : World} {v : Value} {at_ : Nat} {b : Bool} {xs : List Go.Proofs.YtdemfbfdhpccpaaDoor.Lx.T} (h : RL s w wr v at_ b xs) (hd : Drawn0 wr w') : RL s w w' v at_ b xs :=
  ⟨h.le, h.len, Kd.R_below h.row hd.below, below_step h.bel hd.below, h.fin⟩
theorem RL.to {s : ByteArray} {w wr : World} {v : Value} {at_ a2 : Nat} {b b2 : Bool} {xs : List Go.Proofs.YtdemfbfdhpccpaaDoor.Lx.T} (h : RL s w wr v at_ b xs) (h1 : at_ ≤ a2) (h2 : a2 ≤ s.size) (h3 : Lg s.data.toList b at_ = Lg s.data.toList b2 a2) : RL s w wr v a2 b2 xs :=
  ⟨h2, Nat.le_trans h.len h1, h.row, h.bel, by rw [h.fin, h3]⟩

def regionOf (n : Nat) : Code → Option Code
  | .region m o b => if n = m then some (.region m o b) else none
  | .loop c => regionOf n c
  | .seq a b => match regionOf n a with
    | some c => some c
    | none => regionOf n b
  | .block _ c => regionOf n c
  | .scope c => regionOf n c
  | .cond _ a b => match regionOf n a with
    | some c => some c
    | none => regionOf n b
  | _ => none
noncomputable def code23 : Code := ((Tryd.f9.body.bind (regionOf 23)).getD .skip)

set_option maxHeartbeats 8000000 in
set_option maxRecDepth 100000 in
theorem reg23_40 (C : Int) (hC : C = 40) {s0 s2 s3 s4 s5 s6 s8 s9 s10 s11 s12 s13 s14 s15 s16 s17 s18 s19 s20 s21 s22 s23 s24 s25 s26 s27 s28 s29 s30 s31 s32 s33 s34 s35 s36 s37 s38 s39 s40 s41 s42 s43 s44 s45 s46 s47 s48 s49 s50 s51 s52 s53 s54 s55 s56 s57 s58 s59 s60 s61 s62 s63 s64 s65 s66 s67 s68 s69 s70 s71 s72 s73 s74 s75 s76 s77 s78 s79 s80 s81 s82 s83 s84 s85 s86 s87 s88 s89 s90 s91 s92 s93 s94 s95 s96 s97 s98 s99 s100 s101 s102 s103 s104 s105 s106 s107 s108 s109 s110 s111 s112 s113 s114 s115 s116 s117 s118 s119 s120 s121 s122 s123 s124 s125 s126 s127 s128 s129 s130 s131 s132 s133 s134 s135 s136 s137 s138 s139 s140 s141 s142 s143 s144 s145 s146 s147 s148 s149 s150 s151 s152 s153 s154 s155 s156 s157 s158 s159 s160 s161 s162 s163 s164 : Value} (Q : Exit → Act → World → Prop) (w : World) (hq : ∀ t98 t99 t100 t101 t102 t103 t104 t105 t106 t107 t108 t109 t110 t111 t112 t113 t114 t115 t116 t117 t118 t119 t120 t121 t122 t123 t124 t125 t126 t127 t128 t129 t130 : Value, Q .normal ⟨#[s0, undef, s2, s3, s4, s5, s6, .int .u8 C, s8, s9, s10, s11, s12, s13, s14, s15, s16, s17, s18, s19, s20, s21, s22, s23, s24, s25, s26, s27, s28, s29, s30, s31, s32, s33, s34, s35, s36, s37, s38, s39, s40, s41, s42, s43, s44, s45, s46, s47, s48, s49, s50, s51, s52, s53, s54, s55, s56, s57, s58, s59, s60, s61, s62, s63, s64, s65, s66, s67, s68, s69, s70, s71, s72, s73, s74, s75, s76, s77, s78, s79, s80, s81, s82, s83, s84, s85, s86, s87, s88, s89, s90, s91, s92, s93, s94, s95, s96, s97, t98, t99, t100, t101, t102, t103, t104, t105, t106, t107, t108, t109, t110, t111, t112, t113, t114, t115, t116, t117, t118, t119, t120, t121, t122, t123, t124, t125, t126, t127, t128, t129, t130, .bool (decide (C = 40 ∨ C = 41 ∨ C = 91 ∨ C = 93 ∨ C = 123 ∨ C = 125 ∨ C = 44 ∨ C = 59 ∨ C = 58)), s132, s133, s134, s135, s136, s137, s138, s139, s140, s141, s142, s143, s144, s145, s146, s147, s148, s149, s150, s151, s152, s153, s154, s155, s156, s157, s158, s159, s160, s161, s162, s163, s164, undef], []⟩ w) :
    Code.wp Tryd.prog code23 Q ⟨#[s0, undef, s2, s3, s4, s5, s6, .int .u8 C, s8, s9, s10, s11, s12, s13, s14, s15, s16, s17, s18, s19, s20, s21, s22, s23, s24, s25, s26, s27, s28, s29, s30, s31, s32, s33, s34, s35, s36, s37, s38, s39, s40, s41, s42, s43, s44, s45, s46, s47, s48, s49, s50, s51, s52, s53, s54, s55, s56, s57, s58, s59, s60, s61, s62, s63, s64, s65, s66, s67, s68, s69, s70, s71, s72, s73, s74, s75, s76, s77, s78, s79, s80, s81, s82, s83, s84, s85, s86, s87, s88, s89, s90, s91, s92, s93, s94, s95, s96, s97, s98, s99, s100, s101, s102, s103, s104, s105, s106, s107, s108, s109, s110, s111, s112, s113, s114, s115, s116, s117, s118, s119, s120, s121, s122, s123, s124, s125, s126, s127, s128, s129, s130, s131, s132, s133, s134, s135, s136, s137, s138, s139, s140, s141, s142, s143, s144, s145, s146, s147, s148, s149, s150, s151, s152, s153, s154, s155, s156, s157, s158, s159, s160, s161, s162, s163, s164, undef], []⟩ w := by
  subst hC
  conv => arg 2; whnf
  go_wp2_with fail
  exact hq _ _ _ _ _ _ _ _ _ _ _ _ _ _ _ _ _ _ _ _ _ _ _ _ _ _ _ _ _ _ _ _ _

set_option maxHeartbeats 8000000 in
set_option maxRecDepth 100000 in
theorem reg23_41 (C : Int) (hC : C = 41) {s0 s2 s3 s4 s5 s6 s8 s9 s10 s11 s12 s13 s14 s15 s16 s17 s18 s19 s20 s21 s22 s23 s24 s25 s26 s27 s28 s29 s30 s31 s32 s33 s34 s35 s36 s37 s38 s39 s40 s41 s42 s43 s44 s45 s46 s47 s48 s49 s50 s51 s52 s53 s54 s55 s56 s57 s58 s59 s60 s61 s62 s63 s64 s65 s66 s67 s68 s69 s70 s71 s72 s73 s74 s75 s76 s77 s78 s79 s80 s81 s82 s83 s84 s85 s86 s87 s88 s89 s90 s91 s92 s93 s94 s95 s96 s97 s98 s99 s100 s101 s102 s103 s104 s105 s106 s107 s108 s109 s110 s111 s112 s113 s114 s115 s116 s117 s118 s119 s120 s121 s122 s123 s124 s125 s126 s127 s128 s129 s130 s131 s132 s133 s134 s135 s136 s137 s138 s139 s140 s141 s142 s143 s144 s145 s146 s147 s148 s149 s150 s151 s152 s153 s154 s155 s156 s157 s158 s159 s160 s161 s162 s163 s164 : Value} (Q : Exit → Act → World → Prop) (w : World) (hq : ∀ t98 t99 t100 t101 t102 t103 t104 t105 t106 t107 t108 t109 t110 t111 t112 t113 t114 t115 t116 t117 t118 t119 t120 t121 t122 t123 t124 t125 t126 t127 t128 t129 t130 : Value, Q .normal ⟨#[s0, undef, s2, s3, s4, s5, s6, .int .u8 C, s8, s9, s10, s11, s12, s13, s14, s15, s16, s17, s18, s19, s20, s21, s22, s23, s24, s25, s26, s27, s28, s29, s30, s31, s32, s33, s34, s35, s36, s37, s38, s39, s40, s41, s42, s43, s44, s45, s46, s47, s48, s49, s50, s51, s52, s53, s54, s55, s56, s57, s58, s59, s60, s61, s62, s63, s64, s65, s66, s67, s68, s69, s70, s71, s72, s73, s74, s75, s76, s77, s78, s79, s80, s81, s82, s83, s84, s85, s86, s87, s88, s89, s90, s91, s92, s93, s94, s95, s96, s97, t98, t99, t100, t101, t102, t103, t104, t105, t106, t107, t108, t109, t110, t111, t112, t113, t114, t115, t116, t117, t118, t119, t120, t121, t122, t123, t124, t125, t126, t127, t128, t129, t130, .bool (decide (C = 40 ∨ C = 41 ∨ C = 91 ∨ C = 93 ∨ C = 123 ∨ C = 125 ∨ C = 44 ∨ C = 59 ∨ C = 58)), s132, s133, s134, s135, s136, s137, s138, s139, s140, s141, s142, s143, s144, s145, s146, s147, s148, s149, s150, s151, s152, s153, s154, s155, s156, s157, s158, s159, s160, s161, s162, s163, s164, undef], []⟩ w) :
    Code.wp Tryd.prog code23 Q ⟨#[s0, undef, s2, s3, s4, s5, s6, .int .u8 C, s8, s9, s10, s11, s12, s13, s14, s15, s16, s17, s18, s19, s20, s21, s22, s23, s24, s25, s26, s27, s28, s29, s30, s31, s32, s33, s34, s35, s36, s37, s38, s39, s40, s41, s42, s43, s44, s45, s46, s47, s48, s49, s50, s51, s52, s53, s54, s55, s56, s57, s58, s59, s60, s61, s62, s63, s64, s65, s66, s67, s68, s69, s70, s71, s72, s73, s74, s75, s76, s77, s78, s79, s80, s81, s82, s83, s84, s85, s86, s87, s88, s89, s90, s91, s92, s93, s94, s95, s96, s97, s98, s99, s100, s101, s102, s103, s104, s105, s106, s107, s108, s109, s110, s111, s112, s113, s114, s115, s116, s117, s118, s119, s120, s121, s122, s123, s124, s125, s126, s127, s128, s129, s130, s131, s132, s133, s134, s135, s136, s137, s138, s139, s140, s141, s142, s143, s144, s145, s146, s147, s148, s149, s150, s151, s152, s153, s154, s155, s156, s157, s158, s159, s160, s161, s162, s163, s164, undef], []⟩ w := by
  subst hC
  conv => arg 2; whnf
  go_wp2_with fail
  exact hq _ _ _ _ _ _ _ _ _ _ _ _ _ _ _ _ _ _ _ _ _ _ _ _ _ _ _ _ _ _ _ _ _

set_option maxHeartbeats 8000000 in
set_option maxRecDepth 100000 in
theorem reg23_91 (C : Int) (hC : C = 91) {s0 s2 s3 s4 s5 s6 s8 s9 s10 s11 s12 s13 s14 s15 s16 s17 s18 s19 s20 s21 s22 s23 s24 s25 s26 s27 s28 s29 s30 s31 s32 s33 s34 s35 s36 s37 s38 s39 s40 s41 s42 s43 s44 s45 s46 s47 s48 s49 s50 s51 s52 s53 s54 s55 s56 s57 s58 s59 s60 s61 s62 s63 s64 s65 s66 s67 s68 s69 s70 s71 s72 s73 s74 s75 s76 s77 s78 s79 s80 s81 s82 s83 s84 s85 s86 s87 s88 s89 s90 s91 s92 s93 s94 s95 s96 s97 s98 s99 s100 s101 s102 s103 s104 s105 s106 s107 s108 s109 s110 s111 s112 s113 s114 s115 s116 s117 s118 s119 s120 s121 s122 s123 s124 s125 s126 s127 s128 s129 s130 s131 s132 s133 s134 s135 s136 s137 s138 s139 s140 s141 s142 s143 s144 s145 s146 s147 s148 s149 s150 s151 s152 s153 s154 s155 s156 s157 s158 s159 s160 s161 s162 s163 s164 : Value} (Q : Exit → Act → World → Prop) (w : World) (hq : ∀ t98 t99 t100 t101 t102 t103 t104 t105 t106 t107 t108 t109 t110 t111 t112 t113 t114 t115 t116 t117 t118 t119 t120 t121 t122 t123 t124 t125 t126 t127 t128 t129 t130 : Value, Q .normal ⟨#[s0, undef, s2, s3, s4, s5, s6, .int .u8 C, s8, s9, s10, s11, s12, s13, s14, s15, s16, s17, s18, s19, s20, s21, s22, s23, s24, s25, s26, s27, s28, s29, s30, s31, s32, s33, s34, s35, s36, s37, s38, s39, s40, s41, s42, s43, s44, s45, s46, s47, s48, s49, s50, s51, s52, s53, s54, s55, s56, s57, s58, s59, s60, s61, s62, s63, s64, s65, s66, s67, s68, s69, s70, s71, s72, s73, s74, s75, s76, s77, s78, s79, s80, s81, s82, s83, s84, s85, s86, s87, s88, s89, s90, s91, s92, s93, s94, s95, s96, s97, t98, t99, t100, t101, t102, t103, t104, t105, t106, t107, t108, t109, t110, t111, t112, t113, t114, t115, t116, t117, t118, t119, t120, t121, t122, t123, t124, t125, t126, t127, t128, t129, t130, .bool (decide (C = 40 ∨ C = 41 ∨ C = 91 ∨ C = 93 ∨ C = 123 ∨ C = 125 ∨ C = 44 ∨ C = 59 ∨ C = 58)), s132, s133, s134, s135, s136, s137, s138, s139, s140, s141, s142, s143, s144, s145, s146, s147, s148, s149, s150, s151, s152, s153, s154, s155, s156, s157, s158, s159, s160, s161, s162, s163, s164, undef], []⟩ w) :
    Code.wp Tryd.prog code23 Q ⟨#[s0, undef, s2, s3, s4, s5, s6, .int .u8 C, s8, s9, s10, s11, s12, s13, s14, s15, s16, s17, s18, s19, s20, s21, s22, s23, s24, s25, s26, s27, s28, s29, s30, s31, s32, s33, s34, s35, s36, s37, s38, s39, s40, s41, s42, s43, s44, s45, s46, s47, s48, s49, s50, s51, s52, s53, s54, s55, s56, s57, s58, s59, s60, s61, s62, s63, s64, s65, s66, s67, s68, s69, s70, s71, s72, s73, s74, s75, s76, s77, s78, s79, s80, s81, s82, s83, s84, s85, s86, s87, s88, s89, s90, s91, s92, s93, s94, s95, s96, s97, s98, s99, s100, s101, s102, s103, s104, s105, s106, s107, s108, s109, s110, s111, s112, s113, s114, s115, s116, s117, s118, s119, s120, s121, s122, s123, s124, s125, s126, s127, s128, s129, s130, s131, s132, s133, s134, s135, s136, s137, s138, s139, s140, s141, s142, s143, s144, s145, s146, s147, s148, s149, s150, s151, s152, s153, s154, s155, s156, s157, s158, s159, s160, s161, s162, s163, s164, undef], []⟩ w := by
  subst hC
  conv => arg 2; whnf
  go_wp2_with fail
  exact hq _ _ _ _ _ _ _ _ _ _ _ _ _ _ _ _ _ _ _ _ _ _ _ _ _ _ _ _ _ _ _ _ _

set_option maxHeartbeats 8000000 in
set_option maxRecDepth 100000 in
theorem reg23_93 (C : Int) (hC : C = 93) {s0 s2 s3 s4 s5 s6 s8 s9 s10 s11 s12 s13 s14 s15 s16 s17 s18 s19 s20 s21 s22 s23 s24 s25 s26 s27 s28 s29 s30 s31 s32 s33 s34 s35 s36 s37 s38 s39 s40 s41 s42 s43 s44 s45 s46 s47 s48 s49 s50 s51 s52 s53 s54 s55 s56 s57 s58 s59 s60 s61 s62 s63 s64 s65 s66 s67 s68 s69 s70 s71 s72 s73 s74 s75 s76 s77 s78 s79 s80 s81 s82 s83 s84 s85 s86 s87 s88 s89 s90 s91 s92 s93 s94 s95 s96 s97 s98 s99 s100 s101 s102 s103 s104 s105 s106 s107 s108 s109 s110 s111 s112 s113 s114 s115 s116 s117 s118 s119 s120 s121 s122 s123 s124 s125 s126 s127 s128 s129 s130 s131 s132 s133 s134 s135 s136 s137 s138 s139 s140 s141 s142 s143 s144 s145 s146 s147 s148 s149 s150 s151 s152 s153 s154 s155 s156 s157 s158 s159 s160 s161 s162 s163 s164 : Value} (Q : Exit → Act → World → Prop) (w : World) (hq : ∀ t98 t99 t100 t101 t102 t103 t104 t105 t106 t107 t108 t109 t110 t111 t112 t113 t114 t115 t116 t117 t118 t119 t120 t121 t122 t123 t124 t125 t126 t127 t128 t129 t130 : Value, Q .normal ⟨#[s0, undef, s2, s3, s4, s5, s6, .int .u8 C, s8, s9, s10, s11, s12, s13, s14, s15, s16, s17, s18, s19, s20, s21, s22, s23, s24, s25, s26, s27, s28, s29, s30, s31, s32, s33, s34, s35, s36, s37, s38, s39, s40, s41, s42, s43, s44, s45, s46, s47, s48, s49, s50, s51, s52, s53, s54, s55, s56, s57, s58, s59, s60, s61, s62, s63, s64, s65, s66, s67, s68, s69, s70, s71, s72, s73, s74, s75, s76, s77, s78, s79, s80, s81, s82, s83, s84, s85, s86, s87, s88, s89, s90, s91, s92, s93, s94, s95, s96, s97, t98, t99, t100, t101, t102, t103, t104, t105, t106, t107, t108, t109, t110, t111, t112, t113, t114, t115, t116, t117, t118, t119, t120, t121, t122, t123, t124, t125, t126, t127, t128, t129, t130, .bool (decide (C = 40 ∨ C = 41 ∨ C = 91 ∨ C = 93 ∨ C = 123 ∨ C = 125 ∨ C = 44 ∨ C = 59 ∨ C = 58)), s132, s133, s134, s135, s136, s137, s138, s139, s140, s141, s142, s143, s144, s145, s146, s147, s148, s149, s150, s151, s152, s153, s154, s155, s156, s157, s158, s159, s160, s161, s162, s163, s164, undef], []⟩ w) :
    Code.wp Tryd.prog code23 Q ⟨#[s0, undef, s2, s3, s4, s5, s6, .int .u8 C, s8, s9, s10, s11, s12, s13, s14, s15, s16, s17, s18, s19, s20, s21, s22, s23, s24, s25, s26, s27, s28, s29, s30, s31, s32, s33, s34, s35, s36, s37, s38, s39, s40, s41, s42, s43, s44, s45, s46, s47, s48, s49, s50, s51, s52, s53, s54, s55, s56, s57, s58, s59, s60, s61, s62, s63, s64, s65, s66, s67, s68, s69, s70, s71, s72, s73, s74, s75, s76, s77, s78, s79, s80, s81, s82, s83, s84, s85, s86, s87, s88, s89, s90, s91, s92, s93, s94, s95, s96, s97, s98, s99, s100, s101, s102, s103, s104, s105, s106, s107, s108, s109, s110, s111, s112, s113, s114, s115, s116, s117, s118, s119, s120, s121, s122, s123, s124, s125, s126, s127, s128, s129, s130, s131, s132, s133, s134, s135, s136, s137, s138, s139, s140, s141, s142, s143, s144, s145, s146, s147, s148, s149, s150, s151, s152, s153, s154, s155, s156, s157, s158, s159, s160, s161, s162, s163, s164, undef], []⟩ w := by
  subst hC
  conv => arg 2; whnf
  go_wp2_with fail
  exact hq _ _ _ _ _ _ _ _ _ _ _ _ _ _ _ _ _ _ _ _ _ _ _ _ _ _ _ _ _ _ _ _ _

set_option maxHeartbeats 8000000 in
set_option maxRecDepth 100000 in
theorem reg23_123 (C : Int) (hC : C = 123) {s0 s2 s3 s4 s5 s6 s8 s9 s10 s11 s12 s13 s14 s15 s16 s17 s18 s19 s20 s21 s22 s23 s24 s25 s26 s27 s28 s29 s30 s31 s32 s33 s34 s35 s36 s37 s38 s39 s40 s41 s42 s43 s44 s45 s46 s47 s48 s49 s50 s51 s52 s53 s54 s55 s56 s57 s58 s59 s60 s61 s62 s63 s64 s65 s66 s67 s68 s69 s70 s71 s72 s73 s74 s75 s76 s77 s78 s79 s80 s81 s82 s83 s84 s85 s86 s87 s88 s89 s90 s91 s92 s93 s94 s95 s96 s97 s98 s99 s100 s101 s102 s103 s104 s105 s106 s107 s108 s109 s110 s111 s112 s113 s114 s115 s116 s117 s118 s119 s120 s121 s122 s123 s124 s125 s126 s127 s128 s129 s130 s131 s132 s133 s134 s135 s136 s137 s138 s139 s140 s141 s142 s143 s144 s145 s146 s147 s148 s149 s150 s151 s152 s153 s154 s155 s156 s157 s158 s159 s160 s161 s162 s163 s164 : Value} (Q : Exit → Act → World → Prop) (w : World) (hq : ∀ t98 t99 t100 t101 t102 t103 t104 t105 t106 t107 t108 t109 t110 t111 t112 t113 t114 t115 t116 t117 t118 t119 t120 t121 t122 t123 t124 t125 t126 t127 t128 t129 t130 : Value, Q .normal ⟨#[s0, undef, s2, s3, s4, s5, s6, .int .u8 C, s8, s9, s10, s11, s12, s13, s14, s15, s16, s17, s18, s19, s20, s21, s22, s23, s24, s25, s26, s27, s28, s29, s30, s31, s32, s33, s34, s35, s36, s37, s38, s39, s40, s41, s42, s43, s44, s45, s46, s47, s48, s49, s50, s51, s52, s53, s54, s55, s56, s57, s58, s59, s60, s61, s62, s63, s64, s65, s66, s67, s68, s69, s70, s71, s72, s73, s74, s75, s76, s77, s78, s79, s80, s81, s82, s83, s84, s85, s86, s87, s88, s89, s90, s91, s92, s93, s94, s95, s96, s97, t98, t99, t100, t101, t102, t103, t104, t105, t106, t107, t108, t109, t110, t111, t112, t113, t114, t115, t116, t117, t118, t119, t120, t121, t122, t123, t124, t125, t126, t127, t128, t129, t130, .bool (decide (C = 40 ∨ C = 41 ∨ C = 91 ∨ C = 93 ∨ C = 123 ∨ C = 125 ∨ C = 44 ∨ C = 59 ∨ C = 58)), s132, s133, s134, s135, s136, s137, s138, s139, s140, s141, s142, s143, s144, s145, s146, s147, s148, s149, s150, s151, s152, s153, s154, s155, s156, s157, s158, s159, s160, s161, s162, s163, s164, undef], []⟩ w) :
    Code.wp Tryd.prog code23 Q ⟨#[s0, undef, s2, s3, s4, s5, s6, .int .u8 C, s8, s9, s10, s11, s12, s13, s14, s15, s16, s17, s18, s19, s20, s21, s22, s23, s24, s25, s26, s27, s28, s29, s30, s31, s32, s33, s34, s35, s36, s37, s38, s39, s40, s41, s42, s43, s44, s45, s46, s47, s48, s49, s50, s51, s52, s53, s54, s55, s56, s57, s58, s59, s60, s61, s62, s63, s64, s65, s66, s67, s68, s69, s70, s71, s72, s73, s74, s75, s76, s77, s78, s79, s80, s81, s82, s83, s84, s85, s86, s87, s88, s89, s90, s91, s92, s93, s94, s95, s96, s97, s98, s99, s100, s101, s102, s103, s104, s105, s106, s107, s108, s109, s110, s111, s112, s113, s114, s115, s116, s117, s118, s119, s120, s121, s122, s123, s124, s125, s126, s127, s128, s129, s130, s131, s132, s133, s134, s135, s136, s137, s138, s139, s140, s141, s142, s143, s144, s145, s146, s147, s148, s149, s150, s151, s152, s153, s154, s155, s156, s157, s158, s159, s160, s161, s162, s163, s164, undef], []⟩ w := by
  subst hC
  conv => arg 2; whnf
  go_wp2_with fail
  exact hq _ _ _ _ _ _ _ _ _ _ _ _ _ _ _ _ _ _ _ _ _ _ _ _ _ _ _ _ _ _ _ _ _

set_option maxHeartbeats 8000000 in
set_option maxRecDepth 100000 in
theorem reg23_125 (C : Int) (hC : C = 125) {s0 s2 s3 s4 s5 s6 s8 s9 s10 s11 s12 s13 s14 s15 s16 s17 s18 s19 s20 s21 s22 s23 s24 s25 s26 s27 s28 s29 s30 s31 s32 s33 s34 s35 s36 s37 s38 s39 s40 s41 s42 s43 s44 s45 s46 s47 s48 s49 s50 s51 s52 s53 s54 s55 s56 s57 s58 s59 s60 s61 s62 s63 s64 s65 s66 s67 s68 s69 s70 s71 s72 s73 s74 s75 s76 s77 s78 s79 s80 s81 s82 s83 s84 s85 s86 s87 s88 s89 s90 s91 s92 s93 s94 s95 s96 s97 s98 s99 s100 s101 s102 s103 s104 s105 s106 s107 s108 s109 s110 s111 s112 s113 s114 s115 s116 s117 s118 s119 s120 s121 s122 s123 s124 s125 s126 s127 s128 s129 s130 s131 s132 s133 s134 s135 s136 s137 s138 s139 s140 s141 s142 s143 s144 s145 s146 s147 s148 s149 s150 s151 s152 s153 s154 s155 s156 s157 s158 s159 s160 s161 s162 s163 s164 : Value} (Q : Exit → Act → World → Prop) (w : World) (hq : ∀ t98 t99 t100 t101 t102 t103 t104 t105 t106 t107 t108 t109 t110 t111 t112 t113 t114 t115 t116 t117 t118 t119 t120 t121 t122 t123 t124 t125 t126 t127 t128 t129 t130 : Value, Q .normal ⟨#[s0, undef, s2, s3, s4, s5, s6, .int .u8 C, s8, s9, s10, s11, s12, s13, s14, s15, s16, s17, s18, s19, s20, s21, s22, s23, s24, s25, s26, s27, s28, s29, s30, s31, s32, s33, s34, s35, s36, s37, s38, s39, s40, s41, s42, s43, s44, s45, s46, s47, s48, s49, s50, s51, s52, s53, s54, s55, s56, s57, s58, s59, s60, s61, s62, s63, s64, s65, s66, s67, s68, s69, s70, s71, s72, s73, s74, s75, s76, s77, s78, s79, s80, s81, s82, s83, s84, s85, s86, s87, s88, s89, s90, s91, s92, s93, s94, s95, s96, s97, t98, t99, t100, t101, t102, t103, t104, t105, t106, t107, t108, t109, t110, t111, t112, t113, t114, t115, t116, t117, t118, t119, t120, t121, t122, t123, t124, t125, t126, t127, t128, t129, t130, .bool (decide (C = 40 ∨ C = 41 ∨ C = 91 ∨ C = 93 ∨ C = 123 ∨ C = 125 ∨ C = 44 ∨ C = 59 ∨ C = 58)), s132, s133, s134, s135, s136, s137, s138, s139, s140, s141, s142, s143, s144, s145, s146, s147, s148, s149, s150, s151, s152, s153, s154, s155, s156, s157, s158, s159, s160, s161, s162, s163, s164, undef], []⟩ w) :
    Code.wp Tryd.prog code23 Q ⟨#[s0, undef, s2, s3, s4, s5, s6, .int .u8 C, s8, s9, s10, s11, s12, s13, s14, s15, s16, s17, s18, s19, s20, s21, s22, s23, s24, s25, s26, s27, s28, s29, s30, s31, s32, s33, s34, s35, s36, s37, s38, s39, s40, s41, s42, s43, s44, s45, s46, s47, s48, s49, s50, s51, s52, s53, s54, s55, s56, s57, s58, s59, s60, s61, s62, s63, s64, s65, s66, s67, s68, s69, s70, s71, s72, s73, s74, s75, s76, s77, s78, s79, s80, s81, s82, s83, s84, s85, s86, s87, s88, s89, s90, s91, s92, s93, s94, s95, s96, s97, s98, s99, s100, s101, s102, s103, s104, s105, s106, s107, s108, s109, s110, s111, s112, s113, s114, s115, s116, s117, s118, s119, s120, s121, s122, s123, s124, s125, s126, s127, s128, s129, s130, s131, s132, s133, s134, s135, s136, s137, s138, s139, s140, s141, s142, s143, s144, s145, s146, s147, s148, s149, s150, s151, s152, s153, s154, s155, s156, s157, s158, s159, s160, s161, s162, s163, s164, undef], []⟩ w := by
  subst hC
  conv => arg 2; whnf
  go_wp2_with fail
  exact hq _ _ _ _ _ _ _ _ _ _ _ _ _ _ _ _ _ _ _ _ _ _ _ _ _ _ _ _ _ _ _ _ _

set_option maxHeartbeats 8000000 in
set_option maxRecDepth 100000 in
theorem reg23_44 (C : Int) (hC : C = 44) {s0 s2 s3 s4 s5 s6 s8 s9 s10 s11 s12 s13 s14 s15 s16 s17 s18 s19 s20 s21 s22 s23 s24 s25 s26 s27 s28 s29 s30 s31 s32 s33 s34 s35 s36 s37 s38 s39 s40 s41 s42 s43 s44 s45 s46 s47 s48 s49 s50 s51 s52 s53 s54 s55 s56 s57 s58 s59 s60 s61 s62 s63 s64 s65 s66 s67 s68 s69 s70 s71 s72 s73 s74 s75 s76 s77 s78 s79 s80 s81 s82 s83 s84 s85 s86 s87 s88 s89 s90 s91 s92 s93 s94 s95 s96 s97 s98 s99 s100 s101 s102 s103 s104 s105 s106 s107 s108 s109 s110 s111 s112 s113 s114 s115 s116 s117 s118 s119 s120 s121 s122 s123 s124 s125 s126 s127 s128 s129 s130 s131 s132 s133 s134 s135 s136 s137 s138 s139 s140 s141 s142 s143 s144 s145 s146 s147 s148 s149 s150 s151 s152 s153 s154 s155 s156 s157 s158 s159 s160 s161 s162 s163 s164 : Value} (Q : Exit → Act → World → Prop) (w : World) (hq : ∀ t98 t99 t100 t101 t102 t103 t104 t105 t106 t107 t108 t109 t110 t111 t112 t113 t114 t115 t116 t117 t118 t119 t120 t121 t122 t123 t124 t125 t126 t127 t128 t129 t130 : Value, Q .normal ⟨#[s0, undef, s2, s3, s4, s5, s6, .int .u8 C, s8, s9, s10, s11, s12, s13, s14, s15, s16, s17, s18, s19, s20, s21, s22, s23, s24, s25, s26, s27, s28, s29, s30, s31, s32, s33, s34, s35, s36, s37, s38, s39, s40, s41, s42, s43, s44, s45, s46, s47, s48, s49, s50, s51, s52, s53, s54, s55, s56, s57, s58, s59, s60, s61, s62, s63, s64, s65, s66, s67, s68, s69, s70, s71, s72, s73, s74, s75, s76, s77, s78, s79, s80, s81, s82, s83, s84, s85, s86, s87, s88, s89, s90, s91, s92, s93, s94, s95, s96, s97, t98, t99, t100, t101, t102, t103, t104, t105, t106, t107, t108, t109, t110, t111, t112, t113, t114, t115, t116, t117, t118, t119, t120, t121, t122, t123, t124, t125, t126, t127, t128, t129, t130, .bool (decide (C = 40 ∨ C = 41 ∨ C = 91 ∨ C = 93 ∨ C = 123 ∨ C = 125 ∨ C = 44 ∨ C = 59 ∨ C = 58)), s132, s133, s134, s135, s136, s137, s138, s139, s140, s141, s142, s143, s144, s145, s146, s147, s148, s149, s150, s151, s152, s153, s154, s155, s156, s157, s158, s159, s160, s161, s162, s163, s164, undef], []⟩ w) :
    Code.wp Tryd.prog code23 Q ⟨#[s0, undef, s2, s3, s4, s5, s6, .int .u8 C, s8, s9, s10, s11, s12, s13, s14, s15, s16, s17, s18, s19, s20, s21, s22, s23, s24, s25, s26, s27, s28, s29, s30, s31, s32, s33, s34, s35, s36, s37, s38, s39, s40, s41, s42, s43, s44, s45, s46, s47, s48, s49, s50, s51, s52, s53, s54, s55, s56, s57, s58, s59, s60, s61, s62, s63, s64, s65, s66, s67, s68, s69, s70, s71, s72, s73, s74, s75, s76, s77, s78, s79, s80, s81, s82, s83, s84, s85, s86, s87, s88, s89, s90, s91, s92, s93, s94, s95, s96, s97, s98, s99, s100, s101, s102, s103, s104, s105, s106, s107, s108, s109, s110, s111, s112, s113, s114, s115, s116, s117, s118, s119, s120, s121, s122, s123, s124, s125, s126, s127, s128, s129, s130, s131, s132, s133, s134, s135, s136, s137, s138, s139, s140, s141, s142, s143, s144, s145, s146, s147, s148, s149, s150, s151, s152, s153, s154, s155, s156, s157, s158, s159, s160, s161, s162, s163, s164, undef], []⟩ w := by
  subst hC
  conv => arg 2; whnf
  go_wp2_with fail
  exact hq _ _ _ _ _ _ _ _ _ _ _ _ _ _ _ _ _ _ _ _ _ _ _ _ _ _ _ _ _ _ _ _ _

set_option maxHeartbeats 8000000 in
set_option maxRecDepth 100000 in
theorem reg23_59 (C : Int) (hC : C = 59) {s0 s2 s3 s4 s5 s6 s8 s9 s10 s11 s12 s13 s14 s15 s16 s17 s18 s19 s20 s21 s22 s23 s24 s25 s26 s27 s28 s29 s30 s31 s32 s33 s34 s35 s36 s37 s38 s39 s40 s41 s42 s43 s44 s45 s46 s47 s48 s49 s50 s51 s52 s53 s54 s55 s56 s57 s58 s59 s60 s61 s62 s63 s64 s65 s66 s67 s68 s69 s70 s71 s72 s73 s74 s75 s76 s77 s78 s79 s80 s81 s82 s83 s84 s85 s86 s87 s88 s89 s90 s91 s92 s93 s94 s95 s96 s97 s98 s99 s100 s101 s102 s103 s104 s105 s106 s107 s108 s109 s110 s111 s112 s113 s114 s115 s116 s117 s118 s119 s120 s121 s122 s123 s124 s125 s126 s127 s128 s129 s130 s131 s132 s133 s134 s135 s136 s137 s138 s139 s140 s141 s142 s143 s144 s145 s146 s147 s148 s149 s150 s151 s152 s153 s154 s155 s156 s157 s158 s159 s160 s161 s162 s163 s164 : Value} (Q : Exit → Act → World → Prop) (w : World) (hq : ∀ t98 t99 t100 t101 t102 t103 t104 t105 t106 t107 t108 t109 t110 t111 t112 t113 t114 t115 t116 t117 t118 t119 t120 t121 t122 t123 t124 t125 t126 t127 t128 t129 t130 : Value, Q .normal ⟨#[s0, undef, s2, s3, s4, s5, s6, .int .u8 C, s8, s9, s10, s11, s12, s13, s14, s15, s16, s17, s18, s19, s20, s21, s22, s23, s24, s25, s26, s27, s28, s29, s30, s31, s32, s33, s34, s35, s36, s37, s38, s39, s40, s41, s42, s43, s44, s45, s46, s47, s48, s49, s50, s51, s52, s53, s54, s55, s56, s57, s58, s59, s60, s61, s62, s63, s64, s65, s66, s67, s68, s69, s70, s71, s72, s73, s74, s75, s76, s77, s78, s79, s80, s81, s82, s83, s84, s85, s86, s87, s88, s89, s90, s91, s92, s93, s94, s95, s96, s97, t98, t99, t100, t101, t102, t103, t104, t105, t106, t107, t108, t109, t110, t111, t112, t113, t114, t115, t116, t117, t118, t119, t120, t121, t122, t123, t124, t125, t126, t127, t128, t129, t130, .bool (decide (C = 40 ∨ C = 41 ∨ C = 91 ∨ C = 93 ∨ C = 123 ∨ C = 125 ∨ C = 44 ∨ C = 59 ∨ C = 58)), s132, s133, s134, s135, s136, s137, s138, s139, s140, s141, s142, s143, s144, s145, s146, s147, s148, s149, s150, s151, s152, s153, s154, s155, s156, s157, s158, s159, s160, s161, s162, s163, s164, undef], []⟩ w) :
    Code.wp Tryd.prog code23 Q ⟨#[s0, undef, s2, s3, s4, s5, s6, .int .u8 C, s8, s9, s10, s11, s12, s13, s14, s15, s16, s17, s18, s19, s20, s21, s22, s23, s24, s25, s26, s27, s28, s29, s30, s31, s32, s33, s34, s35, s36, s37, s38, s39, s40, s41, s42, s43, s44, s45, s46, s47, s48, s49, s50, s51, s52, s53, s54, s55, s56, s57, s58, s59, s60, s61, s62, s63, s64, s65, s66, s67, s68, s69, s70, s71, s72, s73, s74, s75, s76, s77, s78, s79, s80, s81, s82, s83, s84, s85, s86, s87, s88, s89, s90, s91, s92, s93, s94, s95, s96, s97, s98, s99, s100, s101, s102, s103, s104, s105, s106, s107, s108, s109, s110, s111, s112, s113, s114, s115, s116, s117, s118, s119, s120, s121, s122, s123, s124, s125, s126, s127, s128, s129, s130, s131, s132, s133, s134, s135, s136, s137, s138, s139, s140, s141, s142, s143, s144, s145, s146, s147, s148, s149, s150, s151, s152, s153, s154, s155, s156, s157, s158, s159, s160, s161, s162, s163, s164, undef], []⟩ w := by
  subst hC
  conv => arg 2; whnf
  go_wp2_with fail
  exact hq _ _ _ _ _ _ _ _ _ _ _ _ _ _ _ _ _ _ _ _ _ _ _ _ _ _ _ _ _ _ _ _ _

set_option maxHeartbeats 8000000 in
set_option maxRecDepth 100000 in
theorem reg23_58 (C : Int) (hC : C = 58) {s0 s2 s3 s4 s5 s6 s8 s9 s10 s11 s12 s13 s14 s15 s16 s17 s18 s19 s20 s21 s22 s23 s24 s25 s26 s27 s28 s29 s30 s31 s32 s33 s34 s35 s36 s37 s38 s39 s40 s41 s42 s43 s44 s45 s46 s47 s48 s49 s50 s51 s52 s53 s54 s55 s56 s57 s58 s59 s60 s61 s62 s63 s64 s65 s66 s67 s68 s69 s70 s71 s72 s73 s74 s75 s76 s77 s78 s79 s80 s81 s82 s83 s84 s85 s86 s87 s88 s89 s90 s91 s92 s93 s94 s95 s96 s97 s98 s99 s100 s101 s102 s103 s104 s105 s106 s107 s108 s109 s110 s111 s112 s113 s114 s115 s116 s117 s118 s119 s120 s121 s122 s123 s124 s125 s126 s127 s128 s129 s130 s131 s132 s133 s134 s135 s136 s137 s138 s139 s140 s141 s142 s143 s144 s145 s146 s147 s148 s149 s150 s151 s152 s153 s154 s155 s156 s157 s158 s159 s160 s161 s162 s163 s164 : Value} (Q : Exit → Act → World → Prop) (w : World) (hq : ∀ t98 t99 t100 t101 t102 t103 t104 t105 t106 t107 t108 t109 t110 t111 t112 t113 t114 t115 t116 t117 t118 t119 t120 t121 t122 t123 t124 t125 t126 t127 t128 t129 t130 : Value, Q .normal ⟨#[s0, undef, s2, s3, s4, s5, s6, .int .u8 C, s8, s9, s10, s11, s12, s13, s14, s15, s16, s17, s18, s19, s20, s21, s22, s23, s24, s25, s26, s27, s28, s29, s30, s31, s32, s33, s34, s35, s36, s37, s38, s39, s40, s41, s42, s43, s44, s45, s46, s47, s48, s49, s50, s51, s52, s53, s54, s55, s56, s57, s58, s59, s60, s61, s62, s63, s64, s65, s66, s67, s68, s69, s70, s71, s72, s73, s74, s75, s76, s77, s78, s79, s80, s81, s82, s83, s84, s85, s86, s87, s88, s89, s90, s91, s92, s93, s94, s95, s96, s97, t98, t99, t100, t101, t102, t103, t104, t105, t106, t107, t108, t109, t110, t111, t112, t113, t114, t115, t116, t117, t118, t119, t120, t121, t122, t123, t124, t125, t126, t127, t128, t129, t130, .bool (decide (C = 40 ∨ C = 41 ∨ C = 91 ∨ C = 93 ∨ C = 123 ∨ C = 125 ∨ C = 44 ∨ C = 59 ∨ C = 58)), s132, s133, s134, s135, s136, s137, s138, s139, s140, s141, s142, s143, s144, s145, s146, s147, s148, s149, s150, s151, s152, s153, s154, s155, s156, s157, s158, s159, s160, s161, s162, s163, s164, undef], []⟩ w) :
    Code.wp Tryd.prog code23 Q ⟨#[s0, undef, s2, s3, s4, s5, s6, .int .u8 C, s8, s9, s10, s11, s12, s13, s14, s15, s16, s17, s18, s19, s20, s21, s22, s23, s24, s25, s26, s27, s28, s29, s30, s31, s32, s33, s34, s35, s36, s37, s38, s39, s40, s41, s42, s43, s44, s45, s46, s47, s48, s49, s50, s51, s52, s53, s54, s55, s56, s57, s58, s59, s60, s61, s62, s63, s64, s65, s66, s67, s68, s69, s70, s71, s72, s73, s74, s75, s76, s77, s78, s79, s80, s81, s82, s83, s84, s85, s86, s87, s88, s89, s90, s91, s92, s93, s94, s95, s96, s97, s98, s99, s100, s101, s102, s103, s104, s105, s106, s107, s108, s109, s110, s111, s112, s113, s114, s115, s116, s117, s118, s119, s120, s121, s122, s123, s124, s125, s126, s127, s128, s129, s130, s131, s132, s133, s134, s135, s136, s137, s138, s139, s140, s141, s142, s143, s144, s145, s146, s147, s148, s149, s150, s151, s152, s153, s154, s155, s156, s157, s158, s159, s160, s161, s162, s163, s164, undef], []⟩ w := by
  subst hC
  conv => arg 2; whnf
  go_wp2_with fail
  exact hq _ _ _ _ _ _ _ _ _ _ _ _ _ _ _ _ _ _ _ _ _ _ _ _ _ _ _ _ _ _ _ _ _

set_option maxHeartbeats 8000000 in
set_option maxRecDepth 100000 in
theorem reg23_no (C : Int) (hC : ¬ (C = 40 ∨ C = 41 ∨ C = 91 ∨ C = 93 ∨ C = 123 ∨ C = 125 ∨ C = 44 ∨ C = 59 ∨ C = 58)) {s0 s2 s3 s4 s5 s6 s8 s9 s10 s11 s12 s13 s14 s15 s16 s17 s18 s19 s20 s21 s22 s23 s24 s25 s26 s27 s28 s29 s30 s31 s32 s33 s34 s35 s36 s37 s38 s39 s40 s41 s42 s43 s44 s45 s46 s47 s48 s49 s50 s51 s52 s53 s54 s55 s56 s57 s58 s59 s60 s61 s62 s63 s64 s65 s66 s67 s68 s69 s70 s71 s72 s73 s74 s75 s76 s77 s78 s79 s80 s81 s82 s83 s84 s85 s86 s87 s88 s89 s90 s91 s92 s93 s94 s95 s96 s97 s98 s99 s100 s101 s102 s103 s104 s105 s106 s107 s108 s109 s110 s111 s112 s113 s114 s115 s116 s117 s118 s119 s120 s121 s122 s123 s124 s125 s126 s127 s128 s129 s130 s131 s132 s133 s134 s135 s136 s137 s138 s139 s140 s141 s142 s143 s144 s145 s146 s147 s148 s149 s150 s151 s152 s153 s154 s155 s156 s157 s158 s159 s160 s161 s162 s163 s164 : Value} (Q : Exit → Act → World → Prop) (w : World) (hq : ∀ t98 t99 t100 t101 t102 t103 t104 t105 t106 t107 t108 t109 t110 t111 t112 t113 t114 t115 t116 t117 t118 t119 t120 t121 t122 t123 t124 t125 t126 t127 t128 t129 t130 : Value, Q .normal ⟨#[s0, undef, s2, s3, s4, s5, s6, .int .u8 C, s8, s9, s10, s11, s12, s13, s14, s15, s16, s17, s18, s19, s20, s21, s22, s23, s24, s25, s26, s27, s28, s29, s30, s31, s32, s33, s34, s35, s36, s37, s38, s39, s40, s41, s42, s43, s44, s45, s46, s47, s48, s49, s50, s51, s52, s53, s54, s55, s56, s57, s58, s59, s60, s61, s62, s63, s64, s65, s66, s67, s68, s69, s70, s71, s72, s73, s74, s75, s76, s77, s78, s79, s80, s81, s82, s83, s84, s85, s86, s87, s88, s89, s90, s91, s92, s93, s94, s95, s96, s97, t98, t99, t100, t101, t102, t103, t104, t105, t106, t107, t108, t109, t110, t111, t112, t113, t114, t115, t116, t117, t118, t119, t120, t121, t122, t123, t124, t125, t126, t127, t128, t129, t130, .bool (decide (C = 40 ∨ C = 41 ∨ C = 91 ∨ C = 93 ∨ C = 123 ∨ C = 125 ∨ C = 44 ∨ C = 59 ∨ C = 58)), s132, s133, s134, s135, s136, s137, s138, s139, s140, s141, s142, s143, s144, s145, s146, s147, s148, s149, s150, s151, s152, s153, s154, s155, s156, s157, s158, s159, s160, s161, s162, s163, s164, undef], []⟩ w) :
    Code.wp Tryd.prog code23 Q ⟨#[s0, undef, s2, s3, s4, s5, s6, .int .u8 C, s8, s9, s10, s11, s12, s13, s14, s15, s16, s17, s18, s19, s20, s21, s22, s23, s24, s25, s26, s27, s28, s29, s30, s31, s32, s33, s34, s35, s36, s37, s38, s39, s40, s41, s42, s43, s44, s45, s46, s47, s48, s49, s50, s51, s52, s53, s54, s55, s56, s57, s58, s59, s60, s61, s62, s63, s64, s65, s66, s67, s68, s69, s70, s71, s72, s73, s74, s75, s76, s77, s78, s79, s80, s81, s82, s83, s84, s85, s86, s87, s88, s89, s90, s91, s92, s93, s94, s95, s96, s97, s98, s99, s100, s101, s102, s103, s104, s105, s106, s107, s108, s109, s110, s111, s112, s113, s114, s115, s116, s117, s118, s119, s120, s121, s122, s123, s124, s125, s126, s127, s128, s129, s130, s131, s132, s133, s134, s135, s136, s137, s138, s139, s140, s141, s142, s143, s144, s145, s146, s147, s148, s149, s150, s151, s152, s153, s154, s155, s156, s157, s158, s159, s160, s161, s162, s163, s164, undef], []⟩ w := by
  conv => arg 2; whnf
  have n40 : (C == 40) = false := beq_eq_false_iff_ne.2 (by omega)
  have n41 : (C == 41) = false := beq_eq_false_iff_ne.2 (by omega)
  have n91 : (C == 91) = false := beq_eq_false_iff_ne.2 (by omega)
  have n93 : (C == 93) = false := beq_eq_false_iff_ne.2 (by omega)
  have n123 : (C == 123) = false := beq_eq_false_iff_ne.2 (by omega)
  have n125 : (C == 125) = false := beq_eq_false_iff_ne.2 (by omega)
  have n44 : (C == 44) = false := beq_eq_false_iff_ne.2 (by omega)
  have n59 : (C == 59) = false := beq_eq_false_iff_ne.2 (by omega)
  have n58 : (C == 58) = false := beq_eq_false_iff_ne.2 (by omega)
  rw [decide_eq_false hC] at hq
  clear hC
  go_wp2_with fail
  exact hq _ _ _ _ _ _ _ _ _ _ _ _ _ _ _ _ _ _ _ _ _ _ _ _ _ _ _ _ _ _ _ _ _

set_option maxHeartbeats 8000000 in
set_option maxRecDepth 100000 in
theorem reg23 (C : Int) {s0 s2 s3 s4 s5 s6 s8 s9 s10 s11 s12 s13 s14 s15 s16 s17 s18 s19 s20 s21 s22 s23 s24 s25 s26 s27 s28 s29 s30 s31 s32 s33 s34 s35 s36 s37 s38 s39 s40 s41 s42 s43 s44 s45 s46 s47 s48 s49 s50 s51 s52 s53 s54 s55 s56 s57 s58 s59 s60 s61 s62 s63 s64 s65 s66 s67 s68 s69 s70 s71 s72 s73 s74 s75 s76 s77 s78 s79 s80 s81 s82 s83 s84 s85 s86 s87 s88 s89 s90 s91 s92 s93 s94 s95 s96 s97 s98 s99 s100 s101 s102 s103 s104 s105 s106 s107 s108 s109 s110 s111 s112 s113 s114 s115 s116 s117 s118 s119 s120 s121 s122 s123 s124 s125 s126 s127 s128 s129 s130 s131 s132 s133 s134 s135 s136 s137 s138 s139 s140 s141 s142 s143 s144 s145 s146 s147 s148 s149 s150 s151 s152 s153 s154 s155 s156 s157 s158 s159 s160 s161 s162 s163 s164 : Value} (Q : Exit → Act → World → Prop) (w : World) (hq : ∀ t98 t99 t100 t101 t102 t103 t104 t105 t106 t107 t108 t109 t110 t111 t112 t113 t114 t115 t116 t117 t118 t119 t120 t121 t122 t123 t124 t125 t126 t127 t128 t129 t130 : Value, Q .normal ⟨#[s0, undef, s2, s3, s4, s5, s6, .int .u8 C, s8, s9, s10, s11, s12, s13, s14, s15, s16, s17, s18, s19, s20, s21, s22, s23, s24, s25, s26, s27, s28, s29, s30, s31, s32, s33, s34, s35, s36, s37, s38, s39, s40, s41, s42, s43, s44, s45, s46, s47, s48, s49, s50, s51, s52, s53, s54, s55, s56, s57, s58, s59, s60, s61, s62, s63, s64, s65, s66, s67, s68, s69, s70, s71, s72, s73, s74, s75, s76, s77, s78, s79, s80, s81, s82, s83, s84, s85, s86, s87, s88, s89, s90, s91, s92, s93, s94, s95, s96, s97, t98, t99, t100, t101, t102, t103, t104, t105, t106, t107, t108, t109, t110, t111, t112, t113, t114, t115, t116, t117, t118, t119, t120, t121, t122, t123, t124, t125, t126, t127, t128, t129, t130, .bool (decide (C = 40 ∨ C = 41 ∨ C = 91 ∨ C = 93 ∨ C = 123 ∨ C = 125 ∨ C = 44 ∨ C = 59 ∨ C = 58)), s132, s133, s134, s135, s136, s137, s138, s139, s140, s141, s142, s143, s144, s145, s146, s147, s148, s149, s150, s151, s152, s153, s154, s155, s156, s157, s158, s159, s160, s161, s162, s163, s164, undef], []⟩ w) :
    Code.wp Tryd.prog code23 Q ⟨#[s0, undef, s2, s3, s4, s5, s6, .int .u8 C, s8, s9, s10, s11, s12, s13, s14, s15, s16, s17, s18, s19, s20, s21, s22, s23, s24, s25, s26, s27, s28, s29, s30, s31, s32, s33, s34, s35, s36, s37, s38, s39, s40, s41, s42, s43, s44, s45, s46, s47, s48, s49, s50, s51, s52, s53, s54, s55, s56, s57, s58, s59, s60, s61, s62, s63, s64, s65, s66, s67, s68, s69, s70, s71, s72, s73, s74, s75, s76, s77, s78, s79, s80, s81, s82, s83, s84, s85, s86, s87, s88, s89, s90, s91, s92, s93, s94, s95, s96, s97, s98, s99, s100, s101, s102, s103, s104, s105, s106, s107, s108, s109, s110, s111, s112, s113, s114, s115, s116, s117, s118, s119, s120, s121, s122, s123, s124, s125, s126, s127, s128, s129, s130, s131, s132, s133, s134, s135, s136, s137, s138, s139, s140, s141, s142, s143, s144, s145, s146, s147, s148, s149, s150, s151, s152, s153, s154, s155, s156, s157, s158, s159, s160, s161, s162, s163, s164, undef], []⟩ w := by
  by_cases hC : C = 40 ∨ C = 41 ∨ C = 91 ∨ C = 93 ∨ C = 123 ∨ C = 125 ∨ C = 44 ∨ C = 59 ∨ C = 58
  · rcases hC with hC | hC | hC | hC | hC | hC | hC | hC | hC
    · exact reg23_40 C hC Q w hq
    · exact reg23_41 C hC Q w hq
    · exact reg23_91 C hC Q w hq
    · exact reg23_93 C hC Q w hq
    · exact reg23_123 C hC Q w hq
    · exact reg23_125 C hC Q w hq
    · exact reg23_44 C hC Q w hq
    · exact reg23_59 C hC Q w hq
    · exact reg23_58 C hC Q w hq
  · exact reg23_no C hC Q w hq


theorem ext_take (s : ByteArray) (a n : Nat) (h : a + n ≤ s.size) : s.extract a (a + n) = ⟨((s.data.toList.drop a).take n).toArray⟩ := by
  apply ByteArray.ext
  rw [ByteArray.data_extract]
  apply Array.ext'
  rw [Array.toList_extract, List.extract_eq_take_drop, Nat.add_sub_cancel_left]
theorem sign_val (t : List UInt8) (at_ : Nat) (c : UInt8) (h : t[at_]? = some c) : Go.Proofs.YtdemfbfdhpccpaaDoor.Lx.sign (t.drop at_) = if c.toNat = 46 ∧ t[at_ + 1]? = some 46 then 2 else if c.toNat = 40 ∨ c.toNat = 41 ∨ c.toNat = 91 ∨ c.toNat = 93 ∨ c.toNat = 123 ∨ c.toNat = 125 ∨ c.toNat = 44 ∨ c.toNat = 59 ∨ c.toNat = 58 then 1 else 0 := by
  obtain ⟨h1, h2⟩ := List.getElem?_eq_some_iff.1 h
  rw [List.drop_eq_getElem_cons h1, h2]
  show (if [46, 46].isPrefixOf (c :: t.drop (at_ + 1)) then 2 else if [40, 41, 91, 93, 123, 125, 44, 59, 58].contains c then 1 else 0) = _
  have e1 : ([46, 46].isPrefixOf (c :: t.drop (at_ + 1)) = true) ↔ (c.toNat = 46 ∧ t[at_ + 1]? = some 46) := by
    have hh : t[at_ + 1]? = (t.drop (at_ + 1))[0]? := by rw [List.getElem?_drop]
    rw [hh]
    cases t.drop (at_ + 1) with
    | nil => simp [List.isPrefixOf]
    | cons d l =>
      simp only [List.isPrefixOf, Bool.and_true, Bool.and_eq_true, beq_iff_eq, List.getElem?_cons_zero, Option.some.injEq]
      constructor
      · rintro ⟨rfl, rfl⟩; exact ⟨rfl, rfl⟩
      · rintro ⟨a, rfl⟩; exact ⟨(UInt8.toNat_inj.1 a).symm, rfl⟩
  have e2 : ([40, 41, 91, 93, 123, 125, 44, 59, 58].contains c = true) ↔ (c.toNat = 40 ∨ c.toNat = 41 ∨ c.toNat = 91 ∨ c.toNat = 93 ∨ c.toNat = 123 ∨ c.toNat = 125 ∨ c.toNat = 44 ∨ c.toNat = 59 ∨ c.toNat = 58) := by
    rw [List.contains_iff_mem]
    simp only [List.mem_cons, List.not_mem_nil, or_false, ← UInt8.toNat_inj]
    exact Iff.rfl
  simp only [e1, e2]
/-- One token more. -/
theorem RL.token {s : ByteArray} {w wr w2 : World} {v v2 : Value} {at_ n : Nat} {xs : List Go.Proofs.YtdemfbfdhpccpaaDoor.Lx.T} {c : UInt8} {k num : Int} (h : RL s w wr v at_ false xs) (hc : s.data.toList[at_]? = some c) (h1 : Go.Proofs.YtdemfbfdhpccpaaDoor.Lx.bl c = false) (h2 : c.toNat ≠ 37) (ht : Go.Proofs.YtdemfbfdhpccpaaDoor.Lx.tok (s.data.toList.drop at_) = .ok (k, n, num))
    (ho : Kd.R k43 43 w2 w.heap.size (fun _ => True) v2 (xs.map toS43 ++ [(⟨k, s.extract at_ (at_ + n), num, (at_ : Int)⟩ : S43)])) (hb : Below w.heap.size w w2) : RL s w w2 v2 (at_ + n) false (xs ++ [⟨k, (s.data.toList.drop at_).take n, num, at_⟩]) := by
  have hn := Go.Proofs.YtdemfbfdhpccpaaDoor.Lx.tok_le ht
  rw [List.length_drop, sz_len] at hn
  refine ⟨by omega, by rw [List.length_append]; have := h.len; simp; omega, ?_, hb, by rw [h.fin, Lg_tok _ _ c hc h1 h2 ht]⟩
  rw [List.map_append]
  have e : List.map toS43 [(⟨k, (s.data.toList.drop at_).take n, num, at_⟩ : Go.Proofs.YtdemfbfdhpccpaaDoor.Lx.T)] = [(⟨k, s.extract at_ (at_ + n), num, (at_ : Int)⟩ : S43)] := by
    rw [ext_take s at_ n (by omega)]; rfl
  rw [e]; exact ho
set_option maxHeartbeats 8000000 in
set_option maxRecDepth 100000 in
theorem jigsawref05_Lex.calls (a0 : ByteArray) (r1 : List (S43)) (r2 : Int) (r3 : Int) (w : World) (h : jigsawref05_Lex.f a0 = some (r1, r2, r3)) :
    Calls Tryd.prog 9 #[.string a0] w fun e w' => ∃ v0_ : Value, e = .returned (.tuple #[v0_, .int .i64 r2, .int .i64 r3]) ∧ Kd.R k43 43 w' w.heap.size (fun _ => True) v0_ r1 ∧ Below w.heap.size w w' := by
  unfold jigsawref05_Lex.f at h
  by_cases c2 : a0.size > 1048576
  · rw [if_pos c2] at h
    cases h
    have c2b0 : decide (1048576 < (a0.size : Int)) = true := decide_eq_true (by omega)
    have c2b1 : decide (1048576 < a0.size) = true := decide_eq_true c2
    clear c2
    go_enter Tryd.func9, Tryd.ntmps9
    go_wp2
    go_ret3
    exact ⟨_, rfl, Kd.R_nil _ _ _ _ _, Below.refl _ _⟩
  · rw [if_neg c2] at h
    have FIN := Aside0.mk (Option.some.inj h)
    have SZ := Aside0.mk (show a0.size ≤ 1048576 from by omega)
    have c2b0 : decide (1048576 < (a0.size : Int)) = false := decide_eq_false (by omega)
    have c2b1 : decide (1048576 < a0.size) = false := decide_eq_false c2
    clear c2 h
    go_enter Tryd.func9, Tryd.ntmps9
    go_wp2_with fail
    go_loopg [5, 6] (a0.size + 1) (fun k s5 s6 wr => ∃ (at_ : Nat) (xs : List Go.Proofs.YtdemfbfdhpccpaaDoor.Lx.T), s6 = .int .i64 (at_ : Int) ∧ a0.size < k + at_ ∧ Aside0 (RL a0 w wr s5 at_ false xs))
    case atStart => exact ⟨0, [], rfl, by omega, Aside0.mk ⟨by omega, by simp, Kd.R_nil _ _ _ _ _, Below.refl _ _, by unfold Go.Proofs.YtdemfbfdhpccpaaDoor.Lx.lex Lpre Lg; rw [List.drop_zero, Nat.zero_add]; cases Go.Proofs.YtdemfbfdhpccpaaDoor.Lx.go a0.data.toList (a0.data.toList.length + 1) (Go.Proofs.YtdemfbfdhpccpaaDoor.Lx.sk false a0.data.toList) <;> rfl⟩⟩
    case round =>
      obtain ⟨at_, xs, rfl, hk, HR⟩ := hrel
      rcases Nat.lt_or_ge at_ a0.size with hlt | hge
      · have hli : (at_ : Int) < (a0.size : Int) := by omega
        have HL := Aside0.mk (show a0.data.toList[at_]? = some a0[at_] from List.getElem?_eq_getElem (by rw [sz_len]; exact hlt))
        generalize hcc : a0[at_] = c at HL
        go_upto_region 7 with fail
        clear hcc
        generalize hCC : (c.toNat : Int) = C at *
        have HC := Aside0.mk hCC
        clear hCC
        obtain ⟨gk, rfl⟩ : ∃ g : Nat, g = gk := ⟨_, rfl⟩
        have hszI : (a0.size : Int) ≤ 1048576 := by have := SZ.out; omega
        by_cases hbl : C = 32 ∨ C = 9 ∨ C = 10 ∨ C = 13
        · rcases hbl with rfl | rfl | rfl | rfl
          all_goals
            have LG := Aside0.mk (Lg_blank a0.data.toList at_ c HL.out (by unfold Go.Proofs.YtdemfbfdhpccpaaDoor.Lx.bl; rw [decide_eq_true_eq]; have := HC.out; omega))
            clear HC
            go_wp2_with fail
            go_roundg (gk - 1)
            case measure => omega
            case rel => exact ⟨at_ + 1, xs, by go_num, by omega, Aside0.mk (HR.out.to (by omega) (by omega) LG.out)⟩
        · by_cases hha : C = 37
          · subst hha
            have LG := Aside0.mk (Lg_hash a0.data.toList at_ c HL.out (by have := HC.out; omega))
            clear hbl
            go_wp2_with fail
            obtain ⟨gko, rfl⟩ : ∃ g : Nat, g = gk := ⟨_, rfl⟩
            go_loopg [6] (a0.size + 1) (fun k s6 wr2 => ∃ (a2 : Nat), s6 = .int .i64 (a2 : Int) ∧ a0.size < k + a2 ∧ wr = wr2 ∧ at_ ≤ a2 ∧ Aside0 (RL a0 w wr u5 a2 true xs))
            case atStart => exact ⟨at_, rfl, by omega, rfl, Nat.le_refl _, Aside0.mk (HR.out.to (Nat.le_refl _) (by omega) LG.out)⟩
            case round =>
              obtain ⟨a2, rfl, hk2, rfl, ha2, HR2⟩ := hrel
              have hle := HR2.out.le
              rcases Nat.lt_or_ge a2 a0.size with hlt2 | hge2
              · have hli2 : (a2 : Int) < (a0.size : Int) := by omega
                have HL2 := Aside0.mk (show a0.data.toList[a2]? = some a0[a2] from List.getElem?_eq_getElem (by rw [sz_len]; exact hlt2))
                generalize hcc2 : a0[a2] = c2 at HL2
                by_cases h10 : c2.toNat = 10
                · have hne : at_ < a2 := by
                    rcases Nat.lt_or_ge at_ a2 with h1 | h1
                    · exact h1
                    · exfalso
                      have e : a2 = at_ := by omega
                      have h2 := HL2.out
                      rw [e, HL.out] at h2
                      cases h2
                      have := HC.out
                      omega
                  have b10 : ((c2.toNat : Int) != 10) = false := by rw [h10]; rfl
                  have LO := Aside0.mk (Lg_out a0.data.toList a2 (fun c hc => by rw [HL2.out] at hc; cases hc; exact h10))
                  clear h10
                  go_wp2_with fail
                  go_roundg (gko - (a2 - at_))
                  case measure => omega
                  case rel => exact ⟨a2, xs, rfl, by omega, Aside0.mk (HR2.out.to (Nat.le_refl _) hle LO.out)⟩
                · have b10 : ((c2.toNat : Int) != 10) = true := by rw [bne_iff_ne]; omega
                  have LI := Aside0.mk (Lg_in a0.data.toList a2 c2 HL2.out h10)
                  clear h10
                  go_wp2_with fail
                  go_roundg (gk - 1)
                  case measure => omega
                  case rel => exact ⟨a2 + 1, by go_num, by omega, rfl, by omega, Aside0.mk (HR2.out.to (by omega) (by omega) LI.out)⟩
              · have hli2 : ¬ (a2 : Int) < (a0.size : Int) := by omega
                have LO := Aside0.mk (Lg_out a0.data.toList a2 (fun c hc => by rw [List.getElem?_eq_none (by rw [sz_len]; exact hge2)] at hc; cases hc))
                go_wp2_with fail
                go_roundg (gko - (a2 - at_))
                case measure => omega
                case rel => exact ⟨a2, xs, rfl, by omega, Aside0.mk (HR2.out.to (Nat.le_refl _) hle LO.out)⟩

          · have NB := Aside0.mk (show Go.Proofs.YtdemfbfdhpccpaaDoor.Lx.bl c = false from by unfold Go.Proofs.YtdemfbfdhpccpaaDoor.Lx.bl; rw [decide_eq_false_iff_not]; have := HC.out; omega)
            have NH := Aside0.mk (show c.toNat ≠ 37 from by have := HC.out; omega)
            have n32 : (C == 32) = false := beq_eq_false_iff_ne.2 (by omega)
            have n09 : (C == 9) = false := beq_eq_false_iff_ne.2 (by omega)
            have n10 : (C == 10) = false := beq_eq_false_iff_ne.2 (by omega)
            have n13 : (C == 13) = false := beq_eq_false_iff_ne.2 (by omega)
            have n37 : (C == 37) = false := beq_eq_false_iff_ne.2 hha
            clear hbl hha
            have WC := Aside0.mk (ref_word_f a0 (by have := SZ.out; omega) at_ (by omega) (a0.size + 9) (by omega))
            have NC := Aside0.mk (ref_number_f a0 (by have := SZ.out; omega) at_ hlt (a0.size + 9) (by omega))
            have WLE := Aside0.mk (Go.Proofs.YtdemfbfdhpccpaaDoor.Lx.word_le (a0.data.toList.drop at_))
            have TOK := Aside0.mk (show Go.Proofs.YtdemfbfdhpccpaaDoor.Lx.tok (a0.data.toList.drop at_) = (if Go.Proofs.YtdemfbfdhpccpaaDoor.Lx.word (a0.data.toList.drop at_) > 0 then .ok (1, Go.Proofs.YtdemfbfdhpccpaaDoor.Lx.word (a0.data.toList.drop at_), 0) else if Go.Proofs.YtdemfbfdhpccpaaDoor.Lx.cnt (a0.data.toList.drop at_) > 0 then if Go.Proofs.YtdemfbfdhpccpaaDoor.Lx.bad (a0.data.toList.drop at_) then .error 15 else .ok (2, Go.Proofs.YtdemfbfdhpccpaaDoor.Lx.nlen (a0.data.toList.drop at_), Go.Proofs.YtdemfbfdhpccpaaDoor.Lx.num (a0.data.toList.drop at_)) else if Go.Proofs.YtdemfbfdhpccpaaDoor.Lx.sign (a0.data.toList.drop at_) > 0 then .ok (3, Go.Proofs.YtdemfbfdhpccpaaDoor.Lx.sign (a0.data.toList.drop at_), 0) else .error 6) from rfl)
            generalize Go.Proofs.YtdemfbfdhpccpaaDoor.Lx.word (a0.data.toList.drop at_) = n at *
            go_wp2_with fail
            refine (jigsawref05_word.calls (a0.size + 9) a0 at_ (n : Int) _ WC.out).mono ?_
            rintro e w2 ⟨rfl, hd⟩
            replace HR := Aside0.mk (HR.out.drawn hd)
            clear hd WC
            by_cases hn : 0 < n
            · have TK := Aside0.mk TOK.out
              rw [if_pos hn] at TK
              have hnl : at_ + n ≤ a0.size := by have := WLE.out; rw [List.length_drop, sz_len] at this; omega
              have hnI : (at_ : Int) + (n : Int) ≤ (a0.size : Int) := by omega
              have hn0 : (0 : Int) < (n : Int) := by omega
              have i1 : ((at_ : Int) + (n : Int)).toNat = at_ + n := by omega
              clear TOK WLE NC hn n32 n09 n10 n13 n37 HC
              go_wp2_with (first | ((with_reducible refine gate_builtin (b := .append) (xs := #[.tmp 56, .tmp 65]) rfl ?_); at_builtin; refine Kd.R_append k43 (w0 := w) w.heap.size rfl (.tmp 56) (.tmp 65) 26 43 (.agg #[(.int .i64 0), (.string ⟨#[]⟩), (.int .i64 0), (.int .i64 0)]) 40 rfl Tryd.underlying26 info43 rfl (by decide) (by omega) u5 (xs.map toS43) (⟨1, a0.extract at_ (at_ + n), 0, (at_ : Int)⟩ : S43) [.int .i64 1, .string (a0.extract at_ (at_ + n)), .int .i64 0, .int .i64 (at_ : Int)] (fun _ => True) (fun _ => False) rfl (by first | rfl | (go_simp; done) | (go_simp; rfl)) (k43_mkM _ _ _ (⟨1, a0.extract at_ (at_ + n), 0, (at_ : Int)⟩ : S43)) (fun _ hk => hk.elim) (fun _ _ => trivial) ?aOw ?aBw ?aSw ?aLw ?_; (case aBw => exact (by repeat (first | (with_reducible first | exact HR.out.bel | apply below_alloc | apply pw_below_drewN | apply below_drew1) | exact HR.out.bel))); (case aOw => exact (by (with_reducible repeat (first | apply Kd.R_alloc | apply Kd.R_drewN | apply Kd.R_drew)); exact HR.out.row)); (case aSw => exact (below_size (by repeat (first | (with_reducible first | exact HR.out.bel | apply below_alloc | apply pw_below_drewN | apply below_drew1) | exact HR.out.bel)))); (case aLw => have h1 := HR.out.len; have h2 := SZ.out; rw [List.length_map]; omega); intro v2 w22 ho hb hg hat; have HO := Aside0.mk ho; have HB2 := Aside0.mk hb; clear ho hb hg hat))
              go_roundg (gk - n)
              case measure => omega
              case rel => exact ⟨at_ + n, _, by go_num, by omega, Aside0.mk (HR.out.token HL.out NB.out NH.out TK.out HO.out HB2.out)⟩
            · have hn0 : n = 0 := by omega
              subst hn0
              rw [if_neg hn] at TOK
              clear hn WLE
              go_wp2_with fail
              by_cases hc0 : Go.Proofs.YtdemfbfdhpccpaaDoor.Lx.cnt (a0.data.toList.drop at_) = 0
              · rw [if_pos hc0] at NC
                rw [if_neg (by omega)] at TOK
                clear hc0
                refine (jigsawref05_number.calls (a0.size + 9) a0 at_ 0 0 0 _ NC.out).mono ?_
                rintro e w3 ⟨rfl, hd⟩
                replace HR := Aside0.mk (HR.out.drawn hd)
                clear hd NC
                have SG := Aside0.mk (sign_val a0.data.toList at_ c HL.out)
                have MM := Aside0.mk (show (c.toNat = 40 ∨ c.toNat = 41 ∨ c.toNat = 91 ∨ c.toNat = 93 ∨ c.toNat = 123 ∨ c.toNat = 125 ∨ c.toNat = 44 ∨ c.toNat = 59 ∨ c.toNat = 58) ↔ (C = 40 ∨ C = 41 ∨ C = 91 ∨ C = 93 ∨ C = 123 ∨ C = 125 ∨ C = 44 ∨ C = 59 ∨ C = 58) from by have := HC.out; omega)
                simp only [MM.out] at SG
                clear MM n32 n09 n10 n13 n37
                go_upto_region 23 with fail
                go_cut [131] (fun s131 wx => w3 = wx ∧ s131 = .bool (decide (C = 40 ∨ C = 41 ∨ C = 91 ∨ C = 93 ∨ C = 123 ∨ C = 125 ∨ C = 44 ∨ C = 59 ∨ C = 58)))
                case first =>
                  refine reg23 C _ _ ?_
                  intro t98 t99 t100 t101 t102 t103 t104 t105 t106 t107 t108 t109 t110 t111 t112 t113 t114 t115 t116 t117 t118 t119 t120 t121 t122 t123 t124 t125 t126 t127 t128 t129 t130
                  go_wp2_with fail
                  go_meet
                  exact ⟨rfl, rfl⟩
                case rest =>
                  obtain ⟨rfl, rfl⟩ := hcut
                  by_cases hm : C = 40 ∨ C = 41 ∨ C = 91 ∨ C = 93 ∨ C = 123 ∨ C = 125 ∨ C = 44 ∨ C = 59 ∨ C = 58
                  · rw [decide_eq_true hm]
                    rw [if_neg (by have := HC.out; omega), if_pos hm] at SG
                    have TK := Aside0.mk TOK.out
                    rw [SG.out, if_pos (by omega)] at TK
                    have n46 : (C == 46) = false := beq_eq_false_iff_ne.2 (by omega)
                    have hnI : (at_ : Int) + 1 ≤ (a0.size : Int) := by omega
                    have i1 : ((at_ : Int) + 1).toNat = at_ + 1 := by omega
                    clear TOK SG HC hm
                    go_wp2_with (first | ((with_reducible refine gate_builtin (b := .append) (xs := #[.tmp 151, .tmp 160]) rfl ?_); at_builtin; refine Kd.R_append k43 (w0 := w) w.heap.size rfl (.tmp 151) (.tmp 160) 26 43 (.agg #[(.int .i64 0), (.string ⟨#[]⟩), (.int .i64 0), (.int .i64 0)]) 40 rfl Tryd.underlying26 info43 rfl (by decide) (by omega) u5 (xs.map toS43) (⟨3, a0.extract at_ (at_ + 1), 0, (at_ : Int)⟩ : S43) [.int .i64 3, .string (a0.extract at_ (at_ + 1)), .int .i64 0, .int .i64 (at_ : Int)] (fun _ => True) (fun _ => False) rfl (by first | rfl | (go_simp; done) | (go_simp; rfl)) (k43_mkM _ _ _ (⟨3, a0.extract at_ (at_ + 1), 0, (at_ : Int)⟩ : S43)) (fun _ hk => hk.elim) (fun _ _ => trivial) (by (with_reducible repeat (first | apply Kd.R_alloc | apply Kd.R_drewN | apply Kd.R_drew)); exact HR.out.row) (by repeat (first | (with_reducible first | exact HR.out.bel | apply below_alloc | apply pw_below_drewN | apply below_drew1) | exact HR.out.bel)) (below_size (by repeat (first | (with_reducible first | exact HR.out.bel | apply below_alloc | apply pw_below_drewN | apply below_drew1) | exact HR.out.bel))) (by have h1 := HR.out.len; have h2 := SZ.out; rw [List.length_map]; omega) ?_; intro v2 w22 ho hb hg hat; have HO := Aside0.mk ho; have HB2 := Aside0.mk hb; clear ho hb hg hat))
                    go_roundg (gk - 1)
                    case measure => omega
                    case rel => exact ⟨at_ + 1, _, by go_num, by omega, Aside0.mk (HR.out.token HL.out NB.out NH.out TK.out HO.out HB2.out)⟩
                  · rw [decide_eq_false hm]
                    by_cases h46 : C = 46
                    · rcases Nat.lt_or_ge (at_ + 1) a0.size with hx3 | hx3
                      · have hx5 : (at_ : Int) + 1 < (a0.size : Int) := by omega
                        have i2 : ((at_ : Int) + 1).toNat = at_ + 1 := by omega
                        have hx6 := Aside0.mk (show a0.data.toList[at_ + 1]? = some a0[at_ + 1] from List.getElem?_eq_getElem (by rw [sz_len]; exact hx3))
                        generalize hcd : a0[at_ + 1] = d at hx6
                        by_cases hd : d.toNat = 46
                        · rw [if_pos ⟨by have := HC.out; omega, by rw [hx6.out]; congr 1; exact UInt8.toNat_inj.1 hd⟩] at SG
                          have TK := Aside0.mk TOK.out
                          rw [SG.out, if_pos (by omega)] at TK
                          have e1 : ((d.toNat : Int) == 46) = true := beq_iff_eq.2 (by omega)
                          have hnI : (at_ : Int) + 2 ≤ (a0.size : Int) := by omega
                          have i1 : ((at_ : Int) + 2).toNat = at_ + 2 := by omega
                          clear SG hd HC TOK hm
                          subst h46
                          go_wp2_with (first | ((with_reducible refine gate_builtin (b := .append) (xs := #[.tmp 151, .tmp 160]) rfl ?_); at_builtin; refine Kd.R_append k43 (w0 := w) w.heap.size rfl (.tmp 151) (.tmp 160) 26 43 (.agg #[(.int .i64 0), (.string ⟨#[]⟩), (.int .i64 0), (.int .i64 0)]) 40 rfl Tryd.underlying26 info43 rfl (by decide) (by omega) u5 (xs.map toS43) (⟨3, a0.extract at_ (at_ + 2), 0, (at_ : Int)⟩ : S43) [.int .i64 3, .string (a0.extract at_ (at_ + 2)), .int .i64 0, .int .i64 (at_ : Int)] (fun _ => True) (fun _ => False) rfl (by first | rfl | (go_simp; done) | (go_simp; rfl)) (k43_mkM _ _ _ (⟨3, a0.extract at_ (at_ + 2), 0, (at_ : Int)⟩ : S43)) (fun _ hk => hk.elim) (fun _ _ => trivial) (by (with_reducible repeat (first | apply Kd.R_alloc | apply Kd.R_drewN | apply Kd.R_drew)); exact HR.out.row) (by repeat (first | (with_reducible first | exact HR.out.bel | apply below_alloc | apply pw_below_drewN | apply below_drew1) | exact HR.out.bel)) (below_size (by repeat (first | (with_reducible first | exact HR.out.bel | apply below_alloc | apply pw_below_drewN | apply below_drew1) | exact HR.out.bel))) (by have h1 := HR.out.len; have h2 := SZ.out; rw [List.length_map]; omega) ?_; intro v2 w22 ho hb hg hat; have HO := Aside0.mk ho; have HB2 := Aside0.mk hb; clear ho hb hg hat))
                          go_roundg (gk - 2)
                          case measure => omega
                          case rel => exact ⟨at_ + 2, _, by go_num, by omega, Aside0.mk (HR.out.token HL.out NB.out NH.out TK.out HO.out HB2.out)⟩
                        · rw [if_neg (by rintro ⟨_, h2⟩; rw [hx6.out] at h2; cases h2; exact hd rfl), if_neg hm] at SG
                          have e1 : ((d.toNat : Int) == 46) = false := beq_eq_false_iff_ne.2 (by omega)
                          have TK := Aside0.mk TOK.out
                          rw [SG.out, if_neg (by omega)] at TK
                          have hf : Aside0 ((r1, r2, r3) = (([] : List S43), (at_ : Int), (6 : Int))) := Aside0.mk (by
                            rw [← FIN.out, HR.out.fin, Lg_bad _ _ c HL.out NB.out NH.out TK.out]
                            rfl)
                          obtain ⟨rfl, hf2⟩ := Prod.mk.inj hf.out
                          obtain ⟨rfl, rfl⟩ := Prod.mk.inj hf2
                          clear hf hf2 FIN TK TOK SG HC
                          clear hd hm
                          subst h46
                          go_wp2_with fail
                          go_ret3
                          exact ⟨_, rfl, Kd.R_nil _ _ _ _ _, HR.out.bel⟩
                      · have hx5 : ¬ (at_ : Int) + 1 < (a0.size : Int) := by omega
                        rw [if_neg (by rintro ⟨_, h2⟩; rw [List.getElem?_eq_none (by rw [sz_len]; exact hx3)] at h2; cases h2), if_neg hm] at SG
                        have TK := Aside0.mk TOK.out
                        rw [SG.out, if_neg (by omega)] at TK
                        have hf : Aside0 ((r1, r2, r3) = (([] : List S43), (at_ : Int), (6 : Int))) := Aside0.mk (by
                          rw [← FIN.out, HR.out.fin, Lg_bad _ _ c HL.out NB.out NH.out TK.out]
                          rfl)
                        obtain ⟨rfl, hf2⟩ := Prod.mk.inj hf.out
                        obtain ⟨rfl, rfl⟩ := Prod.mk.inj hf2
                        clear hf hf2 FIN TK TOK SG HC
                        clear hm
                        subst h46
                        go_wp2_with fail
                        go_ret3
                        exact ⟨_, rfl, Kd.R_nil _ _ _ _ _, HR.out.bel⟩
                    · rw [if_neg (by rintro ⟨h1, _⟩; have := HC.out; omega), if_neg hm] at SG
                      have n46 : (C == 46) = false := beq_eq_false_iff_ne.2 h46
                      have TK := Aside0.mk TOK.out
                      rw [SG.out, if_neg (by omega)] at TK
                      have hf : Aside0 ((r1, r2, r3) = (([] : List S43), (at_ : Int), (6 : Int))) := Aside0.mk (by
                        rw [← FIN.out, HR.out.fin, Lg_bad _ _ c HL.out NB.out NH.out TK.out]
                        rfl)
                      obtain ⟨rfl, hf2⟩ := Prod.mk.inj hf.out
                      obtain ⟨rfl, rfl⟩ := Prod.mk.inj hf2
                      clear hf hf2 FIN TK TOK SG HC
                      clear hm h46
                      go_wp2_with fail
                      go_ret3
                      exact ⟨_, rfl, Kd.R_nil _ _ _ _ _, HR.out.bel⟩

              · rw [if_neg hc0] at NC
                rw [if_pos (by omega)] at TOK
                by_cases hbad : Go.Proofs.YtdemfbfdhpccpaaDoor.Lx.bad (a0.data.toList.drop at_) = true
                · rw [if_pos hbad] at NC TOK
                  have TK := Aside0.mk TOK.out
                  clear TOK hbad hc0
                  refine (jigsawref05_number.calls (a0.size + 9) a0 at_ 0 0 15 _ NC.out).mono ?_
                  rintro e w3 ⟨rfl, hd⟩
                  replace HR := Aside0.mk (HR.out.drawn hd)
                  have hf : Aside0 ((r1, r2, r3) = (([] : List S43), (at_ : Int), (15 : Int))) := Aside0.mk (by
                    rw [← FIN.out, HR.out.fin, Lg_bad _ _ c HL.out NB.out NH.out TK.out]
                    rfl)
                  obtain ⟨rfl, hf2⟩ := Prod.mk.inj hf.out
                  obtain ⟨rfl, rfl⟩ := Prod.mk.inj hf2
                  clear hf hf2 FIN TK
                  clear hd NC n32 n09 n10 n13 n37 HC
                  go_wp2_with fail
                  go_ret3
                  exact ⟨_, rfl, Kd.R_nil _ _ _ _ _, HR.out.bel⟩
                · rw [if_neg hbad] at NC TOK
                  have TK := Aside0.mk TOK.out
                  have hnl0 := Aside0.mk (Go.Proofs.YtdemfbfdhpccpaaDoor.Lx.nlen_le (a0.data.toList.drop at_))
                  have hnl1 : 0 < Go.Proofs.YtdemfbfdhpccpaaDoor.Lx.nlen (a0.data.toList.drop at_) := by unfold Go.Proofs.YtdemfbfdhpccpaaDoor.Lx.nlen; omega
                  generalize Go.Proofs.YtdemfbfdhpccpaaDoor.Lx.nlen (a0.data.toList.drop at_) = n at *
                  generalize Go.Proofs.YtdemfbfdhpccpaaDoor.Lx.num (a0.data.toList.drop at_) = nv at *
                  refine (jigsawref05_number.calls (a0.size + 9) a0 at_ (n : Int) nv 0 _ NC.out).mono ?_
                  rintro e w3 ⟨rfl, hd⟩
                  replace HR := Aside0.mk (HR.out.drawn hd)
                  have hnl : at_ + n ≤ a0.size := by have := hnl0.out; rw [List.length_drop, sz_len] at this; omega
                  have hnI : (at_ : Int) + (n : Int) ≤ (a0.size : Int) := by omega
                  have hn0 : (0 : Int) < (n : Int) := by omega
                  have i1 : ((at_ : Int) + (n : Int)).toNat = at_ + n := by omega
                  clear hd NC n32 n09 n10 n13 n37 HC TOK hbad hc0 hnl0
                  go_wp2_with (first | ((with_reducible refine gate_builtin (b := .append) (xs := #[.tmp 83, .tmp 93]) rfl ?_); at_builtin; refine Kd.R_append k43 (w0 := w) w.heap.size rfl (.tmp 83) (.tmp 93) 26 43 (.agg #[(.int .i64 0), (.string ⟨#[]⟩), (.int .i64 0), (.int .i64 0)]) 40 rfl Tryd.underlying26 info43 rfl (by decide) (by omega) u5 (xs.map toS43) (⟨2, a0.extract at_ (at_ + n), nv, (at_ : Int)⟩ : S43) [.int .i64 2, .string (a0.extract at_ (at_ + n)), .int .i64 nv, .int .i64 (at_ : Int)] (fun _ => True) (fun _ => False) rfl (by first | rfl | (go_simp; done) | (go_simp; rfl)) (k43_mkM _ _ _ (⟨2, a0.extract at_ (at_ + n), nv, (at_ : Int)⟩ : S43)) (fun _ hk => hk.elim) (fun _ _ => trivial) (by (with_reducible repeat (first | apply Kd.R_alloc | apply Kd.R_drewN | apply Kd.R_drew)); exact HR.out.row) (by repeat (first | (with_reducible first | exact HR.out.bel | apply below_alloc | apply pw_below_drewN | apply below_drew1) | exact HR.out.bel)) (below_size (by repeat (first | (with_reducible first | exact HR.out.bel | apply below_alloc | apply pw_below_drewN | apply below_drew1) | exact HR.out.bel))) (by have h1 := HR.out.len; have h2 := SZ.out; rw [List.length_map]; omega) ?_; intro v2 w22 ho hb hg hat; have HO := Aside0.mk ho; have HB2 := Aside0.mk hb; clear ho hb hg hat))
                  go_roundg (gk - n)
                  case measure => omega
                  case rel => exact ⟨at_ + n, _, by go_num, by omega, Aside0.mk (HR.out.token HL.out NB.out NH.out TK.out HO.out HB2.out)⟩

      · have hli : ¬ (at_ : Int) < (a0.size : Int) := by omega
        have hf : Aside0 ((r1, r2, r3) = (xs.map toS43, (0 : Int), (0 : Int))) := Aside0.mk (by
          rw [← FIN.out, HR.out.fin, Lg_end _ _ (by rw [sz_len]; omega)]
          simp [Lpre, refRes])
        obtain ⟨rfl, hf2⟩ := Prod.mk.inj hf.out
        obtain ⟨rfl, rfl⟩ := Prod.mk.inj hf2
        clear hf hf2 FIN
        go_wp2_with fail
        go_ret3
        exact ⟨_, rfl, HR.out.row, HR.out.bel⟩


/-! ### lex_Name: function 12 -/
def lex_Name.f (a0 : ByteArray) : Option (Bool) := if a0.toList = ([] : List UInt8) then (some false) else (if (a0.size : Int) ≤ 32 then (if 0 < (a0.size : Int) then ((lex_letter.f (wrap32 (bt a0 0))).bind fun t152 => (if t152 = true then ((lex_run_inner.f a0).bind fun t153 => (some (t153 == (a0.size : Int)))) else (some false))) else (none)) else (some false))
set_option maxHeartbeats 8000000 in
set_option maxRecDepth 100000 in
theorem lex_Name.calls (a0 : ByteArray) (r : Bool) (w : World) (h : lex_Name.f a0 = some r) :
    Calls Tryd.prog 12 #[.string a0] w fun e w' => e = .returned (.bool r) ∧ Below w.heap.size w w' := by
  have HB := Aside0.mk (Below.refl w.heap.size w)
  have H : (if a0.toList = ([] : List UInt8) then (some false) else (if (a0.size : Int) ≤ 32 then (if 0 < (a0.size : Int) then ((lex_letter.f (wrap32 (bt a0 0))).bind fun t152 => (if t152 = true then ((lex_run_inner.f a0).bind fun t153 => (some (t153 == (a0.size : Int)))) else (some false))) else (none)) else (some false))) = some r := h
  clear h
  by_cases c2 : a0.toList = ([] : List UInt8)
  · rw [if_pos c2] at H
    have c2b0 : (a0.toList == ([] : List UInt8)) = true := beq_iff_eq.mpr c2
    have c2b1 : (a0.toList != ([] : List UInt8)) = false := bne_eq_false_iff_eq.mpr c2
    clear c2
    obtain rfl := Option.some.inj H
    go_enter Tryd.func12, Tryd.ntmps12
    go_wp2
    go_ret
    exact ⟨by first | rfl | (simp [errW_none, errW_some] <;> rfl) | (simp [*, errW_none, errW_some] <;> rfl), by repeat (first | (with_reducible first | exact HB.out | apply below_alloc | apply pw_below_drewN | apply below_drew1) | exact HB.out)⟩
  · rw [if_neg c2] at H
    have c2b0 : (a0.toList == ([] : List UInt8)) = false := beq_eq_false_iff_ne.mpr c2
    have c2b1 : (a0.toList != ([] : List UInt8)) = true := bne_iff_ne.mpr c2
    by_cases c3 : (a0.size : Int) ≤ 32
    · rw [if_pos c3] at H
      have c3b0 : decide ((a0.size : Int) ≤ 32) = true := decide_eq_true c3
      have c3b1 : decide (a0.size ≤ 32) = true := decide_eq_true (by omega)
      clear c3
      by_cases c4 : 0 < (a0.size : Int)
      · rw [if_pos c4] at H
        have c4b0 : decide (0 < (a0.size : Int)) = true := decide_eq_true c4
        have c4b1 : decide (0 < a0.size) = true := decide_eq_true (by omega)
        clear c4
        replace H := Option.bind_eq_some_iff.mp H
        obtain ⟨t152, A60, H⟩ := H
        replace H : (if t152 = true then ((lex_run_inner.f a0).bind fun t153 => (some (t153 == (a0.size : Int)))) else (some false)) = some r := H
        have A6 := Aside0.mk A60
        clear A60
        by_cases c7 : t152 = true
        · subst c7
          have H1 : ((lex_run_inner.f a0).bind fun t153 => (some (t153 == (a0.size : Int)))) = some r := by rw [if_pos rfl] at H; exact H
          clear H
          have H := H1
          clear H1
          replace H := Option.bind_eq_some_iff.mp H
          obtain ⟨t153, A80, H⟩ := H
          replace H : (some (t153 == (a0.size : Int))) = some r := H
          have A8 := Aside0.mk A80
          clear A80
          obtain rfl := Option.some.inj H
          have p5 : 0 ≤ (0 : Int) := (by omega)
          have q5 : 0 < a0.size := (by have : (0 : Int) < (a0.size : Int) := of_decide_eq_true (by first | (with_reducible assumption) | assumption); omega)
          have hx5 : ∀ h : 0 < a0.size, ((a0[0]'h).toNat : Int) = bt a0 0 := bt_at a0 0
          clear p5
          have qi5 : (0 < (a0.size : Int)) = True := eq_true (of_decide_eq_true (by first | (with_reducible assumption) | assumption))
          replace q5 := eq_true q5
          go_enter Tryd.func12, Tryd.ntmps12
          go_wp2_with (first | (go_at_call 20; (with_reducible refine (lex_letter.calls (wrap32 (bt a0 0)) true _ A6.out).mono ?_); rintro e w' ⟨rfl, ⟨nd, rfl⟩⟩) | (go_at_call 21; (with_reducible refine (lex_run_inner.calls a0 t153 _ A8.out).mono ?_); rintro e w9 ⟨rfl, hb⟩; have n0_ := Aside0.mk (below_step (by repeat (first | (with_reducible first | exact HB.out | apply below_alloc | apply pw_below_drewN | apply below_drew1) | exact HB.out)) hb); clear HB; have HB := n0_; clear n0_; (try clear hb); (try clear hb2); (try clear hk); (try clear hi)))
          go_ret
          exact ⟨by first | rfl | (simp [errW_none, errW_some] <;> rfl) | (simp [*, errW_none, errW_some] <;> rfl), by repeat (first | (with_reducible first | exact HB.out | apply below_alloc | apply pw_below_drewN | apply below_drew1) | exact HB.out)⟩
        · replace c7 := Bool.eq_false_iff.mpr c7
          subst c7
          have H1 : (some false) = some r := by rw [if_neg (show ¬ (false = true) by decide)] at H; exact H
          clear H
          have H := H1
          clear H1
          obtain rfl := Option.some.inj H
          have p5 : 0 ≤ (0 : Int) := (by omega)
          have q5 : 0 < a0.size := (by have : (0 : Int) < (a0.size : Int) := of_decide_eq_true (by first | (with_reducible assumption) | assumption); omega)
          have hx5 : ∀ h : 0 < a0.size, ((a0[0]'h).toNat : Int) = bt a0 0 := bt_at a0 0
          clear p5
          have qi5 : (0 < (a0.size : Int)) = True := eq_true (of_decide_eq_true (by first | (with_reducible assumption) | assumption))
          replace q5 := eq_true q5
          go_enter Tryd.func12, Tryd.ntmps12
          go_wp2_with (first | (go_at_call 20; (with_reducible refine (lex_letter.calls (wrap32 (bt a0 0)) false _ A6.out).mono ?_); rintro e w' ⟨rfl, ⟨nd, rfl⟩⟩))
          go_ret
          exact ⟨by first | rfl | (simp [errW_none, errW_some] <;> rfl) | (simp [*, errW_none, errW_some] <;> rfl), by repeat (first | (with_reducible first | exact HB.out | apply below_alloc | apply pw_below_drewN | apply below_drew1) | exact HB.out)⟩
      · rw [if_neg c4] at H
        exact absurd H (by simp)
    · rw [if_neg c3] at H
      have c3b0 : decide ((a0.size : Int) ≤ 32) = false := decide_eq_false c3
      have c3b1 : decide (a0.size ≤ 32) = false := decide_eq_false (by omega)
      clear c3
      obtain rfl := Option.some.inj H
      go_enter Tryd.func12, Tryd.ntmps12
      go_wp2
      go_ret
      exact ⟨by first | rfl | (simp [errW_none, errW_some] <;> rfl) | (simp [*, errW_none, errW_some] <;> rfl), by repeat (first | (with_reducible first | exact HB.out | apply below_alloc | apply pw_below_drewN | apply below_drew1) | exact HB.out)⟩

end Go.Proofs.YtdemfbfdhpccpaaDoorX.H5l
