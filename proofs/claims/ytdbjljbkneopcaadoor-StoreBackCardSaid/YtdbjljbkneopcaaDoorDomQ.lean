/- The contracts of Equal, Min, Max, Size, of Range whole; slices.Equal and slices.Reverse of numbers. -/
import Derived.Test.YtdbjljbkneopcaaDoorRefD
namespace Go.Proofs.YtdbjljbkneopcaaDoor
open Go.RowKit
set_option linter.unusedSimpArgs false
set_option linter.unusedVariables false

/-- A truth is told. -/
def Rf.Says (x : Bool) (w : World) (e : Ending) (w' : World) : Prop := e = .returned (.bool x) ∧ Below w.heap.size w w'
theorem go_equal (s1 s2 : Value) (l1 l2 : List Int) (w : World) (h1 : Sl w 3 1 s1 l1.length (Iv l1)) (h2 : Sl w 3 1 s2 l2.length (Iv l2)) :
    Calls Tryd.prog 49 #[s1, s2] w (Rf.Says (decide (l1 = l2)) w) := by
  obtain ⟨A1, c1, rfl⟩ := h1.len
  obtain ⟨A2, c2, rfl⟩ := h2.len
  have b1 := h1.big
  have b2 := h2.big
  by_cases e1 : l1 = []
  · subst e1
    refine (Tryd.slices_Equal_int_empty A1 A2 c1 l2.length c2 w b2).mono ?_
    rintro e w' ⟨rfl, rfl⟩
    refine ⟨ret_bool ?_, Below.refl _ _⟩
    exact decide_eq_decide.2 ⟨fun h => (List.length_eq_zero_iff.1 h).symm, fun h => by rw [← h]; rfl⟩
  by_cases e2 : l1.length = l2.length
  · obtain ⟨p1, o1, rfl, _⟩ := Iv.at h1 0 (List.length_pos_iff.2 e1)
    obtain ⟨p2, o2, rfl, _⟩ := Iv.at h2 0 (by rw [← e2]; exact List.length_pos_iff.2 e1)
    refine (Tryd.slices_Equal_int p1 o1 l1.length c1 p2 o2 l2.length c2 l1 l2 w (Nat.le_refl _) (Nat.le_refl _) b1 b2 (Iv.cell h1) (Iv.cell h2)).mono ?_
    rintro e w' ⟨rfl, q, rfl⟩
    refine ⟨ret_bool ?_, below_drewN (Below.refl _ _) _⟩
    rw [List.take_length, List.take_length]
    by_cases e : l1 = l2
    · rw [decide_eq_true e]; subst e; simp
    · rw [decide_eq_false e]; simpa using e
  · refine (Tryd.slices_Equal_int_lens A1 A2 l1.length c1 l2.length c2 w e2).mono ?_
    rintro e w' ⟨rfl, rfl⟩
    refine ⟨ret_bool ?_, Below.refl _ _⟩
    rw [decide_eq_false (fun h => e2 (by rw [h]))]
theorem dom_size (d : Value) (l : List Int) (w : World) (hd : Dm.Rep w d l) : Calls Tryd.prog 21 #[d] w (Rf.Tells l.length w) := by
  obtain ⟨off, sv, ws, rfl, hx⟩ := hd
  unfold Dm.val
  clear hx
  go_enter Tryd.func21, Tryd.ntmps21
  go_wp2_with fail
  go_ret
  exact ⟨rfl, below_alloc (Below.refl _ _) _⟩
theorem dom_min (d : Value) (l : List Int) (w : World) (hd : Dm.Rep w d l) : Calls Tryd.prog 28 #[d] w (Rf.Tells (l.headD 0) w) := by
  obtain ⟨off, sv, ws, rfl, hx⟩ := hd
  unfold Dm.val
  clear hx
  generalize l.headD 0 = lo at *
  go_enter Tryd.func28, Tryd.ntmps28
  go_wp2_with fail
  go_ret
  exact ⟨rfl, below_alloc (Below.refl _ _) _⟩
theorem dom_max (d : Value) (l : List Int) (w : World) (hd : Dm.Rep w d l) : Calls Tryd.prog 29 #[d] w (Rf.Tells (l.getLastD 0) w) := by
  obtain ⟨off, sv, ws, rfl, hx⟩ := hd
  unfold Dm.val
  clear hx
  generalize l.headD 0 = lo at *
  generalize l.getLastD 0 = hi at *
  go_enter Tryd.func29, Tryd.ntmps29
  go_wp2_with fail
  go_ret
  exact ⟨rfl, below_alloc (Below.refl _ _) _⟩

theorem Dm.chg0 (l l' : List Int) : Dm.chg l l' = 0 ↔ l'.length = l.length := by
  unfold Dm.chg
  constructor
  · intro h
    split at h
    · assumption
    · split at h
      · omega
      · split at h
        · omega
        · split at h <;> omega
  · intro h; rw [if_pos h]
theorem Dm.same_iff (l m : List Int) (hl : l.Pairwise (· < ·)) (hm : m.Pairwise (· < ·)) : (l.length = m.length ∧ Dm.chg l (l.filter fun u => decide (u ∈ m)) = 0) ↔ l = m := by
  rw [Dm.chg0]
  constructor
  · rintro ⟨h1, h2⟩
    have h3 : ∀ u ∈ l, u ∈ m := by
      have := List.length_filter_eq_length_iff.1 h2
      intro u hu
      exact of_decide_eq_true (this u hu)
    have e1 : m.filter (fun u => decide (u ∈ l)) = l := int_ext _ _ (hm.filter _) hl fun x => by
      rw [List.mem_filter, decide_eq_true_eq]
      exact ⟨fun h => h.2, fun h => ⟨h3 x h, h⟩⟩
    have e2 : (m.filter (fun u => decide (u ∈ l))).length = m.length := by rw [e1, h1]
    have h4 := List.length_filter_eq_length_iff.1 e2
    exact int_ext _ _ hl hm fun x => ⟨h3 x, fun hx => of_decide_eq_true (h4 x hx)⟩
  · rintro rfl
    refine ⟨rfl, ?_⟩
    rw [List.filter_eq_self.2 (fun u hu => decide_eq_true hu)]
set_option maxHeartbeats 1000000 in
theorem dom_equal (d e : Value) (l m : List Int) (w : World) (hd : Dm.Rep w d l) (he : Dm.Rep w e m) (hT : Tab w) :
    Calls Tryd.prog 23 #[d, e] w (Rf.Says (decide (l = m)) w) := by
  have SI := Lib.hid (Dm.same_iff l m hd.sorted he.sorted)
  have CA := Lib.hid (fun w' (hb : Below w.heap.size w w') => dom_and d e l m w' (hd.call hb) (he.call hb) (hT.call hb))
  obtain ⟨off, sv, ws, rfl, hx⟩ := hd
  obtain ⟨off2, sv2, ws2, rfl, hx2⟩ := he
  unfold Dm.val at *
  clear hx hx2 hT
  generalize hch : Dm.chg l (l.filter fun u => decide (u ∈ m)) = ch at *
  generalize l.headD 0 = lo at *
  generalize l.getLastD 0 = hi at *
  generalize hs1 : l.length = sz at *
  generalize m.headD 0 = lo2 at *
  generalize m.getLastD 0 = hi2 at *
  generalize hs2 : m.length = sz2 at *
  obtain ⟨r, hr⟩ : ∃ r, r = decide (l = m) := ⟨_, rfl⟩
  have HR := Lib.hid hr
  rw [← hr]
  have HC := Lib.hid hch
  have H1 := Lib.hid hs1
  have H2 := Lib.hid hs2
  clear hr hch hs1 hs2
  go_enter Tryd.func23, Tryd.ntmps23
  go_wp2_with fail
  refine (CA.out _ (below_alloc (below_alloc (Below.refl _ _) _) _)).mono ?_
  rintro e w2 ⟨v', rfl, hrep, hb2, hw2⟩
  have q0 := heap_call (heap_alloc (heap_new w (.cells #[.int .i64 off, sv, .int .i64 lo, .int .i64 hi, .int .i64 sz] 25)) (.cells #[.int .i64 off2, sv2, .int .i64 lo2, .int .i64 hi2, .int .i64 sz2] 25)) hb2
  have q1 := heap_call (heap_new (w.alloc (.cells #[.int .i64 off, sv, .int .i64 lo, .int .i64 hi, .int .i64 sz] 25)) (.cells #[.int .i64 off2, sv2, .int .i64 lo2, .int .i64 hi2, .int .i64 sz2] 25)) hb2
  rw [show (w.alloc (.cells #[.int .i64 off, sv, .int .i64 lo, .int .i64 hi, .int .i64 sz] 25)).heap.size = w.heap.size + 1 from by simp] at q1
  obtain ⟨off3, sv3, ws3, rfl, hx3⟩ := hrep
  obtain ⟨A3, c3, rfl⟩ := hx3.sl.len
  unfold Dm.val
  generalize (l.filter fun u => decide (u ∈ m)).headD 0 = lo3 at *
  generalize (l.filter fun u => decide (u ∈ m)).getLastD 0 = hi3 at *
  generalize (l.filter fun u => decide (u ∈ m)).length = sz3 at *
  have HB := Lib.hid (below_call (below_alloc (below_alloc (Below.refl _ w) (.cells #[.int .i64 off, sv, .int .i64 lo, .int .i64 hi, .int .i64 sz] 25)) (.cells #[.int .i64 off2, sv2, .int .i64 lo2, .int .i64 hi2, .int .i64 sz2] 25)) hb2)
  have k0 := fun o : Obj => cell_of (heap_alloc q0 o) 4
  have k1 := fun o : Obj => cell_of (heap_alloc q1 o) 4
  clear hx3 hb2 hw2 q0 q1
  go_wp2_with fail
  all_goals
    go_ret
    refine ⟨ret_bool ?_, by repeat (first | exact HB.out | refine below_alloc ?_ _)⟩
    rw [HR.out]
    try simp only [beq_eq_false_iff_ne, beq_iff_eq] at *
    first
      | rw [decide_eq_false (fun h => by have := SI.out.2 h; omega)]
      | (rw [Bool.eq_iff_iff, beq_iff_eq, decide_eq_true_iff]; exact ⟨fun h => SI.out.1 ⟨by omega, by rw [← HC.out]; exact h⟩, fun h => by rw [HC.out]; exact (SI.out.2 h).2⟩)
set_option maxHeartbeats 1000000 in
theorem dom_range_far (low high : Int) (w : World) (h : ¬ (-1000000 ≤ low ∧ low ≤ 1000000) ∨ ¬ (-1000000 ≤ high ∧ high ≤ 1000000)) : Calls Tryd.prog 26 #[.int .i64 low, .int .i64 high] w (Dm.New [] 3 w) := by
  have D1 := Lib.hid (fun w => dom_in low w)
  have D2 := Lib.hid (fun w => dom_in high w)
  by_cases h1 : -1000000 ≤ low ∧ low ≤ 1000000
  · have h2 : ¬ (-1000000 ≤ high ∧ high ≤ 1000000) := by omega
    rw [decide_eq_true h1] at D1
    rw [decide_eq_false h2] at D2
    clear h h1 h2
    go_enter Tryd.func26, Tryd.ntmps26
    go_wp2_with fail
    refine (D1.out _).mono ?_
    rintro e w1 ⟨rfl, rfl⟩
    go_wp2_with fail
    refine (D2.out _).mono ?_
    rintro e w1 ⟨rfl, rfl⟩
    go_wp2_with fail
    refine bodyPost_ret (v := .tuple #[.agg #[.int .i64 0, .slice none 0 0, .int .i64 0, .int .i64 0, .int .i64 0], .int .i64 3]) (by simp [results, Tryd.results26, go_sem]) rfl ?_
    exact Dm.new_none (by repeat (first | exact Below.refl _ _ | refine below_set ?_ (by simp) _ | refine below_alloc ?_ _))
  · rw [decide_eq_false h1] at D1
    clear h h1
    go_enter Tryd.func26, Tryd.ntmps26
    go_wp2_with fail
    refine (D1.out _).mono ?_
    rintro e w1 ⟨rfl, rfl⟩
    go_wp2_with fail
    refine bodyPost_ret (v := .tuple #[.agg #[.int .i64 0, .slice none 0 0, .int .i64 0, .int .i64 0, .int .i64 0], .int .i64 3]) (by simp [results, Tryd.results26, go_sem]) rfl ?_
    exact Dm.new_none (by repeat (first | exact Below.refl _ _ | refine below_set ?_ (by simp) _ | refine below_alloc ?_ _))
set_option maxHeartbeats 1000000 in
theorem dom_range_none (low high : Int) (w : World) (h1 : -1000000 ≤ low) (h2 : low ≤ 1000000) (h3 : -1000000 ≤ high) (h4 : high ≤ 1000000) (h5 : high < low) : Calls Tryd.prog 26 #[.int .i64 low, .int .i64 high] w (Dm.New [] 4 w) := by
  have D1 := Lib.hid (fun w => dom_in low w)
  have D2 := Lib.hid (fun w => dom_in high w)
  rw [decide_eq_true ⟨h1, h2⟩] at D1
  rw [decide_eq_true ⟨h3, h4⟩] at D2
  go_enter Tryd.func26, Tryd.ntmps26
  go_wp2_with fail
  refine (D1.out _).mono ?_
  rintro e w1 ⟨rfl, rfl⟩
  go_wp2_with fail
  refine (D2.out _).mono ?_
  rintro e w1 ⟨rfl, rfl⟩
  go_wp2_with fail
  refine bodyPost_ret (v := .tuple #[.agg #[.int .i64 0, .slice none 0 0, .int .i64 0, .int .i64 0, .int .i64 0], .int .i64 4]) (by simp [results, Tryd.results26, go_sem]) rfl ?_
  exact Dm.new_none (by repeat (first | exact Below.refl _ _ | refine below_set ?_ (by simp) _ | refine below_alloc ?_ _))
set_option maxHeartbeats 1000000 in
theorem dom_range_wide (low high : Int) (w : World) (h1 : -1000000 ≤ low) (h2 : low ≤ 1000000) (h3 : -1000000 ≤ high) (h4 : high ≤ 1000000) (h5 : low ≤ high) (h6 : 65536 ≤ high - low) : Calls Tryd.prog 26 #[.int .i64 low, .int .i64 high] w (Dm.New [] 5 w) := by
  have D1 := Lib.hid (fun w => dom_in low w)
  have D2 := Lib.hid (fun w => dom_in high w)
  rw [decide_eq_true ⟨h1, h2⟩] at D1
  rw [decide_eq_true ⟨h3, h4⟩] at D2
  go_enter Tryd.func26, Tryd.ntmps26
  go_wp2_with fail
  refine (D1.out _).mono ?_
  rintro e w1 ⟨rfl, rfl⟩
  go_wp2_with fail
  refine (D2.out _).mono ?_
  rintro e w1 ⟨rfl, rfl⟩
  go_wp2_with fail
  refine bodyPost_ret (v := .tuple #[.agg #[.int .i64 0, .slice none 0 0, .int .i64 0, .int .i64 0, .int .i64 0], .int .i64 5]) (by simp [results, Tryd.results26, go_sem]) rfl ?_
  exact Dm.new_none (by repeat (first | exact Below.refl _ _ | refine below_set ?_ (by simp) _ | refine below_alloc ?_ _))
/-- What Range gives: its error, and the numbers from the one to the other. -/
def Dm.Rn (low high : Int) (w : World) (e : Ending) (w' : World) : Prop :=
  ∃ l, Dm.New l (Rf.range low high) w e w' ∧ l.Pairwise (· < ·) ∧ ∀ u, u ∈ l ↔ Rf.range low high = 0 ∧ low ≤ u ∧ u ≤ high
theorem dom_range (low high : Int) (w : World) (hT : Tab w) : Calls Tryd.prog 26 #[.int .i64 low, .int .i64 high] w (Dm.Rn low high w) := by
  have hnil : ∀ c, Rf.range low high = c → c ≠ 0 → ∀ e w', Dm.New [] c w e w' → Dm.Rn low high w e w' := fun c hc h0 e w' h => ⟨[], by rw [hc]; exact h, List.Pairwise.nil, fun u => ⟨fun h => (by cases h), fun h => absurd (hc.symm.trans h.1) h0⟩⟩
  by_cases h1 : (low < -1000000 ∨ 1000000 < low) ∨ (high < -1000000 ∨ 1000000 < high)
  · exact (dom_range_far low high w (by omega)).mono (hnil 3 (by unfold Rf.range; rw [if_pos h1]) (by decide))
  · by_cases h2 : high < low
    · exact (dom_range_none low high w (by omega) (by omega) (by omega) (by omega) h2).mono (hnil 4 (by unfold Rf.range; rw [if_neg h1, if_pos h2]) (by decide))
    · by_cases h3 : 65536 ≤ high - low
      · exact (dom_range_wide low high w (by omega) (by omega) (by omega) (by omega) (by omega) h3).mono (hnil 5 (by unfold Rf.range; rw [if_neg h1, if_neg h2, if_pos h3]) (by decide))
      · have e : Rf.range low high = 0 := by unfold Rf.range; rw [if_neg h1, if_neg h2, if_neg h3]
        refine (dom_range_ok low high w (by omega) (by omega) (by omega) (by omega) hT).mono ?_
        rintro e' w' ⟨v, l, rfl, hr, hm, hb, hn⟩
        exact ⟨l, ⟨v, by rw [e], hr, hb, hn⟩, hr.sorted, fun u => (hm u).trans ⟨fun h => ⟨e, h⟩, fun h => h.2⟩⟩
end Go.Proofs.YtdbjljbkneopcaaDoor
