/- The contracts of Equal, Min, Max, Size, of Range whole; slices.Equal and slices.Reverse of numbers. -/
import Derived.Test.YtgckohmppefibaaDoorRefE
namespace Go.Proofs.YtgckohmppefibaaDoor
open Go.RowKit
attribute [local go_sem high] go_max_int go_min_int
set_option linter.unusedSimpArgs false
set_option linter.unusedVariables false

/-- A truth is told. -/
def Rf.Says (x : Bool) (w : World) (e : Ending) (w' : World) : Prop := e = .returned (.bool x) ∧ Below w.heap.size w w'
theorem Dm.chg0 (l l' : List Int) : Dm.chg l l' = 0 ↔ l'.length = l.length := by
  unfold Dm.chg
  constructor
  · intro h
    split at h
    · assumption
    · split at h
      · omega
      · split at h
        · omega
        · split at h <;> omega
  · intro h; rw [if_pos h]
theorem Dm.same_iff (l m : List Int) (hl : l.Pairwise (· < ·)) (hm : m.Pairwise (· < ·)) : (l.length = m.length ∧ Dm.chg l (l.filter fun u => decide (u ∈ m)) = 0) ↔ l = m := by
  rw [Dm.chg0]
  constructor
  · rintro ⟨h1, h2⟩
    have h3 : ∀ u ∈ l, u ∈ m := by
      have := List.length_filter_eq_length_iff.1 h2
      intro u hu
      exact of_decide_eq_true (this u hu)
    have e1 : m.filter (fun u => decide (u ∈ l)) = l := int_ext _ _ (hm.filter _) hl fun x => by
      rw [List.mem_filter, decide_eq_true_eq]
      exact ⟨fun h => h.2, fun h => ⟨h3 x h, h⟩⟩
    have e2 : (m.filter (fun u => decide (u ∈ l))).length = m.length := by rw [e1, h1]
    have h4 := List.length_filter_eq_length_iff.1 e2
    exact int_ext _ _ hl hm fun x => ⟨h3 x, fun hx => of_decide_eq_true (h4 x hx)⟩
  · rintro rfl
    refine ⟨rfl, ?_⟩
    rw [List.filter_eq_self.2 (fun u hu => decide_eq_true hu)]
set_option maxHeartbeats 1000000 in
theorem dom_equal (d e : Value) (l m : List Int) (w : World) (hd : Dm.Rep w d l) (he : Dm.Rep w e m) (hT : Tab w) :
    Calls Tryd.prog 31 #[d, e] w (Rf.Says (decide (l = m)) w) := by
  have SI := Lib.hid (Dm.same_iff l m hd.sorted he.sorted)
  have CA := Lib.hid (fun w' (hb : Below w.heap.size w w') => dom_and d e l m w' (hd.call hb) (he.call hb) (hT.call hb))
  obtain ⟨off, sv, ws, rfl, hx⟩ := hd
  obtain ⟨off2, sv2, ws2, rfl, hx2⟩ := he
  unfold Dm.val at *
  clear hx hx2 hT
  generalize hch : Dm.chg l (l.filter fun u => decide (u ∈ m)) = ch at *
  generalize l.headD 0 = lo at *
  generalize l.getLastD 0 = hi at *
  generalize hs1 : l.length = sz at *
  generalize m.headD 0 = lo2 at *
  generalize m.getLastD 0 = hi2 at *
  generalize hs2 : m.length = sz2 at *
  obtain ⟨r, hr⟩ : ∃ r, r = decide (l = m) := ⟨_, rfl⟩
  have HR := Lib.hid hr
  rw [← hr]
  have HC := Lib.hid hch
  have H1 := Lib.hid hs1
  have H2 := Lib.hid hs2
  clear hr hch hs1 hs2
  go_enter Tryd.func31, Tryd.ntmps31
  go_wp2_with fail
  refine (CA.out _ (below_alloc (below_alloc (Below.refl _ _) _) _)).mono ?_
  rintro e w2 ⟨v', rfl, hrep, hb2, hw2⟩
  have q0 := heap_call (heap_alloc (heap_new w (.cells #[.int .i64 off, sv, .int .i64 lo, .int .i64 hi, .int .i64 sz] 62)) (.cells #[.int .i64 off2, sv2, .int .i64 lo2, .int .i64 hi2, .int .i64 sz2] 62)) hb2
  have q1 := heap_call (heap_new (w.alloc (.cells #[.int .i64 off, sv, .int .i64 lo, .int .i64 hi, .int .i64 sz] 62)) (.cells #[.int .i64 off2, sv2, .int .i64 lo2, .int .i64 hi2, .int .i64 sz2] 62)) hb2
  rw [show (w.alloc (.cells #[.int .i64 off, sv, .int .i64 lo, .int .i64 hi, .int .i64 sz] 62)).heap.size = w.heap.size + 1 from by simp] at q1
  obtain ⟨off3, sv3, ws3, rfl, hx3⟩ := hrep
  obtain ⟨A3, c3, rfl⟩ := hx3.sl.len
  unfold Dm.val
  generalize (l.filter fun u => decide (u ∈ m)).headD 0 = lo3 at *
  generalize (l.filter fun u => decide (u ∈ m)).getLastD 0 = hi3 at *
  generalize (l.filter fun u => decide (u ∈ m)).length = sz3 at *
  have HB := Lib.hid (below_call (below_alloc (below_alloc (Below.refl _ w) (.cells #[.int .i64 off, sv, .int .i64 lo, .int .i64 hi, .int .i64 sz] 62)) (.cells #[.int .i64 off2, sv2, .int .i64 lo2, .int .i64 hi2, .int .i64 sz2] 62)) hb2)
  have k0 := fun o : Obj => cell_of (heap_alloc q0 o) 4
  have k1 := fun o : Obj => cell_of (heap_alloc q1 o) 4
  clear hx3 hb2 hw2 q0 q1
  go_wp2_with fail
  all_goals
    go_ret
    refine ⟨ret_bool ?_, by repeat (first | exact HB.out | refine below_alloc ?_ _)⟩
    rw [HR.out]
    try simp only [beq_eq_false_iff_ne, beq_iff_eq] at *
    first
      | rw [decide_eq_false (fun h => by have := SI.out.2 h; omega)]
      | (rw [Bool.eq_iff_iff, beq_iff_eq, decide_eq_true_iff]; exact ⟨fun h => SI.out.1 ⟨by omega, by rw [← HC.out]; exact h⟩, fun h => by rw [HC.out]; exact (SI.out.2 h).2⟩)
end Go.Proofs.YtgckohmppefibaaDoor
