/- wakes of chapter 02 walked. -/
import Derived.Test.YtdbjljbkneopcaaDoorDomS
namespace Go.Proofs.YtdbjljbkneopcaaDoor
open Go.RowKit
set_option linter.unusedSimpArgs false
set_option linter.unusedVariables false

/-- A slice that has been written out. -/
theorem Sl.lit {w : World} {b e : Nat} {cs : Array Value} (h : w.heap[b]? = some (.cells cs e (0, 0))) (n : Nat) (hn : cs.size = n) (hm : n ≤ 1000) : Sl w e 1 (.slice (some ⟨b, 0, none⟩) n n) n cs.toList := by
  subst hn
  refine ⟨by simp, .inr ⟨b, 0, cs.size, cs, rfl, h, Nat.le_refl _, by unfold maxLen; omega, by omega, fun j hj => ?_⟩⟩
  simp
theorem wakes_of : Rf.of [3, 1, 3] = [1, 3] ∧ Rf.code [3, 1, 3] = 0 := by decide +kernel
theorem wakes_range : Rf.range 5 4 = 4 ∧ Rf.range (-3) 70 = 0 := by decide +kernel
/-- The numbers of a range, counted. -/
theorem Rf.range_length (low : Int) (n : Nat) : ∀ (l : List Int), l.Pairwise (· < ·) → (∀ u, u ∈ l ↔ low ≤ u ∧ u < low + n) → l.length = n := by
  intro l hl h
  have e : l = (List.range n).map fun i : Nat => low + (i : Int) := by
    refine int_ext _ _ hl ?_ fun u => ?_
    · rw [List.pairwise_map]
      exact List.pairwise_lt_range.imp (fun h => by omega)
    · rw [h, List.mem_map]
      constructor
      · intro hu
        exact ⟨(u - low).toNat, by rw [List.mem_range]; omega, by omega⟩
      · rintro ⟨i, hi, rfl⟩
        rw [List.mem_range] at hi
        omega
  rw [e, List.length_map, List.length_range]
theorem dom_has_not (d : Value) (l : List Int) (u : Int) (w : World) (h : Dm.Rep w d l) (hu : u ∉ l) : Calls Tryd.prog 20 #[d, .int .i64 u] w (Rf.Says false w) := by
  have := dom_has d l u w h
  rw [decide_eq_false hu] at this
  exact this
theorem dom_has_yes (d : Value) (l : List Int) (u : Int) (w : World) (h : Dm.Rep w d l) (hu : u ∈ l) : Calls Tryd.prog 20 #[d, .int .i64 u] w (Rf.Says true w) := by
  have := dom_has d l u w h
  rw [decide_eq_true hu] at this
  exact this
set_option maxHeartbeats 4000000 in
set_option maxRecDepth 100000 in
theorem law2_wakes (w : World) (hT : Tab w) : Calls Tryd.prog 22 #[] w (Rf.Says true w) := by
  have RT := Lib.hid hT
  have BEL := Lib.hid (Below.refl w.heap.size w)
  clear hT
  go_enter Tryd.func22, Tryd.ntmps22
  go_wp2_with fail
  refine (dom_of _ [3, 1, 3] _ (Sl.lit (heap_new w (.cells #[.int .i64 3, .int .i64 1, .int .i64 3] 3)) 3 rfl (by decide)) (RT.out.call (by repeat (first | exact Below.refl _ _ | refine below_alloc ?_ _ | refine below_drewN ?_ _ | refine Below.drew ?_)))).mono ?_
  rintro e w2 ⟨v, rfl, hrep, hb, hown⟩
  have K := below_call (w0 := w) (by repeat (first | exact Below.refl _ _ | refine below_alloc ?_ _ | refine below_drewN ?_ _ | refine Below.drew ?_)) hb
  have RT := Lib.hid (RT.out.call K)
  have BEL := Lib.hid (below_call (w0 := w) BEL.out K)
  clear hb K
  rw [wakes_of.1] at hrep
  rw [wakes_of.2]
  obtain ⟨off1, sv1, ws1, rfl, hx1⟩ := hrep
  obtain ⟨A1, c1, rfl⟩ := hx1.sl.len
  generalize hm1 : ws1.length = m1 at *
  have e1 : Dm.val off1 (.slice A1 m1 c1) [1, 3] = .agg #[.int .i64 off1, .slice A1 m1 c1, .int .i64 1, .int .i64 3, .int .i64 2] := rfl
  have RD1 : Hid (Dm.Rep w2 (.agg #[.int .i64 off1, .slice A1 m1 c1, .int .i64 1, .int .i64 3, .int .i64 2]) [1, 3]) := by
    rw [← e1, ← hm1]
    exact ⟨off1, _, ws1, rfl, by rw [hm1]; exact hx1⟩
  rw [e1]
  clear hx1 hm1 e1 hown
  have HB1 := Lib.hid (heap_new w2 (.cells #[.int .i64 off1, .slice A1 m1 c1, .int .i64 1, .int .i64 3, .int .i64 2] 25))
  go_wp2_with fail
  refine (dom_without _ [1, 3] 3 _ (RD1.out.call (by repeat (first | exact Below.refl _ _ | refine below_alloc ?_ _ | refine below_drewN ?_ _ | refine Below.drew ?_))) (RT.out.call (by repeat (first | exact Below.refl _ _ | refine below_alloc ?_ _ | refine below_drewN ?_ _ | refine Below.drew ?_))) (by decide) (by decide)).mono ?_
  rintro e w3 ⟨v, rfl, hrep, hb, hown⟩
  have HB1 := Lib.hid (heap_call (b := w2.heap.size) (o := .cells #[.int .i64 off1, .slice A1 m1 c1, .int .i64 1, .int .i64 3, .int .i64 2] 25) (by repeat (first | exact HB1.out | refine heap_alloc ?_ _ | refine heap_drewN ?_ _ | refine heap_drew ?_)) hb)
  have HB1_0 := cell_of HB1.out 0
  have HB1_1 := cell_of HB1.out 1
  have HB1_2 := cell_of HB1.out 2
  have HB1_3 := cell_of HB1.out 3
  have HB1_4 := cell_of HB1.out 4
  have K := below_call (w0 := w2) (by repeat (first | exact Below.refl _ _ | refine below_alloc ?_ _ | refine below_drewN ?_ _ | refine Below.drew ?_)) hb
  have RT := Lib.hid (RT.out.call K)
  have RD1 := Lib.hid (RD1.out.call K)
  have BEL := Lib.hid (below_call (w0 := w) BEL.out K)
  clear hb K
  rw [show (([1, 3] : List Int).filter fun u => !decide (u = 3)) = [1] from by decide +kernel] at hrep
  rw [show Dm.chg [1, 3] (([1, 3] : List Int).filter fun u => !decide (u = 3)) = 3 from by decide +kernel]
  obtain ⟨off2, sv2, ws2, rfl, hx2⟩ := hrep
  obtain ⟨A2, c2, rfl⟩ := hx2.sl.len
  generalize hm2 : ws2.length = m2 at *
  have e2 : Dm.val off2 (.slice A2 m2 c2) [1] = .agg #[.int .i64 off2, .slice A2 m2 c2, .int .i64 1, .int .i64 1, .int .i64 1] := rfl
  have RD2 : Hid (Dm.Rep w3 (.agg #[.int .i64 off2, .slice A2 m2 c2, .int .i64 1, .int .i64 1, .int .i64 1]) [1]) := by
    rw [← e2, ← hm2]
    exact ⟨off2, _, ws2, rfl, by rw [hm2]; exact hx2⟩
  rw [e2]
  clear hx2 hm2 e2 hown
  have HB2 := Lib.hid (heap_new w3 (.cells #[.int .i64 off2, .slice A2 m2 c2, .int .i64 1, .int .i64 1, .int .i64 1] 25))
  clear HB1_0 HB1_1 HB1_2 HB1_3 HB1_4
  have HB1 := Lib.hid (heap_alloc HB1.out (.cells #[.int .i64 off2, .slice A2 m2 c2, .int .i64 1, .int .i64 1, .int .i64 1] 25))
  have HB1_0 := cell_of HB1.out 0
  have HB1_1 := cell_of HB1.out 1
  have HB1_2 := cell_of HB1.out 2
  have HB1_3 := cell_of HB1.out 3
  have HB1_4 := cell_of HB1.out 4
  go_wp2_with fail
  refine (dom_range 5 4 _ (RT.out.call (by repeat (first | exact Below.refl _ _ | refine below_alloc ?_ _ | refine below_drewN ?_ _ | refine Below.drew ?_)))).mono ?_
  rintro e w4 ⟨l3, ⟨v, rfl, hrep, hb, hown⟩, hso3, hme3⟩
  clear HB1_0 HB1_1 HB1_2 HB1_3 HB1_4
  have HB1 := Lib.hid (heap_call (b := w2.heap.size) (o := .cells #[.int .i64 off1, .slice A1 m1 c1, .int .i64 1, .int .i64 3, .int .i64 2] 25) (by repeat (first | exact HB1.out | refine heap_alloc ?_ _ | refine heap_drewN ?_ _ | refine heap_drew ?_)) hb)
  have HB1_0 := cell_of HB1.out 0
  have HB1_1 := cell_of HB1.out 1
  have HB1_2 := cell_of HB1.out 2
  have HB1_3 := cell_of HB1.out 3
  have HB1_4 := cell_of HB1.out 4
  have HB2 := Lib.hid (heap_call (b := w3.heap.size) (o := .cells #[.int .i64 off2, .slice A2 m2 c2, .int .i64 1, .int .i64 1, .int .i64 1] 25) (by repeat (first | exact HB2.out | refine heap_alloc ?_ _ | refine heap_drewN ?_ _ | refine heap_drew ?_)) hb)
  have HB2_0 := cell_of HB2.out 0
  have HB2_1 := cell_of HB2.out 1
  have HB2_2 := cell_of HB2.out 2
  have HB2_3 := cell_of HB2.out 3
  have HB2_4 := cell_of HB2.out 4
  have K := below_call (w0 := w3) (by repeat (first | exact Below.refl _ _ | refine below_alloc ?_ _ | refine below_drewN ?_ _ | refine Below.drew ?_)) hb
  have RT := Lib.hid (RT.out.call K)
  have RD1 := Lib.hid (RD1.out.call K)
  have RD2 := Lib.hid (RD2.out.call K)
  have BEL := Lib.hid (below_call (w0 := w) BEL.out K)
  clear hb K
  rw [wakes_range.1] at hme3 ⊢
  obtain rfl : l3 = [] := List.eq_nil_iff_forall_not_mem.2 (fun u hu => by have := ((hme3 u).1 hu).1; omega)
  clear hso3 hme3
  obtain ⟨off3, sv3, ws3, rfl, hx3⟩ := hrep
  obtain ⟨A3, c3, rfl⟩ := hx3.sl.len
  generalize hm3 : ws3.length = m3 at *
  have e3 : Dm.val off3 (.slice A3 m3 c3) [] = .agg #[.int .i64 off3, .slice A3 m3 c3, .int .i64 0, .int .i64 0, .int .i64 0] := rfl
  have RD3 : Hid (Dm.Rep w4 (.agg #[.int .i64 off3, .slice A3 m3 c3, .int .i64 0, .int .i64 0, .int .i64 0]) []) := by
    rw [← e3, ← hm3]
    exact ⟨off3, _, ws3, rfl, by rw [hm3]; exact hx3⟩
  rw [e3]
  clear hx3 hm3 e3 hown
  have HB3 := Lib.hid (heap_new w4 (.cells #[.int .i64 off3, .slice A3 m3 c3, .int .i64 0, .int .i64 0, .int .i64 0] 25))
  clear HB1_0 HB1_1 HB1_2 HB1_3 HB1_4
  have HB1 := Lib.hid (heap_alloc HB1.out (.cells #[.int .i64 off3, .slice A3 m3 c3, .int .i64 0, .int .i64 0, .int .i64 0] 25))
  have HB1_0 := cell_of HB1.out 0
  have HB1_1 := cell_of HB1.out 1
  have HB1_2 := cell_of HB1.out 2
  have HB1_3 := cell_of HB1.out 3
  have HB1_4 := cell_of HB1.out 4
  clear HB2_0 HB2_1 HB2_2 HB2_3 HB2_4
  have HB2 := Lib.hid (heap_alloc HB2.out (.cells #[.int .i64 off3, .slice A3 m3 c3, .int .i64 0, .int .i64 0, .int .i64 0] 25))
  have HB2_0 := cell_of HB2.out 0
  have HB2_1 := cell_of HB2.out 1
  have HB2_2 := cell_of HB2.out 2
  have HB2_3 := cell_of HB2.out 3
  have HB2_4 := cell_of HB2.out 4
  go_wp2_with fail
  refine (dom_range (-3) 70 _ (RT.out.call (by repeat (first | exact Below.refl _ _ | refine below_alloc ?_ _ | refine below_drewN ?_ _ | refine Below.drew ?_)))).mono ?_
  rintro e w5 ⟨l4, ⟨v, rfl, hrep, hb, hown⟩, hso4, hme4⟩
  clear HB1_0 HB1_1 HB1_2 HB1_3 HB1_4 HB2_0 HB2_1 HB2_2 HB2_3 HB2_4
  have HB1 := Lib.hid (heap_call (b := w2.heap.size) (o := .cells #[.int .i64 off1, .slice A1 m1 c1, .int .i64 1, .int .i64 3, .int .i64 2] 25) (by repeat (first | exact HB1.out | refine heap_alloc ?_ _ | refine heap_drewN ?_ _ | refine heap_drew ?_)) hb)
  have HB1_0 := cell_of HB1.out 0
  have HB1_1 := cell_of HB1.out 1
  have HB1_2 := cell_of HB1.out 2
  have HB1_3 := cell_of HB1.out 3
  have HB1_4 := cell_of HB1.out 4
  have HB2 := Lib.hid (heap_call (b := w3.heap.size) (o := .cells #[.int .i64 off2, .slice A2 m2 c2, .int .i64 1, .int .i64 1, .int .i64 1] 25) (by repeat (first | exact HB2.out | refine heap_alloc ?_ _ | refine heap_drewN ?_ _ | refine heap_drew ?_)) hb)
  have HB2_0 := cell_of HB2.out 0
  have HB2_1 := cell_of HB2.out 1
  have HB2_2 := cell_of HB2.out 2
  have HB2_3 := cell_of HB2.out 3
  have HB2_4 := cell_of HB2.out 4
  have HB3 := Lib.hid (heap_call (b := w4.heap.size) (o := .cells #[.int .i64 off3, .slice A3 m3 c3, .int .i64 0, .int .i64 0, .int .i64 0] 25) (by repeat (first | exact HB3.out | refine heap_alloc ?_ _ | refine heap_drewN ?_ _ | refine heap_drew ?_)) hb)
  have HB3_0 := cell_of HB3.out 0
  have HB3_1 := cell_of HB3.out 1
  have HB3_2 := cell_of HB3.out 2
  have HB3_3 := cell_of HB3.out 3
  have HB3_4 := cell_of HB3.out 4
  have K := below_call (w0 := w4) (by repeat (first | exact Below.refl _ _ | refine below_alloc ?_ _ | refine below_drewN ?_ _ | refine Below.drew ?_)) hb
  have RT := Lib.hid (RT.out.call K)
  have RD1 := Lib.hid (RD1.out.call K)
  have RD2 := Lib.hid (RD2.out.call K)
  have RD3 := Lib.hid (RD3.out.call K)
  have BEL := Lib.hid (below_call (w0 := w) BEL.out K)
  clear hb K
  rw [wakes_range.2] at hme4 ⊢
  have hl4 : l4.length = 74 := Rf.range_length (-3) 74 l4 hso4 (fun u => (hme4 u).trans ⟨fun h => ⟨h.2.1, by omega⟩, fun h => ⟨rfl, h.1, by omega⟩⟩)
  have hi4 : (-3 : Int) ∈ l4 := (hme4 _).2 ⟨rfl, by decide, by decide⟩
  have hj4 : (71 : Int) ∉ l4 := fun h => absurd ((hme4 _).1 h).2.2 (by decide)
  have L4 := Lib.hid hl4
  have I4 := Lib.hid hi4
  have J4 := Lib.hid hj4
  clear hso4 hme4 hl4 hi4 hj4
  obtain ⟨off4, sv4, ws4, rfl, hx4⟩ := hrep
  obtain ⟨A4, c4, rfl⟩ := hx4.sl.len
  generalize hm4 : ws4.length = m4 at *
  obtain ⟨lo4, hlo4⟩ : ∃ x, x = l4.headD 0 := ⟨_, rfl⟩
  obtain ⟨hi4, hhi4⟩ : ∃ x, x = l4.getLastD 0 := ⟨_, rfl⟩
  have e4 : Dm.val off4 (.slice A4 m4 c4) l4 = .agg #[.int .i64 off4, .slice A4 m4 c4, .int .i64 lo4, .int .i64 hi4, .int .i64 74] := by unfold Dm.val; rw [hlo4, hhi4, L4.out]; rfl
  have RD4 : Hid (Dm.Rep w5 (.agg #[.int .i64 off4, .slice A4 m4 c4, .int .i64 lo4, .int .i64 hi4, .int .i64 74]) l4) := by
    rw [← e4, ← hm4]
    exact ⟨off4, _, ws4, rfl, by rw [hm4]; exact hx4⟩
  rw [e4]
  clear hx4 hm4 e4 hown hlo4 hhi4
  have HB4 := Lib.hid (heap_new w5 (.cells #[.int .i64 off4, .slice A4 m4 c4, .int .i64 lo4, .int .i64 hi4, .int .i64 74] 25))
  clear HB1_0 HB1_1 HB1_2 HB1_3 HB1_4
  have HB1 := Lib.hid (heap_alloc HB1.out (.cells #[.int .i64 off4, .slice A4 m4 c4, .int .i64 lo4, .int .i64 hi4, .int .i64 74] 25))
  have HB1_0 := cell_of HB1.out 0
  have HB1_1 := cell_of HB1.out 1
  have HB1_2 := cell_of HB1.out 2
  have HB1_3 := cell_of HB1.out 3
  have HB1_4 := cell_of HB1.out 4
  clear HB2_0 HB2_1 HB2_2 HB2_3 HB2_4
  have HB2 := Lib.hid (heap_alloc HB2.out (.cells #[.int .i64 off4, .slice A4 m4 c4, .int .i64 lo4, .int .i64 hi4, .int .i64 74] 25))
  have HB2_0 := cell_of HB2.out 0
  have HB2_1 := cell_of HB2.out 1
  have HB2_2 := cell_of HB2.out 2
  have HB2_3 := cell_of HB2.out 3
  have HB2_4 := cell_of HB2.out 4
  clear HB3_0 HB3_1 HB3_2 HB3_3 HB3_4
  have HB3 := Lib.hid (heap_alloc HB3.out (.cells #[.int .i64 off4, .slice A4 m4 c4, .int .i64 lo4, .int .i64 hi4, .int .i64 74] 25))
  have HB3_0 := cell_of HB3.out 0
  have HB3_1 := cell_of HB3.out 1
  have HB3_2 := cell_of HB3.out 2
  have HB3_3 := cell_of HB3.out 3
  have HB3_4 := cell_of HB3.out 4
  go_wp2_with fail
  refine (dom_size _ [1, 3] _ (RD1.out.call (by repeat (first | exact Below.refl _ _ | refine below_alloc ?_ _ | refine below_drewN ?_ _ | refine Below.drew ?_)))).mono ?_
  rintro e w6 ⟨rfl, hb⟩
  clear HB1_0 HB1_1 HB1_2 HB1_3 HB1_4 HB2_0 HB2_1 HB2_2 HB2_3 HB2_4 HB3_0 HB3_1 HB3_2 HB3_3 HB3_4
  have HB1 := Lib.hid (heap_call (b := w2.heap.size) (o := .cells #[.int .i64 off1, .slice A1 m1 c1, .int .i64 1, .int .i64 3, .int .i64 2] 25) (by repeat (first | exact HB1.out | refine heap_alloc ?_ _ | refine heap_drewN ?_ _ | refine heap_drew ?_)) hb)
  have HB1_0 := cell_of HB1.out 0
  have HB1_1 := cell_of HB1.out 1
  have HB1_2 := cell_of HB1.out 2
  have HB1_3 := cell_of HB1.out 3
  have HB1_4 := cell_of HB1.out 4
  have HB2 := Lib.hid (heap_call (b := w3.heap.size) (o := .cells #[.int .i64 off2, .slice A2 m2 c2, .int .i64 1, .int .i64 1, .int .i64 1] 25) (by repeat (first | exact HB2.out | refine heap_alloc ?_ _ | refine heap_drewN ?_ _ | refine heap_drew ?_)) hb)
  have HB2_0 := cell_of HB2.out 0
  have HB2_1 := cell_of HB2.out 1
  have HB2_2 := cell_of HB2.out 2
  have HB2_3 := cell_of HB2.out 3
  have HB2_4 := cell_of HB2.out 4
  have HB3 := Lib.hid (heap_call (b := w4.heap.size) (o := .cells #[.int .i64 off3, .slice A3 m3 c3, .int .i64 0, .int .i64 0, .int .i64 0] 25) (by repeat (first | exact HB3.out | refine heap_alloc ?_ _ | refine heap_drewN ?_ _ | refine heap_drew ?_)) hb)
  have HB3_0 := cell_of HB3.out 0
  have HB3_1 := cell_of HB3.out 1
  have HB3_2 := cell_of HB3.out 2
  have HB3_3 := cell_of HB3.out 3
  have HB3_4 := cell_of HB3.out 4
  have HB4 := Lib.hid (heap_call (b := w5.heap.size) (o := .cells #[.int .i64 off4, .slice A4 m4 c4, .int .i64 lo4, .int .i64 hi4, .int .i64 74] 25) (by repeat (first | exact HB4.out | refine heap_alloc ?_ _ | refine heap_drewN ?_ _ | refine heap_drew ?_)) hb)
  have HB4_0 := cell_of HB4.out 0
  have HB4_1 := cell_of HB4.out 1
  have HB4_2 := cell_of HB4.out 2
  have HB4_3 := cell_of HB4.out 3
  have HB4_4 := cell_of HB4.out 4
  have K := below_call (w0 := w5) (by repeat (first | exact Below.refl _ _ | refine below_alloc ?_ _ | refine below_drewN ?_ _ | refine Below.drew ?_)) hb
  have RT := Lib.hid (RT.out.call K)
  have RD1 := Lib.hid (RD1.out.call K)
  have RD2 := Lib.hid (RD2.out.call K)
  have RD3 := Lib.hid (RD3.out.call K)
  have RD4 := Lib.hid (RD4.out.call K)
  have BEL := Lib.hid (below_call (w0 := w) BEL.out K)
  clear hb K
  go_wp2_with fail
  refine (dom_list _ [1] _ (RD2.out.call (by repeat (first | exact Below.refl _ _ | refine below_alloc ?_ _ | refine below_drewN ?_ _ | refine Below.drew ?_))) (RT.out.call (by repeat (first | exact Below.refl _ _ | refine below_alloc ?_ _ | refine below_drewN ?_ _ | refine Below.drew ?_)))).mono ?_
  rintro e w7 ⟨so, rfl, hso, hb⟩
  clear HB1_0 HB1_1 HB1_2 HB1_3 HB1_4 HB2_0 HB2_1 HB2_2 HB2_3 HB2_4 HB3_0 HB3_1 HB3_2 HB3_3 HB3_4 HB4_0 HB4_1 HB4_2 HB4_3 HB4_4
  have HB1 := Lib.hid (heap_call (b := w2.heap.size) (o := .cells #[.int .i64 off1, .slice A1 m1 c1, .int .i64 1, .int .i64 3, .int .i64 2] 25) (by repeat (first | exact HB1.out | refine heap_alloc ?_ _ | refine heap_drewN ?_ _ | refine heap_drew ?_)) hb)
  have HB1_0 := cell_of HB1.out 0
  have HB1_1 := cell_of HB1.out 1
  have HB1_2 := cell_of HB1.out 2
  have HB1_3 := cell_of HB1.out 3
  have HB1_4 := cell_of HB1.out 4
  have HB2 := Lib.hid (heap_call (b := w3.heap.size) (o := .cells #[.int .i64 off2, .slice A2 m2 c2, .int .i64 1, .int .i64 1, .int .i64 1] 25) (by repeat (first | exact HB2.out | refine heap_alloc ?_ _ | refine heap_drewN ?_ _ | refine heap_drew ?_)) hb)
  have HB2_0 := cell_of HB2.out 0
  have HB2_1 := cell_of HB2.out 1
  have HB2_2 := cell_of HB2.out 2
  have HB2_3 := cell_of HB2.out 3
  have HB2_4 := cell_of HB2.out 4
  have HB3 := Lib.hid (heap_call (b := w4.heap.size) (o := .cells #[.int .i64 off3, .slice A3 m3 c3, .int .i64 0, .int .i64 0, .int .i64 0] 25) (by repeat (first | exact HB3.out | refine heap_alloc ?_ _ | refine heap_drewN ?_ _ | refine heap_drew ?_)) hb)
  have HB3_0 := cell_of HB3.out 0
  have HB3_1 := cell_of HB3.out 1
  have HB3_2 := cell_of HB3.out 2
  have HB3_3 := cell_of HB3.out 3
  have HB3_4 := cell_of HB3.out 4
  have HB4 := Lib.hid (heap_call (b := w5.heap.size) (o := .cells #[.int .i64 off4, .slice A4 m4 c4, .int .i64 lo4, .int .i64 hi4, .int .i64 74] 25) (by repeat (first | exact HB4.out | refine heap_alloc ?_ _ | refine heap_drewN ?_ _ | refine heap_drew ?_)) hb)
  have HB4_0 := cell_of HB4.out 0
  have HB4_1 := cell_of HB4.out 1
  have HB4_2 := cell_of HB4.out 2
  have HB4_3 := cell_of HB4.out 3
  have HB4_4 := cell_of HB4.out 4
  have K := below_call (w0 := w6) (by repeat (first | exact Below.refl _ _ | refine below_alloc ?_ _ | refine below_drewN ?_ _ | refine Below.drew ?_)) hb
  have RT := Lib.hid (RT.out.call K)
  have RD1 := Lib.hid (RD1.out.call K)
  have RD2 := Lib.hid (RD2.out.call K)
  have RD3 := Lib.hid (RD3.out.call K)
  have RD4 := Lib.hid (RD4.out.call K)
  have BEL := Lib.hid (below_call (w0 := w) BEL.out K)
  clear hb K
  have HSO := Lib.hid hso.sl
  clear hso
  go_wp2_with fail
  refine (go_equal so _ [1] [1] _ (HSO.out.call (by repeat (first | exact Below.refl _ _ | refine below_alloc ?_ _ | refine below_drewN ?_ _ | refine Below.drew ?_))) (Sl.lit (heap_new w7 (.cells #[.int .i64 1] 3)) 1 rfl (by decide))).mono ?_
  rintro e w8 ⟨rfl, hb⟩
  clear HB1_0 HB1_1 HB1_2 HB1_3 HB1_4 HB2_0 HB2_1 HB2_2 HB2_3 HB2_4 HB3_0 HB3_1 HB3_2 HB3_3 HB3_4 HB4_0 HB4_1 HB4_2 HB4_3 HB4_4
  have HB1 := Lib.hid (heap_call (b := w2.heap.size) (o := .cells #[.int .i64 off1, .slice A1 m1 c1, .int .i64 1, .int .i64 3, .int .i64 2] 25) (by repeat (first | exact HB1.out | refine heap_alloc ?_ _ | refine heap_drewN ?_ _ | refine heap_drew ?_)) hb)
  have HB1_0 := cell_of HB1.out 0
  have HB1_1 := cell_of HB1.out 1
  have HB1_2 := cell_of HB1.out 2
  have HB1_3 := cell_of HB1.out 3
  have HB1_4 := cell_of HB1.out 4
  have HB2 := Lib.hid (heap_call (b := w3.heap.size) (o := .cells #[.int .i64 off2, .slice A2 m2 c2, .int .i64 1, .int .i64 1, .int .i64 1] 25) (by repeat (first | exact HB2.out | refine heap_alloc ?_ _ | refine heap_drewN ?_ _ | refine heap_drew ?_)) hb)
  have HB2_0 := cell_of HB2.out 0
  have HB2_1 := cell_of HB2.out 1
  have HB2_2 := cell_of HB2.out 2
  have HB2_3 := cell_of HB2.out 3
  have HB2_4 := cell_of HB2.out 4
  have HB3 := Lib.hid (heap_call (b := w4.heap.size) (o := .cells #[.int .i64 off3, .slice A3 m3 c3, .int .i64 0, .int .i64 0, .int .i64 0] 25) (by repeat (first | exact HB3.out | refine heap_alloc ?_ _ | refine heap_drewN ?_ _ | refine heap_drew ?_)) hb)
  have HB3_0 := cell_of HB3.out 0
  have HB3_1 := cell_of HB3.out 1
  have HB3_2 := cell_of HB3.out 2
  have HB3_3 := cell_of HB3.out 3
  have HB3_4 := cell_of HB3.out 4
  have HB4 := Lib.hid (heap_call (b := w5.heap.size) (o := .cells #[.int .i64 off4, .slice A4 m4 c4, .int .i64 lo4, .int .i64 hi4, .int .i64 74] 25) (by repeat (first | exact HB4.out | refine heap_alloc ?_ _ | refine heap_drewN ?_ _ | refine heap_drew ?_)) hb)
  have HB4_0 := cell_of HB4.out 0
  have HB4_1 := cell_of HB4.out 1
  have HB4_2 := cell_of HB4.out 2
  have HB4_3 := cell_of HB4.out 3
  have HB4_4 := cell_of HB4.out 4
  have K := below_call (w0 := w7) (by repeat (first | exact Below.refl _ _ | refine below_alloc ?_ _ | refine below_drewN ?_ _ | refine Below.drew ?_)) hb
  have RT := Lib.hid (RT.out.call K)
  have RD1 := Lib.hid (RD1.out.call K)
  have RD2 := Lib.hid (RD2.out.call K)
  have RD3 := Lib.hid (RD3.out.call K)
  have RD4 := Lib.hid (RD4.out.call K)
  have BEL := Lib.hid (below_call (w0 := w) BEL.out K)
  clear hb K
  rw [show decide (([1] : List Int) = [1]) = true from rfl]
  go_wp2_with fail
  refine (dom_size _ l4 _ (RD4.out.call (by repeat (first | exact Below.refl _ _ | refine below_alloc ?_ _ | refine below_drewN ?_ _ | refine Below.drew ?_)))).mono ?_
  rintro e w9 ⟨rfl, hb⟩
  clear HB1_0 HB1_1 HB1_2 HB1_3 HB1_4 HB2_0 HB2_1 HB2_2 HB2_3 HB2_4 HB3_0 HB3_1 HB3_2 HB3_3 HB3_4 HB4_0 HB4_1 HB4_2 HB4_3 HB4_4
  have HB1 := Lib.hid (heap_call (b := w2.heap.size) (o := .cells #[.int .i64 off1, .slice A1 m1 c1, .int .i64 1, .int .i64 3, .int .i64 2] 25) (by repeat (first | exact HB1.out | refine heap_alloc ?_ _ | refine heap_drewN ?_ _ | refine heap_drew ?_)) hb)
  have HB1_0 := cell_of HB1.out 0
  have HB1_1 := cell_of HB1.out 1
  have HB1_2 := cell_of HB1.out 2
  have HB1_3 := cell_of HB1.out 3
  have HB1_4 := cell_of HB1.out 4
  have HB2 := Lib.hid (heap_call (b := w3.heap.size) (o := .cells #[.int .i64 off2, .slice A2 m2 c2, .int .i64 1, .int .i64 1, .int .i64 1] 25) (by repeat (first | exact HB2.out | refine heap_alloc ?_ _ | refine heap_drewN ?_ _ | refine heap_drew ?_)) hb)
  have HB2_0 := cell_of HB2.out 0
  have HB2_1 := cell_of HB2.out 1
  have HB2_2 := cell_of HB2.out 2
  have HB2_3 := cell_of HB2.out 3
  have HB2_4 := cell_of HB2.out 4
  have HB3 := Lib.hid (heap_call (b := w4.heap.size) (o := .cells #[.int .i64 off3, .slice A3 m3 c3, .int .i64 0, .int .i64 0, .int .i64 0] 25) (by repeat (first | exact HB3.out | refine heap_alloc ?_ _ | refine heap_drewN ?_ _ | refine heap_drew ?_)) hb)
  have HB3_0 := cell_of HB3.out 0
  have HB3_1 := cell_of HB3.out 1
  have HB3_2 := cell_of HB3.out 2
  have HB3_3 := cell_of HB3.out 3
  have HB3_4 := cell_of HB3.out 4
  have HB4 := Lib.hid (heap_call (b := w5.heap.size) (o := .cells #[.int .i64 off4, .slice A4 m4 c4, .int .i64 lo4, .int .i64 hi4, .int .i64 74] 25) (by repeat (first | exact HB4.out | refine heap_alloc ?_ _ | refine heap_drewN ?_ _ | refine heap_drew ?_)) hb)
  have HB4_0 := cell_of HB4.out 0
  have HB4_1 := cell_of HB4.out 1
  have HB4_2 := cell_of HB4.out 2
  have HB4_3 := cell_of HB4.out 3
  have HB4_4 := cell_of HB4.out 4
  have K := below_call (w0 := w8) (by repeat (first | exact Below.refl _ _ | refine below_alloc ?_ _ | refine below_drewN ?_ _ | refine Below.drew ?_)) hb
  have RT := Lib.hid (RT.out.call K)
  have RD1 := Lib.hid (RD1.out.call K)
  have RD2 := Lib.hid (RD2.out.call K)
  have RD3 := Lib.hid (RD3.out.call K)
  have RD4 := Lib.hid (RD4.out.call K)
  have BEL := Lib.hid (below_call (w0 := w) BEL.out K)
  clear hb K
  rw [L4.out]
  go_wp2_with fail
  refine (dom_has_yes _ l4 (-3) _ (RD4.out.call (by repeat (first | exact Below.refl _ _ | refine below_alloc ?_ _ | refine below_drewN ?_ _ | refine Below.drew ?_))) I4.out).mono ?_
  rintro e w10 ⟨rfl, hb⟩
  clear HB1_0 HB1_1 HB1_2 HB1_3 HB1_4 HB2_0 HB2_1 HB2_2 HB2_3 HB2_4 HB3_0 HB3_1 HB3_2 HB3_3 HB3_4 HB4_0 HB4_1 HB4_2 HB4_3 HB4_4
  have HB1 := Lib.hid (heap_call (b := w2.heap.size) (o := .cells #[.int .i64 off1, .slice A1 m1 c1, .int .i64 1, .int .i64 3, .int .i64 2] 25) (by repeat (first | exact HB1.out | refine heap_alloc ?_ _ | refine heap_drewN ?_ _ | refine heap_drew ?_)) hb)
  have HB1_0 := cell_of HB1.out 0
  have HB1_1 := cell_of HB1.out 1
  have HB1_2 := cell_of HB1.out 2
  have HB1_3 := cell_of HB1.out 3
  have HB1_4 := cell_of HB1.out 4
  have HB2 := Lib.hid (heap_call (b := w3.heap.size) (o := .cells #[.int .i64 off2, .slice A2 m2 c2, .int .i64 1, .int .i64 1, .int .i64 1] 25) (by repeat (first | exact HB2.out | refine heap_alloc ?_ _ | refine heap_drewN ?_ _ | refine heap_drew ?_)) hb)
  have HB2_0 := cell_of HB2.out 0
  have HB2_1 := cell_of HB2.out 1
  have HB2_2 := cell_of HB2.out 2
  have HB2_3 := cell_of HB2.out 3
  have HB2_4 := cell_of HB2.out 4
  have HB3 := Lib.hid (heap_call (b := w4.heap.size) (o := .cells #[.int .i64 off3, .slice A3 m3 c3, .int .i64 0, .int .i64 0, .int .i64 0] 25) (by repeat (first | exact HB3.out | refine heap_alloc ?_ _ | refine heap_drewN ?_ _ | refine heap_drew ?_)) hb)
  have HB3_0 := cell_of HB3.out 0
  have HB3_1 := cell_of HB3.out 1
  have HB3_2 := cell_of HB3.out 2
  have HB3_3 := cell_of HB3.out 3
  have HB3_4 := cell_of HB3.out 4
  have HB4 := Lib.hid (heap_call (b := w5.heap.size) (o := .cells #[.int .i64 off4, .slice A4 m4 c4, .int .i64 lo4, .int .i64 hi4, .int .i64 74] 25) (by repeat (first | exact HB4.out | refine heap_alloc ?_ _ | refine heap_drewN ?_ _ | refine heap_drew ?_)) hb)
  have HB4_0 := cell_of HB4.out 0
  have HB4_1 := cell_of HB4.out 1
  have HB4_2 := cell_of HB4.out 2
  have HB4_3 := cell_of HB4.out 3
  have HB4_4 := cell_of HB4.out 4
  have K := below_call (w0 := w9) (by repeat (first | exact Below.refl _ _ | refine below_alloc ?_ _ | refine below_drewN ?_ _ | refine Below.drew ?_)) hb
  have RT := Lib.hid (RT.out.call K)
  have RD1 := Lib.hid (RD1.out.call K)
  have RD2 := Lib.hid (RD2.out.call K)
  have RD3 := Lib.hid (RD3.out.call K)
  have RD4 := Lib.hid (RD4.out.call K)
  have BEL := Lib.hid (below_call (w0 := w) BEL.out K)
  clear hb K
  go_wp2_with fail
  refine (dom_has_not _ l4 71 _ (RD4.out.call (by repeat (first | exact Below.refl _ _ | refine below_alloc ?_ _ | refine below_drewN ?_ _ | refine Below.drew ?_))) J4.out).mono ?_
  rintro e w11 ⟨rfl, hb⟩
  clear HB1_0 HB1_1 HB1_2 HB1_3 HB1_4 HB2_0 HB2_1 HB2_2 HB2_3 HB2_4 HB3_0 HB3_1 HB3_2 HB3_3 HB3_4 HB4_0 HB4_1 HB4_2 HB4_3 HB4_4
  have HB1 := Lib.hid (heap_call (b := w2.heap.size) (o := .cells #[.int .i64 off1, .slice A1 m1 c1, .int .i64 1, .int .i64 3, .int .i64 2] 25) (by repeat (first | exact HB1.out | refine heap_alloc ?_ _ | refine heap_drewN ?_ _ | refine heap_drew ?_)) hb)
  have HB1_0 := cell_of HB1.out 0
  have HB1_1 := cell_of HB1.out 1
  have HB1_2 := cell_of HB1.out 2
  have HB1_3 := cell_of HB1.out 3
  have HB1_4 := cell_of HB1.out 4
  have HB2 := Lib.hid (heap_call (b := w3.heap.size) (o := .cells #[.int .i64 off2, .slice A2 m2 c2, .int .i64 1, .int .i64 1, .int .i64 1] 25) (by repeat (first | exact HB2.out | refine heap_alloc ?_ _ | refine heap_drewN ?_ _ | refine heap_drew ?_)) hb)
  have HB2_0 := cell_of HB2.out 0
  have HB2_1 := cell_of HB2.out 1
  have HB2_2 := cell_of HB2.out 2
  have HB2_3 := cell_of HB2.out 3
  have HB2_4 := cell_of HB2.out 4
  have HB3 := Lib.hid (heap_call (b := w4.heap.size) (o := .cells #[.int .i64 off3, .slice A3 m3 c3, .int .i64 0, .int .i64 0, .int .i64 0] 25) (by repeat (first | exact HB3.out | refine heap_alloc ?_ _ | refine heap_drewN ?_ _ | refine heap_drew ?_)) hb)
  have HB3_0 := cell_of HB3.out 0
  have HB3_1 := cell_of HB3.out 1
  have HB3_2 := cell_of HB3.out 2
  have HB3_3 := cell_of HB3.out 3
  have HB3_4 := cell_of HB3.out 4
  have HB4 := Lib.hid (heap_call (b := w5.heap.size) (o := .cells #[.int .i64 off4, .slice A4 m4 c4, .int .i64 lo4, .int .i64 hi4, .int .i64 74] 25) (by repeat (first | exact HB4.out | refine heap_alloc ?_ _ | refine heap_drewN ?_ _ | refine heap_drew ?_)) hb)
  have HB4_0 := cell_of HB4.out 0
  have HB4_1 := cell_of HB4.out 1
  have HB4_2 := cell_of HB4.out 2
  have HB4_3 := cell_of HB4.out 3
  have HB4_4 := cell_of HB4.out 4
  have K := below_call (w0 := w10) (by repeat (first | exact Below.refl _ _ | refine below_alloc ?_ _ | refine below_drewN ?_ _ | refine Below.drew ?_)) hb
  have RT := Lib.hid (RT.out.call K)
  have RD1 := Lib.hid (RD1.out.call K)
  have RD2 := Lib.hid (RD2.out.call K)
  have RD3 := Lib.hid (RD3.out.call K)
  have RD4 := Lib.hid (RD4.out.call K)
  have BEL := Lib.hid (below_call (w0 := w) BEL.out K)
  clear hb K
  go_wp2_with fail
  go_ret
  exact ⟨rfl, below_call (w0 := w) BEL.out (by repeat (first | exact Below.refl _ _ | refine below_alloc ?_ _ | refine below_drewN ?_ _ | refine Below.drew ?_))⟩
end Go.Proofs.YtdbjljbkneopcaaDoor
