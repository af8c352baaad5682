/- DomSets walked: the way 2 of three. -/
import Derived.Test.YtdbjljbkneopcaaDoorSetsB
namespace Go.Proofs.YtdbjljbkneopcaaDoor
open Go.RowKit
set_option linter.unusedSimpArgs false
set_option linter.unusedVariables false

set_option maxHeartbeats 8000000 in
set_option maxRecDepth 100000 in
theorem law2_sets2 (sx sy : Value) (x y : List Int) (w : World) (hx : Rd w sx x) (hy : Rd w sy y) (hT : Tab w) (hway : ((Rf.of (Rf.near x)).filter fun u => !decide (u ∈ Rf.of (Rf.near y))).length = 0 ∧ ((Rf.of (Rf.near y)).filter fun u => !decide (u ∈ Rf.of (Rf.near x))).length ≠ 0) :
    Calls Tryd.prog 3 #[sx, sy] w (Rf.Says true w) := by
  have RT := Lib.hid hT
  have RX := Lib.hid hx
  have RY := Lib.hid hy
  have BEL := Lib.hid (Below.refl w.heap.size w)
  obtain ⟨px, hpx⟩ : ∃ p, p = Rf.near x := ⟨_, rfl⟩
  obtain ⟨py, hpy⟩ : ∃ p, p = Rf.near y := ⟨_, rfl⟩
  have PX := Lib.hid hpx
  have PY := Lib.hid hpy
  obtain ⟨d, hd⟩ : ∃ p, p = Rf.of px := ⟨_, rfl⟩
  obtain ⟨e, he⟩ : ∃ p, p = Rf.of py := ⟨_, rfl⟩
  have hds : d.Pairwise (· < ·) := by rw [hd]; exact Rf.of_sorted px
  have hes : e.Pairwise (· < ·) := by rw [he]; exact Rf.of_sorted py
  obtain ⟨a, ha⟩ : ∃ p, p = d.filter fun u => decide (u ∈ e) := ⟨_, rfl⟩
  obtain ⟨b, hb⟩ : ∃ p, p = d.filter fun u => !decide (u ∈ e) := ⟨_, rfl⟩
  obtain ⟨f, hf⟩ : ∃ p, p = e.filter fun u => !decide (u ∈ d) := ⟨_, rfl⟩
  have SETS := Lib.hid (Rf.sets d e a b f hds hes ha hb hf)
  have MEM : Hid (∀ u ∈ d, decide (u ∈ a) = decide (u ∈ e) ∧ decide (u ∈ b) = !decide (u ∈ e)) := fun u hu => by
    rw [ha, hb]
    constructor
    · exact decide_eq_decide.2 ⟨fun h => of_decide_eq_true (List.mem_filter.1 h).2, fun h => List.mem_filter.2 ⟨hu, decide_eq_true h⟩⟩
    · by_cases h : u ∈ e <;> simp [hu, h]
  have APART := Lib.hid (Rf.apart d e)
  rw [← ha, ← hb] at APART
  have GCH := Lib.hid (Dm.chg4 a)
  rw [← hpx, ← hpy, ← hd, ← he, ← hb, ← hf] at hway
  have HD := Lib.hid hd
  have HE := Lib.hid he
  have HA := Lib.hid ha
  have HB := Lib.hid hb
  have HF := Lib.hid hf
  obtain ⟨ch, hch⟩ : ∃ p, p = Dm.chg a [] := ⟨_, rfl⟩
  have HCH := Lib.hid hch
  rw [← hch] at GCH
  have hdl : d.length ≤ 40 := by rw [hd, hpx]; exact Nat.le_trans (Rf.of_length _) (Rf.near_length _)
  have DL := Lib.hid hdl
  obtain ⟨n1, hn1⟩ : ∃ n, n = d.length := ⟨_, rfl⟩
  have N1 := Lib.hid hn1
  clear hn1
  obtain ⟨n2, hn2⟩ : ∃ n, n = e.length := ⟨_, rfl⟩
  have N2 := Lib.hid hn2
  clear hn2
  obtain ⟨n3, hn3⟩ : ∃ n, n = a.length := ⟨_, rfl⟩
  have N3 := Lib.hid hn3
  clear hn3
  obtain ⟨n4, hn4⟩ : ∃ n, n = b.length := ⟨_, rfl⟩
  have N4 := Lib.hid hn4
  clear hn4
  obtain ⟨n5, hn5⟩ : ∃ n, n = f.length := ⟨_, rfl⟩
  have N5 := Lib.hid hn5
  clear hn5
  obtain ⟨n6, hn6⟩ : ∃ n, n = ([] : List Int).length := ⟨_, rfl⟩
  have N6 := Lib.hid hn6
  clear hn6
  rw [← N4.out, ← N5.out] at hway
  have HWAY := Lib.hid hway
  clear hway
  clear hT hx hy hpx hpy hd he ha hb hf hds hes hch hdl
  go_enter Tryd.func3, Tryd.ntmps3
  go_wp2_with fail
  refine (law2_near_rd _ x _ (RX.out.call (by repeat (first | exact Below.refl _ _ | refine below_alloc ?_ _ | refine below_drewN ?_ _ | refine Below.drew ?_)))).mono ?_
  rintro e w2 ⟨so, rfl, ⟨hso, hb⟩⟩
  have K := below_call (w0 := w) (by repeat (first | exact Below.refl _ _ | refine below_alloc ?_ _ | refine below_drewN ?_ _ | refine Below.drew ?_)) hb
  replace RT := Lib.hid (RT.out.call K)
  replace RX := Lib.hid (RX.out.call K)
  replace RY := Lib.hid (RY.out.call K)
  replace BEL := Lib.hid (below_call (w0 := w) BEL.out K)
  clear hb K
  rw [← PX.out] at hso
  have HSO := Lib.hid hso.sl
  clear hso
  go_wp2_with fail
  refine (dom_of so px _ (HSO.out.call (by repeat (first | exact Below.refl _ _ | refine below_alloc ?_ _ | refine below_drewN ?_ _ | refine Below.drew ?_))) (RT.out.call (by repeat (first | exact Below.refl _ _ | refine below_alloc ?_ _ | refine below_drewN ?_ _ | refine Below.drew ?_)))).mono ?_
  rintro e w3 ⟨v, rfl, hrep, hb, hown⟩
  have K := below_call (w0 := w2) (by repeat (first | exact Below.refl _ _ | refine below_alloc ?_ _ | refine below_drewN ?_ _ | refine Below.drew ?_)) hb
  replace RT := Lib.hid (RT.out.call K)
  replace RX := Lib.hid (RX.out.call K)
  replace RY := Lib.hid (RY.out.call K)
  replace BEL := Lib.hid (below_call (w0 := w) BEL.out K)
  clear hb K
  rw [← HD.out] at hrep
  generalize Rf.code px = c1e at *
  obtain ⟨off1, sv1, ws1, rfl, hx1⟩ := hrep
  obtain ⟨A1, c1, rfl⟩ := hx1.sl.len
  generalize hm1 : ws1.length = m1 at *
  obtain ⟨lo1, hlo1⟩ : ∃ x, x = d.headD 0 := ⟨_, rfl⟩
  obtain ⟨hi1, hhi1⟩ : ∃ x, x = d.getLastD 0 := ⟨_, rfl⟩
  have e1 : Dm.val off1 (.slice A1 m1 c1) d = .agg #[.int .i64 off1, .slice A1 m1 c1, .int .i64 lo1, .int .i64 hi1, .int .i64 n1] := by unfold Dm.val; rw [hlo1, hhi1, N1.out]
  have RD1 : Hid (Dm.Rep w3 (.agg #[.int .i64 off1, .slice A1 m1 c1, .int .i64 lo1, .int .i64 hi1, .int .i64 n1]) d) := by
    rw [← e1, ← hm1]
    exact ⟨off1, _, ws1, rfl, by rw [hm1]; exact hx1⟩
  rw [e1]
  clear hx1 hm1 e1 hlo1 hhi1 hown
  have HB1 := Lib.hid (heap_new w3 (.cells #[.int .i64 off1, .slice A1 m1 c1, .int .i64 lo1, .int .i64 hi1, .int .i64 n1] 25))
  have HB1_0 := cell_of HB1.out 0
  have HB1_1 := cell_of HB1.out 1
  have HB1_2 := cell_of HB1.out 2
  have HB1_3 := cell_of HB1.out 3
  have HB1_4 := cell_of HB1.out 4
  go_wp2_with fail
  refine (law2_near_rd _ y _ (RY.out.call (by repeat (first | exact Below.refl _ _ | refine below_alloc ?_ _ | refine below_drewN ?_ _ | refine Below.drew ?_)))).mono ?_
  rintro e w4 ⟨so2, rfl, ⟨hso, hb⟩⟩
  clear HB1_0 HB1_1 HB1_2 HB1_3 HB1_4
  replace HB1 := Lib.hid (heap_call (b := w3.heap.size) (o := .cells #[.int .i64 off1, .slice A1 m1 c1, .int .i64 lo1, .int .i64 hi1, .int .i64 n1] 25) (by repeat (first | exact HB1.out | refine heap_alloc ?_ _ | refine heap_drewN ?_ _ | refine heap_drew ?_)) hb)
  have HB1_0 := cell_of HB1.out 0
  have HB1_1 := cell_of HB1.out 1
  have HB1_2 := cell_of HB1.out 2
  have HB1_3 := cell_of HB1.out 3
  have HB1_4 := cell_of HB1.out 4
  have K := below_call (w0 := w3) (by repeat (first | exact Below.refl _ _ | refine below_alloc ?_ _ | refine below_drewN ?_ _ | refine Below.drew ?_)) hb
  replace RT := Lib.hid (RT.out.call K)
  replace RX := Lib.hid (RX.out.call K)
  replace RY := Lib.hid (RY.out.call K)
  replace RD1 := Lib.hid (RD1.out.call K)
  replace BEL := Lib.hid (below_call (w0 := w) BEL.out K)
  clear hb K
  rw [← PY.out] at hso
  have HSO2 := Lib.hid hso.sl
  clear hso
  go_wp2_with fail
  refine (dom_of so2 py _ (HSO2.out.call (by repeat (first | exact Below.refl _ _ | refine below_alloc ?_ _ | refine below_drewN ?_ _ | refine Below.drew ?_))) (RT.out.call (by repeat (first | exact Below.refl _ _ | refine below_alloc ?_ _ | refine below_drewN ?_ _ | refine Below.drew ?_)))).mono ?_
  rintro e w5 ⟨v, rfl, hrep, hb, hown⟩
  clear HB1_0 HB1_1 HB1_2 HB1_3 HB1_4
  replace HB1 := Lib.hid (heap_call (b := w3.heap.size) (o := .cells #[.int .i64 off1, .slice A1 m1 c1, .int .i64 lo1, .int .i64 hi1, .int .i64 n1] 25) (by repeat (first | exact HB1.out | refine heap_alloc ?_ _ | refine heap_drewN ?_ _ | refine heap_drew ?_)) hb)
  have HB1_0 := cell_of HB1.out 0
  have HB1_1 := cell_of HB1.out 1
  have HB1_2 := cell_of HB1.out 2
  have HB1_3 := cell_of HB1.out 3
  have HB1_4 := cell_of HB1.out 4
  have K := below_call (w0 := w4) (by repeat (first | exact Below.refl _ _ | refine below_alloc ?_ _ | refine below_drewN ?_ _ | refine Below.drew ?_)) hb
  replace RT := Lib.hid (RT.out.call K)
  replace RX := Lib.hid (RX.out.call K)
  replace RY := Lib.hid (RY.out.call K)
  replace RD1 := Lib.hid (RD1.out.call K)
  replace BEL := Lib.hid (below_call (w0 := w) BEL.out K)
  clear hb K
  rw [← HE.out] at hrep
  generalize Rf.code py = c2e at *
  obtain ⟨off2, sv2, ws2, rfl, hx2⟩ := hrep
  obtain ⟨A2, c2, rfl⟩ := hx2.sl.len
  generalize hm2 : ws2.length = m2 at *
  obtain ⟨lo2, hlo2⟩ : ∃ x, x = e.headD 0 := ⟨_, rfl⟩
  obtain ⟨hi2, hhi2⟩ : ∃ x, x = e.getLastD 0 := ⟨_, rfl⟩
  have e2 : Dm.val off2 (.slice A2 m2 c2) e = .agg #[.int .i64 off2, .slice A2 m2 c2, .int .i64 lo2, .int .i64 hi2, .int .i64 n2] := by unfold Dm.val; rw [hlo2, hhi2, N2.out]
  have RD2 : Hid (Dm.Rep w5 (.agg #[.int .i64 off2, .slice A2 m2 c2, .int .i64 lo2, .int .i64 hi2, .int .i64 n2]) e) := by
    rw [← e2, ← hm2]
    exact ⟨off2, _, ws2, rfl, by rw [hm2]; exact hx2⟩
  rw [e2]
  clear hx2 hm2 e2 hlo2 hhi2 hown
  have HB2 := Lib.hid (heap_new w5 (.cells #[.int .i64 off2, .slice A2 m2 c2, .int .i64 lo2, .int .i64 hi2, .int .i64 n2] 25))
  clear HB1_0 HB1_1 HB1_2 HB1_3 HB1_4
  replace HB1 := Lib.hid (heap_alloc HB1.out (.cells #[.int .i64 off2, .slice A2 m2 c2, .int .i64 lo2, .int .i64 hi2, .int .i64 n2] 25))
  have HB1_0 := cell_of HB1.out 0
  have HB1_1 := cell_of HB1.out 1
  have HB1_2 := cell_of HB1.out 2
  have HB1_3 := cell_of HB1.out 3
  have HB1_4 := cell_of HB1.out 4
  have HB2_0 := cell_of HB2.out 0
  have HB2_1 := cell_of HB2.out 1
  have HB2_2 := cell_of HB2.out 2
  have HB2_3 := cell_of HB2.out 3
  have HB2_4 := cell_of HB2.out 4
  go_wp2_with fail
  refine (dom_and _ _ d e _ (RD1.out.call (by repeat (first | exact Below.refl _ _ | refine below_alloc ?_ _ | refine below_drewN ?_ _ | refine Below.drew ?_))) (RD2.out.call (by repeat (first | exact Below.refl _ _ | refine below_alloc ?_ _ | refine below_drewN ?_ _ | refine Below.drew ?_))) (RT.out.call (by repeat (first | exact Below.refl _ _ | refine below_alloc ?_ _ | refine below_drewN ?_ _ | refine Below.drew ?_)))).mono ?_
  rintro e w6 ⟨v, rfl, hrep, hb, hown⟩
  clear HB1_0 HB1_1 HB1_2 HB1_3 HB1_4 HB2_0 HB2_1 HB2_2 HB2_3 HB2_4
  replace HB1 := Lib.hid (heap_call (b := w3.heap.size) (o := .cells #[.int .i64 off1, .slice A1 m1 c1, .int .i64 lo1, .int .i64 hi1, .int .i64 n1] 25) (by repeat (first | exact HB1.out | refine heap_alloc ?_ _ | refine heap_drewN ?_ _ | refine heap_drew ?_)) hb)
  have HB1_0 := cell_of HB1.out 0
  have HB1_1 := cell_of HB1.out 1
  have HB1_2 := cell_of HB1.out 2
  have HB1_3 := cell_of HB1.out 3
  have HB1_4 := cell_of HB1.out 4
  replace HB2 := Lib.hid (heap_call (b := w5.heap.size) (o := .cells #[.int .i64 off2, .slice A2 m2 c2, .int .i64 lo2, .int .i64 hi2, .int .i64 n2] 25) (by repeat (first | exact HB2.out | refine heap_alloc ?_ _ | refine heap_drewN ?_ _ | refine heap_drew ?_)) hb)
  have HB2_0 := cell_of HB2.out 0
  have HB2_1 := cell_of HB2.out 1
  have HB2_2 := cell_of HB2.out 2
  have HB2_3 := cell_of HB2.out 3
  have HB2_4 := cell_of HB2.out 4
  have K := below_call (w0 := w5) (by repeat (first | exact Below.refl _ _ | refine below_alloc ?_ _ | refine below_drewN ?_ _ | refine Below.drew ?_)) hb
  replace RT := Lib.hid (RT.out.call K)
  replace RX := Lib.hid (RX.out.call K)
  replace RY := Lib.hid (RY.out.call K)
  replace RD1 := Lib.hid (RD1.out.call K)
  replace RD2 := Lib.hid (RD2.out.call K)
  replace BEL := Lib.hid (below_call (w0 := w) BEL.out K)
  clear hb K
  rw [← HA.out] at hrep ⊢
  generalize Dm.chg d a = c3e at *
  obtain ⟨off3, sv3, ws3, rfl, hx3⟩ := hrep
  obtain ⟨A3, c3, rfl⟩ := hx3.sl.len
  generalize hm3 : ws3.length = m3 at *
  obtain ⟨lo3, hlo3⟩ : ∃ x, x = a.headD 0 := ⟨_, rfl⟩
  obtain ⟨hi3, hhi3⟩ : ∃ x, x = a.getLastD 0 := ⟨_, rfl⟩
  have e3 : Dm.val off3 (.slice A3 m3 c3) a = .agg #[.int .i64 off3, .slice A3 m3 c3, .int .i64 lo3, .int .i64 hi3, .int .i64 n3] := by unfold Dm.val; rw [hlo3, hhi3, N3.out]
  have RD3 : Hid (Dm.Rep w6 (.agg #[.int .i64 off3, .slice A3 m3 c3, .int .i64 lo3, .int .i64 hi3, .int .i64 n3]) a) := by
    rw [← e3, ← hm3]
    exact ⟨off3, _, ws3, rfl, by rw [hm3]; exact hx3⟩
  rw [e3]
  clear hx3 hm3 e3 hlo3 hhi3 hown
  have HB3 := Lib.hid (heap_new w6 (.cells #[.int .i64 off3, .slice A3 m3 c3, .int .i64 lo3, .int .i64 hi3, .int .i64 n3] 25))
  clear HB1_0 HB1_1 HB1_2 HB1_3 HB1_4
  replace HB1 := Lib.hid (heap_alloc HB1.out (.cells #[.int .i64 off3, .slice A3 m3 c3, .int .i64 lo3, .int .i64 hi3, .int .i64 n3] 25))
  have HB1_0 := cell_of HB1.out 0
  have HB1_1 := cell_of HB1.out 1
  have HB1_2 := cell_of HB1.out 2
  have HB1_3 := cell_of HB1.out 3
  have HB1_4 := cell_of HB1.out 4
  clear HB2_0 HB2_1 HB2_2 HB2_3 HB2_4
  replace HB2 := Lib.hid (heap_alloc HB2.out (.cells #[.int .i64 off3, .slice A3 m3 c3, .int .i64 lo3, .int .i64 hi3, .int .i64 n3] 25))
  have HB2_0 := cell_of HB2.out 0
  have HB2_1 := cell_of HB2.out 1
  have HB2_2 := cell_of HB2.out 2
  have HB2_3 := cell_of HB2.out 3
  have HB2_4 := cell_of HB2.out 4
  have HB3_0 := cell_of HB3.out 0
  have HB3_1 := cell_of HB3.out 1
  have HB3_2 := cell_of HB3.out 2
  have HB3_3 := cell_of HB3.out 3
  have HB3_4 := cell_of HB3.out 4
  go_wp2_with fail
  refine (dom_minus _ _ d e _ (RD1.out.call (by repeat (first | exact Below.refl _ _ | refine below_alloc ?_ _ | refine below_drewN ?_ _ | refine Below.drew ?_))) (RD2.out.call (by repeat (first | exact Below.refl _ _ | refine below_alloc ?_ _ | refine below_drewN ?_ _ | refine Below.drew ?_))) (RT.out.call (by repeat (first | exact Below.refl _ _ | refine below_alloc ?_ _ | refine below_drewN ?_ _ | refine Below.drew ?_)))).mono ?_
  rintro e w7 ⟨v, rfl, hrep, hb, hown⟩
  clear HB1_0 HB1_1 HB1_2 HB1_3 HB1_4 HB2_0 HB2_1 HB2_2 HB2_3 HB2_4 HB3_0 HB3_1 HB3_2 HB3_3 HB3_4
  replace HB1 := Lib.hid (heap_call (b := w3.heap.size) (o := .cells #[.int .i64 off1, .slice A1 m1 c1, .int .i64 lo1, .int .i64 hi1, .int .i64 n1] 25) (by repeat (first | exact HB1.out | refine heap_alloc ?_ _ | refine heap_drewN ?_ _ | refine heap_drew ?_)) hb)
  have HB1_0 := cell_of HB1.out 0
  have HB1_1 := cell_of HB1.out 1
  have HB1_2 := cell_of HB1.out 2
  have HB1_3 := cell_of HB1.out 3
  have HB1_4 := cell_of HB1.out 4
  replace HB2 := Lib.hid (heap_call (b := w5.heap.size) (o := .cells #[.int .i64 off2, .slice A2 m2 c2, .int .i64 lo2, .int .i64 hi2, .int .i64 n2] 25) (by repeat (first | exact HB2.out | refine heap_alloc ?_ _ | refine heap_drewN ?_ _ | refine heap_drew ?_)) hb)
  have HB2_0 := cell_of HB2.out 0
  have HB2_1 := cell_of HB2.out 1
  have HB2_2 := cell_of HB2.out 2
  have HB2_3 := cell_of HB2.out 3
  have HB2_4 := cell_of HB2.out 4
  replace HB3 := Lib.hid (heap_call (b := w6.heap.size) (o := .cells #[.int .i64 off3, .slice A3 m3 c3, .int .i64 lo3, .int .i64 hi3, .int .i64 n3] 25) (by repeat (first | exact HB3.out | refine heap_alloc ?_ _ | refine heap_drewN ?_ _ | refine heap_drew ?_)) hb)
  have HB3_0 := cell_of HB3.out 0
  have HB3_1 := cell_of HB3.out 1
  have HB3_2 := cell_of HB3.out 2
  have HB3_3 := cell_of HB3.out 3
  have HB3_4 := cell_of HB3.out 4
  have K := below_call (w0 := w6) (by repeat (first | exact Below.refl _ _ | refine below_alloc ?_ _ | refine below_drewN ?_ _ | refine Below.drew ?_)) hb
  replace RT := Lib.hid (RT.out.call K)
  replace RX := Lib.hid (RX.out.call K)
  replace RY := Lib.hid (RY.out.call K)
  replace RD1 := Lib.hid (RD1.out.call K)
  replace RD2 := Lib.hid (RD2.out.call K)
  replace RD3 := Lib.hid (RD3.out.call K)
  replace BEL := Lib.hid (below_call (w0 := w) BEL.out K)
  clear hb K
  rw [← HB.out] at hrep ⊢
  generalize Dm.chg d b = c4e at *
  obtain ⟨off4, sv4, ws4, rfl, hx4⟩ := hrep
  obtain ⟨A4, c4, rfl⟩ := hx4.sl.len
  generalize hm4 : ws4.length = m4 at *
  obtain ⟨lo4, hlo4⟩ : ∃ x, x = b.headD 0 := ⟨_, rfl⟩
  obtain ⟨hi4, hhi4⟩ : ∃ x, x = b.getLastD 0 := ⟨_, rfl⟩
  have e4 : Dm.val off4 (.slice A4 m4 c4) b = .agg #[.int .i64 off4, .slice A4 m4 c4, .int .i64 lo4, .int .i64 hi4, .int .i64 n4] := by unfold Dm.val; rw [hlo4, hhi4, N4.out]
  have RD4 : Hid (Dm.Rep w7 (.agg #[.int .i64 off4, .slice A4 m4 c4, .int .i64 lo4, .int .i64 hi4, .int .i64 n4]) b) := by
    rw [← e4, ← hm4]
    exact ⟨off4, _, ws4, rfl, by rw [hm4]; exact hx4⟩
  rw [e4]
  clear hx4 hm4 e4 hlo4 hhi4 hown
  have HB4 := Lib.hid (heap_new w7 (.cells #[.int .i64 off4, .slice A4 m4 c4, .int .i64 lo4, .int .i64 hi4, .int .i64 n4] 25))
  clear HB1_0 HB1_1 HB1_2 HB1_3 HB1_4
  replace HB1 := Lib.hid (heap_alloc HB1.out (.cells #[.int .i64 off4, .slice A4 m4 c4, .int .i64 lo4, .int .i64 hi4, .int .i64 n4] 25))
  have HB1_0 := cell_of HB1.out 0
  have HB1_1 := cell_of HB1.out 1
  have HB1_2 := cell_of HB1.out 2
  have HB1_3 := cell_of HB1.out 3
  have HB1_4 := cell_of HB1.out 4
  clear HB2_0 HB2_1 HB2_2 HB2_3 HB2_4
  replace HB2 := Lib.hid (heap_alloc HB2.out (.cells #[.int .i64 off4, .slice A4 m4 c4, .int .i64 lo4, .int .i64 hi4, .int .i64 n4] 25))
  have HB2_0 := cell_of HB2.out 0
  have HB2_1 := cell_of HB2.out 1
  have HB2_2 := cell_of HB2.out 2
  have HB2_3 := cell_of HB2.out 3
  have HB2_4 := cell_of HB2.out 4
  clear HB3_0 HB3_1 HB3_2 HB3_3 HB3_4
  replace HB3 := Lib.hid (heap_alloc HB3.out (.cells #[.int .i64 off4, .slice A4 m4 c4, .int .i64 lo4, .int .i64 hi4, .int .i64 n4] 25))
  have HB3_0 := cell_of HB3.out 0
  have HB3_1 := cell_of HB3.out 1
  have HB3_2 := cell_of HB3.out 2
  have HB3_3 := cell_of HB3.out 3
  have HB3_4 := cell_of HB3.out 4
  have HB4_0 := cell_of HB4.out 0
  have HB4_1 := cell_of HB4.out 1
  have HB4_2 := cell_of HB4.out 2
  have HB4_3 := cell_of HB4.out 3
  have HB4_4 := cell_of HB4.out 4
  go_wp2_with fail
  refine (dom_list _ d _ (RD1.out.call (by repeat (first | exact Below.refl _ _ | refine below_alloc ?_ _ | refine below_drewN ?_ _ | refine Below.drew ?_))) (RT.out.call (by repeat (first | exact Below.refl _ _ | refine below_alloc ?_ _ | refine below_drewN ?_ _ | refine Below.drew ?_)))).mono ?_
  rintro e w8 ⟨sl, rfl, hso, hb⟩
  clear HB1_0 HB1_1 HB1_2 HB1_3 HB1_4 HB2_0 HB2_1 HB2_2 HB2_3 HB2_4 HB3_0 HB3_1 HB3_2 HB3_3 HB3_4 HB4_0 HB4_1 HB4_2 HB4_3 HB4_4
  replace HB1 := Lib.hid (heap_call (b := w3.heap.size) (o := .cells #[.int .i64 off1, .slice A1 m1 c1, .int .i64 lo1, .int .i64 hi1, .int .i64 n1] 25) (by repeat (first | exact HB1.out | refine heap_alloc ?_ _ | refine heap_drewN ?_ _ | refine heap_drew ?_)) hb)
  have HB1_0 := cell_of HB1.out 0
  have HB1_1 := cell_of HB1.out 1
  have HB1_2 := cell_of HB1.out 2
  have HB1_3 := cell_of HB1.out 3
  have HB1_4 := cell_of HB1.out 4
  replace HB2 := Lib.hid (heap_call (b := w5.heap.size) (o := .cells #[.int .i64 off2, .slice A2 m2 c2, .int .i64 lo2, .int .i64 hi2, .int .i64 n2] 25) (by repeat (first | exact HB2.out | refine heap_alloc ?_ _ | refine heap_drewN ?_ _ | refine heap_drew ?_)) hb)
  have HB2_0 := cell_of HB2.out 0
  have HB2_1 := cell_of HB2.out 1
  have HB2_2 := cell_of HB2.out 2
  have HB2_3 := cell_of HB2.out 3
  have HB2_4 := cell_of HB2.out 4
  replace HB3 := Lib.hid (heap_call (b := w6.heap.size) (o := .cells #[.int .i64 off3, .slice A3 m3 c3, .int .i64 lo3, .int .i64 hi3, .int .i64 n3] 25) (by repeat (first | exact HB3.out | refine heap_alloc ?_ _ | refine heap_drewN ?_ _ | refine heap_drew ?_)) hb)
  have HB3_0 := cell_of HB3.out 0
  have HB3_1 := cell_of HB3.out 1
  have HB3_2 := cell_of HB3.out 2
  have HB3_3 := cell_of HB3.out 3
  have HB3_4 := cell_of HB3.out 4
  replace HB4 := Lib.hid (heap_call (b := w7.heap.size) (o := .cells #[.int .i64 off4, .slice A4 m4 c4, .int .i64 lo4, .int .i64 hi4, .int .i64 n4] 25) (by repeat (first | exact HB4.out | refine heap_alloc ?_ _ | refine heap_drewN ?_ _ | refine heap_drew ?_)) hb)
  have HB4_0 := cell_of HB4.out 0
  have HB4_1 := cell_of HB4.out 1
  have HB4_2 := cell_of HB4.out 2
  have HB4_3 := cell_of HB4.out 3
  have HB4_4 := cell_of HB4.out 4
  have K := below_call (w0 := w7) (by repeat (first | exact Below.refl _ _ | refine below_alloc ?_ _ | refine below_drewN ?_ _ | refine Below.drew ?_)) hb
  replace RT := Lib.hid (RT.out.call K)
  replace RX := Lib.hid (RX.out.call K)
  replace RY := Lib.hid (RY.out.call K)
  replace RD1 := Lib.hid (RD1.out.call K)
  replace RD2 := Lib.hid (RD2.out.call K)
  replace RD3 := Lib.hid (RD3.out.call K)
  replace RD4 := Lib.hid (RD4.out.call K)
  replace BEL := Lib.hid (below_call (w0 := w) BEL.out K)
  clear hb K
  obtain ⟨AL, cl, hsl⟩ := hso.sl.len
  subst hsl
  have HSL := Lib.hid hso.sl
  rw [← N1.out]
  clear hso
  have SIX : Hid (∀ w', Below w8.heap.size w8 w' → w'.cell? ⟨w3.heap.size, 0, none⟩ = some (.int .i64 off1) ∧ w'.cell? ⟨w3.heap.size, 1, none⟩ = some (.slice A1 m1 c1) ∧ w'.cell? ⟨w3.heap.size, 2, none⟩ = some (.int .i64 lo1) ∧ w'.cell? ⟨w3.heap.size, 3, none⟩ = some (.int .i64 hi1) ∧ w'.cell? ⟨w3.heap.size, 4, none⟩ = some (.int .i64 n1) ∧ w'.cell? ⟨w5.heap.size, 0, none⟩ = some (.int .i64 off2) ∧ w'.cell? ⟨w5.heap.size, 1, none⟩ = some (.slice A2 m2 c2) ∧ w'.cell? ⟨w5.heap.size, 2, none⟩ = some (.int .i64 lo2) ∧ w'.cell? ⟨w5.heap.size, 3, none⟩ = some (.int .i64 hi2) ∧ w'.cell? ⟨w5.heap.size, 4, none⟩ = some (.int .i64 n2) ∧ w'.cell? ⟨w6.heap.size, 0, none⟩ = some (.int .i64 off3) ∧ w'.cell? ⟨w6.heap.size, 1, none⟩ = some (.slice A3 m3 c3) ∧ w'.cell? ⟨w6.heap.size, 2, none⟩ = some (.int .i64 lo3) ∧ w'.cell? ⟨w6.heap.size, 3, none⟩ = some (.int .i64 hi3) ∧ w'.cell? ⟨w6.heap.size, 4, none⟩ = some (.int .i64 n3) ∧ w'.cell? ⟨w7.heap.size, 0, none⟩ = some (.int .i64 off4) ∧ w'.cell? ⟨w7.heap.size, 1, none⟩ = some (.slice A4 m4 c4) ∧ w'.cell? ⟨w7.heap.size, 2, none⟩ = some (.int .i64 lo4) ∧ w'.cell? ⟨w7.heap.size, 3, none⟩ = some (.int .i64 hi4) ∧ w'.cell? ⟨w7.heap.size, 4, none⟩ = some (.int .i64 n4) ∧ Hid (Below w8.heap.size w8 w')) := fun w' hb => ⟨cell_of (heap_call HB1.out hb) 0, cell_of (heap_call HB1.out hb) 1, cell_of (heap_call HB1.out hb) 2, cell_of (heap_call HB1.out hb) 3, cell_of (heap_call HB1.out hb) 4, cell_of (heap_call HB2.out hb) 0, cell_of (heap_call HB2.out hb) 1, cell_of (heap_call HB2.out hb) 2, cell_of (heap_call HB2.out hb) 3, cell_of (heap_call HB2.out hb) 4, cell_of (heap_call HB3.out hb) 0, cell_of (heap_call HB3.out hb) 1, cell_of (heap_call HB3.out hb) 2, cell_of (heap_call HB3.out hb) 3, cell_of (heap_call HB3.out hb) 4, cell_of (heap_call HB4.out hb) 0, cell_of (heap_call HB4.out hb) 1, cell_of (heap_call HB4.out hb) 2, cell_of (heap_call HB4.out hb) 3, cell_of (heap_call HB4.out hb) 4, Lib.hid hb⟩
  clear HB1_0 HB1_1 HB1_2 HB1_3 HB1_4 HB2_0 HB2_1 HB2_2 HB2_3 HB2_4 HB3_0 HB3_1 HB3_2 HB3_3 HB3_4 HB4_0 HB4_1 HB4_2 HB4_3 HB4_4
  have MEMW : Hid (∀ w', Below w8.heap.size w8 w' → Below w.heap.size w w') := fun w' hb => below_call BEL.out hb
  go_wp2_with fail
  go_loopg [47] n1 (fun k s47 wr => ∃ j : Nat, s47 = .int .i64 j ∧ k + j = n1 ∧ Hid (Below w8.heap.size w8 wr))
  case atStart => exact ⟨0, rfl, by omega, Lib.hid (Below.refl _ _)⟩
  case round =>
    obtain ⟨j, rfl, hj, HBR⟩ := hrel
    rcases Nat.lt_or_ge j n1 with hk | hk
    · have hjl : j < d.length := by rw [← N1.out]; exact hk
      have hnb : n1 ≤ 40 := by rw [N1.out]; exact DL.out
      obtain ⟨bL, oL, rfl, -⟩ := Iv.at (c := cl) HSL.out j hjl
      have hcell : wr.cell? ⟨bL, oL + j, none⟩ = some (.int .i64 (d.getD j 0)) := Iv.later (c := cl) HSL.out HBR.out j hjl
      have hmem : d.getD j 0 ∈ d := by rw [List.getD_eq_getElem?_getD, List.getElem?_eq_getElem hjl]; simp
      have MM := Lib.hid (MEM.out _ hmem)
      clear hmem hjl
      generalize d.getD j 0 = u at *
      have CA := Lib.hid (fun w' (hb : Below w8.heap.size w8 w') => dom_has _ a u w' (RD3.out.call hb))
      have CB := Lib.hid (fun w' (hb : Below w8.heap.size w8 w') => dom_has _ b u w' (RD4.out.call hb))
      have CE := Lib.hid (fun w' (hb : Below w8.heap.size w8 w') => dom_has _ e u w' (RD2.out.call hb))
      rw [MM.out.1] at CA
      rw [MM.out.2] at CB
      obtain ⟨hs0, hs1, hs2, hs3, hs4, hs5, hs6, hs7, hs8, hs9, hs10, hs11, hs12, hs13, hs14, hs15, hs16, hs17, hs18, hs19, hs20⟩ := SIX.out wr HBR.out
      cases decide (u ∈ e)
      all_goals
        go_wp2_with fail
        go_region_held3 (fun w' => w'.cell? ⟨w3.heap.size, 0, none⟩ = some (.int .i64 off1) ∧ w'.cell? ⟨w3.heap.size, 1, none⟩ = some (.slice A1 m1 c1) ∧ w'.cell? ⟨w3.heap.size, 2, none⟩ = some (.int .i64 lo1) ∧ w'.cell? ⟨w3.heap.size, 3, none⟩ = some (.int .i64 hi1) ∧ w'.cell? ⟨w3.heap.size, 4, none⟩ = some (.int .i64 n1) ∧ w'.cell? ⟨w5.heap.size, 0, none⟩ = some (.int .i64 off2) ∧ w'.cell? ⟨w5.heap.size, 1, none⟩ = some (.slice A2 m2 c2) ∧ w'.cell? ⟨w5.heap.size, 2, none⟩ = some (.int .i64 lo2) ∧ w'.cell? ⟨w5.heap.size, 3, none⟩ = some (.int .i64 hi2) ∧ w'.cell? ⟨w5.heap.size, 4, none⟩ = some (.int .i64 n2) ∧ w'.cell? ⟨w6.heap.size, 0, none⟩ = some (.int .i64 off3) ∧ w'.cell? ⟨w6.heap.size, 1, none⟩ = some (.slice A3 m3 c3) ∧ w'.cell? ⟨w6.heap.size, 2, none⟩ = some (.int .i64 lo3) ∧ w'.cell? ⟨w6.heap.size, 3, none⟩ = some (.int .i64 hi3) ∧ w'.cell? ⟨w6.heap.size, 4, none⟩ = some (.int .i64 n3) ∧ w'.cell? ⟨w7.heap.size, 0, none⟩ = some (.int .i64 off4) ∧ w'.cell? ⟨w7.heap.size, 1, none⟩ = some (.slice A4 m4 c4) ∧ w'.cell? ⟨w7.heap.size, 2, none⟩ = some (.int .i64 lo4) ∧ w'.cell? ⟨w7.heap.size, 3, none⟩ = some (.int .i64 hi4) ∧ w'.cell? ⟨w7.heap.size, 4, none⟩ = some (.int .i64 n4) ∧ Hid (Below w8.heap.size w8 w'))
          (first | exact SIX.out _ (by first | exact hs20.out | exact hs20.out.drew | exact HBR.out.drew | exact HBR.out) | exact ⟨hs0, hs1, hs2, hs3, hs4, hs5, hs6, hs7, hs8, hs9, hs10, hs11, hs12, hs13, hs14, hs15, hs16, hs17, hs18, hs19, hs20⟩)
          (first
            | (go_at_call 20; ((with_reducible refine (CA.out _ (by first | exact hs20.out | exact hs20.out.drew | exact HBR.out.drew | exact HBR.out)).mono ?_)); rintro e w' ⟨rfl, hb⟩; have hz := below_call (w0 := w8) (by first | exact hs20.out | exact hs20.out.drew | exact HBR.out.drew | exact HBR.out) hb; clear hb hs0 hs1 hs2 hs3 hs4 hs5 hs6 hs7 hs8 hs9 hs10 hs11 hs12 hs13 hs14 hs15 hs16 hs17 hs18 hs19 hs20; obtain ⟨hs0, hs1, hs2, hs3, hs4, hs5, hs6, hs7, hs8, hs9, hs10, hs11, hs12, hs13, hs14, hs15, hs16, hs17, hs18, hs19, hs20⟩ := SIX.out w' hz; clear hz)
            | (go_at_call 20; ((with_reducible refine (CB.out _ (by first | exact hs20.out | exact hs20.out.drew | exact HBR.out.drew | exact HBR.out)).mono ?_)); rintro e w' ⟨rfl, hb⟩; have hz := below_call (w0 := w8) (by first | exact hs20.out | exact hs20.out.drew | exact HBR.out.drew | exact HBR.out) hb; clear hb hs0 hs1 hs2 hs3 hs4 hs5 hs6 hs7 hs8 hs9 hs10 hs11 hs12 hs13 hs14 hs15 hs16 hs17 hs18 hs19 hs20; obtain ⟨hs0, hs1, hs2, hs3, hs4, hs5, hs6, hs7, hs8, hs9, hs10, hs11, hs12, hs13, hs14, hs15, hs16, hs17, hs18, hs19, hs20⟩ := SIX.out w' hz; clear hz)
            | (go_at_call 20; ((with_reducible refine (CE.out _ (by first | exact hs20.out | exact hs20.out.drew | exact HBR.out.drew | exact HBR.out)).mono ?_)); rintro e w' ⟨rfl, hb⟩; have hz := below_call (w0 := w8) (by first | exact hs20.out | exact hs20.out.drew | exact HBR.out.drew | exact HBR.out) hb; clear hb hs0 hs1 hs2 hs3 hs4 hs5 hs6 hs7 hs8 hs9 hs10 hs11 hs12 hs13 hs14 hs15 hs16 hs17 hs18 hs19 hs20; obtain ⟨hs0, hs1, hs2, hs3, hs4, hs5, hs6, hs7, hs8, hs9, hs10, hs11, hs12, hs13, hs14, hs15, hs16, hs17, hs18, hs19, hs20⟩ := SIX.out w' hz; clear hz))
        go_wp2_with fail
        go_roundg (gk - 1)
        case measure => omega
        case rel => exact ⟨j + 1, by go_num, by omega, hs20⟩
    · obtain rfl : n1 = j := by omega
      replace HB1 := Lib.hid (heap_call (b := w3.heap.size) (o := .cells #[.int .i64 off1, .slice A1 m1 c1, .int .i64 lo1, .int .i64 hi1, .int .i64 n1] 25) HB1.out HBR.out)
      have HB1_0 := cell_of HB1.out 0
      have HB1_1 := cell_of HB1.out 1
      have HB1_2 := cell_of HB1.out 2
      have HB1_3 := cell_of HB1.out 3
      have HB1_4 := cell_of HB1.out 4
      replace HB2 := Lib.hid (heap_call (b := w5.heap.size) (o := .cells #[.int .i64 off2, .slice A2 m2 c2, .int .i64 lo2, .int .i64 hi2, .int .i64 n2] 25) HB2.out HBR.out)
      have HB2_0 := cell_of HB2.out 0
      have HB2_1 := cell_of HB2.out 1
      have HB2_2 := cell_of HB2.out 2
      have HB2_3 := cell_of HB2.out 3
      have HB2_4 := cell_of HB2.out 4
      replace HB3 := Lib.hid (heap_call (b := w6.heap.size) (o := .cells #[.int .i64 off3, .slice A3 m3 c3, .int .i64 lo3, .int .i64 hi3, .int .i64 n3] 25) HB3.out HBR.out)
      have HB3_0 := cell_of HB3.out 0
      have HB3_1 := cell_of HB3.out 1
      have HB3_2 := cell_of HB3.out 2
      have HB3_3 := cell_of HB3.out 3
      have HB3_4 := cell_of HB3.out 4
      replace HB4 := Lib.hid (heap_call (b := w7.heap.size) (o := .cells #[.int .i64 off4, .slice A4 m4 c4, .int .i64 lo4, .int .i64 hi4, .int .i64 n4] 25) HB4.out HBR.out)
      have HB4_0 := cell_of HB4.out 0
      have HB4_1 := cell_of HB4.out 1
      have HB4_2 := cell_of HB4.out 2
      have HB4_3 := cell_of HB4.out 3
      have HB4_4 := cell_of HB4.out 4
      replace RT := Lib.hid (RT.out.call HBR.out)
      replace RX := Lib.hid (RX.out.call HBR.out)
      replace RY := Lib.hid (RY.out.call HBR.out)
      replace RD1 := Lib.hid (RD1.out.call HBR.out)
      replace RD2 := Lib.hid (RD2.out.call HBR.out)
      replace RD3 := Lib.hid (RD3.out.call HBR.out)
      replace RD4 := Lib.hid (RD4.out.call HBR.out)
      replace BEL := Lib.hid (below_call (w0 := w) BEL.out HBR.out)
      go_wp2_with fail
      refine (dom_minus _ _ e d _ (RD2.out.call (by repeat (first | exact Below.refl _ _ | refine below_alloc ?_ _ | refine below_drewN ?_ _ | refine Below.drew ?_))) (RD1.out.call (by repeat (first | exact Below.refl _ _ | refine below_alloc ?_ _ | refine below_drewN ?_ _ | refine Below.drew ?_))) (RT.out.call (by repeat (first | exact Below.refl _ _ | refine below_alloc ?_ _ | refine below_drewN ?_ _ | refine Below.drew ?_)))).mono ?_
      rintro e w9 ⟨v, rfl, hrep, hb, hown⟩
      clear HB1_0 HB1_1 HB1_2 HB1_3 HB1_4 HB2_0 HB2_1 HB2_2 HB2_3 HB2_4 HB3_0 HB3_1 HB3_2 HB3_3 HB3_4 HB4_0 HB4_1 HB4_2 HB4_3 HB4_4
      replace HB1 := Lib.hid (heap_call (b := w3.heap.size) (o := .cells #[.int .i64 off1, .slice A1 m1 c1, .int .i64 lo1, .int .i64 hi1, .int .i64 n1] 25) (by repeat (first | exact HB1.out | refine heap_alloc ?_ _ | refine heap_drewN ?_ _ | refine heap_drew ?_)) hb)
      have HB1_0 := cell_of HB1.out 0
      have HB1_1 := cell_of HB1.out 1
      have HB1_2 := cell_of HB1.out 2
      have HB1_3 := cell_of HB1.out 3
      have HB1_4 := cell_of HB1.out 4
      replace HB2 := Lib.hid (heap_call (b := w5.heap.size) (o := .cells #[.int .i64 off2, .slice A2 m2 c2, .int .i64 lo2, .int .i64 hi2, .int .i64 n2] 25) (by repeat (first | exact HB2.out | refine heap_alloc ?_ _ | refine heap_drewN ?_ _ | refine heap_drew ?_)) hb)
      have HB2_0 := cell_of HB2.out 0
      have HB2_1 := cell_of HB2.out 1
      have HB2_2 := cell_of HB2.out 2
      have HB2_3 := cell_of HB2.out 3
      have HB2_4 := cell_of HB2.out 4
      replace HB3 := Lib.hid (heap_call (b := w6.heap.size) (o := .cells #[.int .i64 off3, .slice A3 m3 c3, .int .i64 lo3, .int .i64 hi3, .int .i64 n3] 25) (by repeat (first | exact HB3.out | refine heap_alloc ?_ _ | refine heap_drewN ?_ _ | refine heap_drew ?_)) hb)
      have HB3_0 := cell_of HB3.out 0
      have HB3_1 := cell_of HB3.out 1
      have HB3_2 := cell_of HB3.out 2
      have HB3_3 := cell_of HB3.out 3
      have HB3_4 := cell_of HB3.out 4
      replace HB4 := Lib.hid (heap_call (b := w7.heap.size) (o := .cells #[.int .i64 off4, .slice A4 m4 c4, .int .i64 lo4, .int .i64 hi4, .int .i64 n4] 25) (by repeat (first | exact HB4.out | refine heap_alloc ?_ _ | refine heap_drewN ?_ _ | refine heap_drew ?_)) hb)
      have HB4_0 := cell_of HB4.out 0
      have HB4_1 := cell_of HB4.out 1
      have HB4_2 := cell_of HB4.out 2
      have HB4_3 := cell_of HB4.out 3
      have HB4_4 := cell_of HB4.out 4
      have K := below_call (w0 := wr) (by repeat (first | exact Below.refl _ _ | refine below_alloc ?_ _ | refine below_drewN ?_ _ | refine Below.drew ?_)) hb
      replace RT := Lib.hid (RT.out.call K)
      replace RX := Lib.hid (RX.out.call K)
      replace RY := Lib.hid (RY.out.call K)
      replace RD1 := Lib.hid (RD1.out.call K)
      replace RD2 := Lib.hid (RD2.out.call K)
      replace RD3 := Lib.hid (RD3.out.call K)
      replace RD4 := Lib.hid (RD4.out.call K)
      replace BEL := Lib.hid (below_call (w0 := w) BEL.out K)
      clear hb K
      rw [← HF.out] at hrep ⊢
      generalize Dm.chg e f = c5e at *
      obtain ⟨off5, sv5, ws5, rfl, hx5⟩ := hrep
      obtain ⟨A5, c5, rfl⟩ := hx5.sl.len
      generalize hm5 : ws5.length = m5 at *
      obtain ⟨lo5, hlo5⟩ : ∃ x, x = f.headD 0 := ⟨_, rfl⟩
      obtain ⟨hi5, hhi5⟩ : ∃ x, x = f.getLastD 0 := ⟨_, rfl⟩
      have e5 : Dm.val off5 (.slice A5 m5 c5) f = .agg #[.int .i64 off5, .slice A5 m5 c5, .int .i64 lo5, .int .i64 hi5, .int .i64 n5] := by unfold Dm.val; rw [hlo5, hhi5, N5.out]
      have RD5 : Hid (Dm.Rep w9 (.agg #[.int .i64 off5, .slice A5 m5 c5, .int .i64 lo5, .int .i64 hi5, .int .i64 n5]) f) := by
        rw [← e5, ← hm5]
        exact ⟨off5, _, ws5, rfl, by rw [hm5]; exact hx5⟩
      rw [e5]
      clear hx5 hm5 e5 hlo5 hhi5 hown
      have HB5 := Lib.hid (heap_new w9 (.cells #[.int .i64 off5, .slice A5 m5 c5, .int .i64 lo5, .int .i64 hi5, .int .i64 n5] 25))
      clear HB1_0 HB1_1 HB1_2 HB1_3 HB1_4
      replace HB1 := Lib.hid (heap_alloc HB1.out (.cells #[.int .i64 off5, .slice A5 m5 c5, .int .i64 lo5, .int .i64 hi5, .int .i64 n5] 25))
      have HB1_0 := cell_of HB1.out 0
      have HB1_1 := cell_of HB1.out 1
      have HB1_2 := cell_of HB1.out 2
      have HB1_3 := cell_of HB1.out 3
      have HB1_4 := cell_of HB1.out 4
      clear HB2_0 HB2_1 HB2_2 HB2_3 HB2_4
      replace HB2 := Lib.hid (heap_alloc HB2.out (.cells #[.int .i64 off5, .slice A5 m5 c5, .int .i64 lo5, .int .i64 hi5, .int .i64 n5] 25))
      have HB2_0 := cell_of HB2.out 0
      have HB2_1 := cell_of HB2.out 1
      have HB2_2 := cell_of HB2.out 2
      have HB2_3 := cell_of HB2.out 3
      have HB2_4 := cell_of HB2.out 4
      clear HB3_0 HB3_1 HB3_2 HB3_3 HB3_4
      replace HB3 := Lib.hid (heap_alloc HB3.out (.cells #[.int .i64 off5, .slice A5 m5 c5, .int .i64 lo5, .int .i64 hi5, .int .i64 n5] 25))
      have HB3_0 := cell_of HB3.out 0
      have HB3_1 := cell_of HB3.out 1
      have HB3_2 := cell_of HB3.out 2
      have HB3_3 := cell_of HB3.out 3
      have HB3_4 := cell_of HB3.out 4
      clear HB4_0 HB4_1 HB4_2 HB4_3 HB4_4
      replace HB4 := Lib.hid (heap_alloc HB4.out (.cells #[.int .i64 off5, .slice A5 m5 c5, .int .i64 lo5, .int .i64 hi5, .int .i64 n5] 25))
      have HB4_0 := cell_of HB4.out 0
      have HB4_1 := cell_of HB4.out 1
      have HB4_2 := cell_of HB4.out 2
      have HB4_3 := cell_of HB4.out 3
      have HB4_4 := cell_of HB4.out 4
      have HB5_0 := cell_of HB5.out 0
      have HB5_1 := cell_of HB5.out 1
      have HB5_2 := cell_of HB5.out 2
      have HB5_3 := cell_of HB5.out 3
      have HB5_4 := cell_of HB5.out 4
      go_wp2_with fail
      refine (dom_and _ _ a b _ (RD3.out.call (by repeat (first | exact Below.refl _ _ | refine below_alloc ?_ _ | refine below_drewN ?_ _ | refine Below.drew ?_))) (RD4.out.call (by repeat (first | exact Below.refl _ _ | refine below_alloc ?_ _ | refine below_drewN ?_ _ | refine Below.drew ?_))) (RT.out.call (by repeat (first | exact Below.refl _ _ | refine below_alloc ?_ _ | refine below_drewN ?_ _ | refine Below.drew ?_)))).mono ?_
      rintro e w10 ⟨v, rfl, hrep, hb, hown⟩
      clear HB1_0 HB1_1 HB1_2 HB1_3 HB1_4 HB2_0 HB2_1 HB2_2 HB2_3 HB2_4 HB3_0 HB3_1 HB3_2 HB3_3 HB3_4 HB4_0 HB4_1 HB4_2 HB4_3 HB4_4 HB5_0 HB5_1 HB5_2 HB5_3 HB5_4
      replace HB1 := Lib.hid (heap_call (b := w3.heap.size) (o := .cells #[.int .i64 off1, .slice A1 m1 c1, .int .i64 lo1, .int .i64 hi1, .int .i64 n1] 25) (by repeat (first | exact HB1.out | refine heap_alloc ?_ _ | refine heap_drewN ?_ _ | refine heap_drew ?_)) hb)
      have HB1_0 := cell_of HB1.out 0
      have HB1_1 := cell_of HB1.out 1
      have HB1_2 := cell_of HB1.out 2
      have HB1_3 := cell_of HB1.out 3
      have HB1_4 := cell_of HB1.out 4
      replace HB2 := Lib.hid (heap_call (b := w5.heap.size) (o := .cells #[.int .i64 off2, .slice A2 m2 c2, .int .i64 lo2, .int .i64 hi2, .int .i64 n2] 25) (by repeat (first | exact HB2.out | refine heap_alloc ?_ _ | refine heap_drewN ?_ _ | refine heap_drew ?_)) hb)
      have HB2_0 := cell_of HB2.out 0
      have HB2_1 := cell_of HB2.out 1
      have HB2_2 := cell_of HB2.out 2
      have HB2_3 := cell_of HB2.out 3
      have HB2_4 := cell_of HB2.out 4
      replace HB3 := Lib.hid (heap_call (b := w6.heap.size) (o := .cells #[.int .i64 off3, .slice A3 m3 c3, .int .i64 lo3, .int .i64 hi3, .int .i64 n3] 25) (by repeat (first | exact HB3.out | refine heap_alloc ?_ _ | refine heap_drewN ?_ _ | refine heap_drew ?_)) hb)
      have HB3_0 := cell_of HB3.out 0
      have HB3_1 := cell_of HB3.out 1
      have HB3_2 := cell_of HB3.out 2
      have HB3_3 := cell_of HB3.out 3
      have HB3_4 := cell_of HB3.out 4
      replace HB4 := Lib.hid (heap_call (b := w7.heap.size) (o := .cells #[.int .i64 off4, .slice A4 m4 c4, .int .i64 lo4, .int .i64 hi4, .int .i64 n4] 25) (by repeat (first | exact HB4.out | refine heap_alloc ?_ _ | refine heap_drewN ?_ _ | refine heap_drew ?_)) hb)
      have HB4_0 := cell_of HB4.out 0
      have HB4_1 := cell_of HB4.out 1
      have HB4_2 := cell_of HB4.out 2
      have HB4_3 := cell_of HB4.out 3
      have HB4_4 := cell_of HB4.out 4
      replace HB5 := Lib.hid (heap_call (b := w9.heap.size) (o := .cells #[.int .i64 off5, .slice A5 m5 c5, .int .i64 lo5, .int .i64 hi5, .int .i64 n5] 25) (by repeat (first | exact HB5.out | refine heap_alloc ?_ _ | refine heap_drewN ?_ _ | refine heap_drew ?_)) hb)
      have HB5_0 := cell_of HB5.out 0
      have HB5_1 := cell_of HB5.out 1
      have HB5_2 := cell_of HB5.out 2
      have HB5_3 := cell_of HB5.out 3
      have HB5_4 := cell_of HB5.out 4
      have K := below_call (w0 := w9) (by repeat (first | exact Below.refl _ _ | refine below_alloc ?_ _ | refine below_drewN ?_ _ | refine Below.drew ?_)) hb
      replace RT := Lib.hid (RT.out.call K)
      replace RX := Lib.hid (RX.out.call K)
      replace RY := Lib.hid (RY.out.call K)
      replace RD1 := Lib.hid (RD1.out.call K)
      replace RD2 := Lib.hid (RD2.out.call K)
      replace RD3 := Lib.hid (RD3.out.call K)
      replace RD4 := Lib.hid (RD4.out.call K)
      replace RD5 := Lib.hid (RD5.out.call K)
      replace BEL := Lib.hid (below_call (w0 := w) BEL.out K)
      clear hb K
      rw [APART.out] at hrep ⊢
      rw [← HCH.out]
      obtain ⟨off6, sv6, ws6, rfl, hx6⟩ := hrep
      obtain ⟨A6, c6, rfl⟩ := hx6.sl.len
      generalize hm6 : ws6.length = m6 at *
      obtain ⟨lo6, hlo6⟩ : ∃ x, x = ([] : List Int).headD 0 := ⟨_, rfl⟩
      obtain ⟨hi6, hhi6⟩ : ∃ x, x = ([] : List Int).getLastD 0 := ⟨_, rfl⟩
      have e6 : Dm.val off6 (.slice A6 m6 c6) ([] : List Int) = .agg #[.int .i64 off6, .slice A6 m6 c6, .int .i64 lo6, .int .i64 hi6, .int .i64 n6] := by unfold Dm.val; rw [hlo6, hhi6, N6.out]
      have RD6 : Hid (Dm.Rep w10 (.agg #[.int .i64 off6, .slice A6 m6 c6, .int .i64 lo6, .int .i64 hi6, .int .i64 n6]) ([] : List Int)) := by
        rw [← e6, ← hm6]
        exact ⟨off6, _, ws6, rfl, by rw [hm6]; exact hx6⟩
      rw [e6]
      clear hx6 hm6 e6 hlo6 hhi6 hown
      have HB6 := Lib.hid (heap_new w10 (.cells #[.int .i64 off6, .slice A6 m6 c6, .int .i64 lo6, .int .i64 hi6, .int .i64 n6] 25))
      clear HB1_0 HB1_1 HB1_2 HB1_3 HB1_4
      replace HB1 := Lib.hid (heap_alloc HB1.out (.cells #[.int .i64 off6, .slice A6 m6 c6, .int .i64 lo6, .int .i64 hi6, .int .i64 n6] 25))
      have HB1_0 := cell_of HB1.out 0
      have HB1_1 := cell_of HB1.out 1
      have HB1_2 := cell_of HB1.out 2
      have HB1_3 := cell_of HB1.out 3
      have HB1_4 := cell_of HB1.out 4
      clear HB2_0 HB2_1 HB2_2 HB2_3 HB2_4
      replace HB2 := Lib.hid (heap_alloc HB2.out (.cells #[.int .i64 off6, .slice A6 m6 c6, .int .i64 lo6, .int .i64 hi6, .int .i64 n6] 25))
      have HB2_0 := cell_of HB2.out 0
      have HB2_1 := cell_of HB2.out 1
      have HB2_2 := cell_of HB2.out 2
      have HB2_3 := cell_of HB2.out 3
      have HB2_4 := cell_of HB2.out 4
      clear HB3_0 HB3_1 HB3_2 HB3_3 HB3_4
      replace HB3 := Lib.hid (heap_alloc HB3.out (.cells #[.int .i64 off6, .slice A6 m6 c6, .int .i64 lo6, .int .i64 hi6, .int .i64 n6] 25))
      have HB3_0 := cell_of HB3.out 0
      have HB3_1 := cell_of HB3.out 1
      have HB3_2 := cell_of HB3.out 2
      have HB3_3 := cell_of HB3.out 3
      have HB3_4 := cell_of HB3.out 4
      clear HB4_0 HB4_1 HB4_2 HB4_3 HB4_4
      replace HB4 := Lib.hid (heap_alloc HB4.out (.cells #[.int .i64 off6, .slice A6 m6 c6, .int .i64 lo6, .int .i64 hi6, .int .i64 n6] 25))
      have HB4_0 := cell_of HB4.out 0
      have HB4_1 := cell_of HB4.out 1
      have HB4_2 := cell_of HB4.out 2
      have HB4_3 := cell_of HB4.out 3
      have HB4_4 := cell_of HB4.out 4
      clear HB5_0 HB5_1 HB5_2 HB5_3 HB5_4
      replace HB5 := Lib.hid (heap_alloc HB5.out (.cells #[.int .i64 off6, .slice A6 m6 c6, .int .i64 lo6, .int .i64 hi6, .int .i64 n6] 25))
      have HB5_0 := cell_of HB5.out 0
      have HB5_1 := cell_of HB5.out 1
      have HB5_2 := cell_of HB5.out 2
      have HB5_3 := cell_of HB5.out 3
      have HB5_4 := cell_of HB5.out 4
      have HB6_0 := cell_of HB6.out 0
      have HB6_1 := cell_of HB6.out 1
      have HB6_2 := cell_of HB6.out 2
      have HB6_3 := cell_of HB6.out 3
      have HB6_4 := cell_of HB6.out 4
      have HB6a := Lib.hid HB6.out
      have START : Hid (Below (w10.alloc (.cells #[.int .i64 off6, .slice A6 m6 c6, .int .i64 lo6, .int .i64 hi6, .int .i64 n6] 25)).heap.size (w10.alloc (.cells #[.int .i64 off6, .slice A6 m6 c6, .int .i64 lo6, .int .i64 hi6, .int .i64 n6] 25)) (w10.alloc (.cells #[.int .i64 off6, .slice A6 m6 c6, .int .i64 lo6, .int .i64 hi6, .int .i64 n6] 25))) := Lib.hid (Below.refl _ _)
      have BN : Hid (Below w10.heap.size w10 (w10.alloc (.cells #[.int .i64 off6, .slice A6 m6 c6, .int .i64 lo6, .int .i64 hi6, .int .i64 n6] 25))) := Lib.hid (below_alloc (Below.refl _ _) _)
      have C1 := Lib.hid (fun w' (hb0 : Below (w10.alloc (.cells #[.int .i64 off6, .slice A6 m6 c6, .int .i64 lo6, .int .i64 hi6, .int .i64 n6] 25)).heap.size (w10.alloc (.cells #[.int .i64 off6, .slice A6 m6 c6, .int .i64 lo6, .int .i64 hi6, .int .i64 n6] 25)) w') => dom_size _ d w' (RD1.out.call (below_call (w0 := w10) (below_alloc (Below.refl _ _) _) hb0)))
      have C2 := Lib.hid (fun w' (hb0 : Below (w10.alloc (.cells #[.int .i64 off6, .slice A6 m6 c6, .int .i64 lo6, .int .i64 hi6, .int .i64 n6] 25)).heap.size (w10.alloc (.cells #[.int .i64 off6, .slice A6 m6 c6, .int .i64 lo6, .int .i64 hi6, .int .i64 n6] 25)) w') => dom_size _ e w' (RD2.out.call (below_call (w0 := w10) (below_alloc (Below.refl _ _) _) hb0)))
      have C3 := Lib.hid (fun w' (hb0 : Below (w10.alloc (.cells #[.int .i64 off6, .slice A6 m6 c6, .int .i64 lo6, .int .i64 hi6, .int .i64 n6] 25)).heap.size (w10.alloc (.cells #[.int .i64 off6, .slice A6 m6 c6, .int .i64 lo6, .int .i64 hi6, .int .i64 n6] 25)) w') => dom_size _ a w' (RD3.out.call (below_call (w0 := w10) (below_alloc (Below.refl _ _) _) hb0)))
      have C4 := Lib.hid (fun w' (hb0 : Below (w10.alloc (.cells #[.int .i64 off6, .slice A6 m6 c6, .int .i64 lo6, .int .i64 hi6, .int .i64 n6] 25)).heap.size (w10.alloc (.cells #[.int .i64 off6, .slice A6 m6 c6, .int .i64 lo6, .int .i64 hi6, .int .i64 n6] 25)) w') => dom_size _ b w' (RD4.out.call (below_call (w0 := w10) (below_alloc (Below.refl _ _) _) hb0)))
      have C5 := Lib.hid (fun w' (hb0 : Below (w10.alloc (.cells #[.int .i64 off6, .slice A6 m6 c6, .int .i64 lo6, .int .i64 hi6, .int .i64 n6] 25)).heap.size (w10.alloc (.cells #[.int .i64 off6, .slice A6 m6 c6, .int .i64 lo6, .int .i64 hi6, .int .i64 n6] 25)) w') => dom_size _ f w' (RD5.out.call (below_call (w0 := w10) (below_alloc (Below.refl _ _) _) hb0)))
      have C6 := Lib.hid (fun w' (hb0 : Below (w10.alloc (.cells #[.int .i64 off6, .slice A6 m6 c6, .int .i64 lo6, .int .i64 hi6, .int .i64 n6] 25)).heap.size (w10.alloc (.cells #[.int .i64 off6, .slice A6 m6 c6, .int .i64 lo6, .int .i64 hi6, .int .i64 n6] 25)) w') => dom_size _ ([] : List Int) w' (RD6.out.call (below_call (w0 := w10) (below_alloc (Below.refl _ _) _) hb0)))
      have CQ := Lib.hid (fun w' (hb0 : Below (w10.alloc (.cells #[.int .i64 off6, .slice A6 m6 c6, .int .i64 lo6, .int .i64 hi6, .int .i64 n6] 25)).heap.size (w10.alloc (.cells #[.int .i64 off6, .slice A6 m6 c6, .int .i64 lo6, .int .i64 hi6, .int .i64 n6] 25)) w') => dom_equal _ _ d e w' (RD1.out.call (below_call (w0 := w10) (below_alloc (Below.refl _ _) _) hb0)) (RD2.out.call (below_call (w0 := w10) (below_alloc (Below.refl _ _) _) hb0)) (RT.out.call (below_call (w0 := w10) (below_alloc (Below.refl _ _) _) hb0)))
      have CP := Lib.hid (fun w' (hb0 : Below (w10.alloc (.cells #[.int .i64 off6, .slice A6 m6 c6, .int .i64 lo6, .int .i64 hi6, .int .i64 n6] 25)).heap.size (w10.alloc (.cells #[.int .i64 off6, .slice A6 m6 c6, .int .i64 lo6, .int .i64 hi6, .int .i64 n6] 25)) w') => dom_equal _ _ e d w' (RD2.out.call (below_call (w0 := w10) (below_alloc (Below.refl _ _) _) hb0)) (RD1.out.call (below_call (w0 := w10) (below_alloc (Below.refl _ _) _) hb0)) (RT.out.call (below_call (w0 := w10) (below_alloc (Below.refl _ _) _) hb0)))
      have CW := Lib.hid (fun w' (hb0 : Below (w10.alloc (.cells #[.int .i64 off6, .slice A6 m6 c6, .int .i64 lo6, .int .i64 hi6, .int .i64 n6] 25)).heap.size (w10.alloc (.cells #[.int .i64 off6, .slice A6 m6 c6, .int .i64 lo6, .int .i64 hi6, .int .i64 n6] 25)) w') => law2_wakes w' (RT.out.call (below_call (w0 := w10) (below_alloc (Below.refl _ _) _) hb0)))
      rw [← N1.out] at C1
      rw [← N2.out] at C2
      rw [← N3.out] at C3
      rw [← N4.out] at C4
      rw [← N5.out] at C5
      rw [← N6.out] at C6
      have S1 := SETS.out.1
      have S2 := SETS.out.2.1
      have S3 := SETS.out.2.2
      rw [← N1.out, ← N3.out, ← N4.out] at S1
      rw [← N1.out, ← N2.out, ← N3.out] at S2
      rw [← N4.out, ← N5.out] at S3
      have hcs : (n4 = 0 ∧ n5 = 0 ∧ n3 = n1 ∧ n3 = n2 ∧ d = e) ∨ (n4 = 0 ∧ n5 ≠ 0 ∧ n3 = n1 ∧ n3 ≠ n2 ∧ d ≠ e) ∨ (n4 ≠ 0 ∧ n3 ≠ n1 ∧ d ≠ e) := by
        by_cases h4 : n4 = 0
        · by_cases h5 : n5 = 0
          · have hde := S3.2 ⟨h4, h5⟩
            exact Or.inl ⟨h4, h5, (S2.1 hde).1, (S2.1 hde).2, hde⟩
          · have hde : d ≠ e := fun h => h5 (S3.1 h).2
            exact Or.inr (Or.inl ⟨h4, h5, by omega, fun h => hde (S2.2 ⟨by omega, h⟩), hde⟩)
        · exact Or.inr (Or.inr ⟨h4, by omega, fun h => h4 (S3.1 h).1⟩)
      have hn6 : ((n6 : Int) == 0) = true := by rw [N6.out]; rfl
      have hnb : n1 ≤ 40 := by rw [N1.out]; exact DL.out
      have hw1 : IntKind.i64.wrap ((n3 : Int) + (n4 : Int)) = (n1 : Int) := by rw [IntKind.wrap_i64]; omega
      have hw2 : (n3 : Int) + (n4 : Int) = (n1 : Int) := by omega
      have G4 := GCH.out
      rw [← N3.out] at G4
      have HCS := Lib.hid hcs
      have HW1 := Lib.hid hw1
      have HW2 := Lib.hid hw2
      clear S1 S2 S3 hcs hw1 hw2
      have hb1 := Lib.hid HB1.out
      have hb2 := Lib.hid HB2.out
      have hb3 := Lib.hid HB3.out
      have hb4 := Lib.hid HB4.out
      have hb5 := Lib.hid HB5.out
      have hb6 := Lib.hid HB6.out
      have SIX : Hid (∀ w', Below (w10.alloc (.cells #[.int .i64 off6, .slice A6 m6 c6, .int .i64 lo6, .int .i64 hi6, .int .i64 n6] 25)).heap.size (w10.alloc (.cells #[.int .i64 off6, .slice A6 m6 c6, .int .i64 lo6, .int .i64 hi6, .int .i64 n6] 25)) w' → w'.cell? ⟨w3.heap.size, 0, none⟩ = some (.int .i64 off1) ∧ w'.cell? ⟨w3.heap.size, 1, none⟩ = some (.slice A1 m1 c1) ∧ w'.cell? ⟨w3.heap.size, 2, none⟩ = some (.int .i64 lo1) ∧ w'.cell? ⟨w3.heap.size, 3, none⟩ = some (.int .i64 hi1) ∧ w'.cell? ⟨w3.heap.size, 4, none⟩ = some (.int .i64 n1) ∧ w'.cell? ⟨w5.heap.size, 0, none⟩ = some (.int .i64 off2) ∧ w'.cell? ⟨w5.heap.size, 1, none⟩ = some (.slice A2 m2 c2) ∧ w'.cell? ⟨w5.heap.size, 2, none⟩ = some (.int .i64 lo2) ∧ w'.cell? ⟨w5.heap.size, 3, none⟩ = some (.int .i64 hi2) ∧ w'.cell? ⟨w5.heap.size, 4, none⟩ = some (.int .i64 n2) ∧ w'.cell? ⟨w6.heap.size, 0, none⟩ = some (.int .i64 off3) ∧ w'.cell? ⟨w6.heap.size, 1, none⟩ = some (.slice A3 m3 c3) ∧ w'.cell? ⟨w6.heap.size, 2, none⟩ = some (.int .i64 lo3) ∧ w'.cell? ⟨w6.heap.size, 3, none⟩ = some (.int .i64 hi3) ∧ w'.cell? ⟨w6.heap.size, 4, none⟩ = some (.int .i64 n3) ∧ w'.cell? ⟨w7.heap.size, 0, none⟩ = some (.int .i64 off4) ∧ w'.cell? ⟨w7.heap.size, 1, none⟩ = some (.slice A4 m4 c4) ∧ w'.cell? ⟨w7.heap.size, 2, none⟩ = some (.int .i64 lo4) ∧ w'.cell? ⟨w7.heap.size, 3, none⟩ = some (.int .i64 hi4) ∧ w'.cell? ⟨w7.heap.size, 4, none⟩ = some (.int .i64 n4) ∧ w'.cell? ⟨w9.heap.size, 0, none⟩ = some (.int .i64 off5) ∧ w'.cell? ⟨w9.heap.size, 1, none⟩ = some (.slice A5 m5 c5) ∧ w'.cell? ⟨w9.heap.size, 2, none⟩ = some (.int .i64 lo5) ∧ w'.cell? ⟨w9.heap.size, 3, none⟩ = some (.int .i64 hi5) ∧ w'.cell? ⟨w9.heap.size, 4, none⟩ = some (.int .i64 n5) ∧ w'.cell? ⟨w10.heap.size, 0, none⟩ = some (.int .i64 off6) ∧ w'.cell? ⟨w10.heap.size, 1, none⟩ = some (.slice A6 m6 c6) ∧ w'.cell? ⟨w10.heap.size, 2, none⟩ = some (.int .i64 lo6) ∧ w'.cell? ⟨w10.heap.size, 3, none⟩ = some (.int .i64 hi6) ∧ w'.cell? ⟨w10.heap.size, 4, none⟩ = some (.int .i64 n6) ∧ Hid (Below (w10.alloc (.cells #[.int .i64 off6, .slice A6 m6 c6, .int .i64 lo6, .int .i64 hi6, .int .i64 n6] 25)).heap.size (w10.alloc (.cells #[.int .i64 off6, .slice A6 m6 c6, .int .i64 lo6, .int .i64 hi6, .int .i64 n6] 25)) w')) := fun w' hb => ⟨cell_of (heap_call HB1.out hb) 0, cell_of (heap_call HB1.out hb) 1, cell_of (heap_call HB1.out hb) 2, cell_of (heap_call HB1.out hb) 3, cell_of (heap_call HB1.out hb) 4, cell_of (heap_call HB2.out hb) 0, cell_of (heap_call HB2.out hb) 1, cell_of (heap_call HB2.out hb) 2, cell_of (heap_call HB2.out hb) 3, cell_of (heap_call HB2.out hb) 4, cell_of (heap_call HB3.out hb) 0, cell_of (heap_call HB3.out hb) 1, cell_of (heap_call HB3.out hb) 2, cell_of (heap_call HB3.out hb) 3, cell_of (heap_call HB3.out hb) 4, cell_of (heap_call HB4.out hb) 0, cell_of (heap_call HB4.out hb) 1, cell_of (heap_call HB4.out hb) 2, cell_of (heap_call HB4.out hb) 3, cell_of (heap_call HB4.out hb) 4, cell_of (heap_call HB5.out hb) 0, cell_of (heap_call HB5.out hb) 1, cell_of (heap_call HB5.out hb) 2, cell_of (heap_call HB5.out hb) 3, cell_of (heap_call HB5.out hb) 4, cell_of (heap_call HB6.out hb) 0, cell_of (heap_call HB6.out hb) 1, cell_of (heap_call HB6.out hb) 2, cell_of (heap_call HB6.out hb) 3, cell_of (heap_call HB6.out hb) 4, Lib.hid hb⟩
      clear HB1_0 HB1_1 HB1_2 HB1_3 HB1_4 HB2_0 HB2_1 HB2_2 HB2_3 HB2_4 HB3_0 HB3_1 HB3_2 HB3_3 HB3_4 HB4_0 HB4_1 HB4_2 HB4_3 HB4_4 HB5_0 HB5_1 HB5_2 HB5_3 HB5_4 HB6_0 HB6_1 HB6_2 HB6_3 HB6_4
      clear HB1 HB2 HB3 HB4 HB5 HB6 HB6a hb1 hb2 hb3 hb4 hb5 hb6 RD1 RD2 RD3 RD4 RD5 RD6 RT RX RY HSL HSO HSO2 PX PY HD HE HA HB HF HCH DL MEM APART MEMW SETS N1 N2 N3 N4 N5 N6 BN
      rcases HCS.out with ⟨h4, h5, h31, h32, hde⟩ | ⟨h4, h5, h31, h32, hde⟩ | ⟨h4, h31, hde⟩
      · exact absurd HWAY.out (by omega)
      · rw [decide_eq_false hde] at CQ
        rw [decide_eq_false (fun h => hde h.symm)] at CP
        have b40 : ((n4 : Int) == 0) = true := beq_iff_eq.2 (by omega)
        have b40n : (n4 == 0) = true := beq_iff_eq.2 (by omega)
        have b40d : decide (n4 = 0) = true := decide_eq_true (by omega)
        have b50 : ((n5 : Int) == 0) = false := beq_eq_false_iff_ne.2 (by omega)
        have b50n : (n5 == 0) = false := beq_eq_false_iff_ne.2 (by omega)
        have b50d : decide (n5 = 0) = false := decide_eq_false (by omega)
        have b31 : ((n3 : Int) == (n1 : Int)) = true := beq_iff_eq.2 (by omega)
        have b31n : (n3 == n1) = true := beq_iff_eq.2 (by omega)
        have b31d : decide (n3 = n1) = true := decide_eq_true (by omega)
        have b32 : ((n3 : Int) == (n2 : Int)) = false := beq_eq_false_iff_ne.2 (by omega)
        have b32n : (n3 == n2) = false := beq_eq_false_iff_ne.2 (by omega)
        have b32d : decide (n3 = n2) = false := decide_eq_false (by omega)
        have b4 : (ch == 4) = decide (0 < n3) := by rw [Bool.eq_iff_iff, beq_iff_eq, decide_eq_true_iff]; exact G4
        have p3 : decide (0 < (n3 : Int)) = decide (0 < n3) := decide_eq_decide.2 (by omega)
        have hw1 := HW1.out
        have hw2 := HW2.out
        have hw3 : IntKind.i64.wrap (n1 : Int) = (n1 : Int) := by rw [IntKind.wrap_i64]; omega
        have H31 := Lib.hid h31
        have H4 := Lib.hid h4
        clear hde G4 h31 h4
        clear h5 h32
        go_wp2_with fail
        have hz := Lib.hid START.out
        replace hz := Lib.hid hz.out.drew
        refine wp_region_held_drew (S := fun w' => w'.cell? ⟨w3.heap.size, 0, none⟩ = some (.int .i64 off1) ∧ w'.cell? ⟨w3.heap.size, 1, none⟩ = some (.slice A1 m1 c1) ∧ w'.cell? ⟨w3.heap.size, 2, none⟩ = some (.int .i64 lo1) ∧ w'.cell? ⟨w3.heap.size, 3, none⟩ = some (.int .i64 hi1) ∧ w'.cell? ⟨w3.heap.size, 4, none⟩ = some (.int .i64 n1) ∧ w'.cell? ⟨w5.heap.size, 0, none⟩ = some (.int .i64 off2) ∧ w'.cell? ⟨w5.heap.size, 1, none⟩ = some (.slice A2 m2 c2) ∧ w'.cell? ⟨w5.heap.size, 2, none⟩ = some (.int .i64 lo2) ∧ w'.cell? ⟨w5.heap.size, 3, none⟩ = some (.int .i64 hi2) ∧ w'.cell? ⟨w5.heap.size, 4, none⟩ = some (.int .i64 n2) ∧ w'.cell? ⟨w6.heap.size, 0, none⟩ = some (.int .i64 off3) ∧ w'.cell? ⟨w6.heap.size, 1, none⟩ = some (.slice A3 m3 c3) ∧ w'.cell? ⟨w6.heap.size, 2, none⟩ = some (.int .i64 lo3) ∧ w'.cell? ⟨w6.heap.size, 3, none⟩ = some (.int .i64 hi3) ∧ w'.cell? ⟨w6.heap.size, 4, none⟩ = some (.int .i64 n3) ∧ w'.cell? ⟨w7.heap.size, 0, none⟩ = some (.int .i64 off4) ∧ w'.cell? ⟨w7.heap.size, 1, none⟩ = some (.slice A4 m4 c4) ∧ w'.cell? ⟨w7.heap.size, 2, none⟩ = some (.int .i64 lo4) ∧ w'.cell? ⟨w7.heap.size, 3, none⟩ = some (.int .i64 hi4) ∧ w'.cell? ⟨w7.heap.size, 4, none⟩ = some (.int .i64 n4) ∧ w'.cell? ⟨w9.heap.size, 0, none⟩ = some (.int .i64 off5) ∧ w'.cell? ⟨w9.heap.size, 1, none⟩ = some (.slice A5 m5 c5) ∧ w'.cell? ⟨w9.heap.size, 2, none⟩ = some (.int .i64 lo5) ∧ w'.cell? ⟨w9.heap.size, 3, none⟩ = some (.int .i64 hi5) ∧ w'.cell? ⟨w9.heap.size, 4, none⟩ = some (.int .i64 n5) ∧ w'.cell? ⟨w10.heap.size, 0, none⟩ = some (.int .i64 off6) ∧ w'.cell? ⟨w10.heap.size, 1, none⟩ = some (.slice A6 m6 c6) ∧ w'.cell? ⟨w10.heap.size, 2, none⟩ = some (.int .i64 lo6) ∧ w'.cell? ⟨w10.heap.size, 3, none⟩ = some (.int .i64 hi6) ∧ w'.cell? ⟨w10.heap.size, 4, none⟩ = some (.int .i64 n6) ∧ Hid (Below (w10.alloc (.cells #[.int .i64 off6, .slice A6 m6 c6, .int .i64 lo6, .int .i64 hi6, .int .i64 n6] 25)).heap.size (w10.alloc (.cells #[.int .i64 off6, .slice A6 m6 c6, .int .i64 lo6, .int .i64 hi6, .int .i64 n6] 25)) w')) (by kernel_rfl) ?_ (fun hHeld => ?_)
        · exact SIX.out _ hz.out
        refine wpAnyH_take (i := 0) (oi := { dst := some 80, op := Op.load 25 (Operand.tmp 9), type := 25, pos := "law.go:134", after := #[], guard := none }) (v := ?_) rfl (by kernel_rfl) (by kernel_rfl) (by kernel_rfl) (fun _ _ _ h => h) (Or.inl ⟨by rfl, ?_⟩) (by assumption) ?_
        rotate_left
        · (intro w hSw; (try dsimp only at hSw); go_simp; first | done | with_reducible rfl)
        try simp only [Act.put, List.setIfInBounds_toArray, List.set_cons_zero, List.set_cons_succ]
        refine wpAnyH_take (i := 2) (oi := { dst := some 82, op := Op.load 25 (Operand.tmp 5), type := 25, pos := "law.go:134", after := #[], guard := none }) (v := ?_) rfl (by kernel_rfl) (by kernel_rfl) (by kernel_rfl) (fun _ _ _ h => h) (Or.inl ⟨by rfl, ?_⟩) (by assumption) ?_
        rotate_left
        · (intro w hSw; (try dsimp only at hSw); go_simp; first | done | with_reducible rfl)
        try simp only [Act.put, List.setIfInBounds_toArray, List.set_cons_zero, List.set_cons_succ]
        refine wpAnyH_ready (rs := [1]) (by kernel_rfl) (by simp) ?_
        refine AllReadyH.cons (o := { dst := some 81, op := Op.call { callee := Callee.value (Operand.func 21), args := #[Operand.tmp 80], argTypes := #[25] }, type := 3, pos := "law.go:134", after := #[{ on := 0, ground := Ground.data }], guard := none }) rfl (fun KK hKK => ?_) AllReadyH.nil
        go_simp
        refine (C3.out _ hz.out).mono ?_
        rintro e w' ⟨rfl, hb⟩
        replace hz := Lib.hid (below_call (w0 := (w10.alloc (.cells #[.int .i64 off6, .slice A6 m6 c6, .int .i64 lo6, .int .i64 hi6, .int .i64 n6] 25))) hz.out hb)
        clear hb
        go_wp2_with fail
        refine hKK.out _ _ ?_ (fun hHeld2 => ?_)
        · exact SIX.out _ hz.out
        clear hKK KK hHeld
        have hHeld := hHeld2
        clear hHeld2
        try simp only [Act.put, List.setIfInBounds_toArray, List.set_cons_zero, List.set_cons_succ]
        refine wpAnyH_ready (rs := [3]) (by kernel_rfl) (by simp) ?_
        refine AllReadyH.cons (o := { dst := some 83, op := Op.call { callee := Callee.value (Operand.func 21), args := #[Operand.tmp 82], argTypes := #[25] }, type := 3, pos := "law.go:134", after := #[{ on := 2, ground := Ground.data }, { on := 1, ground := Ground.chain }], guard := none }) rfl (fun KK hKK => ?_) AllReadyH.nil
        go_simp
        refine (C1.out _ hz.out).mono ?_
        rintro e w' ⟨rfl, hb⟩
        replace hz := Lib.hid (below_call (w0 := (w10.alloc (.cells #[.int .i64 off6, .slice A6 m6 c6, .int .i64 lo6, .int .i64 hi6, .int .i64 n6] 25))) hz.out hb)
        clear hb
        go_wp2_with fail
        refine hKK.out _ _ ?_ (fun hHeld2 => ?_)
        · exact SIX.out _ hz.out
        clear hKK KK hHeld
        have hHeld := hHeld2
        clear hHeld2
        try simp only [Act.put, List.setIfInBounds_toArray, List.set_cons_zero, List.set_cons_succ]
        refine wpAnyH_take (i := 4) (oi := { dst := some 84, op := Op.binOp BinOp.eql 3 (Operand.tmp 81) (Operand.tmp 83) 3, type := 4, pos := "law.go:134", after := #[{ on := 1, ground := Ground.data }, { on := 3, ground := Ground.data }], guard := none }) (v := ?_) rfl (by kernel_rfl) (by kernel_rfl) (by kernel_rfl) (fun _ _ _ h => h) (Or.inl ⟨by rfl, ?_⟩) (by assumption) ?_
        rotate_left
        · (intro w hSw; (try dsimp only at hSw); go_simp; first | done | with_reducible rfl)
        try simp only [Act.put, List.setIfInBounds_toArray, List.set_cons_zero, List.set_cons_succ]
        refine wpAnyH_take (i := 5) (oi := { dst := some 85, op := Op.move (Operand.tmp 84), type := 4, pos := "law.go:134", after := #[{ on := 4, ground := Ground.data }, { on := 3, ground := Ground.chain }], guard := none }) (v := ?_) rfl (by kernel_rfl) (by kernel_rfl) (by kernel_rfl) (fun _ _ _ h => h) (Or.inl ⟨by rfl, ?_⟩) (by assumption) ?_
        rotate_left
        · (intro w hSw; (try dsimp only at hSw); go_simp; first | done | with_reducible rfl)
        try simp only [Act.put, List.setIfInBounds_toArray, List.set_cons_zero, List.set_cons_succ]
        refine wpAnyH_take (i := 6) (oi := { dst := some 86, op := Op.load 25 (Operand.tmp 9), type := 25, pos := "law.go:134", after := #[{ on := 5, ground := Ground.guard }], guard := some (5, true) }) (v := ?_) rfl (by kernel_rfl) (by kernel_rfl) (by kernel_rfl) (fun _ _ _ h => h) (Or.inl ⟨by rfl, ?_⟩) (by assumption) ?_
        rotate_left
        · (intro w hSw; (try dsimp only at hSw); go_simp; first | done | with_reducible rfl)
        try simp only [Act.put, List.setIfInBounds_toArray, List.set_cons_zero, List.set_cons_succ]
        refine wpAnyH_take (i := 8) (oi := { dst := some 88, op := Op.load 25 (Operand.tmp 7), type := 25, pos := "law.go:134", after := #[{ on := 5, ground := Ground.guard }], guard := some (5, true) }) (v := ?_) rfl (by kernel_rfl) (by kernel_rfl) (by kernel_rfl) (fun _ _ _ h => h) (Or.inl ⟨by rfl, ?_⟩) (by assumption) ?_
        rotate_left
        · (intro w hSw; (try dsimp only at hSw); go_simp; first | done | with_reducible rfl)
        try simp only [Act.put, List.setIfInBounds_toArray, List.set_cons_zero, List.set_cons_succ]
        refine wpAnyH_ready (rs := [7]) (by kernel_rfl) (by simp) ?_
        refine AllReadyH.cons (o := { dst := some 87, op := Op.call { callee := Callee.value (Operand.func 21), args := #[Operand.tmp 86], argTypes := #[25] }, type := 3, pos := "law.go:134", after := #[{ on := 6, ground := Ground.data }, { on := 5, ground := Ground.chain }, { on := 5, ground := Ground.guard }], guard := some (5, true) }) rfl (fun KK hKK => ?_) AllReadyH.nil
        go_simp
        refine (C3.out _ hz.out).mono ?_
        rintro e w' ⟨rfl, hb⟩
        replace hz := Lib.hid (below_call (w0 := (w10.alloc (.cells #[.int .i64 off6, .slice A6 m6 c6, .int .i64 lo6, .int .i64 hi6, .int .i64 n6] 25))) hz.out hb)
        clear hb
        go_wp2_with fail
        refine hKK.out _ _ ?_ (fun hHeld2 => ?_)
        · exact SIX.out _ hz.out
        clear hKK KK hHeld
        have hHeld := hHeld2
        clear hHeld2
        try simp only [Act.put, List.setIfInBounds_toArray, List.set_cons_zero, List.set_cons_succ]
        refine wpAnyH_ready (rs := [9]) (by kernel_rfl) (by simp) ?_
        refine AllReadyH.cons (o := { dst := some 89, op := Op.call { callee := Callee.value (Operand.func 21), args := #[Operand.tmp 88], argTypes := #[25] }, type := 3, pos := "law.go:134", after := #[{ on := 8, ground := Ground.data }, { on := 7, ground := Ground.chain }, { on := 5, ground := Ground.guard }], guard := some (5, true) }) rfl (fun KK hKK => ?_) AllReadyH.nil
        go_simp
        refine (C2.out _ hz.out).mono ?_
        rintro e w' ⟨rfl, hb⟩
        replace hz := Lib.hid (below_call (w0 := (w10.alloc (.cells #[.int .i64 off6, .slice A6 m6 c6, .int .i64 lo6, .int .i64 hi6, .int .i64 n6] 25))) hz.out hb)
        clear hb
        go_wp2_with fail
        refine hKK.out _ _ ?_ (fun hHeld2 => ?_)
        · exact SIX.out _ hz.out
        clear hKK KK hHeld
        have hHeld := hHeld2
        clear hHeld2
        try simp only [Act.put, List.setIfInBounds_toArray, List.set_cons_zero, List.set_cons_succ]
        refine wpAnyH_take (i := 10) (oi := { dst := some 90, op := Op.binOp BinOp.eql 3 (Operand.tmp 87) (Operand.tmp 89) 3, type := 4, pos := "law.go:134", after := #[{ on := 7, ground := Ground.data }, { on := 9, ground := Ground.data }, { on := 5, ground := Ground.guard }], guard := some (5, true) }) (v := ?_) rfl (by kernel_rfl) (by kernel_rfl) (by kernel_rfl) (fun _ _ _ h => h) (Or.inl ⟨by rfl, ?_⟩) (by assumption) ?_
        rotate_left
        · (intro w hSw; (try dsimp only at hSw); go_simp; first | done | with_reducible rfl)
        try simp only [Act.put, List.setIfInBounds_toArray, List.set_cons_zero, List.set_cons_succ]
        refine wpAnyH_take (i := 11) (oi := { dst := some 91, op := Op.pick (Operand.tmp 85) (Operand.tmp 90) (Operand.const (Value.bool false)), type := 4, pos := "law.go:134", after := #[{ on := 5, ground := Ground.data }, { on := 10, ground := Ground.data }], guard := none }) (v := ?_) rfl (by kernel_rfl) (by kernel_rfl) (by kernel_rfl) (fun _ _ _ h => h) (Or.inl ⟨by rfl, ?_⟩) (by assumption) ?_
        rotate_left
        · (intro w hSw; (try dsimp only at hSw); go_simp; first | done | with_reducible rfl)
        try simp only [Act.put, List.setIfInBounds_toArray, List.set_cons_zero, List.set_cons_succ]
        refine wpAnyH_take (i := 12) (oi := { dst := some 19, op := Op.assign (Operand.tmp 91), type := 4, pos := "law.go:134", after := #[{ on := 11, ground := Ground.data }, { on := 9, ground := Ground.chain }, { on := 0, ground := Ground.phase }, { on := 1, ground := Ground.phase }, { on := 2, ground := Ground.phase }, { on := 3, ground := Ground.phase }, { on := 4, ground := Ground.phase }, { on := 5, ground := Ground.phase }, { on := 6, ground := Ground.phase }, { on := 7, ground := Ground.phase }, { on := 8, ground := Ground.phase }, { on := 9, ground := Ground.phase }, { on := 10, ground := Ground.phase }, { on := 11, ground := Ground.phase }], guard := none }) (v := ?_) rfl (by kernel_rfl) (by kernel_rfl) (by kernel_rfl) (fun _ _ _ h => h) (Or.inl ⟨by rfl, ?_⟩) (by assumption) ?_
        rotate_left
        · (intro w hSw; (try dsimp only at hSw); go_simp; first | done | with_reducible rfl)
        try simp only [Act.put, List.setIfInBounds_toArray, List.set_cons_zero, List.set_cons_succ]
        refine wpAnyH_done (by kernel_rfl) ?_ _
        go_wp2_with fail
        replace hz := Lib.hid hz.out.drew
        refine wp_region_held_drew (S := fun w' => w'.cell? ⟨w3.heap.size, 0, none⟩ = some (.int .i64 off1) ∧ w'.cell? ⟨w3.heap.size, 1, none⟩ = some (.slice A1 m1 c1) ∧ w'.cell? ⟨w3.heap.size, 2, none⟩ = some (.int .i64 lo1) ∧ w'.cell? ⟨w3.heap.size, 3, none⟩ = some (.int .i64 hi1) ∧ w'.cell? ⟨w3.heap.size, 4, none⟩ = some (.int .i64 n1) ∧ w'.cell? ⟨w5.heap.size, 0, none⟩ = some (.int .i64 off2) ∧ w'.cell? ⟨w5.heap.size, 1, none⟩ = some (.slice A2 m2 c2) ∧ w'.cell? ⟨w5.heap.size, 2, none⟩ = some (.int .i64 lo2) ∧ w'.cell? ⟨w5.heap.size, 3, none⟩ = some (.int .i64 hi2) ∧ w'.cell? ⟨w5.heap.size, 4, none⟩ = some (.int .i64 n2) ∧ w'.cell? ⟨w6.heap.size, 0, none⟩ = some (.int .i64 off3) ∧ w'.cell? ⟨w6.heap.size, 1, none⟩ = some (.slice A3 m3 c3) ∧ w'.cell? ⟨w6.heap.size, 2, none⟩ = some (.int .i64 lo3) ∧ w'.cell? ⟨w6.heap.size, 3, none⟩ = some (.int .i64 hi3) ∧ w'.cell? ⟨w6.heap.size, 4, none⟩ = some (.int .i64 n3) ∧ w'.cell? ⟨w7.heap.size, 0, none⟩ = some (.int .i64 off4) ∧ w'.cell? ⟨w7.heap.size, 1, none⟩ = some (.slice A4 m4 c4) ∧ w'.cell? ⟨w7.heap.size, 2, none⟩ = some (.int .i64 lo4) ∧ w'.cell? ⟨w7.heap.size, 3, none⟩ = some (.int .i64 hi4) ∧ w'.cell? ⟨w7.heap.size, 4, none⟩ = some (.int .i64 n4) ∧ w'.cell? ⟨w9.heap.size, 0, none⟩ = some (.int .i64 off5) ∧ w'.cell? ⟨w9.heap.size, 1, none⟩ = some (.slice A5 m5 c5) ∧ w'.cell? ⟨w9.heap.size, 2, none⟩ = some (.int .i64 lo5) ∧ w'.cell? ⟨w9.heap.size, 3, none⟩ = some (.int .i64 hi5) ∧ w'.cell? ⟨w9.heap.size, 4, none⟩ = some (.int .i64 n5) ∧ w'.cell? ⟨w10.heap.size, 0, none⟩ = some (.int .i64 off6) ∧ w'.cell? ⟨w10.heap.size, 1, none⟩ = some (.slice A6 m6 c6) ∧ w'.cell? ⟨w10.heap.size, 2, none⟩ = some (.int .i64 lo6) ∧ w'.cell? ⟨w10.heap.size, 3, none⟩ = some (.int .i64 hi6) ∧ w'.cell? ⟨w10.heap.size, 4, none⟩ = some (.int .i64 n6) ∧ Hid (Below (w10.alloc (.cells #[.int .i64 off6, .slice A6 m6 c6, .int .i64 lo6, .int .i64 hi6, .int .i64 n6] 25)).heap.size (w10.alloc (.cells #[.int .i64 off6, .slice A6 m6 c6, .int .i64 lo6, .int .i64 hi6, .int .i64 n6] 25)) w')) (by kernel_rfl) ?_ (fun hHeld => ?_)
        · exact SIX.out _ hz.out
        refine wpAnyH_ready (rs := [0]) (by kernel_rfl) (by simp) ?_
        refine AllReadyH.cons (o := { dst := some 92, op := Op.call { callee := Callee.value (Operand.func 22), args := #[], argTypes := #[] }, type := 4, pos := "law.go:135", after := #[], guard := none }) rfl (fun KK hKK => ?_) AllReadyH.nil
        go_simp
        refine (CW.out _ hz.out).mono ?_
        rintro e w' ⟨rfl, hb⟩
        replace hz := Lib.hid (below_call (w0 := (w10.alloc (.cells #[.int .i64 off6, .slice A6 m6 c6, .int .i64 lo6, .int .i64 hi6, .int .i64 n6] 25))) hz.out hb)
        clear hb
        go_wp2_with fail
        refine hKK.out _ _ ?_ (fun hHeld2 => ?_)
        · exact SIX.out _ hz.out
        clear hKK KK hHeld
        have hHeld := hHeld2
        clear hHeld2
        try simp only [Act.put, List.setIfInBounds_toArray, List.set_cons_zero, List.set_cons_succ]
        refine wpAnyH_take (i := 1) (oi := { dst := some 93, op := Op.move (Operand.tmp 92), type := 4, pos := "law.go:135", after := #[{ on := 0, ground := Ground.data }, { on := 0, ground := Ground.chain }], guard := none }) (v := ?_) rfl (by kernel_rfl) (by kernel_rfl) (by kernel_rfl) (fun _ _ _ h => h) (Or.inl ⟨by rfl, ?_⟩) (by assumption) ?_
        rotate_left
        · (intro w hSw; (try dsimp only at hSw); go_simp; first | done | with_reducible rfl)
        try simp only [Act.put, List.setIfInBounds_toArray, List.set_cons_zero, List.set_cons_succ]
        refine wpAnyH_take (i := 2) (oi := { dst := some 94, op := Op.load 25 (Operand.tmp 9), type := 25, pos := "law.go:135", after := #[{ on := 1, ground := Ground.guard }], guard := some (1, true) }) (v := ?_) rfl (by kernel_rfl) (by kernel_rfl) (by kernel_rfl) (fun _ _ _ h => h) (Or.inl ⟨by rfl, ?_⟩) (by assumption) ?_
        rotate_left
        · (intro w hSw; (try dsimp only at hSw); go_simp; first | done | with_reducible rfl)
        try simp only [Act.put, List.setIfInBounds_toArray, List.set_cons_zero, List.set_cons_succ]
        refine wpAnyH_take (i := 4) (oi := { dst := some 96, op := Op.load 25 (Operand.tmp 11), type := 25, pos := "law.go:135", after := #[{ on := 1, ground := Ground.guard }], guard := some (1, true) }) (v := ?_) rfl (by kernel_rfl) (by kernel_rfl) (by kernel_rfl) (fun _ _ _ h => h) (Or.inl ⟨by rfl, ?_⟩) (by assumption) ?_
        rotate_left
        · (intro w hSw; (try dsimp only at hSw); go_simp; first | done | with_reducible rfl)
        try simp only [Act.put, List.setIfInBounds_toArray, List.set_cons_zero, List.set_cons_succ]
        refine wpAnyH_take (i := 7) (oi := { dst := some 99, op := Op.load 25 (Operand.tmp 5), type := 25, pos := "law.go:135", after := #[{ on := 1, ground := Ground.guard }], guard := some (1, true) }) (v := ?_) rfl (by kernel_rfl) (by kernel_rfl) (by kernel_rfl) (fun _ _ _ h => h) (Or.inl ⟨by rfl, ?_⟩) (by assumption) ?_
        rotate_left
        · (intro w hSw; (try dsimp only at hSw); go_simp; first | done | with_reducible rfl)
        try simp only [Act.put, List.setIfInBounds_toArray, List.set_cons_zero, List.set_cons_succ]
        refine wpAnyH_ready (rs := [3]) (by kernel_rfl) (by simp) ?_
        refine AllReadyH.cons (o := { dst := some 95, op := Op.call { callee := Callee.value (Operand.func 21), args := #[Operand.tmp 94], argTypes := #[25] }, type := 3, pos := "law.go:135", after := #[{ on := 2, ground := Ground.data }, { on := 1, ground := Ground.chain }, { on := 1, ground := Ground.guard }], guard := some (1, true) }) rfl (fun KK hKK => ?_) AllReadyH.nil
        go_simp
        refine (C3.out _ hz.out).mono ?_
        rintro e w' ⟨rfl, hb⟩
        replace hz := Lib.hid (below_call (w0 := (w10.alloc (.cells #[.int .i64 off6, .slice A6 m6 c6, .int .i64 lo6, .int .i64 hi6, .int .i64 n6] 25))) hz.out hb)
        clear hb
        go_wp2_with fail
        refine hKK.out _ _ ?_ (fun hHeld2 => ?_)
        · exact SIX.out _ hz.out
        clear hKK KK hHeld
        have hHeld := hHeld2
        clear hHeld2
        try simp only [Act.put, List.setIfInBounds_toArray, List.set_cons_zero, List.set_cons_succ]
        refine wpAnyH_ready (rs := [5]) (by kernel_rfl) (by simp) ?_
        refine AllReadyH.cons (o := { dst := some 97, op := Op.call { callee := Callee.value (Operand.func 21), args := #[Operand.tmp 96], argTypes := #[25] }, type := 3, pos := "law.go:135", after := #[{ on := 4, ground := Ground.data }, { on := 3, ground := Ground.chain }, { on := 1, ground := Ground.guard }], guard := some (1, true) }) rfl (fun KK hKK => ?_) AllReadyH.nil
        go_simp
        refine (C4.out _ hz.out).mono ?_
        rintro e w' ⟨rfl, hb⟩
        replace hz := Lib.hid (below_call (w0 := (w10.alloc (.cells #[.int .i64 off6, .slice A6 m6 c6, .int .i64 lo6, .int .i64 hi6, .int .i64 n6] 25))) hz.out hb)
        clear hb
        go_wp2_with fail
        refine hKK.out _ _ ?_ (fun hHeld2 => ?_)
        · exact SIX.out _ hz.out
        clear hKK KK hHeld
        have hHeld := hHeld2
        clear hHeld2
        try simp only [Act.put, List.setIfInBounds_toArray, List.set_cons_zero, List.set_cons_succ]
        refine wpAnyH_take (i := 6) (oi := { dst := some 98, op := Op.binOp BinOp.add 3 (Operand.tmp 95) (Operand.tmp 97) 3, type := 3, pos := "law.go:135", after := #[{ on := 3, ground := Ground.data }, { on := 5, ground := Ground.data }, { on := 1, ground := Ground.guard }], guard := some (1, true) }) (v := ?_) rfl (by kernel_rfl) (by kernel_rfl) (by kernel_rfl) (fun _ _ _ h => h) (Or.inl ⟨by rfl, ?_⟩) (by assumption) ?_
        rotate_left
        · (intro w hSw; (try dsimp only at hSw); go_simp; first | done | with_reducible rfl)
        try simp only [Act.put, List.setIfInBounds_toArray, List.set_cons_zero, List.set_cons_succ]
        refine wpAnyH_ready (rs := [8]) (by kernel_rfl) (by simp) ?_
        refine AllReadyH.cons (o := { dst := some 100, op := Op.call { callee := Callee.value (Operand.func 21), args := #[Operand.tmp 99], argTypes := #[25] }, type := 3, pos := "law.go:135", after := #[{ on := 7, ground := Ground.data }, { on := 5, ground := Ground.chain }, { on := 1, ground := Ground.guard }], guard := some (1, true) }) rfl (fun KK hKK => ?_) AllReadyH.nil
        go_simp
        refine (C1.out _ hz.out).mono ?_
        rintro e w' ⟨rfl, hb⟩
        replace hz := Lib.hid (below_call (w0 := (w10.alloc (.cells #[.int .i64 off6, .slice A6 m6 c6, .int .i64 lo6, .int .i64 hi6, .int .i64 n6] 25))) hz.out hb)
        clear hb
        go_wp2_with fail
        refine hKK.out _ _ ?_ (fun hHeld2 => ?_)
        · exact SIX.out _ hz.out
        clear hKK KK hHeld
        have hHeld := hHeld2
        clear hHeld2
        try simp only [Act.put, List.setIfInBounds_toArray, List.set_cons_zero, List.set_cons_succ]
        refine wpAnyH_take (i := 9) (oi := { dst := some 101, op := Op.binOp BinOp.eql 3 (Operand.tmp 98) (Operand.tmp 100) 3, type := 4, pos := "law.go:135", after := #[{ on := 6, ground := Ground.data }, { on := 8, ground := Ground.data }, { on := 1, ground := Ground.guard }], guard := some (1, true) }) (v := ?_) rfl (by kernel_rfl) (by kernel_rfl) (by kernel_rfl) (fun _ _ _ h => h) (Or.inl ⟨by rfl, ?_⟩) (by assumption) ?_
        rotate_left
        · (intro w hSw; (try dsimp only at hSw); go_simp; first | done | with_reducible rfl)
        try simp only [Act.put, List.setIfInBounds_toArray, List.set_cons_zero, List.set_cons_succ]
        refine wpAnyH_take (i := 10) (oi := { dst := some 102, op := Op.pick (Operand.tmp 93) (Operand.tmp 101) (Operand.const (Value.bool false)), type := 4, pos := "law.go:135", after := #[{ on := 1, ground := Ground.data }, { on := 9, ground := Ground.data }], guard := none }) (v := ?_) rfl (by kernel_rfl) (by kernel_rfl) (by kernel_rfl) (fun _ _ _ h => h) (Or.inl ⟨by rfl, ?_⟩) (by assumption) ?_
        rotate_left
        · (intro w hSw; (try dsimp only at hSw); go_simp; first | done | with_reducible rfl)
        try simp only [Act.put, List.setIfInBounds_toArray, List.set_cons_zero, List.set_cons_succ]
        refine wpAnyH_take (i := 11) (oi := { dst := some 103, op := Op.move (Operand.tmp 102), type := 4, pos := "law.go:135", after := #[{ on := 10, ground := Ground.data }, { on := 8, ground := Ground.chain }], guard := none }) (v := ?_) rfl (by kernel_rfl) (by kernel_rfl) (by kernel_rfl) (fun _ _ _ h => h) (Or.inl ⟨by rfl, ?_⟩) (by assumption) ?_
        rotate_left
        · (intro w hSw; (try dsimp only at hSw); go_simp; first | done | with_reducible rfl)
        try simp only [Act.put, List.setIfInBounds_toArray, List.set_cons_zero, List.set_cons_succ]
        refine wpAnyH_take (i := 12) (oi := { dst := some 104, op := Op.load 25 (Operand.tmp 17), type := 25, pos := "law.go:135", after := #[{ on := 11, ground := Ground.guard }], guard := some (11, true) }) (v := ?_) rfl (by kernel_rfl) (by kernel_rfl) (by kernel_rfl) (fun _ _ _ h => h) (Or.inl ⟨by rfl, ?_⟩) (by assumption) ?_
        rotate_left
        · (intro w hSw; (try dsimp only at hSw); go_simp; first | done | with_reducible rfl)
        try simp only [Act.put, List.setIfInBounds_toArray, List.set_cons_zero, List.set_cons_succ]
        refine wpAnyH_ready (rs := [13]) (by kernel_rfl) (by simp) ?_
        refine AllReadyH.cons (o := { dst := some 105, op := Op.call { callee := Callee.value (Operand.func 21), args := #[Operand.tmp 104], argTypes := #[25] }, type := 3, pos := "law.go:135", after := #[{ on := 12, ground := Ground.data }, { on := 11, ground := Ground.chain }, { on := 11, ground := Ground.guard }], guard := some (11, true) }) rfl (fun KK hKK => ?_) AllReadyH.nil
        go_simp
        refine (C6.out _ hz.out).mono ?_
        rintro e w' ⟨rfl, hb⟩
        replace hz := Lib.hid (below_call (w0 := (w10.alloc (.cells #[.int .i64 off6, .slice A6 m6 c6, .int .i64 lo6, .int .i64 hi6, .int .i64 n6] 25))) hz.out hb)
        clear hb
        go_wp2_with fail
        refine hKK.out _ _ ?_ (fun hHeld2 => ?_)
        · exact SIX.out _ hz.out
        clear hKK KK hHeld
        have hHeld := hHeld2
        clear hHeld2
        try simp only [Act.put, List.setIfInBounds_toArray, List.set_cons_zero, List.set_cons_succ]
        refine wpAnyH_take (i := 14) (oi := { dst := some 106, op := Op.binOp BinOp.eql 3 (Operand.tmp 105) (Operand.const (Value.int IntKind.i64 0)) 3, type := 4, pos := "law.go:135", after := #[{ on := 13, ground := Ground.data }, { on := 11, ground := Ground.guard }], guard := some (11, true) }) (v := ?_) rfl (by kernel_rfl) (by kernel_rfl) (by kernel_rfl) (fun _ _ _ h => h) (Or.inl ⟨by rfl, ?_⟩) (by assumption) ?_
        rotate_left
        · (intro w hSw; (try dsimp only at hSw); go_simp; first | done | with_reducible rfl)
        try simp only [Act.put, List.setIfInBounds_toArray, List.set_cons_zero, List.set_cons_succ]
        refine wpAnyH_take (i := 15) (oi := { dst := some 107, op := Op.pick (Operand.tmp 103) (Operand.tmp 106) (Operand.const (Value.bool false)), type := 4, pos := "law.go:135", after := #[{ on := 11, ground := Ground.data }, { on := 14, ground := Ground.data }], guard := none }) (v := ?_) rfl (by kernel_rfl) (by kernel_rfl) (by kernel_rfl) (fun _ _ _ h => h) (Or.inl ⟨by rfl, ?_⟩) (by assumption) ?_
        rotate_left
        · (intro w hSw; (try dsimp only at hSw); go_simp; first | done | with_reducible rfl)
        try simp only [Act.put, List.setIfInBounds_toArray, List.set_cons_zero, List.set_cons_succ]
        refine wpAnyH_take (i := 16) (oi := { dst := some 108, op := Op.move (Operand.tmp 107), type := 4, pos := "law.go:135", after := #[{ on := 15, ground := Ground.data }, { on := 13, ground := Ground.chain }], guard := none }) (v := ?_) rfl (by kernel_rfl) (by kernel_rfl) (by kernel_rfl) (fun _ _ _ h => h) (Or.inl ⟨by rfl, ?_⟩) (by assumption) ?_
        rotate_left
        · (intro w hSw; (try dsimp only at hSw); go_simp; first | done | with_reducible rfl)
        try simp only [Act.put, List.setIfInBounds_toArray, List.set_cons_zero, List.set_cons_succ]
        refine wpAnyH_take (i := 17) (oi := { dst := some 109, op := Op.move (Operand.tmp 18), type := 30, pos := "law.go:135", after := #[{ on := 16, ground := Ground.guard }], guard := some (16, true) }) (v := ?_) rfl (by kernel_rfl) (by kernel_rfl) (by kernel_rfl) (fun _ _ _ h => h) (Or.inl ⟨by rfl, ?_⟩) (by assumption) ?_
        rotate_left
        · (intro w hSw; (try dsimp only at hSw); go_simp; first | done | with_reducible rfl)
        try simp only [Act.put, List.setIfInBounds_toArray, List.set_cons_zero, List.set_cons_succ]
        refine wpAnyH_take (i := 18) (oi := { dst := some 110, op := Op.binOp BinOp.eql 30 (Operand.tmp 109) (Operand.const (Value.int IntKind.i64 4)) 30, type := 4, pos := "law.go:135", after := #[{ on := 17, ground := Ground.data }, { on := 16, ground := Ground.guard }], guard := some (16, true) }) (v := ?_) rfl (by kernel_rfl) (by kernel_rfl) (by kernel_rfl) (fun _ _ _ h => h) (Or.inl ⟨by rfl, ?_⟩) (by assumption) ?_
        rotate_left
        · (intro w hSw; (try dsimp only at hSw); go_simp; first | done | with_reducible rfl)
        try simp only [Act.put, List.setIfInBounds_toArray, List.set_cons_zero, List.set_cons_succ]
        refine wpAnyH_take (i := 19) (oi := { dst := some 111, op := Op.load 25 (Operand.tmp 9), type := 25, pos := "law.go:135", after := #[{ on := 16, ground := Ground.guard }], guard := some (16, true) }) (v := ?_) rfl (by kernel_rfl) (by kernel_rfl) (by kernel_rfl) (fun _ _ _ h => h) (Or.inl ⟨by rfl, ?_⟩) (by assumption) ?_
        rotate_left
        · (intro w hSw; (try dsimp only at hSw); go_simp; first | done | with_reducible rfl)
        try simp only [Act.put, List.setIfInBounds_toArray, List.set_cons_zero, List.set_cons_succ]
        refine wpAnyH_ready (rs := [20]) (by kernel_rfl) (by simp) ?_
        refine AllReadyH.cons (o := { dst := some 112, op := Op.call { callee := Callee.value (Operand.func 21), args := #[Operand.tmp 111], argTypes := #[25] }, type := 3, pos := "law.go:135", after := #[{ on := 19, ground := Ground.data }, { on := 16, ground := Ground.chain }, { on := 16, ground := Ground.guard }], guard := some (16, true) }) rfl (fun KK hKK => ?_) AllReadyH.nil
        go_simp
        refine (C3.out _ hz.out).mono ?_
        rintro e w' ⟨rfl, hb⟩
        replace hz := Lib.hid (below_call (w0 := (w10.alloc (.cells #[.int .i64 off6, .slice A6 m6 c6, .int .i64 lo6, .int .i64 hi6, .int .i64 n6] 25))) hz.out hb)
        clear hb
        go_wp2_with fail
        refine hKK.out _ _ ?_ (fun hHeld2 => ?_)
        · exact SIX.out _ hz.out
        clear hKK KK hHeld
        have hHeld := hHeld2
        clear hHeld2
        try simp only [Act.put, List.setIfInBounds_toArray, List.set_cons_zero, List.set_cons_succ]
        refine wpAnyH_take (i := 21) (oi := { dst := some 113, op := Op.binOp BinOp.gtr 3 (Operand.tmp 112) (Operand.const (Value.int IntKind.i64 0)) 3, type := 4, pos := "law.go:135", after := #[{ on := 20, ground := Ground.data }, { on := 16, ground := Ground.guard }], guard := some (16, true) }) (v := ?_) rfl (by kernel_rfl) (by kernel_rfl) (by kernel_rfl) (fun _ _ _ h => h) (Or.inl ⟨by rfl, ?_⟩) (by assumption) ?_
        rotate_left
        · (intro w hSw; (try dsimp only at hSw); go_simp; first | done | with_reducible rfl)
        try simp only [Act.put, List.setIfInBounds_toArray, List.set_cons_zero, List.set_cons_succ]
        refine wpAnyH_take (i := 22) (oi := { dst := some 114, op := Op.binOp BinOp.eql 4 (Operand.tmp 110) (Operand.tmp 113) 4, type := 4, pos := "law.go:135", after := #[{ on := 18, ground := Ground.data }, { on := 21, ground := Ground.data }, { on := 16, ground := Ground.guard }], guard := some (16, true) }) (v := ?_) rfl (by kernel_rfl) (by kernel_rfl) (by kernel_rfl) (fun _ _ _ h => h) (Or.inl ⟨by rfl, ?_⟩) (by assumption) ?_
        rotate_left
        · (intro w hSw; (try dsimp only at hSw); go_simp; first | done | with_reducible rfl)
        try simp only [Act.put, List.setIfInBounds_toArray, List.set_cons_zero, List.set_cons_succ]
        refine wpAnyH_take (i := 23) (oi := { dst := some 115, op := Op.pick (Operand.tmp 108) (Operand.tmp 114) (Operand.const (Value.bool false)), type := 4, pos := "law.go:135", after := #[{ on := 16, ground := Ground.data }, { on := 22, ground := Ground.data }], guard := none }) (v := ?_) rfl (by kernel_rfl) (by kernel_rfl) (by kernel_rfl) (fun _ _ _ h => h) (Or.inl ⟨by rfl, ?_⟩) (by assumption) ?_
        rotate_left
        · (intro w hSw; (try dsimp only at hSw); go_simp; first | done | with_reducible rfl)
        try simp only [Act.put, List.setIfInBounds_toArray, List.set_cons_zero, List.set_cons_succ]
        refine wpAnyH_take (i := 24) (oi := { dst := some 116, op := Op.move (Operand.tmp 115), type := 4, pos := "law.go:135", after := #[{ on := 23, ground := Ground.data }, { on := 20, ground := Ground.chain }], guard := none }) (v := ?_) rfl (by kernel_rfl) (by kernel_rfl) (by kernel_rfl) (fun _ _ _ h => h) (Or.inl ⟨by rfl, ?_⟩) (by assumption) ?_
        rotate_left
        · (intro w hSw; (try dsimp only at hSw); go_simp; first | done | with_reducible rfl)
        try simp only [Act.put, List.setIfInBounds_toArray, List.set_cons_zero, List.set_cons_succ]
        refine wpAnyH_take (i := 25) (oi := { dst := some 117, op := Op.load 25 (Operand.tmp 5), type := 25, pos := "law.go:135", after := #[{ on := 24, ground := Ground.guard }], guard := some (24, true) }) (v := ?_) rfl (by kernel_rfl) (by kernel_rfl) (by kernel_rfl) (fun _ _ _ h => h) (Or.inl ⟨by rfl, ?_⟩) (by assumption) ?_
        rotate_left
        · (intro w hSw; (try dsimp only at hSw); go_simp; first | done | with_reducible rfl)
        try simp only [Act.put, List.setIfInBounds_toArray, List.set_cons_zero, List.set_cons_succ]
        refine wpAnyH_take (i := 26) (oi := { dst := some 118, op := Op.load 25 (Operand.tmp 7), type := 25, pos := "law.go:135", after := #[{ on := 24, ground := Ground.guard }], guard := some (24, true) }) (v := ?_) rfl (by kernel_rfl) (by kernel_rfl) (by kernel_rfl) (fun _ _ _ h => h) (Or.inl ⟨by rfl, ?_⟩) (by assumption) ?_
        rotate_left
        · (intro w hSw; (try dsimp only at hSw); go_simp; first | done | with_reducible rfl)
        try simp only [Act.put, List.setIfInBounds_toArray, List.set_cons_zero, List.set_cons_succ]
        refine wpAnyH_take (i := 28) (oi := { dst := some 120, op := Op.move (Operand.tmp 19), type := 4, pos := "law.go:135", after := #[{ on := 24, ground := Ground.guard }], guard := some (24, true) }) (v := ?_) rfl (by kernel_rfl) (by kernel_rfl) (by kernel_rfl) (fun _ _ _ h => h) (Or.inl ⟨by rfl, ?_⟩) (by assumption) ?_
        rotate_left
        · (intro w hSw; (try dsimp only at hSw); go_simp; first | done | with_reducible rfl)
        try simp only [Act.put, List.setIfInBounds_toArray, List.set_cons_zero, List.set_cons_succ]
        refine wpAnyH_ready (rs := [27]) (by kernel_rfl) (by simp) ?_
        refine AllReadyH.cons (o := { dst := some 119, op := Op.call { callee := Callee.value (Operand.func 23), args := #[Operand.tmp 117, Operand.tmp 118], argTypes := #[25, 25] }, type := 4, pos := "law.go:135", after := #[{ on := 25, ground := Ground.data }, { on := 26, ground := Ground.data }, { on := 24, ground := Ground.chain }, { on := 24, ground := Ground.guard }], guard := some (24, true) }) rfl (fun KK hKK => ?_) AllReadyH.nil
        go_simp
        refine (CQ.out _ hz.out).mono ?_
        rintro e w' ⟨rfl, hb⟩
        replace hz := Lib.hid (below_call (w0 := (w10.alloc (.cells #[.int .i64 off6, .slice A6 m6 c6, .int .i64 lo6, .int .i64 hi6, .int .i64 n6] 25))) hz.out hb)
        clear hb
        go_wp2_with fail
        refine hKK.out _ _ ?_ (fun hHeld2 => ?_)
        · exact SIX.out _ hz.out
        clear hKK KK hHeld
        have hHeld := hHeld2
        clear hHeld2
        try simp only [Act.put, List.setIfInBounds_toArray, List.set_cons_zero, List.set_cons_succ]
        refine wpAnyH_take (i := 29) (oi := { dst := some 121, op := Op.binOp BinOp.eql 4 (Operand.tmp 119) (Operand.tmp 120) 4, type := 4, pos := "law.go:135", after := #[{ on := 27, ground := Ground.data }, { on := 28, ground := Ground.data }, { on := 24, ground := Ground.guard }], guard := some (24, true) }) (v := ?_) rfl (by kernel_rfl) (by kernel_rfl) (by kernel_rfl) (fun _ _ _ h => h) (Or.inl ⟨by rfl, ?_⟩) (by assumption) ?_
        rotate_left
        · (intro w hSw; (try dsimp only at hSw); go_simp; first | done | with_reducible rfl)
        try simp only [Act.put, List.setIfInBounds_toArray, List.set_cons_zero, List.set_cons_succ]
        refine wpAnyH_take (i := 30) (oi := { dst := some 122, op := Op.pick (Operand.tmp 116) (Operand.tmp 121) (Operand.const (Value.bool false)), type := 4, pos := "law.go:135", after := #[{ on := 24, ground := Ground.data }, { on := 29, ground := Ground.data }], guard := none }) (v := ?_) rfl (by kernel_rfl) (by kernel_rfl) (by kernel_rfl) (fun _ _ _ h => h) (Or.inl ⟨by rfl, ?_⟩) (by assumption) ?_
        rotate_left
        · (intro w hSw; (try dsimp only at hSw); go_simp; first | done | with_reducible rfl)
        try simp only [Act.put, List.setIfInBounds_toArray, List.set_cons_zero, List.set_cons_succ]
        refine wpAnyH_take (i := 31) (oi := { dst := some 123, op := Op.move (Operand.tmp 122), type := 4, pos := "law.go:135", after := #[{ on := 30, ground := Ground.data }, { on := 27, ground := Ground.chain }], guard := none }) (v := ?_) rfl (by kernel_rfl) (by kernel_rfl) (by kernel_rfl) (fun _ _ _ h => h) (Or.inl ⟨by rfl, ?_⟩) (by assumption) ?_
        rotate_left
        · (intro w hSw; (try dsimp only at hSw); go_simp; first | done | with_reducible rfl)
        try simp only [Act.put, List.setIfInBounds_toArray, List.set_cons_zero, List.set_cons_succ]
        refine wpAnyH_take (i := 32) (oi := { dst := some 124, op := Op.load 25 (Operand.tmp 5), type := 25, pos := "law.go:135", after := #[{ on := 31, ground := Ground.guard }], guard := some (31, true) }) (v := ?_) rfl (by kernel_rfl) (by kernel_rfl) (by kernel_rfl) (fun _ _ _ h => h) (Or.inl ⟨by rfl, ?_⟩) (by assumption) ?_
        rotate_left
        · (intro w hSw; (try dsimp only at hSw); go_simp; first | done | with_reducible rfl)
        try simp only [Act.put, List.setIfInBounds_toArray, List.set_cons_zero, List.set_cons_succ]
        refine wpAnyH_take (i := 33) (oi := { dst := some 125, op := Op.load 25 (Operand.tmp 7), type := 25, pos := "law.go:135", after := #[{ on := 31, ground := Ground.guard }], guard := some (31, true) }) (v := ?_) rfl (by kernel_rfl) (by kernel_rfl) (by kernel_rfl) (fun _ _ _ h => h) (Or.inl ⟨by rfl, ?_⟩) (by assumption) ?_
        rotate_left
        · (intro w hSw; (try dsimp only at hSw); go_simp; first | done | with_reducible rfl)
        try simp only [Act.put, List.setIfInBounds_toArray, List.set_cons_zero, List.set_cons_succ]
        refine wpAnyH_take (i := 35) (oi := { dst := some 127, op := Op.load 25 (Operand.tmp 11), type := 25, pos := "law.go:135", after := #[{ on := 31, ground := Ground.guard }], guard := some (31, true) }) (v := ?_) rfl (by kernel_rfl) (by kernel_rfl) (by kernel_rfl) (fun _ _ _ h => h) (Or.inl ⟨by rfl, ?_⟩) (by assumption) ?_
        rotate_left
        · (intro w hSw; (try dsimp only at hSw); go_simp; first | done | with_reducible rfl)
        try simp only [Act.put, List.setIfInBounds_toArray, List.set_cons_zero, List.set_cons_succ]
        refine wpAnyH_ready (rs := [34]) (by kernel_rfl) (by simp) ?_
        refine AllReadyH.cons (o := { dst := some 126, op := Op.call { callee := Callee.value (Operand.func 23), args := #[Operand.tmp 124, Operand.tmp 125], argTypes := #[25, 25] }, type := 4, pos := "law.go:135", after := #[{ on := 32, ground := Ground.data }, { on := 33, ground := Ground.data }, { on := 31, ground := Ground.chain }, { on := 31, ground := Ground.guard }], guard := some (31, true) }) rfl (fun KK hKK => ?_) AllReadyH.nil
        go_simp
        refine (CQ.out _ hz.out).mono ?_
        rintro e w' ⟨rfl, hb⟩
        replace hz := Lib.hid (below_call (w0 := (w10.alloc (.cells #[.int .i64 off6, .slice A6 m6 c6, .int .i64 lo6, .int .i64 hi6, .int .i64 n6] 25))) hz.out hb)
        clear hb
        go_wp2_with fail
        refine hKK.out _ _ ?_ (fun hHeld2 => ?_)
        · exact SIX.out _ hz.out
        clear hKK KK hHeld
        have hHeld := hHeld2
        clear hHeld2
        try simp only [Act.put, List.setIfInBounds_toArray, List.set_cons_zero, List.set_cons_succ]
        refine wpAnyH_ready (rs := [36]) (by kernel_rfl) (by simp) ?_
        refine AllReadyH.cons (o := { dst := some 128, op := Op.call { callee := Callee.value (Operand.func 21), args := #[Operand.tmp 127], argTypes := #[25] }, type := 3, pos := "law.go:135", after := #[{ on := 35, ground := Ground.data }, { on := 34, ground := Ground.chain }, { on := 31, ground := Ground.guard }], guard := some (31, true) }) rfl (fun KK hKK => ?_) AllReadyH.nil
        go_simp
        refine (C4.out _ hz.out).mono ?_
        rintro e w' ⟨rfl, hb⟩
        replace hz := Lib.hid (below_call (w0 := (w10.alloc (.cells #[.int .i64 off6, .slice A6 m6 c6, .int .i64 lo6, .int .i64 hi6, .int .i64 n6] 25))) hz.out hb)
        clear hb
        go_wp2_with fail
        refine hKK.out _ _ ?_ (fun hHeld2 => ?_)
        · exact SIX.out _ hz.out
        clear hKK KK hHeld
        have hHeld := hHeld2
        clear hHeld2
        try simp only [Act.put, List.setIfInBounds_toArray, List.set_cons_zero, List.set_cons_succ]
        refine wpAnyH_take (i := 37) (oi := { dst := some 129, op := Op.binOp BinOp.eql 3 (Operand.tmp 128) (Operand.const (Value.int IntKind.i64 0)) 3, type := 4, pos := "law.go:135", after := #[{ on := 36, ground := Ground.data }, { on := 31, ground := Ground.guard }], guard := some (31, true) }) (v := ?_) rfl (by kernel_rfl) (by kernel_rfl) (by kernel_rfl) (fun _ _ _ h => h) (Or.inl ⟨by rfl, ?_⟩) (by assumption) ?_
        rotate_left
        · (intro w hSw; (try dsimp only at hSw); go_simp; first | done | with_reducible rfl)
        try simp only [Act.put, List.setIfInBounds_toArray, List.set_cons_zero, List.set_cons_succ]
        refine wpAnyH_take (i := 38) (oi := { dst := some 130, op := Op.move (Operand.tmp 129), type := 4, pos := "law.go:135", after := #[{ on := 37, ground := Ground.data }, { on := 36, ground := Ground.chain }, { on := 31, ground := Ground.guard }], guard := some (31, true) }) (v := ?_) rfl (by kernel_rfl) (by kernel_rfl) (by kernel_rfl) (fun _ _ _ h => h) (Or.inl ⟨by rfl, ?_⟩) (by assumption) ?_
        rotate_left
        · (intro w hSw; (try dsimp only at hSw); go_simp; first | done | with_reducible rfl)
        try simp only [Act.put, List.setIfInBounds_toArray, List.set_cons_zero, List.set_cons_succ]
        refine wpAnyH_take (i := 39) (oi := { dst := some 131, op := Op.load 25 (Operand.tmp 15), type := 25, pos := "law.go:135", after := #[{ on := 38, ground := Ground.guard }], guard := some (38, true) }) (v := ?_) rfl (by kernel_rfl) (by kernel_rfl) (by kernel_rfl) (fun _ _ _ h => h) (Or.inl ⟨by rfl, ?_⟩) (by assumption) ?_
        rotate_left
        · (intro w hSw; (try dsimp only at hSw); go_simp; first | done | with_reducible rfl)
        try simp only [Act.put, List.setIfInBounds_toArray, List.set_cons_zero, List.set_cons_succ]
        refine wpAnyH_ready (rs := [40]) (by kernel_rfl) (by simp) ?_
        refine AllReadyH.cons (o := { dst := some 132, op := Op.call { callee := Callee.value (Operand.func 21), args := #[Operand.tmp 131], argTypes := #[25] }, type := 3, pos := "law.go:135", after := #[{ on := 39, ground := Ground.data }, { on := 38, ground := Ground.chain }, { on := 38, ground := Ground.guard }], guard := some (38, true) }) rfl (fun KK hKK => ?_) AllReadyH.nil
        go_simp
        refine (C5.out _ hz.out).mono ?_
        rintro e w' ⟨rfl, hb⟩
        replace hz := Lib.hid (below_call (w0 := (w10.alloc (.cells #[.int .i64 off6, .slice A6 m6 c6, .int .i64 lo6, .int .i64 hi6, .int .i64 n6] 25))) hz.out hb)
        clear hb
        go_wp2_with fail
        refine hKK.out _ _ ?_ (fun hHeld2 => ?_)
        · exact SIX.out _ hz.out
        clear hKK KK hHeld
        have hHeld := hHeld2
        clear hHeld2
        try simp only [Act.put, List.setIfInBounds_toArray, List.set_cons_zero, List.set_cons_succ]
        refine wpAnyH_take (i := 41) (oi := { dst := some 133, op := Op.binOp BinOp.eql 3 (Operand.tmp 132) (Operand.const (Value.int IntKind.i64 0)) 3, type := 4, pos := "law.go:135", after := #[{ on := 40, ground := Ground.data }, { on := 38, ground := Ground.guard }], guard := some (38, true) }) (v := ?_) rfl (by kernel_rfl) (by kernel_rfl) (by kernel_rfl) (fun _ _ _ h => h) (Or.inl ⟨by rfl, ?_⟩) (by assumption) ?_
        rotate_left
        · (intro w hSw; (try dsimp only at hSw); go_simp; first | done | with_reducible rfl)
        try simp only [Act.put, List.setIfInBounds_toArray, List.set_cons_zero, List.set_cons_succ]
        refine wpAnyH_take (i := 42) (oi := { dst := some 134, op := Op.pick (Operand.tmp 130) (Operand.tmp 133) (Operand.const (Value.bool false)), type := 4, pos := "law.go:135", after := #[{ on := 38, ground := Ground.data }, { on := 41, ground := Ground.data }, { on := 31, ground := Ground.guard }], guard := some (31, true) }) (v := ?_) rfl (by kernel_rfl) (by kernel_rfl) (by kernel_rfl) (fun _ _ _ h => h) (Or.inl ⟨by rfl, ?_⟩) (by assumption) ?_
        rotate_left
        · (intro w hSw; (try dsimp only at hSw); go_simp; first | done | with_reducible rfl)
        try simp only [Act.put, List.setIfInBounds_toArray, List.set_cons_zero, List.set_cons_succ]
        refine wpAnyH_take (i := 43) (oi := { dst := some 135, op := Op.binOp BinOp.eql 4 (Operand.tmp 126) (Operand.tmp 134) 4, type := 4, pos := "law.go:135", after := #[{ on := 34, ground := Ground.data }, { on := 42, ground := Ground.data }, { on := 31, ground := Ground.guard }], guard := some (31, true) }) (v := ?_) rfl (by kernel_rfl) (by kernel_rfl) (by kernel_rfl) (fun _ _ _ h => h) (Or.inl ⟨by rfl, ?_⟩) (by assumption) ?_
        rotate_left
        · (intro w hSw; (try dsimp only at hSw); go_simp; first | done | with_reducible rfl)
        try simp only [Act.put, List.setIfInBounds_toArray, List.set_cons_zero, List.set_cons_succ]
        refine wpAnyH_take (i := 44) (oi := { dst := some 136, op := Op.pick (Operand.tmp 123) (Operand.tmp 135) (Operand.const (Value.bool false)), type := 4, pos := "law.go:135", after := #[{ on := 31, ground := Ground.data }, { on := 43, ground := Ground.data }], guard := none }) (v := ?_) rfl (by kernel_rfl) (by kernel_rfl) (by kernel_rfl) (fun _ _ _ h => h) (Or.inl ⟨by rfl, ?_⟩) (by assumption) ?_
        rotate_left
        · (intro w hSw; (try dsimp only at hSw); go_simp; first | done | with_reducible rfl)
        try simp only [Act.put, List.setIfInBounds_toArray, List.set_cons_zero, List.set_cons_succ]
        refine wpAnyH_take (i := 45) (oi := { dst := some 137, op := Op.move (Operand.tmp 136), type := 4, pos := "law.go:135", after := #[{ on := 44, ground := Ground.data }, { on := 40, ground := Ground.chain }], guard := none }) (v := ?_) rfl (by kernel_rfl) (by kernel_rfl) (by kernel_rfl) (fun _ _ _ h => h) (Or.inl ⟨by rfl, ?_⟩) (by assumption) ?_
        rotate_left
        · (intro w hSw; (try dsimp only at hSw); go_simp; first | done | with_reducible rfl)
        try simp only [Act.put, List.setIfInBounds_toArray, List.set_cons_zero, List.set_cons_succ]
        refine wpAnyH_take (i := 46) (oi := { dst := some 138, op := Op.load 25 (Operand.tmp 7), type := 25, pos := "law.go:135", after := #[{ on := 45, ground := Ground.guard }], guard := some (45, true) }) (v := ?_) rfl (by kernel_rfl) (by kernel_rfl) (by kernel_rfl) (fun _ _ _ h => h) (Or.inl ⟨by rfl, ?_⟩) (by assumption) ?_
        rotate_left
        · (intro w hSw; (try dsimp only at hSw); go_simp; first | done | with_reducible rfl)
        try simp only [Act.put, List.setIfInBounds_toArray, List.set_cons_zero, List.set_cons_succ]
        refine wpAnyH_take (i := 47) (oi := { dst := some 139, op := Op.load 25 (Operand.tmp 5), type := 25, pos := "law.go:135", after := #[{ on := 45, ground := Ground.guard }], guard := some (45, true) }) (v := ?_) rfl (by kernel_rfl) (by kernel_rfl) (by kernel_rfl) (fun _ _ _ h => h) (Or.inl ⟨by rfl, ?_⟩) (by assumption) ?_
        rotate_left
        · (intro w hSw; (try dsimp only at hSw); go_simp; first | done | with_reducible rfl)
        try simp only [Act.put, List.setIfInBounds_toArray, List.set_cons_zero, List.set_cons_succ]
        refine wpAnyH_take (i := 49) (oi := { dst := some 141, op := Op.load 25 (Operand.tmp 5), type := 25, pos := "law.go:135", after := #[{ on := 45, ground := Ground.guard }], guard := some (45, true) }) (v := ?_) rfl (by kernel_rfl) (by kernel_rfl) (by kernel_rfl) (fun _ _ _ h => h) (Or.inl ⟨by rfl, ?_⟩) (by assumption) ?_
        rotate_left
        · (intro w hSw; (try dsimp only at hSw); go_simp; first | done | with_reducible rfl)
        try simp only [Act.put, List.setIfInBounds_toArray, List.set_cons_zero, List.set_cons_succ]
        refine wpAnyH_take (i := 50) (oi := { dst := some 142, op := Op.load 25 (Operand.tmp 7), type := 25, pos := "law.go:135", after := #[{ on := 45, ground := Ground.guard }], guard := some (45, true) }) (v := ?_) rfl (by kernel_rfl) (by kernel_rfl) (by kernel_rfl) (fun _ _ _ h => h) (Or.inl ⟨by rfl, ?_⟩) (by assumption) ?_
        rotate_left
        · (intro w hSw; (try dsimp only at hSw); go_simp; first | done | with_reducible rfl)
        try simp only [Act.put, List.setIfInBounds_toArray, List.set_cons_zero, List.set_cons_succ]
        refine wpAnyH_ready (rs := [48]) (by kernel_rfl) (by simp) ?_
        refine AllReadyH.cons (o := { dst := some 140, op := Op.call { callee := Callee.value (Operand.func 23), args := #[Operand.tmp 138, Operand.tmp 139], argTypes := #[25, 25] }, type := 4, pos := "law.go:135", after := #[{ on := 46, ground := Ground.data }, { on := 47, ground := Ground.data }, { on := 45, ground := Ground.chain }, { on := 45, ground := Ground.guard }], guard := some (45, true) }) rfl (fun KK hKK => ?_) AllReadyH.nil
        go_simp
        refine (CP.out _ hz.out).mono ?_
        rintro e w' ⟨rfl, hb⟩
        replace hz := Lib.hid (below_call (w0 := (w10.alloc (.cells #[.int .i64 off6, .slice A6 m6 c6, .int .i64 lo6, .int .i64 hi6, .int .i64 n6] 25))) hz.out hb)
        clear hb
        go_wp2_with fail
        refine hKK.out _ _ ?_ (fun hHeld2 => ?_)
        · exact SIX.out _ hz.out
        clear hKK KK hHeld
        have hHeld := hHeld2
        clear hHeld2
        try simp only [Act.put, List.setIfInBounds_toArray, List.set_cons_zero, List.set_cons_succ]
        refine wpAnyH_ready (rs := [51]) (by kernel_rfl) (by simp) ?_
        refine AllReadyH.cons (o := { dst := some 143, op := Op.call { callee := Callee.value (Operand.func 23), args := #[Operand.tmp 141, Operand.tmp 142], argTypes := #[25, 25] }, type := 4, pos := "law.go:135", after := #[{ on := 49, ground := Ground.data }, { on := 50, ground := Ground.data }, { on := 48, ground := Ground.chain }, { on := 45, ground := Ground.guard }], guard := some (45, true) }) rfl (fun KK hKK => ?_) AllReadyH.nil
        go_simp
        refine (CQ.out _ hz.out).mono ?_
        rintro e w' ⟨rfl, hb⟩
        replace hz := Lib.hid (below_call (w0 := (w10.alloc (.cells #[.int .i64 off6, .slice A6 m6 c6, .int .i64 lo6, .int .i64 hi6, .int .i64 n6] 25))) hz.out hb)
        clear hb
        go_wp2_with fail
        refine hKK.out _ _ ?_ (fun hHeld2 => ?_)
        · exact SIX.out _ hz.out
        clear hKK KK hHeld
        have hHeld := hHeld2
        clear hHeld2
        try simp only [Act.put, List.setIfInBounds_toArray, List.set_cons_zero, List.set_cons_succ]
        refine wpAnyH_take (i := 52) (oi := { dst := some 144, op := Op.binOp BinOp.eql 4 (Operand.tmp 140) (Operand.tmp 143) 4, type := 4, pos := "law.go:135", after := #[{ on := 48, ground := Ground.data }, { on := 51, ground := Ground.data }, { on := 45, ground := Ground.guard }], guard := some (45, true) }) (v := ?_) rfl (by kernel_rfl) (by kernel_rfl) (by kernel_rfl) (fun _ _ _ h => h) (Or.inl ⟨by rfl, ?_⟩) (by assumption) ?_
        rotate_left
        · (intro w hSw; (try dsimp only at hSw); go_simp; first | done | with_reducible rfl)
        try simp only [Act.put, List.setIfInBounds_toArray, List.set_cons_zero, List.set_cons_succ]
        refine wpAnyH_take (i := 53) (oi := { dst := some 145, op := Op.pick (Operand.tmp 137) (Operand.tmp 144) (Operand.const (Value.bool false)), type := 4, pos := "law.go:135", after := #[{ on := 45, ground := Ground.data }, { on := 52, ground := Ground.data }], guard := none }) (v := ?_) rfl (by kernel_rfl) (by kernel_rfl) (by kernel_rfl) (fun _ _ _ h => h) (Or.inl ⟨by rfl, ?_⟩) (by assumption) ?_
        rotate_left
        · (intro w hSw; (try dsimp only at hSw); go_simp; first | done | with_reducible rfl)
        try simp only [Act.put, List.setIfInBounds_toArray, List.set_cons_zero, List.set_cons_succ]
        refine wpAnyH_take (i := 54) (oi := { dst := some 4, op := Op.assign (Operand.tmp 145), type := 4, pos := "law.go:135", after := #[{ on := 53, ground := Ground.data }, { on := 51, ground := Ground.chain }, { on := 0, ground := Ground.phase }, { on := 1, ground := Ground.phase }, { on := 2, ground := Ground.phase }, { on := 3, ground := Ground.phase }, { on := 4, ground := Ground.phase }, { on := 5, ground := Ground.phase }, { on := 6, ground := Ground.phase }, { on := 7, ground := Ground.phase }, { on := 8, ground := Ground.phase }, { on := 9, ground := Ground.phase }, { on := 10, ground := Ground.phase }, { on := 11, ground := Ground.phase }, { on := 12, ground := Ground.phase }, { on := 13, ground := Ground.phase }, { on := 14, ground := Ground.phase }, { on := 15, ground := Ground.phase }, { on := 16, ground := Ground.phase }, { on := 17, ground := Ground.phase }, { on := 18, ground := Ground.phase }, { on := 19, ground := Ground.phase }, { on := 20, ground := Ground.phase }, { on := 21, ground := Ground.phase }, { on := 22, ground := Ground.phase }, { on := 23, ground := Ground.phase }, { on := 24, ground := Ground.phase }, { on := 25, ground := Ground.phase }, { on := 26, ground := Ground.phase }, { on := 27, ground := Ground.phase }, { on := 28, ground := Ground.phase }, { on := 29, ground := Ground.phase }, { on := 30, ground := Ground.phase }, { on := 31, ground := Ground.phase }, { on := 32, ground := Ground.phase }, { on := 33, ground := Ground.phase }, { on := 34, ground := Ground.phase }, { on := 35, ground := Ground.phase }, { on := 36, ground := Ground.phase }, { on := 37, ground := Ground.phase }, { on := 38, ground := Ground.phase }, { on := 39, ground := Ground.phase }, { on := 40, ground := Ground.phase }, { on := 41, ground := Ground.phase }, { on := 42, ground := Ground.phase }, { on := 43, ground := Ground.phase }, { on := 44, ground := Ground.phase }, { on := 45, ground := Ground.phase }, { on := 46, ground := Ground.phase }, { on := 47, ground := Ground.phase }, { on := 48, ground := Ground.phase }, { on := 49, ground := Ground.phase }, { on := 50, ground := Ground.phase }, { on := 51, ground := Ground.phase }, { on := 52, ground := Ground.phase }, { on := 53, ground := Ground.phase }], guard := none }) (v := ?_) rfl (by kernel_rfl) (by kernel_rfl) (by kernel_rfl) (fun _ _ _ h => h) (Or.inl ⟨by rfl, ?_⟩) (by assumption) ?_
        rotate_left
        · (intro w hSw; (try dsimp only at hSw); go_simp; first | done | with_reducible rfl)
        try simp only [Act.put, List.setIfInBounds_toArray, List.set_cons_zero, List.set_cons_succ]
        refine wpAnyH_done (by kernel_rfl) ?_ _
        go_wp2_with fail
        go_ret
        exact ⟨rfl, below_call (w0 := w) (below_alloc BEL.out _) hz.out⟩
      · exact absurd HWAY.out (by omega)
end Go.Proofs.YtdbjljbkneopcaaDoor
