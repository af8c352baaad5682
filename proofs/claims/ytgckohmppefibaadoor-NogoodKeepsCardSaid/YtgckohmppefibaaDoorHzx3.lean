-- Printed by wip/tools/hp.sh (functions of the translation, out of Lean's print of them).
import Derived.Test.YtgckohmppefibaaDoorHzx0
import Derived.Test.YtgckohmppefibaaDoorShort
import Derived.Test.YtgckohmppefibaaDoorHzx1
import Derived.Test.YtgckohmppefibaaDoorHzx2
namespace Go.Proofs.YtgckohmppefibaaDoorX.Hz
open Go.RowKit Go.Proofs.YtgckohmppefibaaDoorW.PrintWords Go.Proofs.YtgckohmppefibaaDoorW.PrintLast Go.Proofs.YtgckohmppefibaaDoorW.PrintMore
attribute [local go_sem] max2_int min2_int max_two min_two max_three min_three max_four min_four   -- for this text's walks alone
set_option linter.unusedVariables false
set_option linter.unusedSimpArgs false
attribute [local go_sem] Go.Proofs.YtgckohmppefibaaDoor.Hook.cell_two

/-! ### nogood_open: function 72 -/
mutual
def nogood_open.l0 : Nat → List (S62) → Int → List (S29) → Int → Int → Int → Int → Option (Int × Int × Int)
 | 0, _, _, _, _, _, _, _ => none
 | k + 1, x1, x7, x10, x11, x12, x126000, x126001 => if x12 < x11 then (if 0 ≤ x12 then (if x12 < (x10.length : Int) then (if ((rd_T29 x10 x12).f0) < 0 then (nogood_open.j1 k x1 x7 x10 x11 x12 true x126000 x126001 ((rd_T29 x10 x12).f0) ((rd_T29 x10 x12).f1)) else (if ((rd_T29 x10 x12).f0) ≥ (x1.length : Int) then (nogood_open.j1 k x1 x7 x10 x11 x12 true x126000 x126001 ((rd_T29 x10 x12).f0) ((rd_T29 x10 x12).f1)) else (if 0 ≤ ((rd_T29 x10 x12).f0) then (if ((rd_T29 x10 x12).f0) < (x1.length : Int) then ((dom_Dom_Has.f ((rd_T62 x1 ((rd_T29 x10 x12).f0)).f0) ((rd_T62 x1 ((rd_T29 x10 x12).f0)).f1) ((rd_T62 x1 ((rd_T29 x10 x12).f0)).f2) ((rd_T62 x1 ((rd_T29 x10 x12).f0)).f3) ((rd_T62 x1 ((rd_T29 x10 x12).f0)).f4) ((rd_T29 x10 x12).f1)).bind fun t129 => (nogood_open.j1 k x1 x7 x10 x11 x12 (!t129) x126000 x126001 ((rd_T29 x10 x12).f0) ((rd_T29 x10 x12).f1))) else (none)) else (none)))) else (none)) else (none)) else (some (x126000, x126001, mn x7 2))
def nogood_open.j1 : Nat → List (S62) → Int → List (S29) → Int → Int → Bool → Int → Int → Int → Int → Option (Int × Int × Int)
 | 0, _, _, _, _, _, _, _, _, _, _ => none
 | k + 1, x1, x7, x10, x11, x12, x36, x126000, x126001, x128000, x128001 => if x36 = true then (some (0, 0, 2)) else (if 0 ≤ x128000 then (if x128000 < (x1.length : Int) then ((dom_Dom_Size.f ((rd_T62 x1 x128000).f0) ((rd_T62 x1 x128000).f1) ((rd_T62 x1 x128000).f2) ((rd_T62 x1 x128000).f3) ((rd_T62 x1 x128000).f4)).bind fun t131 => (if t131 > 1 then (nogood_open.l0 k x1 (wrap64 (x7 + 1)) x10 x11 (wrap64 (x12 + 1)) x128000 x128001) else (nogood_open.l0 k x1 x7 x10 x11 (wrap64 (x12 + 1)) x126000 x126001))) else (none)) else (none))
end
def nogood_open.f (k : Nat) (l0 : List (S29)) (l1 : List (S62)) : Option (Int × Int × Int) := nogood_open.l0 k l1 0 l0 (l0.length : Int) 0 0 0
theorem nogood_open.mono_l : ∀ k, (∀ y0 y1 y2 y3 y4 y5 y6, LeO (nogood_open.l0 k y0 y1 y2 y3 y4 y5 y6) (nogood_open.l0 (k + 1) y0 y1 y2 y3 y4 y5 y6)) ∧ (∀ y0 y1 y2 y3 y4 y5 y6 y7 y8 y9, LeO (nogood_open.j1 k y0 y1 y2 y3 y4 y5 y6 y7 y8 y9) (nogood_open.j1 (k + 1) y0 y1 y2 y3 y4 y5 y6 y7 y8 y9))
 | 0 => ⟨fun _ _ _ _ _ _ _ r h => by simp [nogood_open.l0] at h, fun _ _ _ _ _ _ _ _ _ _ r h => by simp [nogood_open.j1] at h⟩
 | k + 1 => by
  obtain ⟨ih0, ih1⟩ := nogood_open.mono_l k
  refine ⟨?_, ?_⟩
  ·intro y0 y1 y2 y3 y4 y5 y6
   unfold nogood_open.l0
   repeat' first
   | (with_reducible exact ih0 _ _ _ _ _ _ _)
   | (with_reducible exact ih1 _ _ _ _ _ _ _ _ _ _)
   | (with_reducible exact LeO.refl _)
   | (with_reducible exact LeO.none _)
   | (with_reducible refine LeO.ite ?_ ?_)
   | (with_reducible refine LeO.bind ?_ (fun _ => ?_))
   | exact ih0 _ _ _ _ _ _ _
   | exact ih1 _ _ _ _ _ _ _ _ _ _
   | exact LeO.none _
   | refine LeO.ite ?_ ?_
   | refine LeO.bind ?_ (fun _ => ?_)
  ·intro y0 y1 y2 y3 y4 y5 y6 y7 y8 y9
   unfold nogood_open.j1
   repeat' first
   | (with_reducible exact ih0 _ _ _ _ _ _ _)
   | (with_reducible exact ih1 _ _ _ _ _ _ _ _ _ _)
   | (with_reducible exact LeO.refl _)
   | (with_reducible exact LeO.none _)
   | (with_reducible refine LeO.ite ?_ ?_)
   | (with_reducible refine LeO.bind ?_ (fun _ => ?_))
   | exact ih0 _ _ _ _ _ _ _
   | exact ih1 _ _ _ _ _ _ _ _ _ _
   | exact LeO.none _
   | refine LeO.ite ?_ ?_
   | refine LeO.bind ?_ (fun _ => ?_)
theorem nogood_open.mono : ∀ a0 a1 k, LeO (nogood_open.f k a0 a1) (nogood_open.f (k + 1) a0 a1) := by
 intro a0 a1 k
 obtain ⟨ih0, ih1⟩ := nogood_open.mono_l k
 unfold nogood_open.f
 repeat' first
   | (with_reducible exact ih0 _ _ _ _ _ _ _)
   | (with_reducible exact ih1 _ _ _ _ _ _ _ _ _ _)
   | (with_reducible exact LeO.refl _)
   | (with_reducible exact LeO.none _)
   | (with_reducible refine LeO.ite ?_ ?_)
   | (with_reducible refine LeO.bind ?_ (fun _ => ?_))
   | exact ih0 _ _ _ _ _ _ _
   | exact ih1 _ _ _ _ _ _ _ _ _ _
   | exact LeO.none _
   | refine LeO.ite ?_ ?_
   | refine LeO.bind ?_ (fun _ => ?_)
def nogood_open.T6 : Bool × List (List Nat × List Nat) := (true, [([], []), ([0], [0]), ([1], [1]), ([2], [2]), ([3], [3]), ([4, 3], [3, 4]), ([3], [3]), ([6, 3], [3, 6]), ([5, 7, 3], [3, 5, 7]), ([3, 8], [3, 8]), ([9, 3], [9]), ([10], [10]), ([10], [10]), ([12, 10], [10, 12]), ([11, 13, 10], [10, 11, 13]), ([14, 10], [10, 14]), ([10], [10]), ([16, 10], [10, 16]), ([15, 17, 10, 10], [10, 15, 17]), ([18, 10], [10, 18]), ([10, 19], [10, 19])])
def nogood_open.B6 : List Nat := [0, 1, 3, 7, 15, 31, 15, 79, 255, 511, 1023, 2047, 2047, 6143, 16383, 32767, 2047, 67583, 262143, 524287, 1048575]
theorem nogood_open.tab6 : rtab .any (opsOf Tryd.f72 6) = nogood_open.T6 := by kernel_rfl
theorem nogood_open.bits6 : waitsOk nogood_open.T6.2 nogood_open.B6 = true := by kernel_rfl
set_option maxHeartbeats 8000000 in
set_option maxRecDepth 100000 in
theorem nogood_open.calls (k : Nat) (A0 : Option Addr) (c0 : Nat) (l0 : List (S29)) (A1 : Option Addr) (c1 : Nat) (l1 : List (S62)) (r1 : Int) (r2 : Int) (r3 : Int) (w : World) (hr0 : Kd.C k29 w A0 l0.length l0) (hc0 : l0.length ≤ c0) (hr1 : Kd.C k62 w A1 l1.length l1) (hc1 : l1.length ≤ c1) (h : nogood_open.f k l0 l1 = some (r1, r2, r3)) :
  Calls Tryd.prog 72 #[.slice A0 l0.length c0, .slice A1 l1.length c1] w fun e w' => e = .returned (.tuple #[.agg #[.int .i64 r1, .int .i64 r2], .int .i64 r3]) ∧ Below w.heap.size w w' := by
 have hu29 := Tryd.underlying29
 have hu62 := Tryd.underlying62
 have HR0 := Aside0.mk hr0
 have HC0 := Aside0.mk hc0
 clear hr0 hc0
 have HR1 := Aside0.mk hr1
 have HC1 := Aside0.mk hc1
 clear hr1 hc1
 have HB := Aside0.mk (Below.refl w.heap.size w)
 have H : (nogood_open.l0 k l1 0 l0 (l0.length : Int) 0 0 0) = some (r1, r2, r3) := h
 clear h
 have H' := Aside0.mk H
 clear H
 go_enter Tryd.func72, Tryd.ntmps72
 go_wp2_with (first | ((with_reducible refine gate_dst (N := 4) rfl ?_); refine box_event ?hg (N := 4) ?hd (cs := #[.int .i64 0, .int .i64 0]) (t := 29) ?hr ?_; (case hd => rfl); (case hg => rfl); (case hr => first | (go_simp; done) | (go_simp; rfl)); intro gb124 hg w3 hbox hb; have n0_ := Aside0.mk (below_step (by repeat (first | (with_reducible first | exact HB.out | apply below_alloc | apply pw_below_drewN | apply below_drew1) | exact HB.out)) hb); have n1_ := Aside0.mk (hbox); have n2_ := Aside0.mk ((by rw [hg]; exact (below_size (by repeat (first | (with_reducible first | exact HB.out | apply below_alloc | apply pw_below_drewN | apply below_drew1) | exact HB.out))) : w.heap.size ≤ gb124)); have n3_ := Aside0.mk ((by rw [hg]; exact (below_size (by repeat (first | (with_reducible first | exact HB.out | apply below_alloc | apply pw_below_drewN | apply below_drew1) | exact HB.out))) : w.heap.size ≤ gb124)); clear HB; have HB := n0_; have BK124 := n1_; have GW124 := n2_; have GE124 := n3_; clear n0_ n1_ n2_ n3_; clear hb hbox hg) | ((with_reducible refine gate_dst (N := 6) rfl ?_); refine box_event ?hg (N := 6) ?hd (cs := #[.int .i64 0, .int .i64 0]) (t := 29) ?hr ?_; (case hd => rfl); (case hg => rfl); (case hr => first | (go_simp; done) | (go_simp; rfl)); intro gb125 hg w4 hbox hb; have n0_ := Aside0.mk (blk_below (g := gb124) (o := .cells #[.int .i64 0, .int .i64 0] 29 (0, 0)) (by (with_reducible repeat (first | refine blk_drewN ?_ _ | refine blk_drew ?_ | refine blk_alloc ?_ _)); exact BK124.out) hb); have n1_ := Aside0.mk (below_step (by repeat (first | (with_reducible first | exact HB.out | apply below_alloc | apply pw_below_drewN | apply below_drew1 | refine below_set ?_ GE124.out) | exact HB.out)) hb); have n2_ := Aside0.mk (hbox); have n3_ := Aside0.mk ((by rw [hg]; exact (below_size (by repeat (first | (with_reducible first | exact HB.out | apply below_alloc | apply pw_below_drewN | apply below_drew1 | refine below_set ?_ GE124.out) | exact HB.out))) : w.heap.size ≤ gb125)); have n4_ := Aside0.mk ((by rw [hg]; exact (below_size (by repeat (first | (with_reducible first | exact HB.out | apply below_alloc | apply pw_below_drewN | apply below_drew1 | refine below_set ?_ GE124.out) | exact HB.out))) : w.heap.size ≤ gb125)); have n5_ := Aside0.mk ((by rw [hg]; exact Nat.ne_of_lt (blk_lt (g := gb124) (o := .cells #[.int .i64 0, .int .i64 0] 29 (0, 0)) (by (with_reducible repeat (first | refine blk_drewN ?_ _ | refine blk_drew ?_ | refine blk_alloc ?_ _)); exact BK124.out)) : gb124 ≠ gb125)); have n6_ := Aside0.mk ((by rw [hg]; exact Nat.ne_of_gt (blk_lt (g := gb124) (o := .cells #[.int .i64 0, .int .i64 0] 29 (0, 0)) (by (with_reducible repeat (first | refine blk_drewN ?_ _ | refine blk_drew ?_ | refine blk_alloc ?_ _)); exact BK124.out)) : gb125 ≠ gb124)); clear BK124; clear HB; have BK124 := n0_; have HB := n1_; have BK125 := n2_; have GW125 := n3_; have GE125 := n4_; have NB124_125 := n5_; have NB125_124 := n6_; clear n0_ n1_ n2_ n3_ n4_ n5_ n6_; clear hb hbox hg))
 go_loopg [7, 12] k (fun kq v7 v12 w' => ∃ (x7_1 : Int) (x12_1 : Int) (x125000_1 : Int) (x125001_1 : Int) (x126000_1 : Int) (x126001_1 : Int), v7 = .int .i64 x7_1 ∧ v12 = .int .i64 x12_1 ∧ Aside0 (nogood_open.l0 kq l1 x7_1 l0 (l0.length : Int) x12_1 x126000_1 x126001_1 = some (r1, r2, r3)) ∧ Aside0 (kq ≤ k) ∧ Aside0 (w'.heap[gb124]? = some (.cells #[.int .i64 x125000_1, .int .i64 x125001_1] 29 (0, 0))) ∧ Aside0 (w'.heap[gb125]? = some (.cells #[.int .i64 x126000_1, .int .i64 x126001_1] 29 (0, 0))) ∧ Aside0 (Below w.heap.size w w'))
 case atStart => exact ⟨(0), (0), (0), (0), (0), (0), (by first | rfl | (simp; done) | (simp [*]; done)), (by first | rfl | (simp; done) | (simp [*]; done)), H', ⟨Nat.le_refl _⟩, ⟨by (with_reducible repeat (first | refine blk_drewN ?_ _ | refine blk_drew ?_ | refine blk_alloc ?_ _)); exact BK124.out⟩, ⟨by (with_reducible repeat (first | refine blk_drewN ?_ _ | refine blk_drew ?_ | refine blk_alloc ?_ _)); exact BK125.out⟩, ⟨by repeat (first | (with_reducible first | exact HB.out | apply below_alloc | apply pw_below_drewN | apply below_drew1 | refine below_set ?_ GE124.out | refine below_set ?_ GE125.out) | exact HB.out)⟩⟩
 case round =>
  clear H'
  try clear c1
  try clear p2
  obtain ⟨x7_1, x12_1, x125000_1, x125001_1, x126000_1, x126001_1, rfl, rfl, HA, HK1, BK124, BK125, HB⟩ := hrel
  cases gk with
  | zero => exact absurd HA.out (by simp [nogood_open.l0])
  | succ k1 =>
   have H := HA.out
   clear HA
   simp only [nogood_open.l0] at H
   by_cases c5 : x12_1 < (l0.length : Int)
   ·rw [if_pos c5] at H
    have c5b0 : decide (x12_1 < (l0.length : Int)) = true := decide_eq_true c5
    clear c5
    by_cases c6 : 0 ≤ x12_1
    ·rw [if_pos c6] at H
     have c6b0 : decide (0 ≤ x12_1) = true := decide_eq_true c6
     clear c6
     by_cases c7 : x12_1 < (l0.length : Int)
     ·rw [if_pos c7] at H
      have c7b0 : decide (x12_1 < (l0.length : Int)) = true := decide_eq_true c7
      clear c7
      have HC8 := Aside0.mk H
      clear H
      have p126 : 0 ≤ (x12_1 : Int) := of_decide_eq_true (by first | (with_reducible assumption) | assumption)
      have q126 : x12_1 < (l0.length : Int) := of_decide_eq_true (by first | (with_reducible assumption) | assumption)
      obtain ⟨ad126, e126, hx126_0, hx126_1⟩ := at_T29 HR0.out x12_1 p126 q126
      cases e126
      replace hx126_0 := (HB.out.cell (World.block_lt_of_cell? w _ hx126_0)).trans hx126_0
      replace hx126_1 := (HB.out.cell (World.block_lt_of_cell? w _ hx126_1)).trans hx126_1
      replace p126 := eq_true p126
      replace q126 := eq_true q126
      go_upto_region 6 with (first | ((with_reducible refine gate_dst (N := 9) rfl ?_); refine box_event ?hg (N := 9) ?hd (cs := #[.int .i64 0, .int .i64 0]) (t := 29) ?hr ?_; (case hd => rfl); (case hg => rfl); (case hr => first | (go_simp; done) | (go_simp; rfl)); intro gb127 hg w9 hbox hb; have n0_ := Aside0.mk (blk_below (g := gb124) (o := .cells #[.int .i64 x125000_1, .int .i64 x125001_1] 29 (0, 0)) (by (with_reducible repeat (first | refine blk_drewN ?_ _ | refine blk_drew ?_ | refine blk_alloc ?_ _)); exact BK124.out) hb); have n1_ := Aside0.mk (blk_below (g := gb125) (o := .cells #[.int .i64 x126000_1, .int .i64 x126001_1] 29 (0, 0)) (by (with_reducible repeat (first | refine blk_drewN ?_ _ | refine blk_drew ?_ | refine blk_alloc ?_ _)); exact BK125.out) hb); have n2_ := Aside0.mk (below_step (by repeat (first | (with_reducible first | exact HB.out | apply below_alloc | apply pw_below_drewN | apply below_drew1 | refine below_set ?_ GE124.out | refine below_set ?_ GE125.out) | exact HB.out)) hb); have n3_ := Aside0.mk (hbox); have n4_ := Aside0.mk ((by rw [hg]; exact (below_size (by repeat (first | (with_reducible first | exact HB.out | apply below_alloc | apply pw_below_drewN | apply below_drew1 | refine below_set ?_ GE124.out | refine below_set ?_ GE125.out) | exact HB.out))) : w.heap.size ≤ gb127)); have n5_ := Aside0.mk ((by rw [hg]; exact (below_size (by repeat (first | (with_reducible first | exact HB.out | apply below_alloc | apply pw_below_drewN | apply below_drew1 | refine below_set ?_ GE124.out | refine below_set ?_ GE125.out) | exact HB.out))) : w.heap.size ≤ gb127)); have n6_ := Aside0.mk ((by rw [hg]; exact Nat.ne_of_lt (blk_lt (g := gb124) (o := .cells #[.int .i64 x125000_1, .int .i64 x125001_1] 29 (0, 0)) (by (with_reducible repeat (first | refine blk_drewN ?_ _ | refine blk_drew ?_ | refine blk_alloc ?_ _)); exact BK124.out)) : gb124 ≠ gb127)); have n7_ := Aside0.mk ((by rw [hg]; exact Nat.ne_of_gt (blk_lt (g := gb124) (o := .cells #[.int .i64 x125000_1, .int .i64 x125001_1] 29 (0, 0)) (by (with_reducible repeat (first | refine blk_drewN ?_ _ | refine blk_drew ?_ | refine blk_alloc ?_ _)); exact BK124.out)) : gb127 ≠ gb124)); have n8_ := Aside0.mk ((by rw [hg]; exact Nat.ne_of_lt (blk_lt (g := gb125) (o := .cells #[.int .i64 x126000_1, .int .i64 x126001_1] 29 (0, 0)) (by (with_reducible repeat (first | refine blk_drewN ?_ _ | refine blk_drew ?_ | refine blk_alloc ?_ _)); exact BK125.out)) : gb125 ≠ gb127)); have n9_ := Aside0.mk ((by rw [hg]; exact Nat.ne_of_gt (blk_lt (g := gb125) (o := .cells #[.int .i64 x126000_1, .int .i64 x126001_1] 29 (0, 0)) (by (with_reducible repeat (first | refine blk_drewN ?_ _ | refine blk_drew ?_ | refine blk_alloc ?_ _)); exact BK125.out)) : gb127 ≠ gb125)); clear BK124; clear BK125; clear HB; have BK124 := n0_; have BK125 := n1_; have HB := n2_; have BK127 := n3_; have GW127 := n4_; have GE127 := n5_; have NB124_127 := n6_; have NB127_124 := n7_; have NB125_127 := n8_; have NB127_125 := n9_; clear n0_ n1_ n2_ n3_ n4_ n5_ n6_ n7_ n8_ n9_; clear hb hbox hg; have hnb10 := NB127_124.out; have hnc10 := NB124_127.out; have hnb11 := NB127_125.out; have hnc11 := NB125_127.out; have hcz12_0 : w9.cell? ⟨gb127, 0, none⟩ = some (.int .i64 0) := (blk_cell BK127.out 0).trans rfl; have hcz12_1 : w9.cell? ⟨gb127, 1, none⟩ = some (.int .i64 0) := (blk_cell BK127.out 1).trans rfl; have hfz12_0 := blk_frozen BK127.out 0; have hfz12_1 := blk_frozen BK127.out 1))
      (try simp only [Act.put, List.setIfInBounds_toArray, List.set_cons_zero, List.set_cons_succ])
      go_cut [36] (fun v36 wc => ∃ (kq : Nat) (x36_7 : Bool), v36 = .bool x36_7 ∧ Aside0 (nogood_open.j1 kq l1 x7_1 l0 (l0.length : Int) x12_1 x36_7 x126000_1 x126001_1 ((rd_T29 l0 x12_1).f0) ((rd_T29 l0 x12_1).f1) = some (r1, r2, r3)) ∧ Aside0 (kq ≤ k1) ∧ Aside0 (wc.heap[gb124]? = some (.cells #[.int .i64 x125000_1, .int .i64 x125001_1] 29 (0, 0))) ∧ Aside0 (wc.heap[gb125]? = some (.cells #[.int .i64 x126000_1, .int .i64 x126001_1] 29 (0, 0))) ∧ Aside0 (wc.heap[gb127]? = some (.cells #[.int .i64 ((rd_T29 l0 x12_1).f0), .int .i64 ((rd_T29 l0 x12_1).f1)] 29 (0, 0))) ∧ Aside0 (Below w.heap.size w wc))
      case first =>
       have H := HC8.out
       clear HC8
       by_cases c13 : ((rd_T29 l0 x12_1).f0) < 0
       ·rw [if_pos c13] at H
        have c13b0 : decide (((rd_T29 l0 x12_1).f0) < 0) = true := decide_eq_true c13
        clear c13
        (first | rw [c13b0] | (simp only [i64_w, i32_w]; rw [c13b0]) | skip)
        have H' := Aside0.mk H
        clear H
        try go_wp2
        have n0_ : Aside0 (((w9.setCell ⟨gb127, 0, none⟩ (.int .i64 ((rd_T29 l0 x12_1).f0))).setCell ⟨gb127, 1, none⟩ (.int .i64 ((rd_T29 l0 x12_1).f1))).heap[gb124]? = some (.cells #[.int .i64 x125000_1, .int .i64 x125001_1] 29 (0, 0))) := ⟨by (with_reducible repeat (first | refine blk_drewN ?_ _ | refine blk_drew ?_ | refine blk_alloc ?_ _)); refine blk_far ?_ NB124_127.out _; (with_reducible repeat (first | refine blk_drewN ?_ _ | refine blk_drew ?_ | refine blk_alloc ?_ _)); refine blk_far ?_ NB124_127.out _; (with_reducible repeat (first | refine blk_drewN ?_ _ | refine blk_drew ?_ | refine blk_alloc ?_ _)); exact BK124.out⟩
        have n1_ : Aside0 (((w9.setCell ⟨gb127, 0, none⟩ (.int .i64 ((rd_T29 l0 x12_1).f0))).setCell ⟨gb127, 1, none⟩ (.int .i64 ((rd_T29 l0 x12_1).f1))).heap[gb125]? = some (.cells #[.int .i64 x126000_1, .int .i64 x126001_1] 29 (0, 0))) := ⟨by (with_reducible repeat (first | refine blk_drewN ?_ _ | refine blk_drew ?_ | refine blk_alloc ?_ _)); refine blk_far ?_ NB125_127.out _; (with_reducible repeat (first | refine blk_drewN ?_ _ | refine blk_drew ?_ | refine blk_alloc ?_ _)); refine blk_far ?_ NB125_127.out _; (with_reducible repeat (first | refine blk_drewN ?_ _ | refine blk_drew ?_ | refine blk_alloc ?_ _)); exact BK125.out⟩
        have n2_ : Aside0 (((w9.setCell ⟨gb127, 0, none⟩ (.int .i64 ((rd_T29 l0 x12_1).f0))).setCell ⟨gb127, 1, none⟩ (.int .i64 ((rd_T29 l0 x12_1).f1))).heap[gb127]? = some (.cells #[.int .i64 ((rd_T29 l0 x12_1).f0), .int .i64 ((rd_T29 l0 x12_1).f1)] 29 (0, 0))) := ⟨by (with_reducible repeat (first | refine blk_drewN ?_ _ | refine blk_drew ?_ | refine blk_alloc ?_ _)); refine blk_put (cs := #[.int .i64 ((rd_T29 l0 x12_1).f0), .int .i64 0]) ?_ 1 _ rfl; (with_reducible repeat (first | refine blk_drewN ?_ _ | refine blk_drew ?_ | refine blk_alloc ?_ _)); refine blk_put (cs := #[.int .i64 0, .int .i64 0]) ?_ 0 _ rfl; (with_reducible repeat (first | refine blk_drewN ?_ _ | refine blk_drew ?_ | refine blk_alloc ?_ _)); exact BK127.out⟩
        have n3_ : Aside0 (Below w.heap.size w ((w9.setCell ⟨gb127, 0, none⟩ (.int .i64 ((rd_T29 l0 x12_1).f0))).setCell ⟨gb127, 1, none⟩ (.int .i64 ((rd_T29 l0 x12_1).f1)))) := ⟨by repeat (first | (with_reducible first | exact HB.out | apply below_alloc | apply pw_below_drewN | apply below_drew1 | refine below_set ?_ GE124.out | refine below_set ?_ GE125.out | refine below_set ?_ GE127.out) | exact HB.out)⟩
        (try clear BK124)
        (try clear BK125)
        (try clear BK127)
        (try clear HB)
        generalize ((w9.setCell ⟨gb127, 0, none⟩ (.int .i64 ((rd_T29 l0 x12_1).f0))).setCell ⟨gb127, 1, none⟩ (.int .i64 ((rd_T29 l0 x12_1).f1))) = w14 at n0_ n1_ n2_ n3_ ⊢
        have BK124 := n0_
        have BK125 := n1_
        have BK127 := n2_
        have HB := n3_
        clear n0_ n1_ n2_ n3_
        have n0_ := Aside0.mk (blk_drew BK124.out)
        have n1_ := Aside0.mk (blk_drew BK125.out)
        have n2_ := Aside0.mk (blk_drew BK127.out)
        have n3_ := Aside0.mk (below_drew1 HB.out)
        clear BK124
        clear BK125
        clear BK127
        clear HB
        have BK124 := n0_
        have BK125 := n1_
        have BK127 := n2_
        have HB := n3_
        clear n0_ n1_ n2_ n3_
        refine start_ (n := 21) (S := fun w' => w'.cell? ⟨gb127, 0, none⟩ = some (.int .i64 ((rd_T29 l0 x12_1).f0)) ∧ w'.cell? ⟨gb127, 1, none⟩ = some (.int .i64 ((rd_T29 l0 x12_1).f1))) (ds := []) #[false, false, false, false, false, false, false, false, false, false, false, false, false, false, false, false, false, false, false, false, false] (by kernel_rfl) rfl rfl ⟨(blk_cell BK127.out 0).trans rfl, (blk_cell BK127.out 1).trans rfl⟩ (fun hHeld => ?_); refine with_tabW nogood_open.tab6 nogood_open.bits6 (fun HT_ HW_ => ?_)
        generalize w14.drew = w15 at BK124 BK125 BK127 HB hHeld ⊢
        refine pA 0 16 #[true, false, false, false, false, false, false, false, false, false, false, false, false, false, false, false, false, false, false, false, false] HT_ ?_
        refine pT2 1 17 #[true, true, false, false, false, false, false, false, false, false, false, false, false, false, false, false, false, false, false, false, false] HT_ HW_ hHeld ?_
        refine pA 2 18 #[true, true, true, false, false, false, false, false, false, false, false, false, false, false, false, false, false, false, false, false, false] HT_ ?_
        refine pA 3 19 #[true, true, true, true, false, false, false, false, false, false, false, false, false, false, false, false, false, false, false, false, false] HT_ ?_
        refine pB 4 20 #[true, true, true, true, true, false, false, false, false, false, false, false, false, false, false, false, false, false, false, false, false] HT_ ?_
        refine pB 5 21 #[true, true, true, true, true, true, false, false, false, false, false, false, false, false, false, false, false, false, false, false, false] HT_ ?_
        refine pB 6 22 #[true, true, true, true, true, true, true, false, false, false, false, false, false, false, false, false, false, false, false, false, false] HT_ ?_
        refine pB 7 23 #[true, true, true, true, true, true, true, true, false, false, false, false, false, false, false, false, false, false, false, false, false] HT_ ?_
        refine pB 8 24 #[true, true, true, true, true, true, true, true, true, false, false, false, false, false, false, false, false, false, false, false, false] HT_ ?_
        refine pA 9 25 #[true, true, true, true, true, true, true, true, true, true, false, false, false, false, false, false, false, false, false, false, false] HT_ ?_
        refine pA 10 26 #[true, true, true, true, true, true, true, true, true, true, true, false, false, false, false, false, false, false, false, false, false] HT_ ?_
        refine pB 11 27 #[true, true, true, true, true, true, true, true, true, true, true, true, false, false, false, false, false, false, false, false, false] HT_ ?_
        refine pB 12 28 #[true, true, true, true, true, true, true, true, true, true, true, true, true, false, false, false, false, false, false, false, false] HT_ ?_
        refine pB 13 29 #[true, true, true, true, true, true, true, true, true, true, true, true, true, true, false, false, false, false, false, false, false] HT_ ?_
        refine pB 14 30 #[true, true, true, true, true, true, true, true, true, true, true, true, true, true, true, false, false, false, false, false, false] HT_ ?_
        refine pB 15 31 #[true, true, true, true, true, true, true, true, true, true, true, true, true, true, true, true, false, false, false, false, false] HT_ ?_
        refine pB 16 32 #[true, true, true, true, true, true, true, true, true, true, true, true, true, true, true, true, true, false, false, false, false] HT_ ?_
        refine pB 17 33 #[true, true, true, true, true, true, true, true, true, true, true, true, true, true, true, true, true, true, false, false, false] HT_ ?_
        refine pB 18 34 #[true, true, true, true, true, true, true, true, true, true, true, true, true, true, true, true, true, true, true, false, false] HT_ ?_
        refine pB 19 35 #[true, true, true, true, true, true, true, true, true, true, true, true, true, true, true, true, true, true, true, true, false] HT_ ?_
        refine pA 20 36 #[true, true, true, true, true, true, true, true, true, true, true, true, true, true, true, true, true, true, true, true, true] HT_ ?_
        refine done_ (done_of HT_.out (by kernel_rfl)) ?_
        try go_wp2
        go_meet
        case rel => exact ⟨_, (true), (by first | rfl | (simp; done) | (simp [*]; done)), H', ⟨by have := HK1.out; first | omega | exact Nat.le_refl _⟩, ⟨by (with_reducible repeat (first | refine blk_drewN ?_ _ | refine blk_drew ?_ | refine blk_alloc ?_ _)); exact BK124.out⟩, ⟨by (with_reducible repeat (first | refine blk_drewN ?_ _ | refine blk_drew ?_ | refine blk_alloc ?_ _)); exact BK125.out⟩, ⟨by (with_reducible repeat (first | refine blk_drewN ?_ _ | refine blk_drew ?_ | refine blk_alloc ?_ _)); exact BK127.out⟩, ⟨by repeat (first | (with_reducible first | exact HB.out | apply below_alloc | apply pw_below_drewN | apply below_drew1 | refine below_set ?_ GE124.out | refine below_set ?_ GE125.out | refine below_set ?_ GE127.out) | exact HB.out)⟩⟩
       ·rw [if_neg c13] at H
        have c13b0 : decide (((rd_T29 l0 x12_1).f0) < 0) = false := decide_eq_false c13
        clear c13
        (first | rw [c13b0] | (simp only [i64_w, i32_w]; rw [c13b0]) | skip)
        by_cases c16 : ((rd_T29 l0 x12_1).f0) ≥ (l1.length : Int)
        ·rw [if_pos c16] at H
         have c16b0 : decide ((l1.length : Int) ≤ ((rd_T29 l0 x12_1).f0)) = true := decide_eq_true c16
         clear c16
         have H' := Aside0.mk H
         clear H
         try go_wp2
         have n0_ : Aside0 (((w9.setCell ⟨gb127, 0, none⟩ (.int .i64 ((rd_T29 l0 x12_1).f0))).setCell ⟨gb127, 1, none⟩ (.int .i64 ((rd_T29 l0 x12_1).f1))).heap[gb124]? = some (.cells #[.int .i64 x125000_1, .int .i64 x125001_1] 29 (0, 0))) := ⟨by (with_reducible repeat (first | refine blk_drewN ?_ _ | refine blk_drew ?_ | refine blk_alloc ?_ _)); refine blk_far ?_ NB124_127.out _; (with_reducible repeat (first | refine blk_drewN ?_ _ | refine blk_drew ?_ | refine blk_alloc ?_ _)); refine blk_far ?_ NB124_127.out _; (with_reducible repeat (first | refine blk_drewN ?_ _ | refine blk_drew ?_ | refine blk_alloc ?_ _)); exact BK124.out⟩
         have n1_ : Aside0 (((w9.setCell ⟨gb127, 0, none⟩ (.int .i64 ((rd_T29 l0 x12_1).f0))).setCell ⟨gb127, 1, none⟩ (.int .i64 ((rd_T29 l0 x12_1).f1))).heap[gb125]? = some (.cells #[.int .i64 x126000_1, .int .i64 x126001_1] 29 (0, 0))) := ⟨by (with_reducible repeat (first | refine blk_drewN ?_ _ | refine blk_drew ?_ | refine blk_alloc ?_ _)); refine blk_far ?_ NB125_127.out _; (with_reducible repeat (first | refine blk_drewN ?_ _ | refine blk_drew ?_ | refine blk_alloc ?_ _)); refine blk_far ?_ NB125_127.out _; (with_reducible repeat (first | refine blk_drewN ?_ _ | refine blk_drew ?_ | refine blk_alloc ?_ _)); exact BK125.out⟩
         have n2_ : Aside0 (((w9.setCell ⟨gb127, 0, none⟩ (.int .i64 ((rd_T29 l0 x12_1).f0))).setCell ⟨gb127, 1, none⟩ (.int .i64 ((rd_T29 l0 x12_1).f1))).heap[gb127]? = some (.cells #[.int .i64 ((rd_T29 l0 x12_1).f0), .int .i64 ((rd_T29 l0 x12_1).f1)] 29 (0, 0))) := ⟨by (with_reducible repeat (first | refine blk_drewN ?_ _ | refine blk_drew ?_ | refine blk_alloc ?_ _)); refine blk_put (cs := #[.int .i64 ((rd_T29 l0 x12_1).f0), .int .i64 0]) ?_ 1 _ rfl; (with_reducible repeat (first | refine blk_drewN ?_ _ | refine blk_drew ?_ | refine blk_alloc ?_ _)); refine blk_put (cs := #[.int .i64 0, .int .i64 0]) ?_ 0 _ rfl; (with_reducible repeat (first | refine blk_drewN ?_ _ | refine blk_drew ?_ | refine blk_alloc ?_ _)); exact BK127.out⟩
         have n3_ : Aside0 (Below w.heap.size w ((w9.setCell ⟨gb127, 0, none⟩ (.int .i64 ((rd_T29 l0 x12_1).f0))).setCell ⟨gb127, 1, none⟩ (.int .i64 ((rd_T29 l0 x12_1).f1)))) := ⟨by repeat (first | (with_reducible first | exact HB.out | apply below_alloc | apply pw_below_drewN | apply below_drew1 | refine below_set ?_ GE124.out | refine below_set ?_ GE125.out | refine below_set ?_ GE127.out) | exact HB.out)⟩
         (try clear BK124)
         (try clear BK125)
         (try clear BK127)
         (try clear HB)
         generalize ((w9.setCell ⟨gb127, 0, none⟩ (.int .i64 ((rd_T29 l0 x12_1).f0))).setCell ⟨gb127, 1, none⟩ (.int .i64 ((rd_T29 l0 x12_1).f1))) = w17 at n0_ n1_ n2_ n3_ ⊢
         have BK124 := n0_
         have BK125 := n1_
         have BK127 := n2_
         have HB := n3_
         clear n0_ n1_ n2_ n3_
         have n0_ := Aside0.mk (blk_drew BK124.out)
         have n1_ := Aside0.mk (blk_drew BK125.out)
         have n2_ := Aside0.mk (blk_drew BK127.out)
         have n3_ := Aside0.mk (below_drew1 HB.out)
         clear BK124
         clear BK125
         clear BK127
         clear HB
         have BK124 := n0_
         have BK125 := n1_
         have BK127 := n2_
         have HB := n3_
         clear n0_ n1_ n2_ n3_
         refine start_ (n := 21) (S := fun w' => w'.cell? ⟨gb127, 0, none⟩ = some (.int .i64 ((rd_T29 l0 x12_1).f0)) ∧ w'.cell? ⟨gb127, 1, none⟩ = some (.int .i64 ((rd_T29 l0 x12_1).f1))) (ds := []) #[false, false, false, false, false, false, false, false, false, false, false, false, false, false, false, false, false, false, false, false, false] (by kernel_rfl) rfl rfl ⟨(blk_cell BK127.out 0).trans rfl, (blk_cell BK127.out 1).trans rfl⟩ (fun hHeld => ?_); refine with_tabW nogood_open.tab6 nogood_open.bits6 (fun HT_ HW_ => ?_)
         generalize w17.drew = w18 at BK124 BK125 BK127 HB hHeld ⊢
         refine pA 0 16 #[true, false, false, false, false, false, false, false, false, false, false, false, false, false, false, false, false, false, false, false, false] HT_ ?_
         refine pT2 1 17 #[true, true, false, false, false, false, false, false, false, false, false, false, false, false, false, false, false, false, false, false, false] HT_ HW_ hHeld ?_
         refine pA 2 18 #[true, true, true, false, false, false, false, false, false, false, false, false, false, false, false, false, false, false, false, false, false] HT_ ?_
         refine pA 3 19 #[true, true, true, true, false, false, false, false, false, false, false, false, false, false, false, false, false, false, false, false, false] HT_ ?_
         refine pA 4 20 #[true, true, true, true, true, false, false, false, false, false, false, false, false, false, false, false, false, false, false, false, false] HT_ ?_
         refine pA 6 22 #[true, true, true, true, true, false, true, false, false, false, false, false, false, false, false, false, false, false, false, false, false] HT_ ?_
         refine pA 7 23 #[true, true, true, true, true, false, true, true, false, false, false, false, false, false, false, false, false, false, false, false, false] HT_ ?_
         refine pT2 5 21 #[true, true, true, true, true, true, true, true, false, false, false, false, false, false, false, false, false, false, false, false, false] HT_ HW_ hHeld ?_
         refine pA 8 24 #[true, true, true, true, true, true, true, true, true, false, false, false, false, false, false, false, false, false, false, false, false] HT_ ?_
         refine pA 9 25 #[true, true, true, true, true, true, true, true, true, true, false, false, false, false, false, false, false, false, false, false, false] HT_ ?_
         refine pA 10 26 #[true, true, true, true, true, true, true, true, true, true, true, false, false, false, false, false, false, false, false, false, false] HT_ ?_
         refine pB 11 27 #[true, true, true, true, true, true, true, true, true, true, true, true, false, false, false, false, false, false, false, false, false] HT_ ?_
         refine pB 12 28 #[true, true, true, true, true, true, true, true, true, true, true, true, true, false, false, false, false, false, false, false, false] HT_ ?_
         refine pB 13 29 #[true, true, true, true, true, true, true, true, true, true, true, true, true, true, false, false, false, false, false, false, false] HT_ ?_
         refine pB 14 30 #[true, true, true, true, true, true, true, true, true, true, true, true, true, true, true, false, false, false, false, false, false] HT_ ?_
         refine pB 15 31 #[true, true, true, true, true, true, true, true, true, true, true, true, true, true, true, true, false, false, false, false, false] HT_ ?_
         refine pB 16 32 #[true, true, true, true, true, true, true, true, true, true, true, true, true, true, true, true, true, false, false, false, false] HT_ ?_
         refine pB 17 33 #[true, true, true, true, true, true, true, true, true, true, true, true, true, true, true, true, true, true, false, false, false] HT_ ?_
         refine pB 18 34 #[true, true, true, true, true, true, true, true, true, true, true, true, true, true, true, true, true, true, true, false, false] HT_ ?_
         refine pB 19 35 #[true, true, true, true, true, true, true, true, true, true, true, true, true, true, true, true, true, true, true, true, false] HT_ ?_
         refine pA 20 36 #[true, true, true, true, true, true, true, true, true, true, true, true, true, true, true, true, true, true, true, true, true] HT_ ?_
         refine done_ (done_of HT_.out (by kernel_rfl)) ?_
         try go_wp2
         go_meet
         case rel => exact ⟨_, (true), (by first | rfl | (simp; done) | (simp [*]; done)), H', ⟨by have := HK1.out; first | omega | exact Nat.le_refl _⟩, ⟨by (with_reducible repeat (first | refine blk_drewN ?_ _ | refine blk_drew ?_ | refine blk_alloc ?_ _)); exact BK124.out⟩, ⟨by (with_reducible repeat (first | refine blk_drewN ?_ _ | refine blk_drew ?_ | refine blk_alloc ?_ _)); exact BK125.out⟩, ⟨by (with_reducible repeat (first | refine blk_drewN ?_ _ | refine blk_drew ?_ | refine blk_alloc ?_ _)); exact BK127.out⟩, ⟨by repeat (first | (with_reducible first | exact HB.out | apply below_alloc | apply pw_below_drewN | apply below_drew1 | refine below_set ?_ GE124.out | refine below_set ?_ GE125.out | refine below_set ?_ GE127.out) | exact HB.out)⟩⟩
        ·rw [if_neg c16] at H
         have c16b0 : decide ((l1.length : Int) ≤ ((rd_T29 l0 x12_1).f0)) = false := decide_eq_false c16
         clear c16
         by_cases c19 : 0 ≤ ((rd_T29 l0 x12_1).f0)
         ·rw [if_pos c19] at H
          have c19b0 : decide (0 ≤ ((rd_T29 l0 x12_1).f0)) = true := decide_eq_true c19
          clear c19
          by_cases c20 : ((rd_T29 l0 x12_1).f0) < (l1.length : Int)
          ·rw [if_pos c20] at H
           have c20b0 : decide (((rd_T29 l0 x12_1).f0) < (l1.length : Int)) = true := decide_eq_true c20
           clear c20
           replace H := Option.bind_eq_some_iff.mp H
           obtain ⟨t129, A210, H⟩ := H
           replace H : (nogood_open.j1 k1 l1 x7_1 l0 (l0.length : Int) x12_1 (!t129) x126000_1 x126001_1 ((rd_T29 l0 x12_1).f0) ((rd_T29 l0 x12_1).f1)) = some (r1, r2, r3) := H
           have A21 := Aside0.mk A210
           clear A210
           have H' := Aside0.mk H
           clear H
           try go_wp2
           have n0_ : Aside0 (((w9.setCell ⟨gb127, 0, none⟩ (.int .i64 ((rd_T29 l0 x12_1).f0))).setCell ⟨gb127, 1, none⟩ (.int .i64 ((rd_T29 l0 x12_1).f1))).heap[gb124]? = some (.cells #[.int .i64 x125000_1, .int .i64 x125001_1] 29 (0, 0))) := ⟨by (with_reducible repeat (first | refine blk_drewN ?_ _ | refine blk_drew ?_ | refine blk_alloc ?_ _)); refine blk_far ?_ NB124_127.out _; (with_reducible repeat (first | refine blk_drewN ?_ _ | refine blk_drew ?_ | refine blk_alloc ?_ _)); refine blk_far ?_ NB124_127.out _; (with_reducible repeat (first | refine blk_drewN ?_ _ | refine blk_drew ?_ | refine blk_alloc ?_ _)); exact BK124.out⟩
           have n1_ : Aside0 (((w9.setCell ⟨gb127, 0, none⟩ (.int .i64 ((rd_T29 l0 x12_1).f0))).setCell ⟨gb127, 1, none⟩ (.int .i64 ((rd_T29 l0 x12_1).f1))).heap[gb125]? = some (.cells #[.int .i64 x126000_1, .int .i64 x126001_1] 29 (0, 0))) := ⟨by (with_reducible repeat (first | refine blk_drewN ?_ _ | refine blk_drew ?_ | refine blk_alloc ?_ _)); refine blk_far ?_ NB125_127.out _; (with_reducible repeat (first | refine blk_drewN ?_ _ | refine blk_drew ?_ | refine blk_alloc ?_ _)); refine blk_far ?_ NB125_127.out _; (with_reducible repeat (first | refine blk_drewN ?_ _ | refine blk_drew ?_ | refine blk_alloc ?_ _)); exact BK125.out⟩
           have n2_ : Aside0 (((w9.setCell ⟨gb127, 0, none⟩ (.int .i64 ((rd_T29 l0 x12_1).f0))).setCell ⟨gb127, 1, none⟩ (.int .i64 ((rd_T29 l0 x12_1).f1))).heap[gb127]? = some (.cells #[.int .i64 ((rd_T29 l0 x12_1).f0), .int .i64 ((rd_T29 l0 x12_1).f1)] 29 (0, 0))) := ⟨by (with_reducible repeat (first | refine blk_drewN ?_ _ | refine blk_drew ?_ | refine blk_alloc ?_ _)); refine blk_put (cs := #[.int .i64 ((rd_T29 l0 x12_1).f0), .int .i64 0]) ?_ 1 _ rfl; (with_reducible repeat (first | refine blk_drewN ?_ _ | refine blk_drew ?_ | refine blk_alloc ?_ _)); refine blk_put (cs := #[.int .i64 0, .int .i64 0]) ?_ 0 _ rfl; (with_reducible repeat (first | refine blk_drewN ?_ _ | refine blk_drew ?_ | refine blk_alloc ?_ _)); exact BK127.out⟩
           have n3_ : Aside0 (Below w.heap.size w ((w9.setCell ⟨gb127, 0, none⟩ (.int .i64 ((rd_T29 l0 x12_1).f0))).setCell ⟨gb127, 1, none⟩ (.int .i64 ((rd_T29 l0 x12_1).f1)))) := ⟨by repeat (first | (with_reducible first | exact HB.out | apply below_alloc | apply pw_below_drewN | apply below_drew1 | refine below_set ?_ GE124.out | refine below_set ?_ GE125.out | refine below_set ?_ GE127.out) | exact HB.out)⟩
           (try clear BK124)
           (try clear BK125)
           (try clear BK127)
           (try clear HB)
           generalize ((w9.setCell ⟨gb127, 0, none⟩ (.int .i64 ((rd_T29 l0 x12_1).f0))).setCell ⟨gb127, 1, none⟩ (.int .i64 ((rd_T29 l0 x12_1).f1))) = w22 at n0_ n1_ n2_ n3_ ⊢
           have BK124 := n0_
           have BK125 := n1_
           have BK127 := n2_
           have HB := n3_
           clear n0_ n1_ n2_ n3_
           have n0_ := Aside0.mk (blk_drew BK124.out)
           have n1_ := Aside0.mk (blk_drew BK125.out)
           have n2_ := Aside0.mk (blk_drew BK127.out)
           have n3_ := Aside0.mk (below_drew1 HB.out)
           clear BK124
           clear BK125
           clear BK127
           clear HB
           have BK124 := n0_
           have BK125 := n1_
           have BK127 := n2_
           have HB := n3_
           clear n0_ n1_ n2_ n3_
           have p128 : 0 ≤ (((rd_T29 l0 x12_1).f0) : Int) := of_decide_eq_true (by first | (with_reducible assumption) | assumption)
           have q128 : ((rd_T29 l0 x12_1).f0) < (l1.length : Int) := of_decide_eq_true (by first | (with_reducible assumption) | assumption)
           obtain ⟨ad128, A128_1, c128_1, e128, hx128_0, hx128_1, hx128_2, hx128_3, hx128_4, hl128_1, hi128_1⟩ := at_T62 HR1.out ((rd_T29 l0 x12_1).f0) p128 q128
           have hw128_4 := hx128_4
           have hw128_3 := hx128_3
           have hw128_2 := hx128_2
           have hw128_1 := hx128_1
           have hw128_0 := hx128_0
           cases e128
           replace hx128_0 := (HB.out.cell (World.block_lt_of_cell? w _ hx128_0)).trans hx128_0
           replace hx128_1 := (HB.out.cell (World.block_lt_of_cell? w _ hx128_1)).trans hx128_1
           replace hx128_2 := (HB.out.cell (World.block_lt_of_cell? w _ hx128_2)).trans hx128_2
           replace hx128_3 := (HB.out.cell (World.block_lt_of_cell? w _ hx128_3)).trans hx128_3
           replace hx128_4 := (HB.out.cell (World.block_lt_of_cell? w _ hx128_4)).trans hx128_4
           have HR128_1 := Aside0.mk hi128_1
           have HC128_1 := Aside0.mk hl128_1
           clear hi128_1 hl128_1
           replace p128 := eq_true p128
           replace q128 := eq_true q128
           refine start_ (n := 21) (S := fun w' => w'.cell? ⟨gb127, 0, none⟩ = some (.int .i64 ((rd_T29 l0 x12_1).f0)) ∧ w'.cell? ⟨gb127, 1, none⟩ = some (.int .i64 ((rd_T29 l0 x12_1).f1)) ∧ w'.cell? (ad128.add ((((rd_T29 l0 x12_1).f0)).toNat * 5)) = some (.int .i64 ((rd_T62 l1 ((rd_T29 l0 x12_1).f0)).f0)) ∧ w'.cell? ⟨(ad128.add ((((rd_T29 l0 x12_1).f0)).toNat * 5)).block, (ad128.add ((((rd_T29 l0 x12_1).f0)).toNat * 5)).off + 1, none⟩ = some (.slice A128_1 ((rd_T62 l1 ((rd_T29 l0 x12_1).f0)).f1).length c128_1) ∧ w'.cell? ⟨(ad128.add ((((rd_T29 l0 x12_1).f0)).toNat * 5)).block, (ad128.add ((((rd_T29 l0 x12_1).f0)).toNat * 5)).off + 2, none⟩ = some (.int .i64 ((rd_T62 l1 ((rd_T29 l0 x12_1).f0)).f2)) ∧ w'.cell? ⟨(ad128.add ((((rd_T29 l0 x12_1).f0)).toNat * 5)).block, (ad128.add ((((rd_T29 l0 x12_1).f0)).toNat * 5)).off + 3, none⟩ = some (.int .i64 ((rd_T62 l1 ((rd_T29 l0 x12_1).f0)).f3)) ∧ w'.cell? ⟨(ad128.add ((((rd_T29 l0 x12_1).f0)).toNat * 5)).block, (ad128.add ((((rd_T29 l0 x12_1).f0)).toNat * 5)).off + 4, none⟩ = some (.int .i64 ((rd_T62 l1 ((rd_T29 l0 x12_1).f0)).f4))) (ds := []) #[false, false, false, false, false, false, false, false, false, false, false, false, false, false, false, false, false, false, false, false, false] (by kernel_rfl) rfl rfl ⟨(blk_cell BK127.out 0).trans rfl, (blk_cell BK127.out 1).trans rfl, ((HB.out.cell (World.block_lt_of_cell? w _ hw128_0)).trans hw128_0), ((HB.out.cell (World.block_lt_of_cell? w _ hw128_1)).trans hw128_1), ((HB.out.cell (World.block_lt_of_cell? w _ hw128_2)).trans hw128_2), ((HB.out.cell (World.block_lt_of_cell? w _ hw128_3)).trans hw128_3), ((HB.out.cell (World.block_lt_of_cell? w _ hw128_4)).trans hw128_4)⟩ (fun hHeld => ?_); refine with_tabW nogood_open.tab6 nogood_open.bits6 (fun HT_ HW_ => ?_)
           generalize w22.drew = w23 at BK124 BK125 BK127 HB HR128_1 hx128_0 hx128_1 hx128_2 hx128_3 hx128_4 hHeld ⊢
           refine pA 0 16 #[true, false, false, false, false, false, false, false, false, false, false, false, false, false, false, false, false, false, false, false, false] HT_ ?_
           refine pT7 1 17 #[true, true, false, false, false, false, false, false, false, false, false, false, false, false, false, false, false, false, false, false, false] HT_ HW_ hHeld ?_
           refine pA 2 18 #[true, true, true, false, false, false, false, false, false, false, false, false, false, false, false, false, false, false, false, false, false] HT_ ?_
           refine pA 3 19 #[true, true, true, true, false, false, false, false, false, false, false, false, false, false, false, false, false, false, false, false, false] HT_ ?_
           refine pA 4 20 #[true, true, true, true, true, false, false, false, false, false, false, false, false, false, false, false, false, false, false, false, false] HT_ ?_
           refine pA 6 22 #[true, true, true, true, true, false, true, false, false, false, false, false, false, false, false, false, false, false, false, false, false] HT_ ?_
           refine pA 7 23 #[true, true, true, true, true, false, true, true, false, false, false, false, false, false, false, false, false, false, false, false, false] HT_ ?_
           refine pT7 5 21 #[true, true, true, true, true, true, true, true, false, false, false, false, false, false, false, false, false, false, false, false, false] HT_ HW_ hHeld ?_
           refine pA 8 24 #[true, true, true, true, true, true, true, true, true, false, false, false, false, false, false, false, false, false, false, false, false] HT_ ?_
           refine pA 9 25 #[true, true, true, true, true, true, true, true, true, true, false, false, false, false, false, false, false, false, false, false, false] HT_ ?_
           refine pA 10 26 #[true, true, true, true, true, true, true, true, true, true, true, false, false, false, false, false, false, false, false, false, false] HT_ ?_
           refine pA 11 27 #[true, true, true, true, true, true, true, true, true, true, true, true, false, false, false, false, false, false, false, false, false] HT_ ?_
           refine pA 12 28 #[true, true, true, true, true, true, true, true, true, true, true, true, true, false, false, false, false, false, false, false, false] HT_ ?_
           refine pA 16 32 #[true, true, true, true, true, true, true, true, true, true, true, true, true, false, false, false, true, false, false, false, false] HT_ ?_
           refine pT7 13 29 #[true, true, true, true, true, true, true, true, true, true, true, true, true, true, false, false, true, false, false, false, false] HT_ HW_ hHeld ?_
           refine pA 14 30 #[true, true, true, true, true, true, true, true, true, true, true, true, true, true, true, false, true, false, false, false, false] HT_ ?_
           refine pT7 15 31 #[true, true, true, true, true, true, true, true, true, true, true, true, true, true, true, true, true, false, false, false, false] HT_ HW_ hHeld ?_
           refine pT7 17 33 #[true, true, true, true, true, true, true, true, true, true, true, true, true, true, true, true, true, true, false, false, false] HT_ HW_ hHeld ?_
           refine one_ (i := 18) (N := some 34) #[true, true, true, true, true, true, true, true, true, true, true, true, true, true, true, true, true, true, true, false, false] rfl rfl (one_of HT_.out (by kernel_rfl)) (by decide) (fun K hK => ?_)
           refine goes_ Tryd.func29 (by kernel_rfl) rfl #[.agg #[.int .i64 ((rd_T62 l1 ((rd_T29 l0 x12_1).f0)).f0), .slice A128_1 ((rd_T62 l1 ((rd_T29 l0 x12_1).f0)).f1).length c128_1, .int .i64 ((rd_T62 l1 ((rd_T29 l0 x12_1).f0)).f2), .int .i64 ((rd_T62 l1 ((rd_T29 l0 x12_1).f0)).f3), .int .i64 ((rd_T62 l1 ((rd_T29 l0 x12_1).f0)).f4)], .int .i64 ((rd_T29 l0 x12_1).f1)] (by rfl) rfl rfl (by (try simp only [List.map_toArray, List.map_cons, List.map_nil]); first | done | rfl | (simp only [List.length_drop, List.length_take]; rfl)) ?_
           with_reducible refine (dom_Dom_Has.calls ((rd_T62 l1 ((rd_T29 l0 x12_1).f0)).f0) _ _ ((rd_T62 l1 ((rd_T29 l0 x12_1).f0)).f1) ((rd_T62 l1 ((rd_T29 l0 x12_1).f0)).f2) ((rd_T62 l1 ((rd_T29 l0 x12_1).f0)).f3) ((rd_T62 l1 ((rd_T29 l0 x12_1).f0)).f4) ((rd_T29 l0 x12_1).f1) t129 _ ?side1 ?side2 A21.out).mono ?_
           (case side1 => repeat (first | exact (Kd.C_below HR128_1.out HB.out) | (with_reducible refine Kd.C_alloc ?_ _) | (with_reducible refine Kd.C_drewN ?_ _) | (with_reducible refine Kd.C_drew ?_)))
           (case side2 => exact HC128_1.out)
           rintro e w24 ⟨rfl, hb⟩
           refine ⟨_, rfl, ?_⟩
           have n0_ := Aside0.mk (blk_below (g := gb124) (o := .cells #[.int .i64 x125000_1, .int .i64 x125001_1] 29 (0, 0)) (by (with_reducible repeat (first | refine blk_drewN ?_ _ | refine blk_drew ?_ | refine blk_alloc ?_ _)); exact BK124.out) hb)
           have n1_ := Aside0.mk (blk_below (g := gb125) (o := .cells #[.int .i64 x126000_1, .int .i64 x126001_1] 29 (0, 0)) (by (with_reducible repeat (first | refine blk_drewN ?_ _ | refine blk_drew ?_ | refine blk_alloc ?_ _)); exact BK125.out) hb)
           have n2_ := Aside0.mk (blk_below (g := gb127) (o := .cells #[.int .i64 ((rd_T29 l0 x12_1).f0), .int .i64 ((rd_T29 l0 x12_1).f1)] 29 (0, 0)) (by (with_reducible repeat (first | refine blk_drewN ?_ _ | refine blk_drew ?_ | refine blk_alloc ?_ _)); exact BK127.out) hb)
           have n3_ := Aside0.mk (below_step (by repeat (first | (with_reducible first | exact HB.out | apply below_alloc | apply pw_below_drewN | apply below_drew1 | refine below_set ?_ GE124.out | refine below_set ?_ GE125.out | refine below_set ?_ GE127.out) | exact HB.out)) hb)
           clear BK124
           clear BK125
           clear BK127
           clear HB
           have BK124 := n0_
           have BK125 := n1_
           have BK127 := n2_
           have HB := n3_
           clear n0_ n1_ n2_ n3_
           (try clear hb)
           (try clear hb2)
           (try clear hk)
           (try clear hi)
           refine hK.out _ _ ⟨(blk_cell BK127.out 0).trans rfl, (blk_cell BK127.out 1).trans rfl, ((HB.out.cell (World.block_lt_of_cell? w _ hw128_0)).trans hw128_0), ((HB.out.cell (World.block_lt_of_cell? w _ hw128_1)).trans hw128_1), ((HB.out.cell (World.block_lt_of_cell? w _ hw128_2)).trans hw128_2), ((HB.out.cell (World.block_lt_of_cell? w _ hw128_3)).trans hw128_3), ((HB.out.cell (World.block_lt_of_cell? w _ hw128_4)).trans hw128_4)⟩ (fun hHeld => ?_)
           clear hK K
           refine norm_ (a' := ?_) ?_ ?_
           rotate_left
           ·show Act.put _ (some 34) _ = _
            simp only [Act.put, List.setIfInBounds_toArray, List.set_cons_zero, List.set_cons_succ, i64_w, i32_w]
            rfl
           refine pA 19 35 #[true, true, true, true, true, true, true, true, true, true, true, true, true, true, true, true, true, true, true, true, false] HT_ ?_
           refine pA 20 36 #[true, true, true, true, true, true, true, true, true, true, true, true, true, true, true, true, true, true, true, true, true] HT_ ?_
           refine done_ (done_of HT_.out (by kernel_rfl)) ?_
           try go_wp2
           go_meet
           case rel => exact ⟨_, (!t129), (by first | rfl | (simp; done) | (simp [*]; done)), H', ⟨by have := HK1.out; first | omega | exact Nat.le_refl _⟩, ⟨by (with_reducible repeat (first | refine blk_drewN ?_ _ | refine blk_drew ?_ | refine blk_alloc ?_ _)); exact BK124.out⟩, ⟨by (with_reducible repeat (first | refine blk_drewN ?_ _ | refine blk_drew ?_ | refine blk_alloc ?_ _)); exact BK125.out⟩, ⟨by (with_reducible repeat (first | refine blk_drewN ?_ _ | refine blk_drew ?_ | refine blk_alloc ?_ _)); exact BK127.out⟩, ⟨by repeat (first | (with_reducible first | exact HB.out | apply below_alloc | apply pw_below_drewN | apply below_drew1 | refine below_set ?_ GE124.out | refine below_set ?_ GE125.out | refine below_set ?_ GE127.out) | exact HB.out)⟩⟩
          ·rw [if_neg c20] at H
           exact absurd H (by simp)
         ·rw [if_neg c19] at H
          exact absurd H (by simp)
      case rest =>
       clear HC8
       try clear c1
       try clear p1
       try clear q1
       try clear hx1
       try clear c2
       try clear p2
       try clear c12
       try clear p12
       try clear q12
       try clear hx12
       try clear c13
       try clear c13b0
       try clear c16
       try clear c16b0
       try clear c19
       try clear c19b0
       try clear c20
       try clear c20b0
       try clear hx128_0
       try clear hx128_1
       try clear hx128_2
       try clear hx128_3
       try clear hx128_4
       try clear p128
       try clear q128
       obtain ⟨kq, x36_7, rfl, HA, HJ7, BK124, BK125, BK127, HB⟩ := hcut
       cases kq with
       | zero => exact absurd HA.out (by simp [nogood_open.j1])
       | succ kj7 =>
        have H := HA.out
        clear HA
        simp only [nogood_open.j1] at H
        by_cases c25 : x36_7 = true
        ·subst c25
         have H1 : (some (0, 0, 2)) = some (r1, r2, r3) := by rw [if_pos rfl] at H; exact H
         clear H
         have H := H1
         clear H1
         simp only [Option.some.injEq, Prod.mk.injEq] at H
         obtain ⟨rfl, rfl, rfl⟩ := H
         have hnb26 := NB124_125.out
         have hnc26 := NB125_124.out
         have hnb27 := NB124_127.out
         have hnc27 := NB127_124.out
         have hcz28_0 : wc.cell? ⟨gb124, 0, none⟩ = some (.int .i64 x125000_1) := (blk_cell BK124.out 0).trans rfl
         have hcz28_1 : wc.cell? ⟨gb124, 1, none⟩ = some (.int .i64 x125001_1) := (blk_cell BK124.out 1).trans rfl
         have hfz28_0 := blk_frozen BK124.out 0
         have hfz28_1 := blk_frozen BK124.out 1
         go_wp2
         refine bodyPost_ret (results_ct rfl _ _ gb124 29 #[.int .i64 0, .int .i64 0] (0, 0) _ rfl (by (with_reducible repeat (first | refine blk_drewN ?_ _ | refine blk_drew ?_ | refine blk_alloc ?_ _)); refine blk_put (cs := #[.int .i64 0, .int .i64 x125001_1]) ?_ 1 _ rfl; (with_reducible repeat (first | refine blk_drewN ?_ _ | refine blk_drew ?_ | refine blk_alloc ?_ _)); refine blk_put (cs := #[.int .i64 x125000_1, .int .i64 x125001_1]) ?_ 0 _ rfl; (with_reducible repeat (first | refine blk_drewN ?_ _ | refine blk_drew ?_ | refine blk_alloc ?_ _)); exact BK124.out) Tryd.underlying29 rfl (by kernel_rfl)) rfl ?_
         exact ⟨by first | rfl | (simp [errW_none, errW_some] <;> rfl) | (simp [*, errW_none, errW_some] <;> rfl), by repeat (first | (with_reducible first | exact HB.out | apply below_alloc | apply pw_below_drewN | apply below_drew1 | refine below_set ?_ GE124.out | refine below_set ?_ GE125.out | refine below_set ?_ GE127.out) | exact HB.out)⟩
        ·replace c25 := Bool.eq_false_iff.mpr c25
         subst c25
         have H1 : (if 0 ≤ ((rd_T29 l0 x12_1).f0) then (if ((rd_T29 l0 x12_1).f0) < (l1.length : Int) then ((dom_Dom_Size.f ((rd_T62 l1 ((rd_T29 l0 x12_1).f0)).f0) ((rd_T62 l1 ((rd_T29 l0 x12_1).f0)).f1) ((rd_T62 l1 ((rd_T29 l0 x12_1).f0)).f2) ((rd_T62 l1 ((rd_T29 l0 x12_1).f0)).f3) ((rd_T62 l1 ((rd_T29 l0 x12_1).f0)).f4)).bind fun t131 => (if t131 > 1 then (nogood_open.l0 kj7 l1 (wrap64 (x7_1 + 1)) l0 (l0.length : Int) (wrap64 (x12_1 + 1)) ((rd_T29 l0 x12_1).f0) ((rd_T29 l0 x12_1).f1)) else (nogood_open.l0 kj7 l1 x7_1 l0 (l0.length : Int) (wrap64 (x12_1 + 1)) x126000_1 x126001_1))) else (none)) else (none)) = some (r1, r2, r3) := by rw [if_neg (show ¬ (false = true) by decide)] at H; exact H
         clear H
         have H := H1
         clear H1
         by_cases c29 : 0 ≤ ((rd_T29 l0 x12_1).f0)
         ·rw [if_pos c29] at H
          have c29b0 : decide (0 ≤ ((rd_T29 l0 x12_1).f0)) = true := decide_eq_true c29
          clear c29
          by_cases c30 : ((rd_T29 l0 x12_1).f0) < (l1.length : Int)
          ·rw [if_pos c30] at H
           have c30b0 : decide (((rd_T29 l0 x12_1).f0) < (l1.length : Int)) = true := decide_eq_true c30
           clear c30
           replace H := Option.bind_eq_some_iff.mp H
           obtain ⟨t131, A310, H⟩ := H
           replace H : (if t131 > 1 then (nogood_open.l0 kj7 l1 (wrap64 (x7_1 + 1)) l0 (l0.length : Int) (wrap64 (x12_1 + 1)) ((rd_T29 l0 x12_1).f0) ((rd_T29 l0 x12_1).f1)) else (nogood_open.l0 kj7 l1 x7_1 l0 (l0.length : Int) (wrap64 (x12_1 + 1)) x126000_1 x126001_1)) = some (r1, r2, r3) := H
           have A31 := Aside0.mk A310
           clear A310
           by_cases c32 : t131 > 1
           ·rw [if_pos c32] at H
            have c32b0 : decide (1 < t131) = true := decide_eq_true c32
            clear c32
            have H' := Aside0.mk H
            clear H
            have hnb33 := NB127_124.out
            have hnc33 := NB124_127.out
            have hnb34 := NB127_125.out
            have hnc34 := NB125_127.out
            have hcz35_0 : wc.cell? ⟨gb127, 0, none⟩ = some (.int .i64 ((rd_T29 l0 x12_1).f0)) := (blk_cell BK127.out 0).trans rfl
            have hcz35_1 : wc.cell? ⟨gb127, 1, none⟩ = some (.int .i64 ((rd_T29 l0 x12_1).f1)) := (blk_cell BK127.out 1).trans rfl
            have hfz35_0 := blk_frozen BK127.out 0
            have hfz35_1 := blk_frozen BK127.out 1
            have p130 : 0 ≤ (((rd_T29 l0 x12_1).f0) : Int) := of_decide_eq_true (by first | (with_reducible assumption) | assumption)
            have q130 : ((rd_T29 l0 x12_1).f0) < (l1.length : Int) := of_decide_eq_true (by first | (with_reducible assumption) | assumption)
            obtain ⟨ad130, A130_1, c130_1, e130, hx130_0, hx130_1, hx130_2, hx130_3, hx130_4, hl130_1, hi130_1⟩ := at_T62 HR1.out ((rd_T29 l0 x12_1).f0) p130 q130
            cases e130
            replace hx130_0 := (HB.out.cell (World.block_lt_of_cell? w _ hx130_0)).trans hx130_0
            replace hx130_1 := (HB.out.cell (World.block_lt_of_cell? w _ hx130_1)).trans hx130_1
            replace hx130_2 := (HB.out.cell (World.block_lt_of_cell? w _ hx130_2)).trans hx130_2
            replace hx130_3 := (HB.out.cell (World.block_lt_of_cell? w _ hx130_3)).trans hx130_3
            replace hx130_4 := (HB.out.cell (World.block_lt_of_cell? w _ hx130_4)).trans hx130_4
            have HR130_1 := Aside0.mk hi130_1
            have HC130_1 := Aside0.mk hl130_1
            clear hi130_1 hl130_1
            replace p130 := eq_true p130
            replace q130 := eq_true q130
            go_wp2_with (first | ((with_reducible refine gate_callee (f := 36) rfl ?_); refine goesL_ (some 43) rfl rfl Tryd.func36 (by kernel_rfl) rfl #[.agg #[.int .i64 ((rd_T62 l1 ((rd_T29 l0 x12_1).f0)).f0), .slice A130_1 ((rd_T62 l1 ((rd_T29 l0 x12_1).f0)).f1).length c130_1, .int .i64 ((rd_T62 l1 ((rd_T29 l0 x12_1).f0)).f2), .int .i64 ((rd_T62 l1 ((rd_T29 l0 x12_1).f0)).f3), .int .i64 ((rd_T62 l1 ((rd_T29 l0 x12_1).f0)).f4)]] rfl (by (try simp only [List.map_toArray, List.map_cons, List.map_nil]); first | done | rfl | (simp only [List.length_drop, List.length_take]; rfl)) ?_; (with_reducible refine (dom_Dom_Size.calls ((rd_T62 l1 ((rd_T29 l0 x12_1).f0)).f0) _ _ ((rd_T62 l1 ((rd_T29 l0 x12_1).f0)).f1) ((rd_T62 l1 ((rd_T29 l0 x12_1).f0)).f2) ((rd_T62 l1 ((rd_T29 l0 x12_1).f0)).f3) ((rd_T62 l1 ((rd_T29 l0 x12_1).f0)).f4) t131 _ ?side1 ?side2 A31.out).mono ?_); (case side1 => repeat (first | exact (Kd.C_below HR130_1.out HB.out) | (with_reducible refine Kd.C_alloc ?_ _) | (with_reducible refine Kd.C_drewN ?_ _) | (with_reducible refine Kd.C_drew ?_))); (case side2 => exact HC130_1.out); rintro e w36 ⟨rfl, hb⟩; refine ⟨_, rfl, ?_⟩; have n0_ := Aside0.mk (blk_below (g := gb124) (o := .cells #[.int .i64 x125000_1, .int .i64 x125001_1] 29 (0, 0)) (by (with_reducible repeat (first | refine blk_drewN ?_ _ | refine blk_drew ?_ | refine blk_alloc ?_ _)); exact BK124.out) hb); have n1_ := Aside0.mk (blk_below (g := gb125) (o := .cells #[.int .i64 x126000_1, .int .i64 x126001_1] 29 (0, 0)) (by (with_reducible repeat (first | refine blk_drewN ?_ _ | refine blk_drew ?_ | refine blk_alloc ?_ _)); exact BK125.out) hb); have n2_ := Aside0.mk (blk_below (g := gb127) (o := .cells #[.int .i64 ((rd_T29 l0 x12_1).f0), .int .i64 ((rd_T29 l0 x12_1).f1)] 29 (0, 0)) (by (with_reducible repeat (first | refine blk_drewN ?_ _ | refine blk_drew ?_ | refine blk_alloc ?_ _)); exact BK127.out) hb); have n3_ := Aside0.mk (below_step (by repeat (first | (with_reducible first | exact HB.out | apply below_alloc | apply pw_below_drewN | apply below_drew1 | refine below_set ?_ GE124.out | refine below_set ?_ GE125.out | refine below_set ?_ GE127.out) | exact HB.out)) hb); clear BK124; clear BK125; clear BK127; clear HB; have BK124 := n0_; have BK125 := n1_; have BK127 := n2_; have HB := n3_; clear n0_ n1_ n2_ n3_; (try clear hb); (try clear hb2); (try clear hk); (try clear hi); have hcz37_0 : w36.cell? ⟨gb127, 0, none⟩ = some (.int .i64 ((rd_T29 l0 x12_1).f0)) := (blk_cell BK127.out 0).trans rfl; have hcz37_1 : w36.cell? ⟨gb127, 1, none⟩ = some (.int .i64 ((rd_T29 l0 x12_1).f1)) := (blk_cell BK127.out 1).trans rfl; have hfz37_0 := blk_frozen BK127.out 0; have hfz37_1 := blk_frozen BK127.out 1; have hnb38 := NB125_124.out; have hnc38 := NB124_125.out; have hcz39_0 : w36.cell? ⟨gb125, 0, none⟩ = some (.int .i64 x126000_1) := (blk_cell BK125.out 0).trans rfl; have hcz39_1 : w36.cell? ⟨gb125, 1, none⟩ = some (.int .i64 x126001_1) := (blk_cell BK125.out 1).trans rfl; have hfz39_0 := blk_frozen BK125.out 0; have hfz39_1 := blk_frozen BK125.out 1))
            go_roundg kj7
            case measure => have := HK1.out; have := HJ7.out; omega
            case rel => exact ⟨(wrap64 (x7_1 + 1)), (wrap64 (x12_1 + 1)), (x125000_1), (x125001_1), (((rd_T29 l0 x12_1).f0)), (((rd_T29 l0 x12_1).f1)), (by first | rfl | (simp; done) | (simp [*]; done)), (by first | rfl | (simp; done) | (simp [*]; done)), H', ⟨by have := HK1.out; have := HJ7.out; omega⟩, ⟨by (with_reducible repeat (first | refine blk_drewN ?_ _ | refine blk_drew ?_ | refine blk_alloc ?_ _)); refine blk_far ?_ NB124_125.out _; (with_reducible repeat (first | refine blk_drewN ?_ _ | refine blk_drew ?_ | refine blk_alloc ?_ _)); refine blk_far ?_ NB124_125.out _; (with_reducible repeat (first | refine blk_drewN ?_ _ | refine blk_drew ?_ | refine blk_alloc ?_ _)); exact BK124.out⟩, ⟨by (with_reducible repeat (first | refine blk_drewN ?_ _ | refine blk_drew ?_ | refine blk_alloc ?_ _)); refine blk_put (cs := #[.int .i64 ((rd_T29 l0 x12_1).f0), .int .i64 x126001_1]) ?_ 1 _ rfl; (with_reducible repeat (first | refine blk_drewN ?_ _ | refine blk_drew ?_ | refine blk_alloc ?_ _)); refine blk_put (cs := #[.int .i64 x126000_1, .int .i64 x126001_1]) ?_ 0 _ rfl; (with_reducible repeat (first | refine blk_drewN ?_ _ | refine blk_drew ?_ | refine blk_alloc ?_ _)); exact BK125.out⟩, ⟨by repeat (first | (with_reducible first | exact HB.out | apply below_alloc | apply pw_below_drewN | apply below_drew1 | refine below_set ?_ GE124.out | refine below_set ?_ GE125.out | refine below_set ?_ GE127.out) | exact HB.out)⟩⟩
           ·rw [if_neg c32] at H
            have c32b0 : decide (1 < t131) = false := decide_eq_false c32
            clear c32
            have H' := Aside0.mk H
            clear H
            have hnb40 := NB127_124.out
            have hnc40 := NB124_127.out
            have hnb41 := NB127_125.out
            have hnc41 := NB125_127.out
            have hcz42_0 : wc.cell? ⟨gb127, 0, none⟩ = some (.int .i64 ((rd_T29 l0 x12_1).f0)) := (blk_cell BK127.out 0).trans rfl
            have hcz42_1 : wc.cell? ⟨gb127, 1, none⟩ = some (.int .i64 ((rd_T29 l0 x12_1).f1)) := (blk_cell BK127.out 1).trans rfl
            have hfz42_0 := blk_frozen BK127.out 0
            have hfz42_1 := blk_frozen BK127.out 1
            have p130 : 0 ≤ (((rd_T29 l0 x12_1).f0) : Int) := of_decide_eq_true (by first | (with_reducible assumption) | assumption)
            have q130 : ((rd_T29 l0 x12_1).f0) < (l1.length : Int) := of_decide_eq_true (by first | (with_reducible assumption) | assumption)
            obtain ⟨ad130, A130_1, c130_1, e130, hx130_0, hx130_1, hx130_2, hx130_3, hx130_4, hl130_1, hi130_1⟩ := at_T62 HR1.out ((rd_T29 l0 x12_1).f0) p130 q130
            cases e130
            replace hx130_0 := (HB.out.cell (World.block_lt_of_cell? w _ hx130_0)).trans hx130_0
            replace hx130_1 := (HB.out.cell (World.block_lt_of_cell? w _ hx130_1)).trans hx130_1
            replace hx130_2 := (HB.out.cell (World.block_lt_of_cell? w _ hx130_2)).trans hx130_2
            replace hx130_3 := (HB.out.cell (World.block_lt_of_cell? w _ hx130_3)).trans hx130_3
            replace hx130_4 := (HB.out.cell (World.block_lt_of_cell? w _ hx130_4)).trans hx130_4
            have HR130_1 := Aside0.mk hi130_1
            have HC130_1 := Aside0.mk hl130_1
            clear hi130_1 hl130_1
            replace p130 := eq_true p130
            replace q130 := eq_true q130
            go_wp2_with (first | ((with_reducible refine gate_callee (f := 36) rfl ?_); refine goesL_ (some 43) rfl rfl Tryd.func36 (by kernel_rfl) rfl #[.agg #[.int .i64 ((rd_T62 l1 ((rd_T29 l0 x12_1).f0)).f0), .slice A130_1 ((rd_T62 l1 ((rd_T29 l0 x12_1).f0)).f1).length c130_1, .int .i64 ((rd_T62 l1 ((rd_T29 l0 x12_1).f0)).f2), .int .i64 ((rd_T62 l1 ((rd_T29 l0 x12_1).f0)).f3), .int .i64 ((rd_T62 l1 ((rd_T29 l0 x12_1).f0)).f4)]] rfl (by (try simp only [List.map_toArray, List.map_cons, List.map_nil]); first | done | rfl | (simp only [List.length_drop, List.length_take]; rfl)) ?_; (with_reducible refine (dom_Dom_Size.calls ((rd_T62 l1 ((rd_T29 l0 x12_1).f0)).f0) _ _ ((rd_T62 l1 ((rd_T29 l0 x12_1).f0)).f1) ((rd_T62 l1 ((rd_T29 l0 x12_1).f0)).f2) ((rd_T62 l1 ((rd_T29 l0 x12_1).f0)).f3) ((rd_T62 l1 ((rd_T29 l0 x12_1).f0)).f4) t131 _ ?side1 ?side2 A31.out).mono ?_); (case side1 => repeat (first | exact (Kd.C_below HR130_1.out HB.out) | (with_reducible refine Kd.C_alloc ?_ _) | (with_reducible refine Kd.C_drewN ?_ _) | (with_reducible refine Kd.C_drew ?_))); (case side2 => exact HC130_1.out); rintro e w43 ⟨rfl, hb⟩; refine ⟨_, rfl, ?_⟩; have n0_ := Aside0.mk (blk_below (g := gb124) (o := .cells #[.int .i64 x125000_1, .int .i64 x125001_1] 29 (0, 0)) (by (with_reducible repeat (first | refine blk_drewN ?_ _ | refine blk_drew ?_ | refine blk_alloc ?_ _)); exact BK124.out) hb); have n1_ := Aside0.mk (blk_below (g := gb125) (o := .cells #[.int .i64 x126000_1, .int .i64 x126001_1] 29 (0, 0)) (by (with_reducible repeat (first | refine blk_drewN ?_ _ | refine blk_drew ?_ | refine blk_alloc ?_ _)); exact BK125.out) hb); have n2_ := Aside0.mk (blk_below (g := gb127) (o := .cells #[.int .i64 ((rd_T29 l0 x12_1).f0), .int .i64 ((rd_T29 l0 x12_1).f1)] 29 (0, 0)) (by (with_reducible repeat (first | refine blk_drewN ?_ _ | refine blk_drew ?_ | refine blk_alloc ?_ _)); exact BK127.out) hb); have n3_ := Aside0.mk (below_step (by repeat (first | (with_reducible first | exact HB.out | apply below_alloc | apply pw_below_drewN | apply below_drew1 | refine below_set ?_ GE124.out | refine below_set ?_ GE125.out | refine below_set ?_ GE127.out) | exact HB.out)) hb); clear BK124; clear BK125; clear BK127; clear HB; have BK124 := n0_; have BK125 := n1_; have BK127 := n2_; have HB := n3_; clear n0_ n1_ n2_ n3_; (try clear hb); (try clear hb2); (try clear hk); (try clear hi)))
            go_roundg kj7
            case measure => have := HK1.out; have := HJ7.out; omega
            case rel => exact ⟨(x7_1), (wrap64 (x12_1 + 1)), (x125000_1), (x125001_1), (x126000_1), (x126001_1), (by first | rfl | (simp; done) | (simp [*]; done)), (by first | rfl | (simp; done) | (simp [*]; done)), H', ⟨by have := HK1.out; have := HJ7.out; omega⟩, ⟨by (with_reducible repeat (first | refine blk_drewN ?_ _ | refine blk_drew ?_ | refine blk_alloc ?_ _)); exact BK124.out⟩, ⟨by (with_reducible repeat (first | refine blk_drewN ?_ _ | refine blk_drew ?_ | refine blk_alloc ?_ _)); exact BK125.out⟩, ⟨by repeat (first | (with_reducible first | exact HB.out | apply below_alloc | apply pw_below_drewN | apply below_drew1 | refine below_set ?_ GE124.out | refine below_set ?_ GE125.out | refine below_set ?_ GE127.out) | exact HB.out)⟩⟩
          ·rw [if_neg c30] at H
           exact absurd H (by simp)
         ·rw [if_neg c29] at H
          exact absurd H (by simp)
     ·rw [if_neg c7] at H
      exact absurd H (by simp)
    ·rw [if_neg c6] at H
     exact absurd H (by simp)
   ·rw [if_neg c5] at H
    have c5b0 : decide (x12_1 < (l0.length : Int)) = false := decide_eq_false c5
    clear c5
    obtain ⟨ji44, hji44⟩ : ∃ j_ : Int, (mn x7_1 2) = j_ := ⟨_, rfl⟩
    replace H : (some (x126000_1, x126001_1, ji44)) = some (r1, r2, r3) := by first | (rw [hji44] at H; exact H) | (simp only [hji44] at H ⊢; exact H)
    have hji44_ : (if 2 < x7_1 then 2 else x7_1) = ji44 := hji44
    simp only [Option.some.injEq, Prod.mk.injEq] at H
    obtain ⟨rfl, rfl, rfl⟩ := H
    have hnb45 := NB125_124.out
    have hnc45 := NB124_125.out
    have hcz46_0 : wr.cell? ⟨gb125, 0, none⟩ = some (.int .i64 x126000_1) := (blk_cell BK125.out 0).trans rfl
    have hcz46_1 : wr.cell? ⟨gb125, 1, none⟩ = some (.int .i64 x126001_1) := (blk_cell BK125.out 1).trans rfl
    have hfz46_0 := blk_frozen BK125.out 0
    have hfz46_1 := blk_frozen BK125.out 1
    have hcz47_0 : wr.cell? ⟨gb124, 0, none⟩ = some (.int .i64 x125000_1) := (blk_cell BK124.out 0).trans rfl
    have hcz47_1 : wr.cell? ⟨gb124, 1, none⟩ = some (.int .i64 x125001_1) := (blk_cell BK124.out 1).trans rfl
    have hfz47_0 := blk_frozen BK124.out 0
    have hfz47_1 := blk_frozen BK124.out 1
    go_wp2
    refine bodyPost_ret (results_ct rfl _ _ gb124 29 #[.int .i64 x126000_1, .int .i64 x126001_1] (0, 0) _ rfl (by (with_reducible repeat (first | refine blk_drewN ?_ _ | refine blk_drew ?_ | refine blk_alloc ?_ _)); refine blk_put (cs := #[.int .i64 x126000_1, .int .i64 x125001_1]) ?_ 1 _ rfl; (with_reducible repeat (first | refine blk_drewN ?_ _ | refine blk_drew ?_ | refine blk_alloc ?_ _)); refine blk_put (cs := #[.int .i64 x125000_1, .int .i64 x125001_1]) ?_ 0 _ rfl; (with_reducible repeat (first | refine blk_drewN ?_ _ | refine blk_drew ?_ | refine blk_alloc ?_ _)); exact BK124.out) Tryd.underlying29 rfl (by kernel_rfl)) rfl ?_
    exact ⟨by first | rfl | (simp [errW_none, errW_some] <;> rfl) | (simp only [← hji44]; first | rfl | (simp [errW_none, errW_some] <;> rfl)) | (simp [*, errW_none, errW_some] <;> rfl), by repeat (first | (with_reducible first | exact HB.out | apply below_alloc | apply pw_below_drewN | apply below_drew1 | refine below_set ?_ GE124.out | refine below_set ?_ GE125.out) | exact HB.out)⟩

/-! ### nogood_made: function 37 -/
def nogood_made.f (l0 : List (S29)) : Option ((List (S29))) := if l0.length ≤ 1000000 then some (madeL l0) else none
theorem nogood_made.calls (A0 : Option Addr) (c0 : Nat) (l0 : List (S29)) (r : List (S29)) (w : World) (hr0 : Kd.C k29 w A0 l0.length l0) (hc0 : l0.length ≤ c0) (h : nogood_made.f l0 = some r) :
  Calls Tryd.prog 37 #[.slice A0 l0.length c0] w fun e w' => ∃ v0_ : Value, e = .returned (v0_) ∧ Kd.R k29 29 w' w.heap.size (fun _ => True) v0_ r ∧ Below w.heap.size w w' := by
 unfold nogood_made.f at h
 split at h
 ·rename_i hs
  obtain rfl := Option.some.inj h
  exact made29 A0 c0 l0 w hr0 hs
 ·cases h

end Go.Proofs.YtgckohmppefibaaDoorX.Hz
