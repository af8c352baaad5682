-- Printed by wip/tools/hp.sh (functions of the translation, out of Lean's print of them).
import Derived.Test.YtgckohmppefibaaDoorHzx0
import Derived.Test.YtgckohmppefibaaDoorShort
import Derived.Test.YtgckohmppefibaaDoorHzx4
import Derived.Test.YtgckohmppefibaaDoorHzx5
import Derived.Test.YtgckohmppefibaaDoorHzx7
namespace Go.Proofs.YtgckohmppefibaaDoorX.Hz
open Go.RowKit Go.Proofs.YtgckohmppefibaaDoorW.PrintWords Go.Proofs.YtgckohmppefibaaDoorW.PrintLast Go.Proofs.YtgckohmppefibaaDoorW.PrintMore
attribute [local go_sem] max2_int min2_int max_two min_two max_three min_three max_four min_four   -- for this text's walks alone
set_option linter.unusedVariables false
set_option linter.unusedSimpArgs false
attribute [local go_sem] Go.Proofs.YtgckohmppefibaaDoor.Hook.cell_two

/-! ### jigsawref09_Product: function 28 -/
mutual
def jigsawref09_Product.l0 : Nat → List (List Int) → Int → Int → Int → Option ((List (List Int)))
 | 0, _, _, _, _ => none
 | k + 1, x0, x1, x5, x6 => if x6 < (x0.length : Int) then (if 0 ≤ x6 then (if (wrap64 (x5 * ((rd_L13 x0 x6).length : Int))) > x1 then (some ([] : List (List Int))) else (jigsawref09_Product.l0 k x0 x1 (wrap64 (x5 * ((rd_L13 x0 x6).length : Int))) (wrap64 (x6 + 1)))) else (none)) else (jigsawref09_Product.l1 k x0 x5 ([] : List (List Int)) 0)
def jigsawref09_Product.l1 : Nat → List (List Int) → Int → List (List Int) → Int → Option ((List (List Int)))
 | 0, _, _, _, _ => none
 | k + 1, x0, x5, x7, x8 => if x8 < x5 then (if 0 ≤ (x0.length : Int) then (if ((x0.length : Int) : Int).toNat ≤ 35184372088832 then (jigsawref09_Product.l2 k x0 x5 x7 x8 (List.replicate ((x0.length : Int) : Int).toNat 0) x8 (wrap64 ((x0.length : Int) - 1))) else (none)) else (none)) else (some x7)
def jigsawref09_Product.l2 : Nat → List (List Int) → Int → List (List Int) → Int → List Int → Int → Int → Option ((List (List Int)))
 | 0, _, _, _, _, _, _, _ => none
 | k + 1, x0, x5, x7, x8, x9, x10, x11 => if x11 ≥ 0 then (if 0 ≤ x11 then (if x11 < (x0.length : Int) then (if ((rd_L13 x0 x11).length : Int) = 0 then (none) else (if 0 ≤ (Int.tmod x10 ((rd_L13 x0 x11).length : Int)) then (if (Int.tmod x10 ((rd_L13 x0 x11).length : Int)) < ((rd_L13 x0 x11).length : Int) then (if x11 < (x9.length : Int) then (jigsawref09_Product.l2 k x0 x5 x7 x8 (x9.set (x11 : Int).toNat (rd (rd_L13 x0 x11) (Int.tmod x10 ((rd_L13 x0 x11).length : Int)))) (wrap64 (Int.tdiv x10 ((rd_L13 x0 x11).length : Int))) (wrap64 (x11 - 1))) else (none)) else (none)) else (none))) else (none)) else (none)) else (if x7.length < 5864062014805 then (jigsawref09_Product.l1 k x0 x5 (x7 ++ [x9]) (wrap64 (x8 + 1))) else (none))
end
def jigsawref09_Product.f (k : Nat) (l0 : List (List Int)) (a1 : Int) : Option ((List (List Int))) := jigsawref09_Product.l0 k l0 a1 1 0
theorem jigsawref09_Product.mono_l : ∀ k, (∀ y0 y1 y2 y3, LeO (jigsawref09_Product.l0 k y0 y1 y2 y3) (jigsawref09_Product.l0 (k + 1) y0 y1 y2 y3)) ∧ (∀ y0 y1 y2 y3, LeO (jigsawref09_Product.l1 k y0 y1 y2 y3) (jigsawref09_Product.l1 (k + 1) y0 y1 y2 y3)) ∧ (∀ y0 y1 y2 y3 y4 y5 y6, LeO (jigsawref09_Product.l2 k y0 y1 y2 y3 y4 y5 y6) (jigsawref09_Product.l2 (k + 1) y0 y1 y2 y3 y4 y5 y6))
 | 0 => ⟨fun _ _ _ _ r h => by simp [jigsawref09_Product.l0] at h, fun _ _ _ _ r h => by simp [jigsawref09_Product.l1] at h, fun _ _ _ _ _ _ _ r h => by simp [jigsawref09_Product.l2] at h⟩
 | k + 1 => by
  obtain ⟨ih0, ih1, ih2⟩ := jigsawref09_Product.mono_l k
  refine ⟨?_, ?_, ?_⟩
  ·intro y0 y1 y2 y3
   unfold jigsawref09_Product.l0
   repeat' first
   | (with_reducible exact ih0 _ _ _ _)
   | (with_reducible exact ih1 _ _ _ _)
   | (with_reducible exact ih2 _ _ _ _ _ _ _)
   | (with_reducible exact LeO.refl _)
   | (with_reducible exact LeO.none _)
   | (with_reducible refine LeO.ite ?_ ?_)
   | (with_reducible refine LeO.bind ?_ (fun _ => ?_))
   | exact ih0 _ _ _ _
   | exact ih1 _ _ _ _
   | exact ih2 _ _ _ _ _ _ _
   | exact LeO.none _
   | refine LeO.ite ?_ ?_
   | refine LeO.bind ?_ (fun _ => ?_)
  ·intro y0 y1 y2 y3
   unfold jigsawref09_Product.l1
   repeat' first
   | (with_reducible exact ih0 _ _ _ _)
   | (with_reducible exact ih1 _ _ _ _)
   | (with_reducible exact ih2 _ _ _ _ _ _ _)
   | (with_reducible exact LeO.refl _)
   | (with_reducible exact LeO.none _)
   | (with_reducible refine LeO.ite ?_ ?_)
   | (with_reducible refine LeO.bind ?_ (fun _ => ?_))
   | exact ih0 _ _ _ _
   | exact ih1 _ _ _ _
   | exact ih2 _ _ _ _ _ _ _
   | exact LeO.none _
   | refine LeO.ite ?_ ?_
   | refine LeO.bind ?_ (fun _ => ?_)
  ·intro y0 y1 y2 y3 y4 y5 y6
   unfold jigsawref09_Product.l2
   repeat' first
   | (with_reducible exact ih0 _ _ _ _)
   | (with_reducible exact ih1 _ _ _ _)
   | (with_reducible exact ih2 _ _ _ _ _ _ _)
   | (with_reducible exact LeO.refl _)
   | (with_reducible exact LeO.none _)
   | (with_reducible refine LeO.ite ?_ ?_)
   | (with_reducible refine LeO.bind ?_ (fun _ => ?_))
   | exact ih0 _ _ _ _
   | exact ih1 _ _ _ _
   | exact ih2 _ _ _ _ _ _ _
   | exact LeO.none _
   | refine LeO.ite ?_ ?_
   | refine LeO.bind ?_ (fun _ => ?_)
theorem jigsawref09_Product.mono : ∀ a0 a1 k, LeO (jigsawref09_Product.f k a0 a1) (jigsawref09_Product.f (k + 1) a0 a1) := by
 intro a0 a1 k
 obtain ⟨ih0, ih1, ih2⟩ := jigsawref09_Product.mono_l k
 unfold jigsawref09_Product.f
 repeat' first
   | (with_reducible exact ih0 _ _ _ _)
   | (with_reducible exact ih1 _ _ _ _)
   | (with_reducible exact ih2 _ _ _ _ _ _ _)
   | (with_reducible exact LeO.refl _)
   | (with_reducible exact LeO.none _)
   | (with_reducible refine LeO.ite ?_ ?_)
   | (with_reducible refine LeO.bind ?_ (fun _ => ?_))
   | exact ih0 _ _ _ _
   | exact ih1 _ _ _ _
   | exact ih2 _ _ _ _ _ _ _
   | exact LeO.none _
   | refine LeO.ite ?_ ?_
   | refine LeO.bind ?_ (fun _ => ?_)
def jigsawref09_Product.T17 : Bool × List (List Nat × List Nat) := (true, [([], []), ([], []), ([], []), ([], []), ([2, 3], [2, 3]), ([4], [4]), ([], []), ([], []), ([], []), ([7, 8], [7, 8]), ([9], [9]), ([10], [10]), ([6, 11], [6, 11]), ([5, 12], [5, 12]), ([13], [13]), ([0, 1, 0, 1, 2, 3, 4, 5, 6, 7, 8, 9, 10, 11, 12, 13, 14], [0, 1]), ([15, 14, 0, 1, 2, 3, 4, 5, 6, 7, 8, 9, 10, 11, 12, 13, 14], [14, 15])])
def jigsawref09_Product.B17 : List Nat := [0, 0, 0, 0, 12, 28, 0, 0, 0, 384, 896, 1920, 4032, 8188, 16380, 32767, 65535]
theorem jigsawref09_Product.tab17 : rtab .any (opsOf Tryd.f28 17) = jigsawref09_Product.T17 := by kernel_rfl
theorem jigsawref09_Product.bits17 : waitsOk jigsawref09_Product.T17.2 jigsawref09_Product.B17 = true := by kernel_rfl
set_option maxHeartbeats 8000000 in
set_option maxRecDepth 100000 in
theorem jigsawref09_Product.calls (k : Nat) (A0 : Option Addr) (c0 : Nat) (l0 : List (List Int)) (a1 : Int) (r : List (List Int)) (w : World) (hr0 : Kd.C (Kd.slice 3 (Kd.int .i64)) w A0 l0.length l0) (hc0 : l0.length ≤ c0) (h : jigsawref09_Product.f k l0 a1 = some r) :
  Calls Tryd.prog 28 #[.slice A0 l0.length c0, .int .i64 a1] w fun e w' => ∃ v0_ : Value, e = .returned (v0_) ∧ Kd.S (Kd.slice 3 (Kd.int .i64)) 63 w' w.heap.size (fun _ => True) v0_ r ∧ Below w.heap.size w w' := by
 have HR0 := Aside0.mk hr0
 have HC0 := Aside0.mk hc0
 clear hr0 hc0
 have HB := Aside0.mk (Below.refl w.heap.size w)
 have H : (jigsawref09_Product.l0 k l0 a1 1 0) = some r := h
 clear h
 have H' := Aside0.mk H
 clear H
 go_enter Tryd.func28, Tryd.ntmps28
 go_wp2
 go_loopg [5, 6] k (fun kq v5 v6 w' => ∃ (x5_1 : Int) (x6_1 : Int), v5 = .int .i64 x5_1 ∧ v6 = .int .i64 x6_1 ∧ Aside0 (jigsawref09_Product.l0 kq l0 a1 x5_1 x6_1 = some r) ∧ Aside0 (kq ≤ k) ∧ Aside0 (Below w.heap.size w w'))
 case atStart => exact ⟨(1), (0), (by first | rfl | (simp; done) | (simp [*]; done)), (by first | rfl | (simp; done) | (simp [*]; done)), H', ⟨Nat.le_refl _⟩, ⟨by repeat (first | (with_reducible first | exact HB.out | apply below_alloc | apply pw_below_drewN | apply below_drew1) | exact HB.out)⟩⟩
 case round =>
  clear H'
  try clear c2
  try clear p2
  obtain ⟨x5_1, x6_1, rfl, rfl, HA, HK1, HB⟩ := hrel
  cases gk with
  | zero => exact absurd HA.out (by simp [jigsawref09_Product.l0])
  | succ k1 =>
   have H := HA.out
   clear HA
   simp only [jigsawref09_Product.l0] at H
   by_cases c3 : x6_1 < (l0.length : Int)
   ·rw [if_pos c3] at H
    have c3b0 : decide (x6_1 < (l0.length : Int)) = true := decide_eq_true c3
    clear c3
    by_cases c4 : 0 ≤ x6_1
    ·rw [if_pos c4] at H
     have c4b0 : decide (0 ≤ x6_1) = true := decide_eq_true c4
     clear c4
     by_cases c5 : (wrap64 (x5_1 * ((rd_L13 l0 x6_1).length : Int))) > a1
     ·rw [if_pos c5] at H
      have c5b0 : decide (a1 < (wrap64 (x5_1 * ((rd_L13 l0 x6_1).length : Int)))) = true := decide_eq_true c5
      clear c5
      obtain rfl := Option.some.inj H
      have p251 : 0 ≤ (x6_1 : Int) := of_decide_eq_true (by first | (with_reducible assumption) | assumption)
      have q251 : x6_1 < (l0.length : Int) := of_decide_eq_true (by first | (with_reducible assumption) | assumption)
      obtain ⟨ad251, A251_0, c251_0, e251, hx251_0, hl251_0, hi251_0⟩ := at_L13 HR0.out x6_1 p251 q251
      cases e251
      replace hx251_0 := (HB.out.cell (World.block_lt_of_cell? w _ hx251_0)).trans hx251_0
      have HR251_0 := Aside0.mk hi251_0
      have HC251_0 := Aside0.mk hl251_0
      clear hi251_0 hl251_0
      replace p251 := eq_true p251
      replace q251 := eq_true q251
      go_wp2
      go_ret
      exact ⟨_, by first | rfl | (simp [errW_none, errW_some] <;> rfl) | (simp [*, errW_none, errW_some] <;> rfl), by first | exact Kd.S_nil _ _ _ _ _ | exact Kd.N_nil _ _ _ _ _ | exact Kd.V_nil _ _ _ _ _ | exact Kd.Q_nil _ _ _ _ _ | exact Kd.R_nil _ _ _ _ _, by repeat (first | (with_reducible first | exact HB.out | apply below_alloc | apply pw_below_drewN | apply below_drew1) | exact HB.out)⟩
     ·rw [if_neg c5] at H
      have c5b0 : decide (a1 < (wrap64 (x5_1 * ((rd_L13 l0 x6_1).length : Int)))) = false := decide_eq_false c5
      clear c5
      have H' := Aside0.mk H
      clear H
      have p251 : 0 ≤ (x6_1 : Int) := of_decide_eq_true (by first | (with_reducible assumption) | assumption)
      have q251 : x6_1 < (l0.length : Int) := of_decide_eq_true (by first | (with_reducible assumption) | assumption)
      obtain ⟨ad251, A251_0, c251_0, e251, hx251_0, hl251_0, hi251_0⟩ := at_L13 HR0.out x6_1 p251 q251
      cases e251
      replace hx251_0 := (HB.out.cell (World.block_lt_of_cell? w _ hx251_0)).trans hx251_0
      have HR251_0 := Aside0.mk hi251_0
      have HC251_0 := Aside0.mk hl251_0
      clear hi251_0 hl251_0
      replace p251 := eq_true p251
      replace q251 := eq_true q251
      go_wp2
      go_roundg k1
      case measure => have := HK1.out; omega
      case rel => exact ⟨(wrap64 (x5_1 * ((rd_L13 l0 x6_1).length : Int))), (wrap64 (x6_1 + 1)), (by first | rfl | (simp; done) | (simp [*]; done)), (by first | rfl | (simp; done) | (simp [*]; done)), H', ⟨by have := HK1.out; omega⟩, ⟨by repeat (first | (with_reducible first | exact HB.out | apply below_alloc | apply pw_below_drewN | apply below_drew1) | exact HB.out)⟩⟩
    ·rw [if_neg c4] at H
     exact absurd H (by simp)
   ·rw [if_neg c3] at H
    have c3b0 : decide (x6_1 < (l0.length : Int)) = false := decide_eq_false c3
    clear c3
    have H' := Aside0.mk H
    clear H
    go_wp2
    go_loopg [7, 8] k1 (fun kq v7 v8 w' => ∃ (x7_2 : List (List Int)) (x8_2 : Int), v8 = .int .i64 x8_2 ∧ Aside0 (jigsawref09_Product.l1 kq l0 x5_1 x7_2 x8_2 = some r) ∧ Aside0 (kq ≤ k1) ∧ Aside0 (Kd.S (Kd.slice 3 (Kd.int .i64)) 63 w' w.heap.size (fun _ => True) v7 x7_2) ∧ Aside0 (Below w.heap.size w w'))
    case atStart => exact ⟨(([] : List (List Int))), (0), (by first | rfl | (simp; done) | (simp [*]; done)), H', ⟨Nat.le_refl _⟩, ⟨by first | exact Kd.S_nil _ _ _ _ _ | exact Kd.N_nil _ _ _ _ _ | exact Kd.V_nil _ _ _ _ _ | exact Kd.Q_nil _ _ _ _ _ | exact Kd.R_nil _ _ _ _ _⟩, ⟨by repeat (first | (with_reducible first | exact HB.out | apply below_alloc | apply pw_below_drewN | apply below_drew1) | exact HB.out)⟩⟩
    case round =>
     clear H'
     try clear c2
     try clear p2
     try clear q2
     try clear hx2
     try clear c3
     try clear c3b0
     try clear c4
     try clear c4b0
     try clear c5
     try clear c5b0
     try clear hx251_0
     try clear p2
     try clear p251
     try clear q251
     obtain ⟨x7_2, x8_2, rfl, HA, HK2, HO_7, HB⟩ := hrel
     cases gk with
     | zero => exact absurd HA.out (by simp [jigsawref09_Product.l1])
     | succ k2 =>
      have H := HA.out
      clear HA
      simp only [jigsawref09_Product.l1] at H
      by_cases c6 : x8_2 < x5_1
      ·rw [if_pos c6] at H
       have c6b0 : decide (x8_2 < x5_1) = true := decide_eq_true c6
       clear c6
       by_cases c7 : 0 ≤ (l0.length : Int)
       ·rw [if_pos c7] at H
        have c7b0 := eq_true c7
        have c7b1 : decide (0 ≤ (l0.length : Int)) = true := decide_eq_true c7
        clear c7
        by_cases c8 : ((l0.length : Int) : Int).toNat ≤ 35184372088832
        ·rw [if_pos c8] at H
         have c8b0 := eq_true c8
         have c8b1 : decide (((l0.length : Int) : Int).toNat ≤ 35184372088832) = true := decide_eq_true c8
         clear c8
         obtain ⟨y252, hy252⟩ : ∃ y_ : List Int, y_ = (List.replicate ((l0.length : Int) : Int).toNat 0) := ⟨_, rfl⟩
         replace H : (jigsawref09_Product.l2 k2 l0 x5_1 x7_2 x8_2 y252 x8_2 (wrap64 ((l0.length : Int) - 1))) = some r := by first | (rw [hy252]; with_reducible exact H) | (have H2_ := (Option.bind_some _ _).symm.trans H; rw [hy252]; with_reducible exact H2_) | (have H2_ := (Option.bind_some _ _).symm.trans H; with_reducible exact H2_) | with_reducible exact H | (rw [hy252]; exact H) | exact H
         have Ny252 := Aside0.mk hy252
         clear hy252
         have H' := Aside0.mk H
         clear H
         go_wp2_with (first | ((with_reducible refine gate_dst (N := 35) rfl ?_); refine Kd.R_make (Kd.int .i64) _ 3 rfl (N := 35) rfl 63 _ _ rfl (l0.length : Int) rfl rfl Tryd.underlying63 (.int .i64 0) 8 info3 rfl (by decide) (by omega) 0 (ok := fun _ => True) (okp := fun _ => True) rfl (fun _ hk => hk) trivial (of_decide_eq_true (by first | (with_reducible assumption) | assumption)) (Nat.le_trans (Nat.mul_le_mul_right _ (of_decide_eq_true (by first | (with_reducible assumption) | assumption) : (l0.length : Int).toNat ≤ 35184372088832)) (by omega)) (Below.refl _ _) (Nat.le_refl _) ?_; intro v253 w9 ho10 hb hg_ hnew_; clear hg_ hnew_; (first | rw [← Ny252.out] at ho10 | (simp only [Int.reduceToNat] at ho10; rw [← Ny252.out] at ho10)); have n0_ := Aside0.mk (Kd.S_elder' (by (with_reducible repeat (first | apply Kd.S_alloc | apply Kd.S_drewN | apply Kd.S_drew)); exact HO_7.out) (Kd.R_base ho10) hb); have n1_ := Aside0.mk (Kd.R_lower ho10 (below_size (by repeat (first | (with_reducible first | exact HB.out | apply below_alloc | apply pw_below_drewN | apply below_drew1) | exact HB.out)))); have n2_ := Aside0.mk (below_step (by repeat (first | (with_reducible first | exact HB.out | apply below_alloc | apply pw_below_drewN | apply below_drew1) | exact HB.out)) hb); clear HO_7; clear HB; have HO_7 := n0_; have HO254 := n1_; have HB := n2_; clear n0_ n1_ n2_; clear hb ho10))
         go_loopg [10, 11] k2 (fun kq v10 v11 w' => ∃ (x9_3 : List Int) (x10_3 : Int) (x11_3 : Int), v10 = .int .i64 x10_3 ∧ v11 = .int .i64 x11_3 ∧ Aside0 (jigsawref09_Product.l2 kq l0 x5_1 x7_2 x8_2 x9_3 x10_3 x11_3 = some r) ∧ Aside0 (kq ≤ k2) ∧ Aside0 (Kd.S (Kd.slice 3 (Kd.int .i64)) 63 w' w.heap.size (fun k_ => some k_ ≠ (v253 : Value).ownBlock) u7 x7_2) ∧ Aside0 (Kd.R (Kd.int .i64) 3 w' w.heap.size (fun _ => True) v253 x9_3) ∧ Aside0 (Below w.heap.size w w'))
         case atStart => exact ⟨(y252), (x8_2), (wrap64 ((l0.length : Int) - 1)), (by first | rfl | (simp; done) | (simp [*]; done)), (by first | rfl | (simp; done) | (simp [*]; done)), H', ⟨Nat.le_refl _⟩, ⟨by (with_reducible repeat (first | apply Kd.S_alloc | apply Kd.S_drewN | apply Kd.S_drew)); exact Kd.S_mono HO_7.out (fun _ hk => hk.2)⟩, ⟨by (with_reducible repeat (first | apply Kd.R_alloc | apply Kd.R_drewN | apply Kd.R_drew)); exact HO254.out⟩, ⟨by repeat (first | (with_reducible first | exact HB.out | apply below_alloc | apply pw_below_drewN | apply below_drew1) | exact HB.out)⟩⟩
         case round =>
          clear H'
          try clear c2
          try clear p2
          try clear q2
          try clear hx2
          try clear c3
          try clear c3b0
          try clear c4
          try clear c4b0
          try clear c5
          try clear c5b0
          try clear c6
          try clear c6b0
          try clear p6
          try clear c7
          try clear c7b0
          try clear c7b1
          try clear c8
          try clear c8b0
          try clear c8b1
          try clear hx251_0
          try clear p2
          try clear p251
          try clear q2
          try clear q251
          obtain ⟨x9_3, x10_3, x11_3, rfl, rfl, HA, HK3, HO_7, HO_9, HB⟩ := hrel
          cases gk with
          | zero => exact absurd HA.out (by simp [jigsawref09_Product.l2])
          | succ k3 =>
           have H := HA.out
           clear HA
           simp only [jigsawref09_Product.l2] at H
           by_cases c11 : x11_3 ≥ 0
           ·rw [if_pos c11] at H
            have c11b0 : decide (0 ≤ x11_3) = true := decide_eq_true c11
            clear c11
            by_cases c12 : 0 ≤ x11_3
            ·rw [if_pos c12] at H
             have c12b0 : decide (0 ≤ x11_3) = true := decide_eq_true c12
             clear c12
             by_cases c13 : x11_3 < (l0.length : Int)
             ·rw [if_pos c13] at H
              have c13b0 : decide (x11_3 < (l0.length : Int)) = true := decide_eq_true c13
              clear c13
              by_cases c14 : ((rd_L13 l0 x11_3).length : Int) = 0
              ·rw [if_pos c14] at H
               exact absurd H (by simp)
              ·rw [if_neg c14] at H
               have c14b0 : (((rd_L13 l0 x11_3).length : Int) == 0) = false := beq_eq_false_iff_ne.mpr c14
               have c14b1 : (((rd_L13 l0 x11_3).length : Int) != 0) = true := bne_iff_ne.mpr c14
               have c14b2 : ¬ ((rd_L13 l0 x11_3) = []) := fun h_ => c14 (by rw [h_]; rfl)
               obtain ⟨ji15, hji15⟩ : ∃ j_ : Int, (Int.tmod x10_3 ((rd_L13 l0 x11_3).length : Int)) = j_ := ⟨_, rfl⟩
               replace H : (if 0 ≤ (ji15) then (if (ji15) < ((rd_L13 l0 x11_3).length : Int) then (if x11_3 < (x9_3.length : Int) then (jigsawref09_Product.l2 k3 l0 x5_1 x7_2 x8_2 (x9_3.set (x11_3 : Int).toNat (rd (rd_L13 l0 x11_3) (ji15))) (wrap64 (Int.tdiv x10_3 ((rd_L13 l0 x11_3).length : Int))) (wrap64 (x11_3 - 1))) else (none)) else (none)) else (none)) = some r := by first | (rw [hji15] at H; exact H) | (simp only [hji15] at H ⊢; exact H)
               by_cases c16 : 0 ≤ (ji15)
               ·rw [if_pos c16] at H
                have c16b0 : decide (0 ≤ (ji15)) = true := decide_eq_true c16
                clear c16
                by_cases c17 : (ji15) < ((rd_L13 l0 x11_3).length : Int)
                ·rw [if_pos c17] at H
                 have c17b0 : decide ((ji15) < ((rd_L13 l0 x11_3).length : Int)) = true := decide_eq_true c17
                 clear c17
                 by_cases c18 : x11_3 < (x9_3.length : Int)
                 ·rw [if_pos c18] at H
                  have c18b0 : decide (x11_3 < (x9_3.length : Int)) = true := decide_eq_true c18
                  clear c18
                  obtain ⟨y258, hy258⟩ : ∃ y_ : List Int, y_ = (x9_3.set (x11_3 : Int).toNat (rd (rd_L13 l0 x11_3) (ji15))) := ⟨_, rfl⟩
                  replace H : (jigsawref09_Product.l2 k3 l0 x5_1 x7_2 x8_2 y258 (wrap64 (Int.tdiv x10_3 ((rd_L13 l0 x11_3).length : Int))) (wrap64 (x11_3 - 1))) = some r := by first | (rw [hy258]; with_reducible exact H) | (have H2_ := (Option.bind_some _ _).symm.trans H; rw [hy258]; with_reducible exact H2_) | (have H2_ := (Option.bind_some _ _).symm.trans H; with_reducible exact H2_) | with_reducible exact H | (rw [hy258]; exact H) | exact H
                  have Ny258 := Aside0.mk hy258
                  clear hy258
                  have H' := Aside0.mk H
                  clear H
                  try go_wp2
                  have n0_ := Aside0.mk (Kd.S_drew HO_7.out)
                  have n1_ := Aside0.mk (Kd.R_drew HO_9.out)
                  have n2_ := Aside0.mk (below_drew1 HB.out)
                  clear HO_7
                  clear HO_9
                  clear HB
                  have HO_7 := n0_
                  have HO_9 := n1_
                  have HB := n2_
                  clear n0_ n1_ n2_
                  have p255 : 0 ≤ (x11_3 : Int) := of_decide_eq_true (by first | (with_reducible assumption) | assumption)
                  have q255 : x11_3 < (l0.length : Int) := of_decide_eq_true (by first | (with_reducible assumption) | assumption)
                  obtain ⟨ad255, A255_0, c255_0, e255, hx255_0, hl255_0, hi255_0⟩ := at_L13 HR0.out x11_3 p255 q255
                  have hw255_0 := hx255_0
                  cases e255
                  replace hx255_0 := (HB.out.cell (World.block_lt_of_cell? w _ hx255_0)).trans hx255_0
                  have HR255_0 := Aside0.mk hi255_0
                  have HC255_0 := Aside0.mk hl255_0
                  clear hi255_0 hl255_0
                  replace p255 := eq_true p255
                  replace q255 := eq_true q255
                  have p256 : 0 ≤ (x11_3 : Int) := of_decide_eq_true (by first | (with_reducible assumption) | assumption)
                  have q256 : x11_3 < (l0.length : Int) := of_decide_eq_true (by first | (with_reducible assumption) | assumption)
                  obtain ⟨ad256, A256_0, c256_0, e256, hx256_0, hl256_0, hi256_0⟩ := at_L13 HR0.out x11_3 p256 q256
                  have hw256_0 := hx256_0
                  obtain rfl : ad255 = ad256 := (by injection e256)
                  replace hx256_0 := (HB.out.cell (World.block_lt_of_cell? w _ hx256_0)).trans hx256_0
                  have HR256_0 := Aside0.mk hi256_0
                  have HC256_0 := Aside0.mk hl256_0
                  clear hi256_0 hl256_0
                  replace p256 := eq_true p256
                  replace q256 := eq_true q256
                  have ea_ := Option.some.inj (hx255_0.symm.trans hx256_0)
                  injection ea_ with ea_ en_ ec_
                  subst ea_
                  subst ec_
                  clear en_
                  have p257 : 0 ≤ ((ji15) : Int) := of_decide_eq_true (by first | (with_reducible assumption) | assumption)
                  have q257 : (ji15) < ((rd_L13 l0 x11_3).length : Int) := of_decide_eq_true (by first | (with_reducible assumption) | assumption)
                  obtain ⟨ad257, e257, hx257_0⟩ := Kd.at_int HR255_0.out (ji15) p257 q257
                  have hw257_0 := hx257_0
                  cases e257
                  replace hx257_0 := (HB.out.cell (World.block_lt_of_cell? w _ hx257_0)).trans hx257_0
                  replace p257 := eq_true p257
                  replace q257 := eq_true q257
                  have p19 : 0 ≤ (x11_3 : Int) := of_decide_eq_true (by first | (with_reducible assumption) | assumption)
                  have q19 : (x11_3 : Int) < ((x9_3.length : Int) : Int) := of_decide_eq_true (by first | (with_reducible assumption) | assumption)
                  obtain ⟨go19, co19, eo19, gb19, gl19, cl19, HG19⟩ := Kd.R_form HO_9.out (by omega)
                  (first | cases eo19 | (injection eo19 with ea_ en_ ec_; (first | subst ea_ | (injection ea_ with ea_; subst ea_)); subst ec_; clear en_))
                  have GB19 := Aside0.mk gb19
                  have GG19 := Aside0.mk HG19
                  clear gb19 gl19 HG19
                  obtain ⟨hx19_0, hf19_0⟩ := Kd.R_celln 0 HO_9.out (x11_3 : Int) p19 q19
                  replace p19 := eq_true p19
                  replace q19 := eq_true q19
                  have HP21 := Kd.R_putn HO_9.out (x11_3 : Int) (rd (rd_L13 l0 x11_3) (ji15))
                  rw [← Ny258.out] at HP21
                  have HQ21 := Aside0.mk HP21
                  clear HP21
                  refine start_ (n := 17) (S := fun w' => w'.cell? (ad255.add (x11_3).toNat) = some (.slice (some ad257) (rd_L13 l0 x11_3).length c255_0) ∧ w'.cell? (ad255.add (x11_3).toNat) = some (.slice (some ad257) (rd_L13 l0 x11_3).length c255_0) ∧ w'.cell? (ad257.add ((ji15)).toNat) = some (.int .i64 (rd (rd_L13 l0 x11_3) (ji15)))) (ds := [16]) #[false, false, false, false, false, false, false, false, false, false, false, false, false, false, false, false, false] (by kernel_rfl) rfl rfl ⟨((HB.out.cell (World.block_lt_of_cell? w _ hw255_0)).trans hw255_0), ((HB.out.cell (World.block_lt_of_cell? w _ hw256_0)).trans hw256_0), ((HB.out.cell (World.block_lt_of_cell? w _ hw257_0)).trans hw257_0)⟩ (fun hHeld => ?_); refine with_tabW jigsawref09_Product.tab17 jigsawref09_Product.bits17 (fun HT_ HW_ => ?_)
                  generalize wr.drew = w20 at HO_7 HO_9 HB GG19 HQ21 HR255_0 HR256_0 hf19_0 hx19_0 hx255_0 hx256_0 hx257_0 hHeld ⊢
                  refine pA 0 44 #[true, false, false, false, false, false, false, false, false, false, false, false, false, false, false, false, false] HT_ ?_
                  refine pA 1 45 #[true, true, false, false, false, false, false, false, false, false, false, false, false, false, false, false, false] HT_ ?_
                  refine pA 2 46 #[true, true, true, false, false, false, false, false, false, false, false, false, false, false, false, false, false] HT_ ?_
                  refine pA 3 47 #[true, true, true, true, false, false, false, false, false, false, false, false, false, false, false, false, false] HT_ ?_
                  refine pA 4 48 #[true, true, true, true, true, false, false, false, false, false, false, false, false, false, false, false, false] HT_ ?_
                  refine pA 6 50 #[true, true, true, true, true, false, true, false, false, false, false, false, false, false, false, false, false] HT_ ?_
                  refine pA 7 51 #[true, true, true, true, true, false, true, true, false, false, false, false, false, false, false, false, false] HT_ ?_
                  refine pA 8 52 #[true, true, true, true, true, false, true, true, true, false, false, false, false, false, false, false, false] HT_ ?_
                  refine pA 9 53 #[true, true, true, true, true, false, true, true, true, true, false, false, false, false, false, false, false] HT_ ?_
                  refine pT3 5 49 #[true, true, true, true, true, true, true, true, true, true, false, false, false, false, false, false, false] HT_ HW_ hHeld ?_
                  refine pT3 10 54 #[true, true, true, true, true, true, true, true, true, true, true, false, false, false, false, false, false] HT_ HW_ hHeld ?_
                  refine pA 11 55 #[true, true, true, true, true, true, true, true, true, true, true, true, false, false, false, false, false] HT_ ?_
                  refine pA 12 56 #[true, true, true, true, true, true, true, true, true, true, true, true, true, false, false, false, false] HT_ ?_
                  refine pA 13 57 #[true, true, true, true, true, true, true, true, true, true, true, true, true, true, false, false, false] HT_ ?_
                  refine pT3 14 58 #[true, true, true, true, true, true, true, true, true, true, true, true, true, true, true, false, false] HT_ HW_ hHeld ?_
                  refine pA 15 59 #[true, true, true, true, true, true, true, true, true, true, true, true, true, true, true, true, false] HT_ ?_
                  refine last_ (i := 16) (N := none) #[true, true, true, true, true, true, true, true, true, true, true, true, true, true, true, true, true] rfl rfl (one_of HT_.out (by kernel_rfl)) (by decide) (fun K hK => ?_)
                  refine skip_ (w1 := ?_) (by rfl) rfl ?_ ?_
                  rotate_left
                  ·go_simp
                   rfl
                  refine hK.out _ _ ?_
                  clear hK K
                  refine done_ (done_of HT_.out (by kernel_rfl)) ?_
                  have p259 : 0 ≤ (x11_3 : Int) := of_decide_eq_true (by first | (with_reducible assumption) | assumption)
                  have q259 : x11_3 < (l0.length : Int) := of_decide_eq_true (by first | (with_reducible assumption) | assumption)
                  obtain ⟨ad259, A259_0, c259_0, e259, hx259_0, hl259_0, hi259_0⟩ := at_L13 HR0.out x11_3 p259 q259
                  obtain rfl : ad255 = ad259 := (by injection e259)
                  have hn259_0 : ad255.block ≠ go19 := Nat.ne_of_lt (Nat.lt_of_lt_of_le (by have := World.block_lt_of_cell? _ _ hx259_0; first | rwa [add_block] at this | exact this) GB19.out)
                  replace hx259_0 := (HB.out.cell (World.block_lt_of_cell? w _ hx259_0)).trans hx259_0
                  have HR259_0 := Aside0.mk hi259_0
                  have HC259_0 := Aside0.mk hl259_0
                  clear hi259_0 hl259_0
                  replace hx259_0 := (cell_far (p := ⟨go19, (x11_3 : Int).toNat, none⟩) (by first | (rw [add_block]; exact hn259_0) | (show (Addr.add _ _).block ≠ _; rw [add_block]; exact hn259_0) | exact hn259_0) (.int .i64 (rd (rd_L13 l0 x11_3) (ji15)))).trans hx259_0
                  clear hn259_0
                  replace p259 := eq_true p259
                  replace q259 := eq_true q259
                  try go_wp2
                  go_roundg k3
                  case measure => have := HK1.out; have := HK2.out; have := HK3.out; omega
                  case rel => exact ⟨(y258), (wrap64 (Int.tdiv x10_3 ((rd_L13 l0 x11_3).length : Int))), (wrap64 (x11_3 - 1)), (by first | rfl | (simp; done) | (simp [*]; done)), (by first | rfl | (simp; done) | (simp [*]; done)), H', ⟨by have := HK1.out; have := HK2.out; have := HK3.out; omega⟩, ⟨by (with_reducible repeat (first | apply Kd.S_alloc | apply Kd.S_drewN | apply Kd.S_drew)); exact Kd.S_mono (Kd.S_far (p := ⟨go19, (x11_3 : Int).toNat, none⟩) (Kd.S_mono HO_7.out (fun k_ hk => (⟨hk, fun e_ => hk (by rw [e_]; rfl)⟩ : _ ∧ k_ ≠ go19))) (fun _ hk => hk.2) (.int .i64 (rd (rd_L13 l0 x11_3) (ji15)))) (fun _ hk => hk.1)⟩, ⟨by (with_reducible repeat (first | apply Kd.R_alloc | apply Kd.R_drewN | apply Kd.R_drew)); exact HQ21.out⟩, ⟨by repeat (first | (with_reducible first | exact HB.out | apply below_alloc | apply pw_below_drewN | apply below_drew1 | refine below_set ?_ GB19.out) | exact HB.out)⟩⟩
                 ·rw [if_neg c18] at H
                  exact absurd H (by simp)
                ·rw [if_neg c17] at H
                 exact absurd H (by simp)
               ·rw [if_neg c16] at H
                exact absurd H (by simp)
             ·rw [if_neg c13] at H
              exact absurd H (by simp)
            ·rw [if_neg c12] at H
             exact absurd H (by simp)
           ·rw [if_neg c11] at H
            have c11b0 : decide (0 ≤ x11_3) = false := decide_eq_false c11
            clear c11
            by_cases c22 : x7_2.length < 5864062014805
            ·rw [if_pos c22] at H
             have LMc22 := Aside0.mk c22
             clear c22
             obtain ⟨y260, hy260⟩ : ∃ y_ : List (List Int), y_ = (x7_2 ++ [x9_3]) := ⟨_, rfl⟩
             replace H : (jigsawref09_Product.l1 k3 l0 x5_1 y260 (wrap64 (x8_2 + 1))) = some r := by first | (rw [hy260]; with_reducible exact H) | (have H2_ := (Option.bind_some _ _).symm.trans H; rw [hy260]; with_reducible exact H2_) | (have H2_ := (Option.bind_some _ _).symm.trans H; with_reducible exact H2_) | with_reducible exact H | (rw [hy260]; exact H) | exact H
             have Ny260 := Aside0.mk hy260
             clear hy260
             have H' := Aside0.mk H
             clear H
             obtain ⟨Ao24, co24, eo24⟩ := Kd.R_slice HO_9.out
             subst eo24
             go_wp2_with (first | ((with_reducible refine gate_builtin (b := .append) (xs := #[.tmp 67, .tmp 69]) rfl ?_); at_builtin; refine Kd.S_append (Kd.slice 3 (Kd.int .i64)) (w0 := w) w.heap.size rfl (.tmp 67) (.tmp 69) 53 63 (.slice none 0 0) 24 rfl Tryd.underlying53 info63 rfl (by decide) (by omega) u7 x7_2 x9_3 [.slice Ao24 x9_3.length co24] (fun _ => True) (fun k_ => some k_ = (.slice Ao24 x9_3.length co24 : Value).ownBlock) rfl rfl ?aP (fun k_ hk_ => ((Kd.R_mono (ok' := fun k_ => ((fun _ => True)) k_ ∧ some k_ ≠ (u7 : Value).ownBlock) (Kd.R_apart' (HO_9.out) (Kd.S_typed HO_7.out) (by decide)) (fun k_ hk => ⟨trivial, hk.2⟩))).1 k_ hk_.symm) ?aF ?aO ?aB ?aS ?aL ?_; (case aP => exact Kd.M_row (Kd.R_mono (Kd.R_tight rfl (Kd.R_mono (ok' := fun k_ => ((fun _ => True)) k_ ∧ some k_ ≠ (u7 : Value).ownBlock) (Kd.R_apart' (HO_9.out) (Kd.S_typed HO_7.out) (by decide)) (fun k_ hk => ⟨trivial, hk.2⟩))) (fun _ h_ => h_))); (case aB => exact (by repeat (first | (with_reducible first | exact HB.out | apply below_alloc | apply pw_below_drewN | apply below_drew1) | exact HB.out))); (case aF => exact (fun _ _ => trivial)); (case aO => exact (by (with_reducible repeat (first | apply Kd.S_alloc | apply Kd.S_drewN | apply Kd.S_drew)); exact Kd.S_mono HO_7.out (fun k_ hk => ⟨trivial, fun e_ => hk e_⟩))); (case aS => exact (below_size (by repeat (first | (with_reducible first | exact HB.out | apply below_alloc | apply pw_below_drewN | apply below_drew1) | exact HB.out)))); (case aL => have := LMc22.out; omega); intro v261 w23 ho hb hg hat; rw [← Ny260.out] at ho; have n0_ := Aside0.mk (hb); have n1_ := Aside0.mk (ho); clear HB; clear HO_7; clear HO_9; have HB := n0_; have HO262 := n1_; clear n0_ n1_; clear ho hb hg hat))
             go_roundg k3
             case measure => have := HK1.out; have := HK2.out; have := HK3.out; omega
             case rel => exact ⟨(y260), (wrap64 (x8_2 + 1)), (by first | rfl | (simp; done) | (simp [*]; done)), H', ⟨by have := HK1.out; have := HK2.out; have := HK3.out; omega⟩, ⟨by (with_reducible repeat (first | apply Kd.S_alloc | apply Kd.S_drewN | apply Kd.S_drew)); exact HO262.out⟩, ⟨by repeat (first | (with_reducible first | exact HB.out | apply below_alloc | apply pw_below_drewN | apply below_drew1) | exact HB.out)⟩⟩
            ·rw [if_neg c22] at H
             exact absurd H (by simp)
        ·rw [if_neg c8] at H
         exact absurd H (by simp)
       ·rw [if_neg c7] at H
        exact absurd H (by simp)
      ·rw [if_neg c6] at H
       have c6b0 : decide (x8_2 < x5_1) = false := decide_eq_false c6
       clear c6
       obtain rfl := Option.some.inj H
       go_wp2
       go_ret
       exact ⟨_, by first | rfl | (simp [errW_none, errW_some] <;> rfl) | (simp [*, errW_none, errW_some] <;> rfl), by (with_reducible repeat (first | apply Kd.S_alloc | apply Kd.S_drewN | apply Kd.S_drew)); exact HO_7.out, by repeat (first | (with_reducible first | exact HB.out | apply below_alloc | apply pw_below_drewN | apply below_drew1) | exact HB.out)⟩

end Go.Proofs.YtgckohmppefibaaDoorX.Hz
