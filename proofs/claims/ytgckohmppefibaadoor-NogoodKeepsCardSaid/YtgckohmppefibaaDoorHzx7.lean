-- Printed by wip/tools/hp.sh (functions of the translation, out of Lean's print of them).
import Derived.Test.YtgckohmppefibaaDoorHzx0
import Derived.Test.YtgckohmppefibaaDoorShort
import Derived.Test.YtgckohmppefibaaDoorHzx6
namespace Go.Proofs.YtgckohmppefibaaDoorX.Hz
open Go.RowKit Go.Proofs.YtgckohmppefibaaDoorW.PrintWords Go.Proofs.YtgckohmppefibaaDoorW.PrintLast Go.Proofs.YtgckohmppefibaaDoorW.PrintMore
attribute [local go_sem] max2_int min2_int max_two min_two max_three min_three max_four min_four   -- for this text's walks alone
set_option linter.unusedVariables false
set_option linter.unusedSimpArgs false
attribute [local go_sem] Go.Proofs.YtgckohmppefibaaDoor.Hook.cell_two

/-! ### jigsawref24_From: function 11 -/
mutual
def jigsawref24_From.l0 : Nat → List (S33) → List (List (S84)) → Int → Option ((List (List (S84))))
 | 0, _, _, _ => none
 | k + 1, x0, x3, x4 => if x4 < (x0.length : Int) then (if 0 ≤ x4 then (if (rd_T33 x0 x4).f2 = true then (jigsawref24_From.l0 k x0 x3 (wrap64 (x4 + 1))) else (jigsawref24_From.l1 k x0 x3 x4 ([] : List (S84)) 0)) else (none)) else (some x3)
def jigsawref24_From.l1 : Nat → List (S33) → List (List (S84)) → Int → List (S84) → Int → Option ((List (List (S84))))
 | 0, _, _, _, _, _ => none
 | k + 1, x0, x3, x4, x5, x6 => if x6 < x4 then (if 0 ≤ x6 then (if x6 < (x0.length : Int) then (if (rd_T33 x0 x6).f2 = true then (if x5.length < 8796093022208 then (jigsawref24_From.l1 k x0 x3 x4 (x5 ++ [(⟨(rd_T33 x0 x6).f0, (rd_T33 x0 x6).f1⟩ : S84)]) (wrap64 (x6 + 1))) else (none)) else (jigsawref24_From.l1 k x0 x3 x4 x5 (wrap64 (x6 + 1)))) else (none)) else (none)) else (if 0 ≤ x4 then (if x4 < (x0.length : Int) then (if x5.length < 8796093022208 then ((jigsawref24_Made.f k (x5 ++ [(⟨(rd_T33 x0 x4).f0, (rd_T33 x0 x4).f1⟩ : S84)])).bind fun t238 => (if x3.length < 5864062014805 then (jigsawref24_From.l0 k x0 (x3 ++ [t238]) (wrap64 (x4 + 1))) else (none))) else (none)) else (none)) else (none))
end
def jigsawref24_From.f (k : Nat) (l0 : List (S33)) : Option ((List (List (S84)))) := jigsawref24_From.l0 k l0 ([] : List (List (S84))) 0
theorem jigsawref24_From.mono_l : ∀ k, (∀ y0 y1 y2, LeO (jigsawref24_From.l0 k y0 y1 y2) (jigsawref24_From.l0 (k + 1) y0 y1 y2)) ∧ (∀ y0 y1 y2 y3 y4, LeO (jigsawref24_From.l1 k y0 y1 y2 y3 y4) (jigsawref24_From.l1 (k + 1) y0 y1 y2 y3 y4))
 | 0 => ⟨fun _ _ _ r h => by simp [jigsawref24_From.l0] at h, fun _ _ _ _ _ r h => by simp [jigsawref24_From.l1] at h⟩
 | k + 1 => by
  obtain ⟨ih0, ih1⟩ := jigsawref24_From.mono_l k
  refine ⟨?_, ?_⟩
  ·intro y0 y1 y2
   unfold jigsawref24_From.l0
   repeat' first
   | (with_reducible exact ih0 _ _ _)
   | (with_reducible exact ih1 _ _ _ _ _)
   | (with_reducible exact jigsawref24_Made.mono _ _)
   | (with_reducible exact LeO.refl _)
   | (with_reducible exact LeO.none _)
   | (with_reducible refine LeO.ite ?_ ?_)
   | (with_reducible refine LeO.bind ?_ (fun _ => ?_))
   | exact ih0 _ _ _
   | exact ih1 _ _ _ _ _
   | exact jigsawref24_Made.mono _ _
   | exact LeO.none _
   | refine LeO.ite ?_ ?_
   | refine LeO.bind ?_ (fun _ => ?_)
  ·intro y0 y1 y2 y3 y4
   unfold jigsawref24_From.l1
   repeat' first
   | (with_reducible exact ih0 _ _ _)
   | (with_reducible exact ih1 _ _ _ _ _)
   | (with_reducible exact jigsawref24_Made.mono _ _)
   | (with_reducible exact LeO.refl _)
   | (with_reducible exact LeO.none _)
   | (with_reducible refine LeO.ite ?_ ?_)
   | (with_reducible refine LeO.bind ?_ (fun _ => ?_))
   | exact ih0 _ _ _
   | exact ih1 _ _ _ _ _
   | exact jigsawref24_Made.mono _ _
   | exact LeO.none _
   | refine LeO.ite ?_ ?_
   | refine LeO.bind ?_ (fun _ => ?_)
theorem jigsawref24_From.mono : ∀ a0 k, LeO (jigsawref24_From.f k a0) (jigsawref24_From.f (k + 1) a0) := by
 intro a0 k
 obtain ⟨ih0, ih1⟩ := jigsawref24_From.mono_l k
 unfold jigsawref24_From.f
 repeat' first
   | (with_reducible exact ih0 _ _ _)
   | (with_reducible exact ih1 _ _ _ _ _)
   | (with_reducible exact jigsawref24_Made.mono _ _)
   | (with_reducible exact LeO.refl _)
   | (with_reducible exact LeO.none _)
   | (with_reducible refine LeO.ite ?_ ?_)
   | (with_reducible refine LeO.bind ?_ (fun _ => ?_))
   | exact ih0 _ _ _
   | exact ih1 _ _ _ _ _
   | exact jigsawref24_Made.mono _ _
   | exact LeO.none _
   | refine LeO.ite ?_ ?_
   | refine LeO.bind ?_ (fun _ => ?_)
def jigsawref24_From.T11 : Bool × List (List Nat × List Nat) := (true, [([], []), ([], []), ([], []), ([1, 2], [1, 2]), ([3], [3]), ([4], [4]), ([], []), ([], []), ([6, 7], [6, 7]), ([8], [8]), ([9], [9]), ([5, 10], [5, 10]), ([11], [11]), ([0, 12], [0, 12]), ([13, 13, 0, 1, 2, 3, 4, 5, 6, 7, 8, 9, 10, 11, 12, 13], [0, 13])])
def jigsawref24_From.B11 : List Nat := [0, 0, 0, 6, 14, 30, 0, 0, 192, 448, 960, 2046, 4094, 8191, 16383]
theorem jigsawref24_From.tab11 : rtab .any (opsOf Tryd.f11 11) = jigsawref24_From.T11 := by kernel_rfl
theorem jigsawref24_From.bits11 : waitsOk jigsawref24_From.T11.2 jigsawref24_From.B11 = true := by kernel_rfl
def jigsawref24_From.T12 : Bool × List (List Nat × List Nat) := (true, [([], []), ([], []), ([], []), ([1, 2], [1, 2]), ([3], [3]), ([4], [4]), ([], []), ([], []), ([6, 7], [6, 7]), ([8], [8]), ([9], [9]), ([5, 10], [5, 10]), ([11], [11]), ([0, 12], [0, 12]), ([13, 13, 0, 1, 2, 3, 4, 5, 6, 7, 8, 9, 10, 11, 12, 13], [0, 13])])
def jigsawref24_From.B12 : List Nat := [0, 0, 0, 6, 14, 30, 0, 0, 192, 448, 960, 2046, 4094, 8191, 16383]
theorem jigsawref24_From.tab12 : rtab .any (opsOf Tryd.f11 12) = jigsawref24_From.T12 := by kernel_rfl
theorem jigsawref24_From.bits12 : waitsOk jigsawref24_From.T12.2 jigsawref24_From.B12 = true := by kernel_rfl
set_option maxHeartbeats 8000000 in
set_option maxRecDepth 100000 in
theorem jigsawref24_From.calls (k : Nat) (A0 : Option Addr) (c0 : Nat) (l0 : List (S33)) (r : List (List (S84))) (w : World) (hr0 : Kd.C k33 w A0 l0.length l0) (hc0 : l0.length ≤ c0) (h : jigsawref24_From.f k l0 = some r) :
  Calls Tryd.prog 11 #[.slice A0 l0.length c0] w fun e w' => ∃ v0_ : Value, e = .returned (v0_) ∧ Kd.S (Kd.slice 84 k84) 46 w' w.heap.size (fun _ => True) v0_ r ∧ Below w.heap.size w w' := by
 have hu84 := Tryd.underlying84
 have HR0 := Aside0.mk hr0
 have HC0 := Aside0.mk hc0
 clear hr0 hc0
 have HB := Aside0.mk (Below.refl w.heap.size w)
 have H : (jigsawref24_From.l0 k l0 ([] : List (List (S84))) 0) = some r := h
 clear h
 have H' := Aside0.mk H
 clear H
 go_enter Tryd.func11, Tryd.ntmps11
 go_wp2
 go_loopg [3, 4] k (fun kq v3 v4 w' => ∃ (x3_1 : List (List (S84))) (x4_1 : Int), v4 = .int .i64 x4_1 ∧ Aside0 (jigsawref24_From.l0 kq l0 x3_1 x4_1 = some r) ∧ Aside0 (kq ≤ k) ∧ Aside0 (Kd.S (Kd.slice 84 k84) 46 w' w.heap.size (fun _ => True) v3 x3_1) ∧ Aside0 (Below w.heap.size w w'))
 case atStart => exact ⟨(([] : List (List (S84)))), (0), (by first | rfl | (simp; done) | (simp [*]; done)), H', ⟨Nat.le_refl _⟩, ⟨by first | exact Kd.S_nil _ _ _ _ _ | exact Kd.N_nil _ _ _ _ _ | exact Kd.V_nil _ _ _ _ _ | exact Kd.Q_nil _ _ _ _ _ | exact Kd.R_nil _ _ _ _ _⟩, ⟨by repeat (first | (with_reducible first | exact HB.out | apply below_alloc | apply pw_below_drewN | apply below_drew1) | exact HB.out)⟩⟩
 case round =>
  clear H'
  try clear c1
  obtain ⟨x3_1, x4_1, rfl, HA, HK1, HO_3, HB⟩ := hrel
  cases gk with
  | zero => exact absurd HA.out (by simp [jigsawref24_From.l0])
  | succ k1 =>
   have H := HA.out
   clear HA
   simp only [jigsawref24_From.l0] at H
   by_cases c2 : x4_1 < (l0.length : Int)
   ·rw [if_pos c2] at H
    have c2b0 : decide (x4_1 < (l0.length : Int)) = true := decide_eq_true c2
    clear c2
    by_cases c3 : 0 ≤ x4_1
    ·rw [if_pos c3] at H
     have c3b0 : decide (0 ≤ x4_1) = true := decide_eq_true c3
     clear c3
     obtain ⟨bq4, hbq4⟩ : ∃ b_ : Bool, b_ = ((rd_T33 l0 x4_1).f2) := ⟨_, rfl⟩
     replace H : (if bq4 = true then (jigsawref24_From.l0 k1 l0 x3_1 (wrap64 (x4_1 + 1))) else (jigsawref24_From.l1 k1 l0 x3_1 x4_1 ([] : List (S84)) 0)) = some r := by rw [← hbq4] at H; exact H
     have Nbq4 := Aside0.mk hbq4
     clear hbq4
     by_cases c5 : bq4 = true
     ·subst c5
      have H1 : (jigsawref24_From.l0 k1 l0 x3_1 (wrap64 (x4_1 + 1))) = some r := by rw [if_pos rfl] at H; exact H
      clear H
      have H := H1
      clear H1
      have H' := Aside0.mk H
      clear H
      have p226 : 0 ≤ (x4_1 : Int) := of_decide_eq_true (by first | (with_reducible assumption) | assumption)
      have q226 : x4_1 < (l0.length : Int) := of_decide_eq_true (by first | (with_reducible assumption) | assumption)
      obtain ⟨ad226, e226, hx226_0, hx226_1, hx226_2⟩ := at_T33 HR0.out x4_1 p226 q226
      (try rw [← Nbq4.out] at hx226_2)
      (try rw [← Nbq4.out] at hw226_2)
      cases e226
      replace hx226_0 := (HB.out.cell (World.block_lt_of_cell? w _ hx226_0)).trans hx226_0
      replace hx226_1 := (HB.out.cell (World.block_lt_of_cell? w _ hx226_1)).trans hx226_1
      replace hx226_2 := (HB.out.cell (World.block_lt_of_cell? w _ hx226_2)).trans hx226_2
      replace p226 := eq_true p226
      replace q226 := eq_true q226
      go_wp2
      go_roundg k1
      case measure => have := HK1.out; omega
      case rel => exact ⟨(x3_1), (wrap64 (x4_1 + 1)), (by first | rfl | (simp; done) | (simp [*]; done)), H', ⟨by have := HK1.out; omega⟩, ⟨by (with_reducible repeat (first | apply Kd.S_alloc | apply Kd.S_drewN | apply Kd.S_drew)); exact HO_3.out⟩, ⟨by repeat (first | (with_reducible first | exact HB.out | apply below_alloc | apply pw_below_drewN | apply below_drew1) | exact HB.out)⟩⟩
     ·replace c5 := Bool.eq_false_iff.mpr c5
      subst c5
      have H1 : (jigsawref24_From.l1 k1 l0 x3_1 x4_1 ([] : List (S84)) 0) = some r := by rw [if_neg (show ¬ (false = true) by decide)] at H; exact H
      clear H
      have H := H1
      clear H1
      have H' := Aside0.mk H
      clear H
      have p226 : 0 ≤ (x4_1 : Int) := of_decide_eq_true (by first | (with_reducible assumption) | assumption)
      have q226 : x4_1 < (l0.length : Int) := of_decide_eq_true (by first | (with_reducible assumption) | assumption)
      obtain ⟨ad226, e226, hx226_0, hx226_1, hx226_2⟩ := at_T33 HR0.out x4_1 p226 q226
      (try rw [← Nbq4.out] at hx226_2)
      (try rw [← Nbq4.out] at hw226_2)
      cases e226
      replace hx226_0 := (HB.out.cell (World.block_lt_of_cell? w _ hx226_0)).trans hx226_0
      replace hx226_1 := (HB.out.cell (World.block_lt_of_cell? w _ hx226_1)).trans hx226_1
      replace hx226_2 := (HB.out.cell (World.block_lt_of_cell? w _ hx226_2)).trans hx226_2
      replace p226 := eq_true p226
      replace q226 := eq_true q226
      go_wp2
      go_loopg [5, 6] k1 (fun kq v5 v6 w' => ∃ (x5_2 : List (S84)) (x6_2 : Int), v6 = .int .i64 x6_2 ∧ Aside0 (jigsawref24_From.l1 kq l0 x3_1 x4_1 x5_2 x6_2 = some r) ∧ Aside0 (kq ≤ k1) ∧ Aside0 (Kd.S (Kd.slice 84 k84) 46 w' w.heap.size (fun k_ => some k_ ≠ (v5 : Value).ownBlock) u3 x3_1) ∧ Aside0 (Kd.R k84 84 w' w.heap.size (fun _ => True) v5 x5_2) ∧ Aside0 (Below w.heap.size w w'))
      case atStart => exact ⟨(([] : List (S84))), (0), (by first | rfl | (simp; done) | (simp [*]; done)), H', ⟨Nat.le_refl _⟩, ⟨by (with_reducible repeat (first | apply Kd.S_alloc | apply Kd.S_drewN | apply Kd.S_drew)); exact Kd.S_mono HO_3.out (fun _ hk => (by simp [Value.ownBlock]))⟩, ⟨by first | exact Kd.R_nil _ _ _ _ _ | exact Kd.N_nil _ _ _ _ _ | exact Kd.V_nil _ _ _ _ _ | exact Kd.Q_nil _ _ _ _ _ | exact Kd.S_nil _ _ _ _ _⟩, ⟨by repeat (first | (with_reducible first | exact HB.out | apply below_alloc | apply pw_below_drewN | apply below_drew1) | exact HB.out)⟩⟩
      case round =>
       clear H'
       try clear c1
       try clear c2
       try clear c2b0
       try clear p2
       try clear q2
       try clear hx2
       try clear c3
       try clear c3b0
       try clear q4
       try clear c5
       try clear hx226_0
       try clear hx226_1
       try clear hx226_2
       try clear p226
       try clear q226
       obtain ⟨x5_2, x6_2, rfl, HA, HK2, HO_3, HO_5, HB⟩ := hrel
       cases gk with
       | zero => exact absurd HA.out (by simp [jigsawref24_From.l1])
       | succ k2 =>
        have H := HA.out
        clear HA
        simp only [jigsawref24_From.l1] at H
        by_cases c6 : x6_2 < x4_1
        ·rw [if_pos c6] at H
         have c6b0 : decide (x6_2 < x4_1) = true := decide_eq_true c6
         clear c6
         by_cases c7 : 0 ≤ x6_2
         ·rw [if_pos c7] at H
          have c7b0 : decide (0 ≤ x6_2) = true := decide_eq_true c7
          clear c7
          by_cases c8 : x6_2 < (l0.length : Int)
          ·rw [if_pos c8] at H
           have c8b0 : decide (x6_2 < (l0.length : Int)) = true := decide_eq_true c8
           clear c8
           obtain ⟨bq9, hbq9⟩ : ∃ b_ : Bool, b_ = ((rd_T33 l0 x6_2).f2) := ⟨_, rfl⟩
           replace H : (if bq9 = true then (if x5_2.length < 8796093022208 then (jigsawref24_From.l1 k2 l0 x3_1 x4_1 (x5_2 ++ [(⟨(rd_T33 l0 x6_2).f0, (rd_T33 l0 x6_2).f1⟩ : S84)]) (wrap64 (x6_2 + 1))) else (none)) else (jigsawref24_From.l1 k2 l0 x3_1 x4_1 x5_2 (wrap64 (x6_2 + 1)))) = some r := by rw [← hbq9] at H; exact H
           have Nbq9 := Aside0.mk hbq9
           clear hbq9
           by_cases c10 : bq9 = true
           ·subst c10
            have H1 : (if x5_2.length < 8796093022208 then (jigsawref24_From.l1 k2 l0 x3_1 x4_1 (x5_2 ++ [(⟨(rd_T33 l0 x6_2).f0, (rd_T33 l0 x6_2).f1⟩ : S84)]) (wrap64 (x6_2 + 1))) else (none)) = some r := by rw [if_pos rfl] at H; exact H
            clear H
            have H := H1
            clear H1
            by_cases c11 : x5_2.length < 8796093022208
            ·rw [if_pos c11] at H
             have LMc11 := Aside0.mk c11
             clear c11
             obtain ⟨y230, hy230⟩ : ∃ y_ : List (S84), y_ = (x5_2 ++ [(⟨(rd_T33 l0 x6_2).f0, (rd_T33 l0 x6_2).f1⟩ : S84)]) := ⟨_, rfl⟩
             replace H : (jigsawref24_From.l1 k2 l0 x3_1 x4_1 y230 (wrap64 (x6_2 + 1))) = some r := by first | (rw [hy230]; with_reducible exact H) | (have H2_ := (Option.bind_some _ _).symm.trans H; rw [hy230]; with_reducible exact H2_) | (have H2_ := (Option.bind_some _ _).symm.trans H; with_reducible exact H2_) | with_reducible exact H | (rw [hy230]; exact H) | exact H
             have Ny230 := Aside0.mk hy230
             clear hy230
             have H' := Aside0.mk H
             clear H
             have p227 : 0 ≤ (x6_2 : Int) := of_decide_eq_true (by first | (with_reducible assumption) | assumption)
             have q227 : x6_2 < (l0.length : Int) := of_decide_eq_true (by first | (with_reducible assumption) | assumption)
             obtain ⟨ad227, e227, hx227_0, hx227_1, hx227_2⟩ := at_T33 HR0.out x6_2 p227 q227
             (try rw [← Nbq4.out] at hx227_2)
             (try rw [← Nbq4.out] at hw227_2)
             (try rw [← Nbq9.out] at hx227_2)
             (try rw [← Nbq9.out] at hw227_2)
             obtain rfl : ad226 = ad227 := (by injection e227)
             replace hx227_0 := (HB.out.cell (World.block_lt_of_cell? w _ hx227_0)).trans hx227_0
             replace hx227_1 := (HB.out.cell (World.block_lt_of_cell? w _ hx227_1)).trans hx227_1
             replace hx227_2 := (HB.out.cell (World.block_lt_of_cell? w _ hx227_2)).trans hx227_2
             replace p227 := eq_true p227
             replace q227 := eq_true q227
             try go_wp2
             have n0_ := Aside0.mk (Kd.S_drew HO_3.out)
             have n1_ := Aside0.mk (Kd.R_drew HO_5.out)
             have n2_ := Aside0.mk (below_drew1 HB.out)
             clear HO_3
             clear HO_5
             clear HB
             have HO_3 := n0_
             have HO_5 := n1_
             have HB := n2_
             clear n0_ n1_ n2_
             have p228 : 0 ≤ (x6_2 : Int) := of_decide_eq_true (by first | (with_reducible assumption) | assumption)
             have q228 : x6_2 < (l0.length : Int) := of_decide_eq_true (by first | (with_reducible assumption) | assumption)
             obtain ⟨ad228, e228, hx228_0, hx228_1, hx228_2⟩ := at_T33 HR0.out x6_2 p228 q228
             have hw228_2 := hx228_2
             have hw228_1 := hx228_1
             have hw228_0 := hx228_0
             (try rw [← Nbq4.out] at hx228_2)
             (try rw [← Nbq4.out] at hw228_2)
             (try rw [← Nbq9.out] at hx228_2)
             (try rw [← Nbq9.out] at hw228_2)
             obtain rfl : ad226 = ad228 := (by injection e228)
             replace hx228_0 := (HB.out.cell (World.block_lt_of_cell? w _ hx228_0)).trans hx228_0
             replace hx228_1 := (HB.out.cell (World.block_lt_of_cell? w _ hx228_1)).trans hx228_1
             replace hx228_2 := (HB.out.cell (World.block_lt_of_cell? w _ hx228_2)).trans hx228_2
             replace p228 := eq_true p228
             replace q228 := eq_true q228
             have p229 : 0 ≤ (x6_2 : Int) := of_decide_eq_true (by first | (with_reducible assumption) | assumption)
             have q229 : x6_2 < (l0.length : Int) := of_decide_eq_true (by first | (with_reducible assumption) | assumption)
             obtain ⟨ad229, e229, hx229_0, hx229_1, hx229_2⟩ := at_T33 HR0.out x6_2 p229 q229
             have hw229_2 := hx229_2
             have hw229_1 := hx229_1
             have hw229_0 := hx229_0
             (try rw [← Nbq4.out] at hx229_2)
             (try rw [← Nbq4.out] at hw229_2)
             (try rw [← Nbq9.out] at hx229_2)
             (try rw [← Nbq9.out] at hw229_2)
             obtain rfl : ad226 = ad229 := (by injection e229)
             replace hx229_0 := (HB.out.cell (World.block_lt_of_cell? w _ hx229_0)).trans hx229_0
             replace hx229_1 := (HB.out.cell (World.block_lt_of_cell? w _ hx229_1)).trans hx229_1
             replace hx229_2 := (HB.out.cell (World.block_lt_of_cell? w _ hx229_2)).trans hx229_2
             replace p229 := eq_true p229
             replace q229 := eq_true q229
             refine start_ (n := 15) (S := fun w' => w'.cell? (ad226.add ((x6_2).toNat * 3)) = some (.int .i64 ((rd_T33 l0 x6_2).f0)) ∧ w'.cell? ⟨(ad226.add ((x6_2).toNat * 3)).block, (ad226.add ((x6_2).toNat * 3)).off + 1, none⟩ = some (.int .i64 ((rd_T33 l0 x6_2).f1)) ∧ w'.cell? ⟨(ad226.add ((x6_2).toNat * 3)).block, (ad226.add ((x6_2).toNat * 3)).off + 2, none⟩ = some (.bool (true)) ∧ w'.cell? (ad226.add ((x6_2).toNat * 3)) = some (.int .i64 ((rd_T33 l0 x6_2).f0)) ∧ w'.cell? ⟨(ad226.add ((x6_2).toNat * 3)).block, (ad226.add ((x6_2).toNat * 3)).off + 1, none⟩ = some (.int .i64 ((rd_T33 l0 x6_2).f1)) ∧ w'.cell? ⟨(ad226.add ((x6_2).toNat * 3)).block, (ad226.add ((x6_2).toNat * 3)).off + 2, none⟩ = some (.bool (true))) (ds := []) #[false, false, false, false, false, false, false, false, false, false, false, false, false, false, false] (by kernel_rfl) rfl rfl ⟨((HB.out.cell (World.block_lt_of_cell? w _ hw228_0)).trans hw228_0), ((HB.out.cell (World.block_lt_of_cell? w _ hw228_1)).trans hw228_1), ((HB.out.cell (World.block_lt_of_cell? w _ hw228_2)).trans hw228_2), ((HB.out.cell (World.block_lt_of_cell? w _ hw229_0)).trans hw229_0), ((HB.out.cell (World.block_lt_of_cell? w _ hw229_1)).trans hw229_1), ((HB.out.cell (World.block_lt_of_cell? w _ hw229_2)).trans hw229_2)⟩ (fun hHeld => ?_); refine with_tabW jigsawref24_From.tab11 jigsawref24_From.bits11 (fun HT_ HW_ => ?_)
             generalize wr.drew = w12 at HO_3 HO_5 HB hx228_0 hx228_1 hx228_2 hx229_0 hx229_1 hx229_2 hHeld ⊢
             refine pA 0 29 #[true, false, false, false, false, false, false, false, false, false, false, false, false, false, false] HT_ ?_
             refine pA 1 30 #[true, true, false, false, false, false, false, false, false, false, false, false, false, false, false] HT_ ?_
             refine pA 2 31 #[true, true, true, false, false, false, false, false, false, false, false, false, false, false, false] HT_ ?_
             refine pA 3 32 #[true, true, true, true, false, false, false, false, false, false, false, false, false, false, false] HT_ ?_
             refine pA 4 33 #[true, true, true, true, true, false, false, false, false, false, false, false, false, false, false] HT_ ?_
             refine pA 6 35 #[true, true, true, true, true, false, true, false, false, false, false, false, false, false, false] HT_ ?_
             refine pA 7 36 #[true, true, true, true, true, false, true, true, false, false, false, false, false, false, false] HT_ ?_
             refine pA 8 37 #[true, true, true, true, true, false, true, true, true, false, false, false, false, false, false] HT_ ?_
             refine pA 9 38 #[true, true, true, true, true, false, true, true, true, true, false, false, false, false, false] HT_ ?_
             refine pT6 5 34 #[true, true, true, true, true, true, true, true, true, true, false, false, false, false, false] HT_ HW_ hHeld ?_
             refine pT6 10 39 #[true, true, true, true, true, true, true, true, true, true, true, false, false, false, false] HT_ HW_ hHeld ?_
             refine pA 11 40 #[true, true, true, true, true, true, true, true, true, true, true, true, false, false, false] HT_ ?_
             refine one_ (i := 12) (N := some 41) #[true, true, true, true, true, true, true, true, true, true, true, true, true, false, false] rfl rfl (one_of HT_.out (by kernel_rfl)) (by decide) (fun K hK => ?_)
             refine value_ (w1 := ?_) (v := ?_) (by rfl) rfl ?_ ?_
             rotate_left 2
             ·go_simp
              constructor
              ·rfl
              ·rfl
             refine hK.out _ _ ⟨(World.cell?_alloc_lt _ _ _ (World.block_lt_of_cell? _ _ (((HB.out.cell (World.block_lt_of_cell? w _ hw228_0)).trans hw228_0)))).trans (((HB.out.cell (World.block_lt_of_cell? w _ hw228_0)).trans hw228_0)), (World.cell?_alloc_lt _ _ _ (World.block_lt_of_cell? _ _ (((HB.out.cell (World.block_lt_of_cell? w _ hw228_1)).trans hw228_1)))).trans (((HB.out.cell (World.block_lt_of_cell? w _ hw228_1)).trans hw228_1)), (World.cell?_alloc_lt _ _ _ (World.block_lt_of_cell? _ _ (((HB.out.cell (World.block_lt_of_cell? w _ hw228_2)).trans hw228_2)))).trans (((HB.out.cell (World.block_lt_of_cell? w _ hw228_2)).trans hw228_2)), (World.cell?_alloc_lt _ _ _ (World.block_lt_of_cell? _ _ (((HB.out.cell (World.block_lt_of_cell? w _ hw229_0)).trans hw229_0)))).trans (((HB.out.cell (World.block_lt_of_cell? w _ hw229_0)).trans hw229_0)), (World.cell?_alloc_lt _ _ _ (World.block_lt_of_cell? _ _ (((HB.out.cell (World.block_lt_of_cell? w _ hw229_1)).trans hw229_1)))).trans (((HB.out.cell (World.block_lt_of_cell? w _ hw229_1)).trans hw229_1)), (World.cell?_alloc_lt _ _ _ (World.block_lt_of_cell? _ _ (((HB.out.cell (World.block_lt_of_cell? w _ hw229_2)).trans hw229_2)))).trans (((HB.out.cell (World.block_lt_of_cell? w _ hw229_2)).trans hw229_2))⟩ (fun hHeld => ?_)
             clear hK K
             refine norm_ (a' := ?_) ?_ ?_
             rotate_left
             ·show Act.put _ (some 41) _ = _
              simp only [Act.put, List.setIfInBounds_toArray, List.set_cons_zero, List.set_cons_succ, i64_w, i32_w]
              rfl
             refine one_ (i := 13) (N := some 42) #[true, true, true, true, true, true, true, true, true, true, true, true, true, true, false] rfl rfl (one_of HT_.out (by kernel_rfl)) (by decide) (fun K hK => ?_)
             refine Kd.R_append_step k84 (w0 := w) w.heap.size (by rfl) (.tmp 29) (.tmp 41) 46 84 (.agg #[(.int .i64 0), (.int .i64 0)]) 16 rfl Tryd.underlying46 info84 rfl (by decide) (by omega) u5 x5_2 (⟨(rd_T33 l0 x6_2).f0, (rd_T33 l0 x6_2).f1⟩ : S84) [.int .i64 ((rd_T33 l0 x6_2).f0), .int .i64 ((rd_T33 l0 x6_2).f1)] (fun _ => True) (fun _ => False) rfl rfl ?aP (fun _ hk => hk.elim) ?aF ?aO ?aB ?aS ?aL ?_
             (case aP => exact k84_mkM _ _ _ (⟨(rd_T33 l0 x6_2).f0, (rd_T33 l0 x6_2).f1⟩ : S84))
             (case aB => exact (by repeat (first | (with_reducible first | exact HB.out | apply below_alloc | apply pw_below_drewN | apply below_drew1) | exact HB.out)))
             (case aF => exact (fun _ _ => trivial))
             (case aO => exact (by (with_reducible repeat (first | apply Kd.R_alloc | apply Kd.R_drewN | apply Kd.R_drew)); exact HO_5.out))
             (case aS => exact (below_size (by repeat (first | (with_reducible first | exact HB.out | apply below_alloc | apply pw_below_drewN | apply below_drew1) | exact HB.out))))
             (case aL => have := LMc11.out; omega)
             intro v231 w13 ho hb hg hat
             rw [← Ny230.out] at ho
             have n0_ := Aside0.mk (Kd.S_after (ok := (fun _ => True)) (by (with_reducible repeat (first | apply Kd.S_alloc | apply Kd.S_drewN | apply Kd.S_drew)); exact Kd.S_mono HO_3.out (fun _ hk => ⟨trivial, hk⟩)) hg hat)
             have n1_ := Aside0.mk (hb)
             have n2_ := Aside0.mk (ho)
             clear HO_3
             clear HB
             clear HO_5
             have HO_3 := n0_
             have HB := n1_
             have HO232 := n2_
             clear n0_ n1_ n2_
             clear ho hb hg hat
             refine hK.out _ _ ⟨((HB.out.cell (World.block_lt_of_cell? w _ hw228_0)).trans hw228_0), ((HB.out.cell (World.block_lt_of_cell? w _ hw228_1)).trans hw228_1), ((HB.out.cell (World.block_lt_of_cell? w _ hw228_2)).trans hw228_2), ((HB.out.cell (World.block_lt_of_cell? w _ hw229_0)).trans hw229_0), ((HB.out.cell (World.block_lt_of_cell? w _ hw229_1)).trans hw229_1), ((HB.out.cell (World.block_lt_of_cell? w _ hw229_2)).trans hw229_2)⟩ (fun hHeld => ?_)
             clear hK K
             refine norm_ (a' := ?_) ?_ ?_
             rotate_left
             ·show Act.put _ (some 42) _ = _
              simp only [Act.put, List.setIfInBounds_toArray, List.set_cons_zero, List.set_cons_succ, i64_w, i32_w]
              rfl
             refine pA 14 5 #[true, true, true, true, true, true, true, true, true, true, true, true, true, true, true] HT_ ?_
             refine done_ (done_of HT_.out (by kernel_rfl)) ?_
             try go_wp2
             go_roundg k2
             case measure => have := HK1.out; have := HK2.out; omega
             case rel => exact ⟨(y230), (wrap64 (x6_2 + 1)), (by first | rfl | (simp; done) | (simp [*]; done)), H', ⟨by have := HK1.out; have := HK2.out; omega⟩, ⟨by (with_reducible repeat (first | apply Kd.S_alloc | apply Kd.S_drewN | apply Kd.S_drew)); exact Kd.S_mono HO_3.out (fun _ hk => hk.2)⟩, ⟨by (with_reducible repeat (first | apply Kd.R_alloc | apply Kd.R_drewN | apply Kd.R_drew)); exact HO232.out⟩, ⟨by repeat (first | (with_reducible first | exact HB.out | apply below_alloc | apply pw_below_drewN | apply below_drew1) | exact HB.out)⟩⟩
            ·rw [if_neg c11] at H
             exact absurd H (by simp)
           ·replace c10 := Bool.eq_false_iff.mpr c10
            subst c10
            have H1 : (jigsawref24_From.l1 k2 l0 x3_1 x4_1 x5_2 (wrap64 (x6_2 + 1))) = some r := by rw [if_neg (show ¬ (false = true) by decide)] at H; exact H
            clear H
            have H := H1
            clear H1
            have H' := Aside0.mk H
            clear H
            have p227 : 0 ≤ (x6_2 : Int) := of_decide_eq_true (by first | (with_reducible assumption) | assumption)
            have q227 : x6_2 < (l0.length : Int) := of_decide_eq_true (by first | (with_reducible assumption) | assumption)
            obtain ⟨ad227, e227, hx227_0, hx227_1, hx227_2⟩ := at_T33 HR0.out x6_2 p227 q227
            (try rw [← Nbq4.out] at hx227_2)
            (try rw [← Nbq4.out] at hw227_2)
            (try rw [← Nbq9.out] at hx227_2)
            (try rw [← Nbq9.out] at hw227_2)
            obtain rfl : ad226 = ad227 := (by injection e227)
            replace hx227_0 := (HB.out.cell (World.block_lt_of_cell? w _ hx227_0)).trans hx227_0
            replace hx227_1 := (HB.out.cell (World.block_lt_of_cell? w _ hx227_1)).trans hx227_1
            replace hx227_2 := (HB.out.cell (World.block_lt_of_cell? w _ hx227_2)).trans hx227_2
            replace p227 := eq_true p227
            replace q227 := eq_true q227
            go_wp2
            go_roundg k2
            case measure => have := HK1.out; have := HK2.out; omega
            case rel => exact ⟨(x5_2), (wrap64 (x6_2 + 1)), (by first | rfl | (simp; done) | (simp [*]; done)), H', ⟨by have := HK1.out; have := HK2.out; omega⟩, ⟨by (with_reducible repeat (first | apply Kd.S_alloc | apply Kd.S_drewN | apply Kd.S_drew)); exact HO_3.out⟩, ⟨by (with_reducible repeat (first | apply Kd.R_alloc | apply Kd.R_drewN | apply Kd.R_drew)); exact HO_5.out⟩, ⟨by repeat (first | (with_reducible first | exact HB.out | apply below_alloc | apply pw_below_drewN | apply below_drew1) | exact HB.out)⟩⟩
          ·rw [if_neg c8] at H
           exact absurd H (by simp)
         ·rw [if_neg c7] at H
          exact absurd H (by simp)
        ·rw [if_neg c6] at H
         have c6b0 : decide (x6_2 < x4_1) = false := decide_eq_false c6
         clear c6
         by_cases c14 : 0 ≤ x4_1
         ·rw [if_pos c14] at H
          have c14b0 : decide (0 ≤ x4_1) = true := decide_eq_true c14
          clear c14
          by_cases c15 : x4_1 < (l0.length : Int)
          ·rw [if_pos c15] at H
           have c15b0 : decide (x4_1 < (l0.length : Int)) = true := decide_eq_true c15
           clear c15
           by_cases c16 : x5_2.length < 8796093022208
           ·rw [if_pos c16] at H
            have LMc16 := Aside0.mk c16
            clear c16
            obtain ⟨y235, hy235⟩ : ∃ y_ : List (S84), y_ = (x5_2 ++ [(⟨(rd_T33 l0 x4_1).f0, (rd_T33 l0 x4_1).f1⟩ : S84)]) := ⟨_, rfl⟩
            replace H : ((jigsawref24_Made.f k2 y235).bind fun t238 => (if x3_1.length < 5864062014805 then (jigsawref24_From.l0 k2 l0 (x3_1 ++ [t238]) (wrap64 (x4_1 + 1))) else (none))) = some r := by first | (rw [hy235]; with_reducible exact H) | (have H2_ := (Option.bind_some _ _).symm.trans H; rw [hy235]; with_reducible exact H2_) | (have H2_ := (Option.bind_some _ _).symm.trans H; with_reducible exact H2_) | with_reducible exact H | (rw [hy235]; exact H) | exact H
            have Ny235 := Aside0.mk hy235
            clear hy235
            replace H := Option.bind_eq_some_iff.mp H
            obtain ⟨t238, A170, H⟩ := H
            replace H : (if x3_1.length < 5864062014805 then (jigsawref24_From.l0 k2 l0 (x3_1 ++ [t238]) (wrap64 (x4_1 + 1))) else (none)) = some r := H
            have A17 := Aside0.mk A170
            clear A170
            by_cases c18 : x3_1.length < 5864062014805
            ·rw [if_pos c18] at H
             have LMc18 := Aside0.mk c18
             clear c18
             obtain ⟨y241, hy241⟩ : ∃ y_ : List (List (S84)), y_ = (x3_1 ++ [t238]) := ⟨_, rfl⟩
             replace H : (jigsawref24_From.l0 k2 l0 y241 (wrap64 (x4_1 + 1))) = some r := by first | (rw [hy241]; with_reducible exact H) | (have H2_ := (Option.bind_some _ _).symm.trans H; rw [hy241]; with_reducible exact H2_) | (have H2_ := (Option.bind_some _ _).symm.trans H; with_reducible exact H2_) | with_reducible exact H | (rw [hy241]; exact H) | exact H
             have Ny241 := Aside0.mk hy241
             clear hy241
             have H' := Aside0.mk H
             clear H
             try go_wp2
             have n0_ := Aside0.mk (Kd.S_drew HO_3.out)
             have n1_ := Aside0.mk (Kd.R_drew HO_5.out)
             have n2_ := Aside0.mk (below_drew1 HB.out)
             clear HO_3
             clear HO_5
             clear HB
             have HO_3 := n0_
             have HO_5 := n1_
             have HB := n2_
             clear n0_ n1_ n2_
             have p233 : 0 ≤ (x4_1 : Int) := of_decide_eq_true (by first | (with_reducible assumption) | assumption)
             have q233 : x4_1 < (l0.length : Int) := of_decide_eq_true (by first | (with_reducible assumption) | assumption)
             obtain ⟨ad233, e233, hx233_0, hx233_1, hx233_2⟩ := at_T33 HR0.out x4_1 p233 q233
             have hw233_2 := hx233_2
             have hw233_1 := hx233_1
             have hw233_0 := hx233_0
             (try rw [← Nbq4.out] at hx233_2)
             (try rw [← Nbq4.out] at hw233_2)
             obtain rfl : ad226 = ad233 := (by injection e233)
             replace hx233_0 := (HB.out.cell (World.block_lt_of_cell? w _ hx233_0)).trans hx233_0
             replace hx233_1 := (HB.out.cell (World.block_lt_of_cell? w _ hx233_1)).trans hx233_1
             replace hx233_2 := (HB.out.cell (World.block_lt_of_cell? w _ hx233_2)).trans hx233_2
             replace p233 := eq_true p233
             replace q233 := eq_true q233
             have p234 : 0 ≤ (x4_1 : Int) := of_decide_eq_true (by first | (with_reducible assumption) | assumption)
             have q234 : x4_1 < (l0.length : Int) := of_decide_eq_true (by first | (with_reducible assumption) | assumption)
             obtain ⟨ad234, e234, hx234_0, hx234_1, hx234_2⟩ := at_T33 HR0.out x4_1 p234 q234
             have hw234_2 := hx234_2
             have hw234_1 := hx234_1
             have hw234_0 := hx234_0
             (try rw [← Nbq4.out] at hx234_2)
             (try rw [← Nbq4.out] at hw234_2)
             obtain rfl : ad226 = ad234 := (by injection e234)
             replace hx234_0 := (HB.out.cell (World.block_lt_of_cell? w _ hx234_0)).trans hx234_0
             replace hx234_1 := (HB.out.cell (World.block_lt_of_cell? w _ hx234_1)).trans hx234_1
             replace hx234_2 := (HB.out.cell (World.block_lt_of_cell? w _ hx234_2)).trans hx234_2
             replace p234 := eq_true p234
             replace q234 := eq_true q234
             refine start_ (n := 15) (S := fun w' => w'.cell? (ad226.add ((x4_1).toNat * 3)) = some (.int .i64 ((rd_T33 l0 x4_1).f0)) ∧ w'.cell? ⟨(ad226.add ((x4_1).toNat * 3)).block, (ad226.add ((x4_1).toNat * 3)).off + 1, none⟩ = some (.int .i64 ((rd_T33 l0 x4_1).f1)) ∧ w'.cell? ⟨(ad226.add ((x4_1).toNat * 3)).block, (ad226.add ((x4_1).toNat * 3)).off + 2, none⟩ = some (.bool (false)) ∧ w'.cell? (ad226.add ((x4_1).toNat * 3)) = some (.int .i64 ((rd_T33 l0 x4_1).f0)) ∧ w'.cell? ⟨(ad226.add ((x4_1).toNat * 3)).block, (ad226.add ((x4_1).toNat * 3)).off + 1, none⟩ = some (.int .i64 ((rd_T33 l0 x4_1).f1)) ∧ w'.cell? ⟨(ad226.add ((x4_1).toNat * 3)).block, (ad226.add ((x4_1).toNat * 3)).off + 2, none⟩ = some (.bool (false))) (ds := []) #[false, false, false, false, false, false, false, false, false, false, false, false, false, false, false] (by kernel_rfl) rfl rfl ⟨((HB.out.cell (World.block_lt_of_cell? w _ hw233_0)).trans hw233_0), ((HB.out.cell (World.block_lt_of_cell? w _ hw233_1)).trans hw233_1), ((HB.out.cell (World.block_lt_of_cell? w _ hw233_2)).trans hw233_2), ((HB.out.cell (World.block_lt_of_cell? w _ hw234_0)).trans hw234_0), ((HB.out.cell (World.block_lt_of_cell? w _ hw234_1)).trans hw234_1), ((HB.out.cell (World.block_lt_of_cell? w _ hw234_2)).trans hw234_2)⟩ (fun hHeld => ?_); refine with_tabW jigsawref24_From.tab12 jigsawref24_From.bits12 (fun HT_ HW_ => ?_)
             generalize wr.drew = w19 at HO_3 HO_5 HB hx233_0 hx233_1 hx233_2 hx234_0 hx234_1 hx234_2 hHeld ⊢
             refine pA 0 43 #[true, false, false, false, false, false, false, false, false, false, false, false, false, false, false] HT_ ?_
             refine pA 1 44 #[true, true, false, false, false, false, false, false, false, false, false, false, false, false, false] HT_ ?_
             refine pA 2 45 #[true, true, true, false, false, false, false, false, false, false, false, false, false, false, false] HT_ ?_
             refine pA 3 46 #[true, true, true, true, false, false, false, false, false, false, false, false, false, false, false] HT_ ?_
             refine pA 4 47 #[true, true, true, true, true, false, false, false, false, false, false, false, false, false, false] HT_ ?_
             refine pA 6 49 #[true, true, true, true, true, false, true, false, false, false, false, false, false, false, false] HT_ ?_
             refine pA 7 50 #[true, true, true, true, true, false, true, true, false, false, false, false, false, false, false] HT_ ?_
             refine pA 8 51 #[true, true, true, true, true, false, true, true, true, false, false, false, false, false, false] HT_ ?_
             refine pA 9 52 #[true, true, true, true, true, false, true, true, true, true, false, false, false, false, false] HT_ ?_
             refine pT6 5 48 #[true, true, true, true, true, true, true, true, true, true, false, false, false, false, false] HT_ HW_ hHeld ?_
             refine pT6 10 53 #[true, true, true, true, true, true, true, true, true, true, true, false, false, false, false] HT_ HW_ hHeld ?_
             refine pA 11 54 #[true, true, true, true, true, true, true, true, true, true, true, true, false, false, false] HT_ ?_
             refine one_ (i := 12) (N := some 55) #[true, true, true, true, true, true, true, true, true, true, true, true, true, false, false] rfl rfl (one_of HT_.out (by kernel_rfl)) (by decide) (fun K hK => ?_)
             refine value_ (w1 := ?_) (v := ?_) (by rfl) rfl ?_ ?_
             rotate_left 2
             ·go_simp
              constructor
              ·rfl
              ·rfl
             refine hK.out _ _ ⟨(World.cell?_alloc_lt _ _ _ (World.block_lt_of_cell? _ _ (((HB.out.cell (World.block_lt_of_cell? w _ hw233_0)).trans hw233_0)))).trans (((HB.out.cell (World.block_lt_of_cell? w _ hw233_0)).trans hw233_0)), (World.cell?_alloc_lt _ _ _ (World.block_lt_of_cell? _ _ (((HB.out.cell (World.block_lt_of_cell? w _ hw233_1)).trans hw233_1)))).trans (((HB.out.cell (World.block_lt_of_cell? w _ hw233_1)).trans hw233_1)), (World.cell?_alloc_lt _ _ _ (World.block_lt_of_cell? _ _ (((HB.out.cell (World.block_lt_of_cell? w _ hw233_2)).trans hw233_2)))).trans (((HB.out.cell (World.block_lt_of_cell? w _ hw233_2)).trans hw233_2)), (World.cell?_alloc_lt _ _ _ (World.block_lt_of_cell? _ _ (((HB.out.cell (World.block_lt_of_cell? w _ hw234_0)).trans hw234_0)))).trans (((HB.out.cell (World.block_lt_of_cell? w _ hw234_0)).trans hw234_0)), (World.cell?_alloc_lt _ _ _ (World.block_lt_of_cell? _ _ (((HB.out.cell (World.block_lt_of_cell? w _ hw234_1)).trans hw234_1)))).trans (((HB.out.cell (World.block_lt_of_cell? w _ hw234_1)).trans hw234_1)), (World.cell?_alloc_lt _ _ _ (World.block_lt_of_cell? _ _ (((HB.out.cell (World.block_lt_of_cell? w _ hw234_2)).trans hw234_2)))).trans (((HB.out.cell (World.block_lt_of_cell? w _ hw234_2)).trans hw234_2))⟩ (fun hHeld => ?_)
             clear hK K
             refine norm_ (a' := ?_) ?_ ?_
             rotate_left
             ·show Act.put _ (some 55) _ = _
              simp only [Act.put, List.setIfInBounds_toArray, List.set_cons_zero, List.set_cons_succ, i64_w, i32_w]
              rfl
             refine one_ (i := 13) (N := some 56) #[true, true, true, true, true, true, true, true, true, true, true, true, true, true, false] rfl rfl (one_of HT_.out (by kernel_rfl)) (by decide) (fun K hK => ?_)
             refine Kd.R_append_step k84 (w0 := w) w.heap.size (by rfl) (.tmp 43) (.tmp 55) 46 84 (.agg #[(.int .i64 0), (.int .i64 0)]) 16 rfl Tryd.underlying46 info84 rfl (by decide) (by omega) u5 x5_2 (⟨(rd_T33 l0 x4_1).f0, (rd_T33 l0 x4_1).f1⟩ : S84) [.int .i64 ((rd_T33 l0 x4_1).f0), .int .i64 ((rd_T33 l0 x4_1).f1)] (fun _ => True) (fun _ => False) rfl rfl ?aP (fun _ hk => hk.elim) ?aF ?aO ?aB ?aS ?aL ?_
             (case aP => exact k84_mkM _ _ _ (⟨(rd_T33 l0 x4_1).f0, (rd_T33 l0 x4_1).f1⟩ : S84))
             (case aB => exact (by repeat (first | (with_reducible first | exact HB.out | apply below_alloc | apply pw_below_drewN | apply below_drew1) | exact HB.out)))
             (case aF => exact (fun _ _ => trivial))
             (case aO => exact (by (with_reducible repeat (first | apply Kd.R_alloc | apply Kd.R_drewN | apply Kd.R_drew)); exact HO_5.out))
             (case aS => exact (below_size (by repeat (first | (with_reducible first | exact HB.out | apply below_alloc | apply pw_below_drewN | apply below_drew1) | exact HB.out))))
             (case aL => have := LMc16.out; omega)
             intro v236 w20 ho hb hg hat
             rw [← Ny235.out] at ho
             have n0_ := Aside0.mk (Kd.S_after (ok := (fun _ => True)) (by (with_reducible repeat (first | apply Kd.S_alloc | apply Kd.S_drewN | apply Kd.S_drew)); exact Kd.S_mono HO_3.out (fun _ hk => ⟨trivial, hk⟩)) hg hat)
             have n1_ := Aside0.mk (hb)
             have n2_ := Aside0.mk (ho)
             clear HO_3
             clear HB
             clear HO_5
             have HO_3 := n0_
             have HB := n1_
             have HO237 := n2_
             clear n0_ n1_ n2_
             clear ho hb hg hat
             refine hK.out _ _ ⟨((HB.out.cell (World.block_lt_of_cell? w _ hw233_0)).trans hw233_0), ((HB.out.cell (World.block_lt_of_cell? w _ hw233_1)).trans hw233_1), ((HB.out.cell (World.block_lt_of_cell? w _ hw233_2)).trans hw233_2), ((HB.out.cell (World.block_lt_of_cell? w _ hw234_0)).trans hw234_0), ((HB.out.cell (World.block_lt_of_cell? w _ hw234_1)).trans hw234_1), ((HB.out.cell (World.block_lt_of_cell? w _ hw234_2)).trans hw234_2)⟩ (fun hHeld => ?_)
             clear hK K
             refine norm_ (a' := ?_) ?_ ?_
             rotate_left
             ·show Act.put _ (some 56) _ = _
              simp only [Act.put, List.setIfInBounds_toArray, List.set_cons_zero, List.set_cons_succ, i64_w, i32_w]
              rfl
             refine pA 14 5 #[true, true, true, true, true, true, true, true, true, true, true, true, true, true, true] HT_ ?_
             refine done_ (done_of HT_.out (by kernel_rfl)) ?_
             obtain ⟨Ao21, co21, eo21⟩ := Kd.R_slice HO237.out
             subst eo21
             try go_wp2_with (first | ((with_reducible refine gate_callee (f := 39) rfl ?_); refine goesL_ (some 58) rfl rfl Tryd.func39 (by kernel_rfl) rfl #[.slice Ao21 y235.length co21] rfl (by (try simp only [List.map_toArray, List.map_cons, List.map_nil]); first | done | rfl | (simp only [List.length_drop, List.length_take]; rfl)) ?_; (with_reducible refine (jigsawref24_Made.calls k2 _ _ y235 t238 _ ?side1 ?side2 A17.out).mono ?_); (case side1 => repeat (first | exact (Kd.R_reads' HO237.out).2.2 | (with_reducible refine Kd.C_alloc ?_ _) | (with_reducible refine Kd.C_drewN ?_ _) | (with_reducible refine Kd.C_drew ?_))); (case side2 => exact (Kd.R_reads' HO237.out).2.1); rintro e w22 ⟨v239, rfl, ho0, hb⟩; refine ⟨_, rfl, ?_⟩; have n0_ := Aside0.mk (Kd.S_elder' (by (with_reducible repeat (first | apply Kd.S_alloc | apply Kd.S_drewN | apply Kd.S_drew)); exact HO_3.out) (Kd.R_base ho0) hb); have n1_ := Aside0.mk (Kd.R_elder' (by (with_reducible repeat (first | apply Kd.R_alloc | apply Kd.R_drewN | apply Kd.R_drew)); exact HO237.out) (Kd.R_base ho0) hb); have n2_ := Aside0.mk (Kd.R_lower (Kd.R_new' ho0 (Kd.R_lt (by (with_reducible repeat (first | apply Kd.R_alloc | apply Kd.R_drewN | apply Kd.R_drew)); exact HO237.out))) (below_size (by repeat (first | (with_reducible first | exact HB.out | apply below_alloc | apply pw_below_drewN | apply below_drew1) | exact HB.out)))); have n3_ := Aside0.mk (below_step (by repeat (first | (with_reducible first | exact HB.out | apply below_alloc | apply pw_below_drewN | apply below_drew1) | exact HB.out)) hb); clear HO_3; clear HO237; clear HB; have HO_3 := n0_; have HO237 := n1_; have HO240 := n2_; have HB := n3_; clear n0_ n1_ n2_ n3_; (try clear hb); (try clear hb2); (try clear hk); (try clear hi); (try clear ho0); obtain ⟨Ao24, co24, eo24⟩ := Kd.R_slice HO240.out; subst eo24) | ((with_reducible refine gate_builtin (b := .append) (xs := #[.tmp 59, .tmp 61]) rfl ?_); at_builtin; refine Kd.S_append (Kd.slice 84 k84) (w0 := w) w.heap.size rfl (.tmp 59) (.tmp 61) 38 46 (.slice none 0 0) 24 rfl Tryd.underlying38 info46 rfl (by decide) (by omega) u3 x3_1 t238 [.slice Ao24 t238.length co24] (fun k_ => some k_ ≠ (.slice Ao21 y235.length co21 : Value).ownBlock) (fun k_ => some k_ = (.slice Ao24 t238.length co24 : Value).ownBlock) rfl rfl ?aP (fun k_ hk_ => ((Kd.R_mono (ok' := fun k_ => ((fun k_ => some k_ ≠ (.slice Ao21 y235.length co21 : Value).ownBlock)) k_ ∧ some k_ ≠ (u3 : Value).ownBlock) (Kd.R_apart' (HO240.out) (Kd.S_typed HO_3.out) (by decide)) (fun k_ hk => ⟨hk.1.2, hk.2⟩))).1 k_ hk_.symm) ?aF ?aO ?aB ?aS ?aL ?_; (case aP => exact Kd.M_row (Kd.R_mono (Kd.R_tight rfl (Kd.R_mono (ok' := fun k_ => ((fun k_ => some k_ ≠ (.slice Ao21 y235.length co21 : Value).ownBlock)) k_ ∧ some k_ ≠ (u3 : Value).ownBlock) (Kd.R_apart' (HO240.out) (Kd.S_typed HO_3.out) (by decide)) (fun k_ hk => ⟨hk.1.2, hk.2⟩))) (fun _ h_ => h_))); (case aB => exact (by repeat (first | (with_reducible first | exact HB.out | apply below_alloc | apply pw_below_drewN | apply below_drew1) | exact HB.out))); (case aF => exact (fun k_ hk => Kd.fresh' (Kd.R_lt (by (with_reducible repeat (first | apply Kd.R_alloc | apply Kd.R_drewN | apply Kd.R_drew)); exact HO237.out)) k_ hk)); (case aO => exact (by (with_reducible repeat (first | apply Kd.S_alloc | apply Kd.S_drewN | apply Kd.S_drew)); exact Kd.S_mono HO_3.out (fun k_ hk => ⟨hk.1.2, fun e_ => hk.2 e_⟩))); (case aS => exact (below_size (by repeat (first | (with_reducible first | exact HB.out | apply below_alloc | apply pw_below_drewN | apply below_drew1) | exact HB.out)))); (case aL => have := LMc18.out; omega); intro v242 w23 ho hb hg hat; rw [← Ny241.out] at ho; have n0_ := Aside0.mk (Kd.R_over' (by (with_reducible repeat (first | apply Kd.R_alloc | apply Kd.R_drewN | apply Kd.R_drew)); exact HO237.out) (Kd.S_typed (by (with_reducible repeat (first | apply Kd.S_alloc | apply Kd.S_drewN | apply Kd.S_drew)); exact HO_3.out)) (by decide) hg); have n1_ := Aside0.mk (hb); have n2_ := Aside0.mk (ho); clear HO237; clear HB; clear HO_3; clear HO240; have HO237 := n0_; have HB := n1_; have HO243 := n2_; clear n0_ n1_ n2_; clear ho hb hg hat))
             go_roundg k2
             case measure => have := HK1.out; have := HK2.out; omega
             case rel => exact ⟨(y241), (wrap64 (x4_1 + 1)), (by first | rfl | (simp; done) | (simp [*]; done)), H', ⟨by have := HK1.out; have := HK2.out; omega⟩, ⟨by (with_reducible repeat (first | apply Kd.S_alloc | apply Kd.S_drewN | apply Kd.S_drew)); exact Kd.S_mono HO243.out (fun _ hk => trivial)⟩, ⟨by repeat (first | (with_reducible first | exact HB.out | apply below_alloc | apply pw_below_drewN | apply below_drew1) | exact HB.out)⟩⟩
            ·rw [if_neg c18] at H
             exact absurd H (by simp)
           ·rw [if_neg c16] at H
            exact absurd H (by simp)
          ·rw [if_neg c15] at H
           exact absurd H (by simp)
         ·rw [if_neg c14] at H
          exact absurd H (by simp)
    ·rw [if_neg c3] at H
     exact absurd H (by simp)
   ·rw [if_neg c2] at H
    have c2b0 : decide (x4_1 < (l0.length : Int)) = false := decide_eq_false c2
    clear c2
    obtain rfl := Option.some.inj H
    go_wp2
    go_ret
    exact ⟨_, by first | rfl | (simp [errW_none, errW_some] <;> rfl) | (simp [*, errW_none, errW_some] <;> rfl), by (with_reducible repeat (first | apply Kd.S_alloc | apply Kd.S_drewN | apply Kd.S_drew)); exact HO_3.out, by repeat (first | (with_reducible first | exact HB.out | apply below_alloc | apply pw_below_drewN | apply below_drew1) | exact HB.out)⟩

end Go.Proofs.YtgckohmppefibaaDoorX.Hz
