-- Printed by wip/tools/hp.sh (functions of the translation, out of Lean's print of them).
import Derived.Test.YtgckohmppefibaaDoorHzx0
import Derived.Test.YtgckohmppefibaaDoorShort
namespace Go.Proofs.YtgckohmppefibaaDoorX.Hz
open Go.RowKit Go.Proofs.YtgckohmppefibaaDoorW.PrintWords Go.Proofs.YtgckohmppefibaaDoorW.PrintLast Go.Proofs.YtgckohmppefibaaDoorW.PrintMore
attribute [local go_sem] max2_int min2_int max_two min_two max_three min_three max_four min_four   -- for this text's walks alone
set_option linter.unusedVariables false
set_option linter.unusedSimpArgs false
attribute [local go_sem] Go.Proofs.YtgckohmppefibaaDoor.Hook.cell_two

/-! ### jigsawlaw24_same: function 9 -/
mutual
def jigsawlaw24_same.l0 : Nat → List (List (S29)) → List (List (S84)) → Int → Int → Option (Bool)
 | 0, _, _, _, _ => none
 | k + 1, x0, x1, x13, x14 => if x14 < x13 then (if 0 ≤ x14 then (if x14 < (x0.length : Int) then (if x14 < (x1.length : Int) then (if ((rd_L7 x0 x14).length : Int) = ((rd_L9 x1 x14).length : Int) then (jigsawlaw24_same.l1 k x0 x1 x14 x13 x14 ((rd_L7 x0 x14).length : Int) 0) else (some false)) else (none)) else (none)) else (none)) else (some true)
def jigsawlaw24_same.l1 : Nat → List (List (S29)) → List (List (S84)) → Int → Int → Int → Int → Int → Option (Bool)
 | 0, _, _, _, _, _, _, _ => none
 | k + 1, x0, x1, x5, x13, x14, x32, x33 => if x33 < x32 then (if 0 ≤ x5 then (if x5 < (x0.length : Int) then (if 0 ≤ x33 then (if x33 < ((rd_L7 x0 x5).length : Int) then (if x5 < (x1.length : Int) then (if x33 < ((rd_L9 x1 x5).length : Int) then (if ((rd_T29 (rd_L7 x0 x5) x33).f0) = ((rd_T84 (rd_L9 x1 x5) x33).f0) then (if ((rd_T29 (rd_L7 x0 x5) x33).f1) = ((rd_T84 (rd_L9 x1 x5) x33).f1) then (jigsawlaw24_same.l1 k x0 x1 x5 x13 x14 x32 (wrap64 (x33 + 1))) else (some false)) else (some false)) else (none)) else (none)) else (none)) else (none)) else (none)) else (none)) else (jigsawlaw24_same.l0 k x0 x1 x13 (wrap64 (x14 + 1)))
end
def jigsawlaw24_same.f (k : Nat) (l0 : List (List (S29))) (l1 : List (List (S84))) : Option (Bool) := if (l0.length : Int) = (l1.length : Int) then (jigsawlaw24_same.l0 k l0 l1 (l0.length : Int) 0) else (some false)
theorem jigsawlaw24_same.mono_l : ∀ k, (∀ y0 y1 y2 y3, LeO (jigsawlaw24_same.l0 k y0 y1 y2 y3) (jigsawlaw24_same.l0 (k + 1) y0 y1 y2 y3)) ∧ (∀ y0 y1 y2 y3 y4 y5 y6, LeO (jigsawlaw24_same.l1 k y0 y1 y2 y3 y4 y5 y6) (jigsawlaw24_same.l1 (k + 1) y0 y1 y2 y3 y4 y5 y6))
 | 0 => ⟨fun _ _ _ _ r h => by simp [jigsawlaw24_same.l0] at h, fun _ _ _ _ _ _ _ r h => by simp [jigsawlaw24_same.l1] at h⟩
 | k + 1 => by
  obtain ⟨ih0, ih1⟩ := jigsawlaw24_same.mono_l k
  refine ⟨?_, ?_⟩
  ·intro y0 y1 y2 y3
   unfold jigsawlaw24_same.l0
   repeat' first
   | (with_reducible exact ih0 _ _ _ _)
   | (with_reducible exact ih1 _ _ _ _ _ _ _)
   | (with_reducible exact LeO.refl _)
   | (with_reducible exact LeO.none _)
   | (with_reducible refine LeO.ite ?_ ?_)
   | (with_reducible refine LeO.bind ?_ (fun _ => ?_))
   | exact ih0 _ _ _ _
   | exact ih1 _ _ _ _ _ _ _
   | exact LeO.none _
   | refine LeO.ite ?_ ?_
   | refine LeO.bind ?_ (fun _ => ?_)
  ·intro y0 y1 y2 y3 y4 y5 y6
   unfold jigsawlaw24_same.l1
   repeat' first
   | (with_reducible exact ih0 _ _ _ _)
   | (with_reducible exact ih1 _ _ _ _ _ _ _)
   | (with_reducible exact LeO.refl _)
   | (with_reducible exact LeO.none _)
   | (with_reducible refine LeO.ite ?_ ?_)
   | (with_reducible refine LeO.bind ?_ (fun _ => ?_))
   | exact ih0 _ _ _ _
   | exact ih1 _ _ _ _ _ _ _
   | exact LeO.none _
   | refine LeO.ite ?_ ?_
   | refine LeO.bind ?_ (fun _ => ?_)
theorem jigsawlaw24_same.mono : ∀ a0 a1 k, LeO (jigsawlaw24_same.f k a0 a1) (jigsawlaw24_same.f (k + 1) a0 a1) := by
 intro a0 a1 k
 obtain ⟨ih0, ih1⟩ := jigsawlaw24_same.mono_l k
 unfold jigsawlaw24_same.f
 repeat' first
   | (with_reducible exact ih0 _ _ _ _)
   | (with_reducible exact ih1 _ _ _ _ _ _ _)
   | (with_reducible exact LeO.refl _)
   | (with_reducible exact LeO.none _)
   | (with_reducible refine LeO.ite ?_ ?_)
   | (with_reducible refine LeO.bind ?_ (fun _ => ?_))
   | exact ih0 _ _ _ _
   | exact ih1 _ _ _ _ _ _ _
   | exact LeO.none _
   | refine LeO.ite ?_ ?_
   | refine LeO.bind ?_ (fun _ => ?_)
set_option maxHeartbeats 8000000 in
set_option maxRecDepth 100000 in
theorem jigsawlaw24_same.calls (k : Nat) (A0 : Option Addr) (c0 : Nat) (l0 : List (List (S29))) (A1 : Option Addr) (c1 : Nat) (l1 : List (List (S84))) (r : Bool) (w : World) (hr0 : Kd.C (Kd.slice 29 k29) w A0 l0.length l0) (hc0 : l0.length ≤ c0) (hr1 : Kd.C (Kd.slice 84 k84) w A1 l1.length l1) (hc1 : l1.length ≤ c1) (h : jigsawlaw24_same.f k l0 l1 = some r) :
  Calls Tryd.prog 9 #[.slice A0 l0.length c0, .slice A1 l1.length c1] w fun e w' => e = .returned (.bool r) ∧ Drawn0 w w' := by
 have HR0 := Aside0.mk hr0
 have HC0 := Aside0.mk hc0
 clear hr0 hc0
 have HR1 := Aside0.mk hr1
 have HC1 := Aside0.mk hc1
 clear hr1 hc1
 have H : (if (l0.length : Int) = (l1.length : Int) then (jigsawlaw24_same.l0 k l0 l1 (l0.length : Int) 0) else (some false)) = some r := h
 clear h
 by_cases c3 : (l0.length : Int) = (l1.length : Int)
 ·rw [if_pos c3] at H
  have c3b0 : ((l0.length : Int) == (l1.length : Int)) = true := beq_iff_eq.mpr c3
  have c3b1 : ((l0.length : Int) != (l1.length : Int)) = false := bne_eq_false_iff_eq.mpr c3
  have c3b2 : (l0.length == l1.length) = true := by first | simpa using c3 | (simp at c3 ⊢; omega)
  clear c3
  have H' := Aside0.mk H
  clear H
  go_enter Tryd.func9, Tryd.ntmps9
  go_wp2
  repeat (go_quiet (fail); try go_wp2)
  go_loopg [14] k (fun kq v14 w' => ∃ (x14_1 : Int), v14 = .int .i64 x14_1 ∧ Aside0 (jigsawlaw24_same.l0 kq l0 l1 (l0.length : Int) x14_1 = some r) ∧ Aside0 (kq ≤ k) ∧ Drawn0 w w')
  case atStart => exact ⟨(0), (by first | rfl | (simp; done) | (simp [*]; done)), H', ⟨Nat.le_refl _⟩, by repeat (first | exact Drawn0.refl _ | apply Drawn0.step)⟩
  case round =>
   clear H'
   try clear c1
   try clear p2
   try clear c3
   try clear c3b0
   try clear c3b1
   try clear c3b2
   obtain ⟨x14_1, rfl, HA, HK1, ⟨m1, rfl⟩⟩ := hrel
   cases gk with
   | zero => exact absurd HA.out (by simp [jigsawlaw24_same.l0])
   | succ k1 =>
    have H := HA.out
    clear HA
    simp only [jigsawlaw24_same.l0] at H
    by_cases c4 : x14_1 < (l0.length : Int)
    ·rw [if_pos c4] at H
     have c4b0 : decide (x14_1 < (l0.length : Int)) = true := decide_eq_true c4
     clear c4
     by_cases c5 : 0 ≤ x14_1
     ·rw [if_pos c5] at H
      have c5b0 : decide (0 ≤ x14_1) = true := decide_eq_true c5
      clear c5
      by_cases c6 : x14_1 < (l0.length : Int)
      ·rw [if_pos c6] at H
       have c6b0 : decide (x14_1 < (l0.length : Int)) = true := decide_eq_true c6
       clear c6
       by_cases c7 : x14_1 < (l1.length : Int)
       ·rw [if_pos c7] at H
        have c7b0 : decide (x14_1 < (l1.length : Int)) = true := decide_eq_true c7
        clear c7
        by_cases c8 : ((rd_L7 l0 x14_1).length : Int) = ((rd_L9 l1 x14_1).length : Int)
        ·rw [if_pos c8] at H
         have c8b0 : (((rd_L7 l0 x14_1).length : Int) == ((rd_L9 l1 x14_1).length : Int)) = true := beq_iff_eq.mpr c8
         have c8b1 : (((rd_L7 l0 x14_1).length : Int) != ((rd_L9 l1 x14_1).length : Int)) = false := bne_eq_false_iff_eq.mpr c8
         have c8b2 : ((rd_L7 l0 x14_1).length == (rd_L9 l1 x14_1).length) = true := by first | simpa using c8 | (simp at c8 ⊢; omega)
         clear c8
         have H' := Aside0.mk H
         clear H
         have p158 : 0 ≤ (x14_1 : Int) := of_decide_eq_true (by first | (with_reducible assumption) | assumption)
         have q158 : x14_1 < (l0.length : Int) := of_decide_eq_true (by first | (with_reducible assumption) | assumption)
         obtain ⟨ad158, A158_0, c158_0, e158, hx158_0, hl158_0, hi158_0⟩ := at_L7 HR0.out x14_1 p158 q158
         cases e158
         have HR158_0 := Aside0.mk hi158_0
         have HC158_0 := Aside0.mk hl158_0
         clear hi158_0 hl158_0
         replace p158 := eq_true p158
         replace q158 := eq_true q158
         have p159 : 0 ≤ (x14_1 : Int) := of_decide_eq_true (by first | (with_reducible assumption) | assumption)
         have q159 : x14_1 < (l1.length : Int) := of_decide_eq_true (by first | (with_reducible assumption) | assumption)
         obtain ⟨ad159, A159_0, c159_0, e159, hx159_0, hl159_0, hi159_0⟩ := at_L9 HR1.out x14_1 p159 q159
         cases e159
         have HR159_0 := Aside0.mk hi159_0
         have HC159_0 := Aside0.mk hl159_0
         clear hi159_0 hl159_0
         replace p159 := eq_true p159
         replace q159 := eq_true q159
         have p160 : 0 ≤ (x14_1 : Int) := of_decide_eq_true (by first | (with_reducible assumption) | assumption)
         have q160 : x14_1 < (l0.length : Int) := of_decide_eq_true (by first | (with_reducible assumption) | assumption)
         obtain ⟨ad160, A160_0, c160_0, e160, hx160_0, hl160_0, hi160_0⟩ := at_L7 HR0.out x14_1 p160 q160
         obtain rfl : ad158 = ad160 := (by injection e160)
         have HR160_0 := Aside0.mk hi160_0
         have HC160_0 := Aside0.mk hl160_0
         clear hi160_0 hl160_0
         replace p160 := eq_true p160
         replace q160 := eq_true q160
         have ea_ := Option.some.inj (hx158_0.symm.trans hx160_0)
         injection ea_ with ea_ en_ ec_
         subst ea_
         subst ec_
         clear en_
         go_wp2
         repeat (go_quiet (fail); try go_wp2)
         go_loopg [33] k1 (fun kq v33 w' => ∃ (x33_2 : Int), v33 = .int .i64 x33_2 ∧ Aside0 (jigsawlaw24_same.l1 kq l0 l1 x14_1 (l0.length : Int) x14_1 ((rd_L7 l0 x14_1).length : Int) x33_2 = some r) ∧ Aside0 (kq ≤ k1) ∧ Drawn0 w w')
         case atStart => exact ⟨(0), (by first | rfl | (simp; done) | (simp [*]; done)), H', ⟨Nat.le_refl _⟩, by repeat (first | exact Drawn0.refl _ | apply Drawn0.step)⟩
         case round =>
          clear H'
          try clear c1
          try clear p1
          try clear q1
          try clear hx1
          try clear p2
          try clear c3
          try clear c3b0
          try clear c3b1
          try clear c3b2
          try clear c4
          try clear c4b0
          try clear c5
          try clear c5b0
          try clear c6
          try clear c6b0
          try clear c7
          try clear c7b0
          try clear c8
          try clear c8b0
          try clear c8b1
          try clear c8b2
          try clear hx158_0
          try clear hx159_0
          try clear hx160_0
          try clear p158
          try clear p159
          try clear p160
          try clear p2
          try clear q158
          try clear q159
          try clear q160
          obtain ⟨x33_2, rfl, HA, HK2, ⟨m2, rfl⟩⟩ := hrel
          cases gk with
          | zero => exact absurd HA.out (by simp [jigsawlaw24_same.l1])
          | succ k2 =>
           have H := HA.out
           clear HA
           simp only [jigsawlaw24_same.l1] at H
           by_cases c9 : x33_2 < ((rd_L7 l0 x14_1).length : Int)
           ·rw [if_pos c9] at H
            have c9b0 : decide (x33_2 < ((rd_L7 l0 x14_1).length : Int)) = true := decide_eq_true c9
            clear c9
            by_cases c10 : 0 ≤ x14_1
            ·rw [if_pos c10] at H
             have c10b0 : decide (0 ≤ x14_1) = true := decide_eq_true c10
             clear c10
             by_cases c11 : x14_1 < (l0.length : Int)
             ·rw [if_pos c11] at H
              have c11b0 : decide (x14_1 < (l0.length : Int)) = true := decide_eq_true c11
              clear c11
              by_cases c12 : 0 ≤ x33_2
              ·rw [if_pos c12] at H
               have c12b0 : decide (0 ≤ x33_2) = true := decide_eq_true c12
               clear c12
               by_cases c13 : x33_2 < ((rd_L7 l0 x14_1).length : Int)
               ·rw [if_pos c13] at H
                have c13b0 : decide (x33_2 < ((rd_L7 l0 x14_1).length : Int)) = true := decide_eq_true c13
                clear c13
                by_cases c14 : x14_1 < (l1.length : Int)
                ·rw [if_pos c14] at H
                 have c14b0 : decide (x14_1 < (l1.length : Int)) = true := decide_eq_true c14
                 clear c14
                 by_cases c15 : x33_2 < ((rd_L9 l1 x14_1).length : Int)
                 ·rw [if_pos c15] at H
                  have c15b0 : decide (x33_2 < ((rd_L9 l1 x14_1).length : Int)) = true := decide_eq_true c15
                  clear c15
                  by_cases c16 : ((rd_T29 (rd_L7 l0 x14_1) x33_2).f0) = ((rd_T84 (rd_L9 l1 x14_1) x33_2).f0)
                  ·rw [if_pos c16] at H
                   have c16b0 : (((rd_T29 (rd_L7 l0 x14_1) x33_2).f0) == ((rd_T84 (rd_L9 l1 x14_1) x33_2).f0)) = true := beq_iff_eq.mpr c16
                   have c16b1 : (((rd_T29 (rd_L7 l0 x14_1) x33_2).f0) != ((rd_T84 (rd_L9 l1 x14_1) x33_2).f0)) = false := bne_eq_false_iff_eq.mpr c16
                   clear c16
                   by_cases c17 : ((rd_T29 (rd_L7 l0 x14_1) x33_2).f1) = ((rd_T84 (rd_L9 l1 x14_1) x33_2).f1)
                   ·rw [if_pos c17] at H
                    have c17b0 : (((rd_T29 (rd_L7 l0 x14_1) x33_2).f1) == ((rd_T84 (rd_L9 l1 x14_1) x33_2).f1)) = true := beq_iff_eq.mpr c17
                    have c17b1 : (((rd_T29 (rd_L7 l0 x14_1) x33_2).f1) != ((rd_T84 (rd_L9 l1 x14_1) x33_2).f1)) = false := bne_eq_false_iff_eq.mpr c17
                    clear c17
                    have H' := Aside0.mk H
                    clear H
                    have p161 : 0 ≤ (x14_1 : Int) := of_decide_eq_true (by first | (with_reducible assumption) | assumption)
                    have q161 : x14_1 < (l0.length : Int) := of_decide_eq_true (by first | (with_reducible assumption) | assumption)
                    obtain ⟨ad161, A161_0, c161_0, e161, hx161_0, hl161_0, hi161_0⟩ := at_L7 HR0.out x14_1 p161 q161
                    obtain rfl : ad158 = ad161 := (by injection e161)
                    have HR161_0 := Aside0.mk hi161_0
                    have HC161_0 := Aside0.mk hl161_0
                    clear hi161_0 hl161_0
                    replace p161 := eq_true p161
                    replace q161 := eq_true q161
                    have p162 : 0 ≤ (x33_2 : Int) := of_decide_eq_true (by first | (with_reducible assumption) | assumption)
                    have q162 : x33_2 < ((rd_L7 l0 x14_1).length : Int) := of_decide_eq_true (by first | (with_reducible assumption) | assumption)
                    obtain ⟨ad162, e162, hx162_0, hx162_1⟩ := at_T29 HR161_0.out x33_2 p162 q162
                    cases e162
                    replace p162 := eq_true p162
                    replace q162 := eq_true q162
                    have p163 : 0 ≤ (x14_1 : Int) := of_decide_eq_true (by first | (with_reducible assumption) | assumption)
                    have q163 : x14_1 < (l1.length : Int) := of_decide_eq_true (by first | (with_reducible assumption) | assumption)
                    obtain ⟨ad163, A163_0, c163_0, e163, hx163_0, hl163_0, hi163_0⟩ := at_L9 HR1.out x14_1 p163 q163
                    obtain rfl : ad159 = ad163 := (by injection e163)
                    have HR163_0 := Aside0.mk hi163_0
                    have HC163_0 := Aside0.mk hl163_0
                    clear hi163_0 hl163_0
                    replace p163 := eq_true p163
                    replace q163 := eq_true q163
                    have p164 : 0 ≤ (x33_2 : Int) := of_decide_eq_true (by first | (with_reducible assumption) | assumption)
                    have q164 : x33_2 < ((rd_L9 l1 x14_1).length : Int) := of_decide_eq_true (by first | (with_reducible assumption) | assumption)
                    obtain ⟨ad164, e164, hx164_0, hx164_1⟩ := at_T84 HR163_0.out x33_2 p164 q164
                    cases e164
                    replace p164 := eq_true p164
                    replace q164 := eq_true q164
                    have p165 : 0 ≤ (x14_1 : Int) := of_decide_eq_true (by first | (with_reducible assumption) | assumption)
                    have q165 : x14_1 < (l0.length : Int) := of_decide_eq_true (by first | (with_reducible assumption) | assumption)
                    obtain ⟨ad165, A165_0, c165_0, e165, hx165_0, hl165_0, hi165_0⟩ := at_L7 HR0.out x14_1 p165 q165
                    obtain rfl : ad158 = ad165 := (by injection e165)
                    have HR165_0 := Aside0.mk hi165_0
                    have HC165_0 := Aside0.mk hl165_0
                    clear hi165_0 hl165_0
                    replace p165 := eq_true p165
                    replace q165 := eq_true q165
                    have ea_ := Option.some.inj (hx161_0.symm.trans hx165_0)
                    injection ea_ with ea_ en_ ec_
                    subst ea_
                    subst ec_
                    clear en_
                    have p166 : 0 ≤ (x33_2 : Int) := of_decide_eq_true (by first | (with_reducible assumption) | assumption)
                    have q166 : x33_2 < ((rd_L7 l0 x14_1).length : Int) := of_decide_eq_true (by first | (with_reducible assumption) | assumption)
                    obtain ⟨ad166, e166, hx166_0, hx166_1⟩ := at_T29 HR165_0.out x33_2 p166 q166
                    cases e166
                    replace p166 := eq_true p166
                    replace q166 := eq_true q166
                    have p167 : 0 ≤ (x14_1 : Int) := of_decide_eq_true (by first | (with_reducible assumption) | assumption)
                    have q167 : x14_1 < (l1.length : Int) := of_decide_eq_true (by first | (with_reducible assumption) | assumption)
                    obtain ⟨ad167, A167_0, c167_0, e167, hx167_0, hl167_0, hi167_0⟩ := at_L9 HR1.out x14_1 p167 q167
                    obtain rfl : ad159 = ad167 := (by injection e167)
                    have HR167_0 := Aside0.mk hi167_0
                    have HC167_0 := Aside0.mk hl167_0
                    clear hi167_0 hl167_0
                    replace p167 := eq_true p167
                    replace q167 := eq_true q167
                    have ea_ := Option.some.inj (hx163_0.symm.trans hx167_0)
                    injection ea_ with ea_ en_ ec_
                    subst ea_
                    subst ec_
                    clear en_
                    have p168 : 0 ≤ (x33_2 : Int) := of_decide_eq_true (by first | (with_reducible assumption) | assumption)
                    have q168 : x33_2 < ((rd_L9 l1 x14_1).length : Int) := of_decide_eq_true (by first | (with_reducible assumption) | assumption)
                    obtain ⟨ad168, e168, hx168_0, hx168_1⟩ := at_T84 HR167_0.out x33_2 p168 q168
                    cases e168
                    replace p168 := eq_true p168
                    replace q168 := eq_true q168
                    go_wp2
                    repeat (go_quiet (fail); try go_wp2)
                    go_roundg k2
                    case measure => have := HK1.out; have := HK2.out; omega
                    case rel => exact ⟨(wrap64 (x33_2 + 1)), (by first | rfl | (simp; done) | (simp [*]; done)), H', ⟨by have := HK1.out; have := HK2.out; omega⟩, by repeat (first | exact Drawn0.refl _ | apply Drawn0.step)⟩
                   ·rw [if_neg c17] at H
                    have c17b0 : (((rd_T29 (rd_L7 l0 x14_1) x33_2).f1) == ((rd_T84 (rd_L9 l1 x14_1) x33_2).f1)) = false := beq_eq_false_iff_ne.mpr c17
                    have c17b1 : (((rd_T29 (rd_L7 l0 x14_1) x33_2).f1) != ((rd_T84 (rd_L9 l1 x14_1) x33_2).f1)) = true := bne_iff_ne.mpr c17
                    obtain rfl := Option.some.inj H
                    have p161 : 0 ≤ (x14_1 : Int) := of_decide_eq_true (by first | (with_reducible assumption) | assumption)
                    have q161 : x14_1 < (l0.length : Int) := of_decide_eq_true (by first | (with_reducible assumption) | assumption)
                    obtain ⟨ad161, A161_0, c161_0, e161, hx161_0, hl161_0, hi161_0⟩ := at_L7 HR0.out x14_1 p161 q161
                    obtain rfl : ad158 = ad161 := (by injection e161)
                    have HR161_0 := Aside0.mk hi161_0
                    have HC161_0 := Aside0.mk hl161_0
                    clear hi161_0 hl161_0
                    replace p161 := eq_true p161
                    replace q161 := eq_true q161
                    have p162 : 0 ≤ (x33_2 : Int) := of_decide_eq_true (by first | (with_reducible assumption) | assumption)
                    have q162 : x33_2 < ((rd_L7 l0 x14_1).length : Int) := of_decide_eq_true (by first | (with_reducible assumption) | assumption)
                    obtain ⟨ad162, e162, hx162_0, hx162_1⟩ := at_T29 HR161_0.out x33_2 p162 q162
                    cases e162
                    replace p162 := eq_true p162
                    replace q162 := eq_true q162
                    have p163 : 0 ≤ (x14_1 : Int) := of_decide_eq_true (by first | (with_reducible assumption) | assumption)
                    have q163 : x14_1 < (l1.length : Int) := of_decide_eq_true (by first | (with_reducible assumption) | assumption)
                    obtain ⟨ad163, A163_0, c163_0, e163, hx163_0, hl163_0, hi163_0⟩ := at_L9 HR1.out x14_1 p163 q163
                    obtain rfl : ad159 = ad163 := (by injection e163)
                    have HR163_0 := Aside0.mk hi163_0
                    have HC163_0 := Aside0.mk hl163_0
                    clear hi163_0 hl163_0
                    replace p163 := eq_true p163
                    replace q163 := eq_true q163
                    have p164 : 0 ≤ (x33_2 : Int) := of_decide_eq_true (by first | (with_reducible assumption) | assumption)
                    have q164 : x33_2 < ((rd_L9 l1 x14_1).length : Int) := of_decide_eq_true (by first | (with_reducible assumption) | assumption)
                    obtain ⟨ad164, e164, hx164_0, hx164_1⟩ := at_T84 HR163_0.out x33_2 p164 q164
                    cases e164
                    replace p164 := eq_true p164
                    replace q164 := eq_true q164
                    have p165 : 0 ≤ (x14_1 : Int) := of_decide_eq_true (by first | (with_reducible assumption) | assumption)
                    have q165 : x14_1 < (l0.length : Int) := of_decide_eq_true (by first | (with_reducible assumption) | assumption)
                    obtain ⟨ad165, A165_0, c165_0, e165, hx165_0, hl165_0, hi165_0⟩ := at_L7 HR0.out x14_1 p165 q165
                    obtain rfl : ad158 = ad165 := (by injection e165)
                    have HR165_0 := Aside0.mk hi165_0
                    have HC165_0 := Aside0.mk hl165_0
                    clear hi165_0 hl165_0
                    replace p165 := eq_true p165
                    replace q165 := eq_true q165
                    have ea_ := Option.some.inj (hx161_0.symm.trans hx165_0)
                    injection ea_ with ea_ en_ ec_
                    subst ea_
                    subst ec_
                    clear en_
                    have p166 : 0 ≤ (x33_2 : Int) := of_decide_eq_true (by first | (with_reducible assumption) | assumption)
                    have q166 : x33_2 < ((rd_L7 l0 x14_1).length : Int) := of_decide_eq_true (by first | (with_reducible assumption) | assumption)
                    obtain ⟨ad166, e166, hx166_0, hx166_1⟩ := at_T29 HR165_0.out x33_2 p166 q166
                    cases e166
                    replace p166 := eq_true p166
                    replace q166 := eq_true q166
                    have p167 : 0 ≤ (x14_1 : Int) := of_decide_eq_true (by first | (with_reducible assumption) | assumption)
                    have q167 : x14_1 < (l1.length : Int) := of_decide_eq_true (by first | (with_reducible assumption) | assumption)
                    obtain ⟨ad167, A167_0, c167_0, e167, hx167_0, hl167_0, hi167_0⟩ := at_L9 HR1.out x14_1 p167 q167
                    obtain rfl : ad159 = ad167 := (by injection e167)
                    have HR167_0 := Aside0.mk hi167_0
                    have HC167_0 := Aside0.mk hl167_0
                    clear hi167_0 hl167_0
                    replace p167 := eq_true p167
                    replace q167 := eq_true q167
                    have ea_ := Option.some.inj (hx163_0.symm.trans hx167_0)
                    injection ea_ with ea_ en_ ec_
                    subst ea_
                    subst ec_
                    clear en_
                    have p168 : 0 ≤ (x33_2 : Int) := of_decide_eq_true (by first | (with_reducible assumption) | assumption)
                    have q168 : x33_2 < ((rd_L9 l1 x14_1).length : Int) := of_decide_eq_true (by first | (with_reducible assumption) | assumption)
                    obtain ⟨ad168, e168, hx168_0, hx168_1⟩ := at_T84 HR167_0.out x33_2 p168 q168
                    cases e168
                    replace p168 := eq_true p168
                    replace q168 := eq_true q168
                    go_wp2
                    repeat (go_quiet (fail); try go_wp2)
                    go_ret
                    exact ⟨by first | rfl | (simp; done) | (simp [*]; done), by repeat (first | exact Drawn0.refl _ | apply Drawn0.step)⟩
                  ·rw [if_neg c16] at H
                   have c16b0 : (((rd_T29 (rd_L7 l0 x14_1) x33_2).f0) == ((rd_T84 (rd_L9 l1 x14_1) x33_2).f0)) = false := beq_eq_false_iff_ne.mpr c16
                   have c16b1 : (((rd_T29 (rd_L7 l0 x14_1) x33_2).f0) != ((rd_T84 (rd_L9 l1 x14_1) x33_2).f0)) = true := bne_iff_ne.mpr c16
                   obtain rfl := Option.some.inj H
                   have p161 : 0 ≤ (x14_1 : Int) := of_decide_eq_true (by first | (with_reducible assumption) | assumption)
                   have q161 : x14_1 < (l0.length : Int) := of_decide_eq_true (by first | (with_reducible assumption) | assumption)
                   obtain ⟨ad161, A161_0, c161_0, e161, hx161_0, hl161_0, hi161_0⟩ := at_L7 HR0.out x14_1 p161 q161
                   obtain rfl : ad158 = ad161 := (by injection e161)
                   have HR161_0 := Aside0.mk hi161_0
                   have HC161_0 := Aside0.mk hl161_0
                   clear hi161_0 hl161_0
                   replace p161 := eq_true p161
                   replace q161 := eq_true q161
                   have p162 : 0 ≤ (x33_2 : Int) := of_decide_eq_true (by first | (with_reducible assumption) | assumption)
                   have q162 : x33_2 < ((rd_L7 l0 x14_1).length : Int) := of_decide_eq_true (by first | (with_reducible assumption) | assumption)
                   obtain ⟨ad162, e162, hx162_0, hx162_1⟩ := at_T29 HR161_0.out x33_2 p162 q162
                   cases e162
                   replace p162 := eq_true p162
                   replace q162 := eq_true q162
                   have p163 : 0 ≤ (x14_1 : Int) := of_decide_eq_true (by first | (with_reducible assumption) | assumption)
                   have q163 : x14_1 < (l1.length : Int) := of_decide_eq_true (by first | (with_reducible assumption) | assumption)
                   obtain ⟨ad163, A163_0, c163_0, e163, hx163_0, hl163_0, hi163_0⟩ := at_L9 HR1.out x14_1 p163 q163
                   obtain rfl : ad159 = ad163 := (by injection e163)
                   have HR163_0 := Aside0.mk hi163_0
                   have HC163_0 := Aside0.mk hl163_0
                   clear hi163_0 hl163_0
                   replace p163 := eq_true p163
                   replace q163 := eq_true q163
                   have p164 : 0 ≤ (x33_2 : Int) := of_decide_eq_true (by first | (with_reducible assumption) | assumption)
                   have q164 : x33_2 < ((rd_L9 l1 x14_1).length : Int) := of_decide_eq_true (by first | (with_reducible assumption) | assumption)
                   obtain ⟨ad164, e164, hx164_0, hx164_1⟩ := at_T84 HR163_0.out x33_2 p164 q164
                   cases e164
                   replace p164 := eq_true p164
                   replace q164 := eq_true q164
                   go_wp2
                   repeat (go_quiet (fail); try go_wp2)
                   go_ret
                   exact ⟨by first | rfl | (simp; done) | (simp [*]; done), by repeat (first | exact Drawn0.refl _ | apply Drawn0.step)⟩
                 ·rw [if_neg c15] at H
                  exact absurd H (by simp)
                ·rw [if_neg c14] at H
                 exact absurd H (by simp)
               ·rw [if_neg c13] at H
                exact absurd H (by simp)
              ·rw [if_neg c12] at H
               exact absurd H (by simp)
             ·rw [if_neg c11] at H
              exact absurd H (by simp)
            ·rw [if_neg c10] at H
             exact absurd H (by simp)
           ·rw [if_neg c9] at H
            have c9b0 : decide (x33_2 < ((rd_L7 l0 x14_1).length : Int)) = false := decide_eq_false c9
            clear c9
            have H' := Aside0.mk H
            clear H
            go_wp2
            repeat (go_quiet (fail); try go_wp2)
            go_roundg k2
            case measure => have := HK1.out; have := HK2.out; omega
            case rel => exact ⟨(wrap64 (x14_1 + 1)), (by first | rfl | (simp; done) | (simp [*]; done)), H', ⟨by have := HK1.out; have := HK2.out; omega⟩, by repeat (first | exact Drawn0.refl _ | apply Drawn0.step)⟩
        ·rw [if_neg c8] at H
         have c8b0 : (((rd_L7 l0 x14_1).length : Int) == ((rd_L9 l1 x14_1).length : Int)) = false := beq_eq_false_iff_ne.mpr c8
         have c8b1 : (((rd_L7 l0 x14_1).length : Int) != ((rd_L9 l1 x14_1).length : Int)) = true := bne_iff_ne.mpr c8
         have c8b2 : ((rd_L7 l0 x14_1).length == (rd_L9 l1 x14_1).length) = false := by first | simpa using c8 | (simp at c8 ⊢; omega)
         obtain rfl := Option.some.inj H
         have p158 : 0 ≤ (x14_1 : Int) := of_decide_eq_true (by first | (with_reducible assumption) | assumption)
         have q158 : x14_1 < (l0.length : Int) := of_decide_eq_true (by first | (with_reducible assumption) | assumption)
         obtain ⟨ad158, A158_0, c158_0, e158, hx158_0, hl158_0, hi158_0⟩ := at_L7 HR0.out x14_1 p158 q158
         cases e158
         have HR158_0 := Aside0.mk hi158_0
         have HC158_0 := Aside0.mk hl158_0
         clear hi158_0 hl158_0
         replace p158 := eq_true p158
         replace q158 := eq_true q158
         have p159 : 0 ≤ (x14_1 : Int) := of_decide_eq_true (by first | (with_reducible assumption) | assumption)
         have q159 : x14_1 < (l1.length : Int) := of_decide_eq_true (by first | (with_reducible assumption) | assumption)
         obtain ⟨ad159, A159_0, c159_0, e159, hx159_0, hl159_0, hi159_0⟩ := at_L9 HR1.out x14_1 p159 q159
         cases e159
         have HR159_0 := Aside0.mk hi159_0
         have HC159_0 := Aside0.mk hl159_0
         clear hi159_0 hl159_0
         replace p159 := eq_true p159
         replace q159 := eq_true q159
         go_wp2
         repeat (go_quiet (fail); try go_wp2)
         go_ret
         exact ⟨by first | rfl | (simp; done) | (simp [*]; done), by repeat (first | exact Drawn0.refl _ | apply Drawn0.step)⟩
       ·rw [if_neg c7] at H
        exact absurd H (by simp)
      ·rw [if_neg c6] at H
       exact absurd H (by simp)
     ·rw [if_neg c5] at H
      exact absurd H (by simp)
    ·rw [if_neg c4] at H
     have c4b0 : decide (x14_1 < (l0.length : Int)) = false := decide_eq_false c4
     clear c4
     obtain rfl := Option.some.inj H
     go_wp2
     repeat (go_quiet (fail); try go_wp2)
     go_ret
     exact ⟨by first | rfl | (simp; done) | (simp [*]; done), by repeat (first | exact Drawn0.refl _ | apply Drawn0.step)⟩
 ·rw [if_neg c3] at H
  have c3b0 : ((l0.length : Int) == (l1.length : Int)) = false := beq_eq_false_iff_ne.mpr c3
  have c3b1 : ((l0.length : Int) != (l1.length : Int)) = true := bne_iff_ne.mpr c3
  have c3b2 : (l0.length == l1.length) = false := by first | simpa using c3 | (simp at c3 ⊢; omega)
  obtain rfl := Option.some.inj H
  go_enter Tryd.func9, Tryd.ntmps9
  go_wp2
  repeat (go_quiet (fail); try go_wp2)
  go_ret
  exact ⟨by first | rfl | (simp; done) | (simp [*]; done), by repeat (first | exact Drawn0.refl _ | apply Drawn0.step)⟩

/-! ### jigsawlaw24_lits: function 13 -/
def jigsawlaw24_lits.l0 : Nat → List (S29) → List (S84) → List (S27) → Int → Int → Option ((List (S29)) × (List (S84)))
 | 0, _, _, _, _, _ => none
 | k + 1, x6, x7, x15, x16, x17 => if x17 < x16 then (if 0 ≤ x17 then (if x17 < (x15.length : Int) then (if x6.length < 8796093022208 then (if x7.length < 8796093022208 then (jigsawlaw24_lits.l0 k (x6 ++ [(⟨wrap64 ((rd_T27 x15 x17).f0), wrap64 ((rd_T27 x15 x17).f1)⟩ : S29)]) (x7 ++ [(⟨wrap64 ((rd_T27 x15 x17).f0), wrap64 ((rd_T27 x15 x17).f1)⟩ : S84)]) x15 x16 (wrap64 (x17 + 1))) else (none)) else (none)) else (none)) else (none)) else (some (x6, x7))
def jigsawlaw24_lits.f (k : Nat) (l0 : List (S27)) (a1 : Int) : Option ((List (S29)) × (List (S84))) := if 0 ≤ (mn (l0.length : Int) a1) then (if (mn (l0.length : Int) a1) ≤ (l0.length : Int) then ((some (l0.take ((mn (l0.length : Int) a1) : Int).toNat : List (S27))).bind fun y169 => (jigsawlaw24_lits.l0 k ([] : List (S29)) ([] : List (S84)) y169 (y169.length : Int) 0)) else (none)) else (none)
theorem jigsawlaw24_lits.mono_l : ∀ k, (∀ y0 y1 y2 y3 y4, LeO (jigsawlaw24_lits.l0 k y0 y1 y2 y3 y4) (jigsawlaw24_lits.l0 (k + 1) y0 y1 y2 y3 y4))
 | 0 => fun _ _ _ _ _ r h => by simp [jigsawlaw24_lits.l0] at h
 | k + 1 => by
  have ih0 := jigsawlaw24_lits.mono_l k
  ·intro y0 y1 y2 y3 y4
   unfold jigsawlaw24_lits.l0
   repeat' first
   | (with_reducible exact ih0 _ _ _ _ _)
   | (with_reducible exact LeO.refl _)
   | (with_reducible exact LeO.none _)
   | (with_reducible refine LeO.ite ?_ ?_)
   | (with_reducible refine LeO.bind ?_ (fun _ => ?_))
   | exact ih0 _ _ _ _ _
   | exact LeO.none _
   | refine LeO.ite ?_ ?_
   | refine LeO.bind ?_ (fun _ => ?_)
theorem jigsawlaw24_lits.mono : ∀ a0 a1 k, LeO (jigsawlaw24_lits.f k a0 a1) (jigsawlaw24_lits.f (k + 1) a0 a1) := by
 intro a0 a1 k
 have ih0 := jigsawlaw24_lits.mono_l k
 unfold jigsawlaw24_lits.f
 repeat' first
   | (with_reducible exact ih0 _ _ _ _ _)
   | (with_reducible exact LeO.refl _)
   | (with_reducible exact LeO.none _)
   | (with_reducible refine LeO.ite ?_ ?_)
   | (with_reducible refine LeO.bind ?_ (fun _ => ?_))
   | exact ih0 _ _ _ _ _
   | exact LeO.none _
   | refine LeO.ite ?_ ?_
   | refine LeO.bind ?_ (fun _ => ?_)
set_option maxHeartbeats 8000000 in
set_option maxRecDepth 100000 in
theorem jigsawlaw24_lits.calls (k : Nat) (A0 : Option Addr) (c0 : Nat) (l0 : List (S27)) (a1 : Int) (r1 : List (S29)) (r2 : List (S84)) (w : World) (hr0 : Kd.C k27 w A0 l0.length l0) (hc0 : l0.length ≤ c0) (h : jigsawlaw24_lits.f k l0 a1 = some (r1, r2)) :
  Calls Tryd.prog 13 #[.slice A0 l0.length c0, .int .i64 a1] w fun e w' => ∃ v0_ v1_ : Value, e = .returned (.tuple #[v0_, v1_]) ∧ Kd.R k29 29 w' w.heap.size (fun _ => True) v0_ r1 ∧ Kd.R k84 84 w' w.heap.size (fun _ => True) v1_ r2 ∧ Below w.heap.size w w' := by
 have hu27 := Tryd.underlying27
 have hu29 := Tryd.underlying29
 have hu84 := Tryd.underlying84
 have HR0 := Aside0.mk hr0
 have HC0 := Aside0.mk hc0
 clear hr0 hc0
 have HB := Aside0.mk (Below.refl w.heap.size w)
 have H : (if 0 ≤ (mn (l0.length : Int) a1) then (if (mn (l0.length : Int) a1) ≤ (l0.length : Int) then ((some (l0.take ((mn (l0.length : Int) a1) : Int).toNat : List (S27))).bind fun y169 => (jigsawlaw24_lits.l0 k ([] : List (S29)) ([] : List (S84)) y169 (y169.length : Int) 0)) else (none)) else (none)) = some (r1, r2) := h
 clear h
 obtain ⟨ji3, hji3⟩ : ∃ j_ : Int, (mn (l0.length : Int) a1) = j_ := ⟨_, rfl⟩
 replace H : (if 0 ≤ (ji3) then (if (ji3) ≤ (l0.length : Int) then ((some (l0.take ((ji3) : Int).toNat : List (S27))).bind fun y169 => (jigsawlaw24_lits.l0 k ([] : List (S29)) ([] : List (S84)) y169 (y169.length : Int) 0)) else (none)) else (none)) = some (r1, r2) := by first | (rw [hji3] at H; exact H) | (simp only [hji3] at H ⊢; exact H)
 have hji3_ : (if a1 < (l0.length : Int) then a1 else (l0.length : Int)) = ji3 := hji3
 by_cases c4 : 0 ≤ (ji3)
 ·rw [if_pos c4] at H
  have c4b0 := eq_true c4
  have c4b1 : decide (0 ≤ (ji3)) = true := decide_eq_true c4
  clear c4
  by_cases c5 : (ji3) ≤ (l0.length : Int)
  ·rw [if_pos c5] at H
   have c5b0 := eq_true c5
   have c5b1 : decide ((ji3) ≤ (l0.length : Int)) = true := decide_eq_true c5
   clear c5
   obtain ⟨y169, hy169⟩ : ∃ y_ : List (S27), y_ = (l0.take ((ji3) : Int).toNat) := ⟨_, rfl⟩
   replace H : (jigsawlaw24_lits.l0 k ([] : List (S29)) ([] : List (S84)) y169 (y169.length : Int) 0) = some (r1, r2) := by first | (rw [hy169]; with_reducible exact H) | (have H2_ := (Option.bind_some _ _).symm.trans H; rw [hy169]; with_reducible exact H2_) | (have H2_ := (Option.bind_some _ _).symm.trans H; with_reducible exact H2_) | with_reducible exact H | (rw [hy169]; exact H) | exact H
   have Ny169 := Aside0.mk hy169
   clear hy169
   have H' := Aside0.mk H
   clear H
   have q6 : ((ji3) : Int) ≤ ((l0.length : Int) : Int) := of_decide_eq_true (by first | (with_reducible assumption) | assumption)
   obtain ⟨i06, hi06, _, hsz6, _⟩ := info_parts info27
   have hroom6 : l0.length ≤ c0 := HC0.out
   have hC6 : Kd.C k27 _ A0 l0.length l0 := HR0.out
   have hcut6 := cut_to (P := Tryd.prog) 22 27 .i64 Tryd.underlying22 hi06 A0 l0.length c0 (ji3) (of_decide_eq_true (by first | (with_reducible assumption) | assumption)) q6 hroom6
   have hr6 := Kd.C_take (m := ((ji3) : Int).toNat) hC6 (by omega)
   have hy6 : y169.length = ((ji3) : Int).toNat := (by rw [Ny169.out, List.length_take]; omega)
   rw [← Ny169.out] at hr6
   rw [← hy6] at hcut6
   have HR172 := Aside0.mk hr6
   have HC172 := Aside0.mk (show y169.length ≤ c0 from by omega)
   clear hr6 hC6 hroom6 hi06 hsz6
   have KY6 := Aside0.mk hy6
   clear hy6
   replace q6 := eq_true q6
   go_enter Tryd.func13, Tryd.ntmps13
   go_wp2
   go_loopg [6, 7, 17] k (fun kq v6 v7 v17 w' => ∃ (x6_1 : List (S29)) (x7_1 : List (S84)) (x17_1 : Int), v17 = .int .i64 x17_1 ∧ Aside0 (jigsawlaw24_lits.l0 kq x6_1 x7_1 y169 (y169.length : Int) x17_1 = some (r1, r2)) ∧ Aside0 (kq ≤ k) ∧ Aside0 (Kd.R k29 29 w' w.heap.size (fun _ => True) v6 x6_1) ∧ Aside0 (Kd.R k84 84 w' w.heap.size (fun _ => True) v7 x7_1) ∧ Aside0 (Below w.heap.size w w'))
   case atStart => exact ⟨(([] : List (S29))), (([] : List (S84))), (0), (by first | rfl | (simp; done) | (simp [*]; done)), H', ⟨Nat.le_refl _⟩, ⟨by first | exact Kd.R_nil _ _ _ _ _ | exact Kd.N_nil _ _ _ _ _ | exact Kd.V_nil _ _ _ _ _ | exact Kd.Q_nil _ _ _ _ _ | exact Kd.S_nil _ _ _ _ _⟩, ⟨by first | exact Kd.R_nil _ _ _ _ _ | exact Kd.N_nil _ _ _ _ _ | exact Kd.V_nil _ _ _ _ _ | exact Kd.Q_nil _ _ _ _ _ | exact Kd.S_nil _ _ _ _ _⟩, ⟨by repeat (first | (with_reducible first | exact HB.out | apply below_alloc | apply pw_below_drewN | apply below_drew1) | exact HB.out)⟩⟩
   case round =>
    clear H'
    try clear c1
    try clear p2
    try clear c4
    try clear c4b0
    try clear c4b1
    try clear c5
    try clear c5b0
    try clear c5b1
    try clear q6
    try clear q6
    obtain ⟨x6_1, x7_1, x17_1, rfl, HA, HK1, HO_6, HO_7, HB⟩ := hrel
    cases gk with
    | zero => exact absurd HA.out (by simp [jigsawlaw24_lits.l0])
    | succ k1 =>
     have H := HA.out
     clear HA
     simp only [jigsawlaw24_lits.l0] at H
     by_cases c7 : x17_1 < (y169.length : Int)
     ·rw [if_pos c7] at H
      have c7b0 : decide (x17_1 < (y169.length : Int)) = true := decide_eq_true c7
      clear c7
      by_cases c8 : 0 ≤ x17_1
      ·rw [if_pos c8] at H
       have c8b0 : decide (0 ≤ x17_1) = true := decide_eq_true c8
       clear c8
       by_cases c9 : x17_1 < (y169.length : Int)
       ·rw [if_pos c9] at H
        have c9b0 : decide (x17_1 < (y169.length : Int)) = true := decide_eq_true c9
        clear c9
        by_cases c10 : x6_1.length < 8796093022208
        ·rw [if_pos c10] at H
         have LMc10 := Aside0.mk c10
         clear c10
         obtain ⟨y175, hy175⟩ : ∃ y_ : List (S29), y_ = (x6_1 ++ [(⟨wrap64 ((rd_T27 y169 x17_1).f0), wrap64 ((rd_T27 y169 x17_1).f1)⟩ : S29)]) := ⟨_, rfl⟩
         replace H : (if x7_1.length < 8796093022208 then (jigsawlaw24_lits.l0 k1 y175 (x7_1 ++ [(⟨wrap64 ((rd_T27 y169 x17_1).f0), wrap64 ((rd_T27 y169 x17_1).f1)⟩ : S84)]) y169 (y169.length : Int) (wrap64 (x17_1 + 1))) else (none)) = some (r1, r2) := by first | (rw [hy175]; with_reducible exact H) | (have H2_ := (Option.bind_some _ _).symm.trans H; rw [hy175]; with_reducible exact H2_) | (have H2_ := (Option.bind_some _ _).symm.trans H; with_reducible exact H2_) | with_reducible exact H | (rw [hy175]; exact H) | exact H
         have Ny175 := Aside0.mk hy175
         clear hy175
         by_cases c11 : x7_1.length < 8796093022208
         ·rw [if_pos c11] at H
          have LMc11 := Aside0.mk c11
          clear c11
          obtain ⟨y178, hy178⟩ : ∃ y_ : List (S84), y_ = (x7_1 ++ [(⟨wrap64 ((rd_T27 y169 x17_1).f0), wrap64 ((rd_T27 y169 x17_1).f1)⟩ : S84)]) := ⟨_, rfl⟩
          replace H : (jigsawlaw24_lits.l0 k1 y175 y178 y169 (y169.length : Int) (wrap64 (x17_1 + 1))) = some (r1, r2) := by first | (rw [hy178]; with_reducible exact H) | (have H2_ := (Option.bind_some _ _).symm.trans H; rw [hy178]; with_reducible exact H2_) | (have H2_ := (Option.bind_some _ _).symm.trans H; with_reducible exact H2_) | with_reducible exact H | (rw [hy178]; exact H) | exact H
          have Ny178 := Aside0.mk hy178
          clear hy178
          have H' := Aside0.mk H
          clear H
          have p173 : 0 ≤ (x17_1 : Int) := of_decide_eq_true (by first | (with_reducible assumption) | assumption)
          have q173 : x17_1 < (y169.length : Int) := of_decide_eq_true (by first | (with_reducible assumption) | assumption)
          obtain ⟨ad173, e173, hx173_0, hx173_1, hx173_2⟩ := at_T27 HR172.out x17_1 p173 q173
          cases e173
          replace hx173_0 := (HB.out.cell (World.block_lt_of_cell? w _ hx173_0)).trans hx173_0
          replace hx173_1 := (HB.out.cell (World.block_lt_of_cell? w _ hx173_1)).trans hx173_1
          replace hx173_2 := (HB.out.cell (World.block_lt_of_cell? w _ hx173_2)).trans hx173_2
          replace p173 := eq_true p173
          replace q173 := eq_true q173
          go_wp2_with (first | ((with_reducible refine gate_dst (N := 9) rfl ?_); refine box_event ?hg (N := 9) ?hd (cs := #[.int .i8 0, .int .i8 0, .bool false]) (t := 27) ?hr ?_; (case hd => rfl); (case hg => rfl); (case hr => first | (go_simp; done) | (go_simp; rfl)); intro gb174 hg w12 hbox hb; have n0_ := Aside0.mk (Kd.R_below (by (with_reducible repeat (first | apply Kd.R_alloc | apply Kd.R_drewN | apply Kd.R_drew)); exact HO_6.out) hb); have n1_ := Aside0.mk (Kd.R_below (by (with_reducible repeat (first | apply Kd.R_alloc | apply Kd.R_drewN | apply Kd.R_drew)); exact HO_7.out) hb); have n2_ := Aside0.mk (below_step (by repeat (first | (with_reducible first | exact HB.out | apply below_alloc | apply pw_below_drewN | apply below_drew1) | exact HB.out)) hb); have n3_ := Aside0.mk (hbox); have n4_ := Aside0.mk ((by rw [hg]; exact (below_size (by repeat (first | (with_reducible first | exact HB.out | apply below_alloc | apply pw_below_drewN | apply below_drew1) | exact HB.out))) : w.heap.size ≤ gb174)); have n5_ := Aside0.mk ((by rw [hg]; exact (below_size (by repeat (first | (with_reducible first | exact HB.out | apply below_alloc | apply pw_below_drewN | apply below_drew1) | exact HB.out))) : w.heap.size ≤ gb174)); clear HO_6; clear HO_7; clear HB; have HO_6 := n0_; have HO_7 := n1_; have HB := n2_; have BK174 := n3_; have GW174 := n4_; have GE174 := n5_; clear n0_ n1_ n2_ n3_ n4_ n5_; clear hb hbox hg; have hcz13_0 : w12.cell? ⟨gb174, 0, none⟩ = some (.int .i8 0) := (blk_cell BK174.out 0).trans rfl; have hcz13_1 : w12.cell? ⟨gb174, 1, none⟩ = some (.int .i8 0) := (blk_cell BK174.out 1).trans rfl; have hcz13_2 : w12.cell? ⟨gb174, 2, none⟩ = some (.bool false) := (blk_cell BK174.out 2).trans rfl; have hfz13_0 := blk_frozen BK174.out 0; have hfz13_1 := blk_frozen BK174.out 1; have hfz13_2 := blk_frozen BK174.out 2) | ((with_reducible refine gate_builtin (b := .append) (xs := #[.tmp 21, .tmp 29]) rfl ?_); at_builtin; refine Kd.R_append k29 (w0 := w) w.heap.size rfl (.tmp 21) (.tmp 29) 45 29 (.agg #[(.int .i64 0), (.int .i64 0)]) 16 rfl Tryd.underlying45 info29 rfl (by decide) (by omega) u6 x6_1 (⟨wrap64 ((rd_T27 y169 x17_1).f0), wrap64 ((rd_T27 y169 x17_1).f1)⟩ : S29) [.int .i64 (wrap64 ((rd_T27 y169 x17_1).f0)), .int .i64 (wrap64 ((rd_T27 y169 x17_1).f1))] (fun _ => True) (fun _ => False) rfl (by first | (go_simp; done) | (go_simp; rfl)) ?aP (fun _ hk => hk.elim) ?aF ?aO ?aB ?aS ?aL ?_; (case aP => exact k29_mkM _ _ _ (⟨wrap64 ((rd_T27 y169 x17_1).f0), wrap64 ((rd_T27 y169 x17_1).f1)⟩ : S29)); (case aB => exact (by repeat (first | (with_reducible first | exact HB.out | apply below_alloc | apply pw_below_drewN | apply below_drew1 | refine below_set ?_ GE174.out) | exact HB.out))); (case aF => exact (fun _ _ => trivial)); (case aO => exact (by (with_reducible repeat (first | apply Kd.R_alloc | apply Kd.R_drewN | apply Kd.R_drew)); exact Kd.R_mono (Kd.R_far (p := ⟨gb174, 2, none⟩) (Kd.R_far (p := ⟨gb174, 1, none⟩) (Kd.R_far (p := ⟨gb174, 0, none⟩) (Kd.R_types HO_6.out BK174.out (by decide)) (fun _ hk => hk.2) (.int .i8 ((rd_T27 y169 x17_1).f0))) (fun _ hk => hk.2) (.int .i8 ((rd_T27 y169 x17_1).f1))) (fun _ hk => hk.2) (.bool ((rd_T27 y169 x17_1).f2))) (fun _ hk => trivial))); (case aS => exact (below_size (by repeat (first | (with_reducible first | exact HB.out | apply below_alloc | apply pw_below_drewN | apply below_drew1 | refine below_set ?_ GE174.out) | exact HB.out)))); (case aL => have := LMc10.out; omega); intro v176 w14 ho hb hg hat; rw [← Ny175.out] at ho; have n0_ := Aside0.mk (Kd.R_over' (by (with_reducible repeat (first | apply Kd.R_alloc | apply Kd.R_drewN | apply Kd.R_drew)); exact (Kd.R_mono (Kd.R_far (p := ⟨gb174, 2, none⟩) (Kd.R_far (p := ⟨gb174, 1, none⟩) (Kd.R_far (p := ⟨gb174, 0, none⟩) (Kd.R_types HO_7.out BK174.out (by decide)) (fun _ hk => hk.2) (.int .i8 ((rd_T27 y169 x17_1).f0))) (fun _ hk => hk.2) (.int .i8 ((rd_T27 y169 x17_1).f1))) (fun _ hk => hk.2) (.bool ((rd_T27 y169 x17_1).f2))) (fun _ h_ => h_.1))) (Kd.R_typed (by (with_reducible repeat (first | apply Kd.R_alloc | apply Kd.R_drewN | apply Kd.R_drew)); exact (Kd.R_mono (Kd.R_far (p := ⟨gb174, 2, none⟩) (Kd.R_far (p := ⟨gb174, 1, none⟩) (Kd.R_far (p := ⟨gb174, 0, none⟩) (Kd.R_types HO_6.out BK174.out (by decide)) (fun _ hk => hk.2) (.int .i8 ((rd_T27 y169 x17_1).f0))) (fun _ hk => hk.2) (.int .i8 ((rd_T27 y169 x17_1).f1))) (fun _ hk => hk.2) (.bool ((rd_T27 y169 x17_1).f2))) (fun _ h_ => h_.1)))) (by decide) hg); have n1_ := Aside0.mk (blk_grown (g := gb174) (o := .cells #[.int .i8 ((rd_T27 y169 x17_1).f0), .int .i8 ((rd_T27 y169 x17_1).f1), .bool ((rd_T27 y169 x17_1).f2)] 27 (0, 0)) (by (with_reducible repeat (first | refine blk_drewN ?_ _ | refine blk_drew ?_ | refine blk_alloc ?_ _)); refine blk_put (cs := #[.int .i8 ((rd_T27 y169 x17_1).f0), .int .i8 ((rd_T27 y169 x17_1).f1), .bool false]) ?_ 2 _ rfl; (with_reducible repeat (first | refine blk_drewN ?_ _ | refine blk_drew ?_ | refine blk_alloc ?_ _)); refine blk_put (cs := #[.int .i8 ((rd_T27 y169 x17_1).f0), .int .i8 0, .bool false]) ?_ 1 _ rfl; (with_reducible repeat (first | refine blk_drewN ?_ _ | refine blk_drew ?_ | refine blk_alloc ?_ _)); refine blk_put (cs := #[.int .i8 0, .int .i8 0, .bool false]) ?_ 0 _ rfl; (with_reducible repeat (first | refine blk_drewN ?_ _ | refine blk_drew ?_ | refine blk_alloc ?_ _)); exact BK174.out) hg (Kd.R_ne HO_6.out BK174.out (by decide))); have n2_ := Aside0.mk (hb); have n3_ := Aside0.mk (ho); clear HO_7; clear BK174; clear HB; clear HO_6; have HO_7 := n0_; have BK174 := n1_; have HB := n2_; have HO177 := n3_; clear n0_ n1_ n2_ n3_; clear ho hb hg hat; have hcz15_0 : w14.cell? ⟨gb174, 0, none⟩ = some (.int .i8 ((rd_T27 y169 x17_1).f0)) := (blk_cell BK174.out 0).trans rfl; have hcz15_1 : w14.cell? ⟨gb174, 1, none⟩ = some (.int .i8 ((rd_T27 y169 x17_1).f1)) := (blk_cell BK174.out 1).trans rfl; have hcz15_2 : w14.cell? ⟨gb174, 2, none⟩ = some (.bool ((rd_T27 y169 x17_1).f2)) := (blk_cell BK174.out 2).trans rfl; have hfz15_0 := blk_frozen BK174.out 0; have hfz15_1 := blk_frozen BK174.out 1; have hfz15_2 := blk_frozen BK174.out 2) | ((with_reducible refine gate_builtin (b := .append) (xs := #[.tmp 31, .tmp 39]) rfl ?_); at_builtin; refine Kd.R_append k84 (w0 := w) w.heap.size rfl (.tmp 31) (.tmp 39) 46 84 (.agg #[(.int .i64 0), (.int .i64 0)]) 16 rfl Tryd.underlying46 info84 rfl (by decide) (by omega) u7 x7_1 (⟨wrap64 ((rd_T27 y169 x17_1).f0), wrap64 ((rd_T27 y169 x17_1).f1)⟩ : S84) [.int .i64 (wrap64 ((rd_T27 y169 x17_1).f0)), .int .i64 (wrap64 ((rd_T27 y169 x17_1).f1))] (fun _ => True) (fun _ => False) rfl rfl ?aP (fun _ hk => hk.elim) ?aF ?aO ?aB ?aS ?aL ?_; (case aP => exact k84_mkM _ _ _ (⟨wrap64 ((rd_T27 y169 x17_1).f0), wrap64 ((rd_T27 y169 x17_1).f1)⟩ : S84)); (case aB => exact (by repeat (first | (with_reducible first | exact HB.out | apply below_alloc | apply pw_below_drewN | apply below_drew1 | refine below_set ?_ GE174.out) | exact HB.out))); (case aF => exact (fun _ _ => trivial)); (case aO => exact (by (with_reducible repeat (first | apply Kd.R_alloc | apply Kd.R_drewN | apply Kd.R_drew)); exact HO_7.out)); (case aS => exact (below_size (by repeat (first | (with_reducible first | exact HB.out | apply below_alloc | apply pw_below_drewN | apply below_drew1 | refine below_set ?_ GE174.out) | exact HB.out)))); (case aL => have := LMc11.out; omega); intro v179 w16 ho hb hg hat; rw [← Ny178.out] at ho; have n0_ := Aside0.mk (blk_grown (g := gb174) (o := .cells #[.int .i8 ((rd_T27 y169 x17_1).f0), .int .i8 ((rd_T27 y169 x17_1).f1), .bool ((rd_T27 y169 x17_1).f2)] 27 (0, 0)) (by (with_reducible repeat (first | refine blk_drewN ?_ _ | refine blk_drew ?_ | refine blk_alloc ?_ _)); exact BK174.out) hg (Kd.R_ne HO_7.out BK174.out (by decide))); have n1_ := Aside0.mk (Kd.R_over' (by (with_reducible repeat (first | apply Kd.R_alloc | apply Kd.R_drewN | apply Kd.R_drew)); exact HO177.out) (Kd.R_typed (by (with_reducible repeat (first | apply Kd.R_alloc | apply Kd.R_drewN | apply Kd.R_drew)); exact HO_7.out)) (by decide) hg); have n2_ := Aside0.mk (hb); have n3_ := Aside0.mk (ho); clear BK174; clear HO177; clear HB; clear HO_7; have BK174 := n0_; have HO177 := n1_; have HB := n2_; have HO180 := n3_; clear n0_ n1_ n2_ n3_; clear ho hb hg hat))
          go_roundg k1
          case measure => have := HK1.out; omega
          case rel => exact ⟨(y175), (y178), (wrap64 (x17_1 + 1)), (by first | rfl | (simp; done) | (simp [*]; done)), H', ⟨by have := HK1.out; omega⟩, ⟨by (with_reducible repeat (first | apply Kd.R_alloc | apply Kd.R_drewN | apply Kd.R_drew)); exact HO177.out⟩, ⟨by (with_reducible repeat (first | apply Kd.R_alloc | apply Kd.R_drewN | apply Kd.R_drew)); exact HO180.out⟩, ⟨by repeat (first | (with_reducible first | exact HB.out | apply below_alloc | apply pw_below_drewN | apply below_drew1 | refine below_set ?_ GE174.out) | exact HB.out)⟩⟩
         ·rw [if_neg c11] at H
          exact absurd H (by simp)
        ·rw [if_neg c10] at H
         exact absurd H (by simp)
       ·rw [if_neg c9] at H
        exact absurd H (by simp)
      ·rw [if_neg c8] at H
       exact absurd H (by simp)
     ·rw [if_neg c7] at H
      have c7b0 : decide (x17_1 < (y169.length : Int)) = false := decide_eq_false c7
      clear c7
      simp only [Option.some.injEq, Prod.mk.injEq] at H
      obtain ⟨rfl, rfl⟩ := H
      go_wp2
      go_ret2
      exact ⟨_, _, by first | rfl | (simp [errW_none, errW_some] <;> rfl) | (simp only [← hji3]; first | rfl | (simp [errW_none, errW_some] <;> rfl)) | (simp [*, errW_none, errW_some] <;> rfl), by (with_reducible repeat (first | apply Kd.R_alloc | apply Kd.R_drewN | apply Kd.R_drew)); exact HO_6.out, by (with_reducible repeat (first | apply Kd.R_alloc | apply Kd.R_drewN | apply Kd.R_drew)); exact HO_7.out, by repeat (first | (with_reducible first | exact HB.out | apply below_alloc | apply pw_below_drewN | apply below_drew1) | exact HB.out)⟩
  ·rw [if_neg c5] at H
   exact absurd H (by simp)
 ·rw [if_neg c4] at H
  exact absurd H (by simp)

/-! ### jigsawref24_has: function 68 -/
def jigsawref24_has.l0 : Nat → List (S84) → Int → Int → Int → Option (Bool)
 | 0, _, _, _, _ => none
 | k + 1, x0, x5, x182000, x182001 => if x5 < (x0.length : Int) then (if 0 ≤ x5 then (if ((rd_T84 x0 x5).f0) = x182000 then (if ((rd_T84 x0 x5).f1) = x182001 then (some true) else (jigsawref24_has.l0 k x0 (wrap64 (x5 + 1)) x182000 x182001)) else (jigsawref24_has.l0 k x0 (wrap64 (x5 + 1)) x182000 x182001)) else (none)) else (some false)
def jigsawref24_has.f (k : Nat) (l0 : List (S84)) (a1_0 : Int) (a1_1 : Int) : Option (Bool) := jigsawref24_has.l0 k l0 0 a1_0 a1_1
theorem jigsawref24_has.mono_l : ∀ k, (∀ y0 y1 y2 y3, LeO (jigsawref24_has.l0 k y0 y1 y2 y3) (jigsawref24_has.l0 (k + 1) y0 y1 y2 y3))
 | 0 => fun _ _ _ _ r h => by simp [jigsawref24_has.l0] at h
 | k + 1 => by
  have ih0 := jigsawref24_has.mono_l k
  ·intro y0 y1 y2 y3
   unfold jigsawref24_has.l0
   repeat' first
   | (with_reducible exact ih0 _ _ _ _)
   | (with_reducible exact LeO.refl _)
   | (with_reducible exact LeO.none _)
   | (with_reducible refine LeO.ite ?_ ?_)
   | (with_reducible refine LeO.bind ?_ (fun _ => ?_))
   | exact ih0 _ _ _ _
   | exact LeO.none _
   | refine LeO.ite ?_ ?_
   | refine LeO.bind ?_ (fun _ => ?_)
theorem jigsawref24_has.mono : ∀ a0 a1 a2 k, LeO (jigsawref24_has.f k a0 a1 a2) (jigsawref24_has.f (k + 1) a0 a1 a2) := by
 intro a0 a1 a2 k
 have ih0 := jigsawref24_has.mono_l k
 unfold jigsawref24_has.f
 repeat' first
   | (with_reducible exact ih0 _ _ _ _)
   | (with_reducible exact LeO.refl _)
   | (with_reducible exact LeO.none _)
   | (with_reducible refine LeO.ite ?_ ?_)
   | (with_reducible refine LeO.bind ?_ (fun _ => ?_))
   | exact ih0 _ _ _ _
   | exact LeO.none _
   | refine LeO.ite ?_ ?_
   | refine LeO.bind ?_ (fun _ => ?_)
set_option maxHeartbeats 8000000 in
set_option maxRecDepth 100000 in
theorem jigsawref24_has.calls (k : Nat) (A0 : Option Addr) (c0 : Nat) (l0 : List (S84)) (a1_0 : Int) (a1_1 : Int) (r : Bool) (w : World) (hr0 : Kd.C k84 w A0 l0.length l0) (hc0 : l0.length ≤ c0) (h : jigsawref24_has.f k l0 a1_0 a1_1 = some r) :
  Calls Tryd.prog 68 #[.slice A0 l0.length c0, .agg #[.int .i64 a1_0, .int .i64 a1_1]] w fun e w' => e = .returned (.bool r) ∧ Below w.heap.size w w' := by
 have hu84 := Tryd.underlying84
 have HR0 := Aside0.mk hr0
 have HC0 := Aside0.mk hc0
 clear hr0 hc0
 have HB := Aside0.mk (Below.refl w.heap.size w)
 have H : (jigsawref24_has.l0 k l0 0 a1_0 a1_1) = some r := h
 clear h
 have H' := Aside0.mk H
 clear H
 go_enter Tryd.func68, Tryd.ntmps68
 go_wp2_with (first | ((with_reducible refine gate_dst (N := 3) rfl ?_); refine box_event ?hg (N := 3) ?hd (cs := #[.int .i64 a1_0, .int .i64 a1_1]) (t := 84) ?hr ?_; (case hd => rfl); (case hg => rfl); (case hr => first | (go_simp; done) | (go_simp; rfl)); intro gb181 hg w3 hbox hb; have n0_ := Aside0.mk (below_step (by repeat (first | (with_reducible first | exact HB.out | apply below_alloc | apply pw_below_drewN | apply below_drew1) | exact HB.out)) hb); have n1_ := Aside0.mk (hbox); have n2_ := Aside0.mk ((by rw [hg]; exact (below_size (by repeat (first | (with_reducible first | exact HB.out | apply below_alloc | apply pw_below_drewN | apply below_drew1) | exact HB.out))) : w.heap.size ≤ gb181)); have n3_ := Aside0.mk ((by rw [hg]; exact (below_size (by repeat (first | (with_reducible first | exact HB.out | apply below_alloc | apply pw_below_drewN | apply below_drew1) | exact HB.out))) : w.heap.size ≤ gb181)); clear HB; have HB := n0_; have BK181 := n1_; have GW181 := n2_; have GE181 := n3_; clear n0_ n1_ n2_ n3_; clear hb hbox hg))
 repeat (go_quiet (first | ((with_reducible refine gate_dst (N := 3) rfl ?_); refine box_event ?hg (N := 3) ?hd (cs := #[.int .i64 a1_0, .int .i64 a1_1]) (t := 84) ?hr ?_; (case hd => rfl); (case hg => rfl); (case hr => first | (go_simp; done) | (go_simp; rfl)); intro gb181 hg w3 hbox hb; have n0_ := Aside0.mk (below_step (by repeat (first | (with_reducible first | exact HB.out | apply below_alloc | apply pw_below_drewN | apply below_drew1) | exact HB.out)) hb); have n1_ := Aside0.mk (hbox); have n2_ := Aside0.mk ((by rw [hg]; exact (below_size (by repeat (first | (with_reducible first | exact HB.out | apply below_alloc | apply pw_below_drewN | apply below_drew1) | exact HB.out))) : w.heap.size ≤ gb181)); have n3_ := Aside0.mk ((by rw [hg]; exact (below_size (by repeat (first | (with_reducible first | exact HB.out | apply below_alloc | apply pw_below_drewN | apply below_drew1) | exact HB.out))) : w.heap.size ≤ gb181)); clear HB; have HB := n0_; have BK181 := n1_; have GW181 := n2_; have GE181 := n3_; clear n0_ n1_ n2_ n3_; clear hb hbox hg)); try go_wp2_with (first | ((with_reducible refine gate_dst (N := 3) rfl ?_); refine box_event ?hg (N := 3) ?hd (cs := #[.int .i64 a1_0, .int .i64 a1_1]) (t := 84) ?hr ?_; (case hd => rfl); (case hg => rfl); (case hr => first | (go_simp; done) | (go_simp; rfl)); intro gb181 hg w3 hbox hb; have n0_ := Aside0.mk (below_step (by repeat (first | (with_reducible first | exact HB.out | apply below_alloc | apply pw_below_drewN | apply below_drew1) | exact HB.out)) hb); have n1_ := Aside0.mk (hbox); have n2_ := Aside0.mk ((by rw [hg]; exact (below_size (by repeat (first | (with_reducible first | exact HB.out | apply below_alloc | apply pw_below_drewN | apply below_drew1) | exact HB.out))) : w.heap.size ≤ gb181)); have n3_ := Aside0.mk ((by rw [hg]; exact (below_size (by repeat (first | (with_reducible first | exact HB.out | apply below_alloc | apply pw_below_drewN | apply below_drew1) | exact HB.out))) : w.heap.size ≤ gb181)); clear HB; have HB := n0_; have BK181 := n1_; have GW181 := n2_; have GE181 := n3_; clear n0_ n1_ n2_ n3_; clear hb hbox hg)))
 go_loopg [5] k (fun kq v5 w' => ∃ (x5_1 : Int), v5 = .int .i64 x5_1 ∧ Aside0 (jigsawref24_has.l0 kq l0 x5_1 a1_0 a1_1 = some r) ∧ Aside0 (kq ≤ k) ∧ Aside0 (w'.heap[gb181]? = some (.cells #[.int .i64 a1_0, .int .i64 a1_1] 84 (0, 0))) ∧ Aside0 (Below w.heap.size w w'))
 case atStart => exact ⟨(0), (by first | rfl | (simp; done) | (simp [*]; done)), H', ⟨Nat.le_refl _⟩, ⟨by (with_reducible repeat (first | refine blk_drewN ?_ _ | refine blk_drew ?_ | refine blk_alloc ?_ _)); exact BK181.out⟩, ⟨by repeat (first | (with_reducible first | exact HB.out | apply below_alloc | apply pw_below_drewN | apply below_drew1 | refine below_set ?_ GE181.out) | exact HB.out)⟩⟩
 case round =>
  clear H'
  try clear p2
  obtain ⟨x5_1, rfl, HA, HK1, BK181, HB⟩ := hrel
  cases gk with
  | zero => exact absurd HA.out (by simp [jigsawref24_has.l0])
  | succ k1 =>
   have H := HA.out
   clear HA
   simp only [jigsawref24_has.l0] at H
   by_cases c4 : x5_1 < (l0.length : Int)
   ·rw [if_pos c4] at H
    have c4b0 : decide (x5_1 < (l0.length : Int)) = true := decide_eq_true c4
    clear c4
    by_cases c5 : 0 ≤ x5_1
    ·rw [if_pos c5] at H
     have c5b0 : decide (0 ≤ x5_1) = true := decide_eq_true c5
     clear c5
     by_cases c6 : ((rd_T84 l0 x5_1).f0) = a1_0
     ·rw [if_pos c6] at H
      have c6b0 : (((rd_T84 l0 x5_1).f0) == a1_0) = true := beq_iff_eq.mpr c6
      have c6b1 : (((rd_T84 l0 x5_1).f0) != a1_0) = false := bne_eq_false_iff_eq.mpr c6
      clear c6
      by_cases c7 : ((rd_T84 l0 x5_1).f1) = a1_1
      ·rw [if_pos c7] at H
       have c7b0 : (((rd_T84 l0 x5_1).f1) == a1_1) = true := beq_iff_eq.mpr c7
       have c7b1 : (((rd_T84 l0 x5_1).f1) != a1_1) = false := bne_eq_false_iff_eq.mpr c7
       clear c7
       obtain rfl := Option.some.inj H
       have p182 : 0 ≤ (x5_1 : Int) := of_decide_eq_true (by first | (with_reducible assumption) | assumption)
       have q182 : x5_1 < (l0.length : Int) := of_decide_eq_true (by first | (with_reducible assumption) | assumption)
       obtain ⟨ad182, e182, hx182_0, hx182_1⟩ := at_T84 HR0.out x5_1 p182 q182
       cases e182
       replace hx182_0 := (HB.out.cell (World.block_lt_of_cell? w _ hx182_0)).trans hx182_0
       replace hx182_1 := (HB.out.cell (World.block_lt_of_cell? w _ hx182_1)).trans hx182_1
       replace p182 := eq_true p182
       replace q182 := eq_true q182
       have hcz8_0 : wr.cell? ⟨gb181, 0, none⟩ = some (.int .i64 a1_0) := (blk_cell BK181.out 0).trans rfl
       have hcz8_1 : wr.cell? ⟨gb181, 1, none⟩ = some (.int .i64 a1_1) := (blk_cell BK181.out 1).trans rfl
       have hfz8_0 := blk_frozen BK181.out 0
       have hfz8_1 := blk_frozen BK181.out 1
       have p183 : 0 ≤ (x5_1 : Int) := of_decide_eq_true (by first | (with_reducible assumption) | assumption)
       have q183 : x5_1 < (l0.length : Int) := of_decide_eq_true (by first | (with_reducible assumption) | assumption)
       obtain ⟨ad183, e183, hx183_0, hx183_1⟩ := at_T84 HR0.out x5_1 p183 q183
       obtain rfl : ad182 = ad183 := (by injection e183)
       replace hx183_0 := (HB.out.cell (World.block_lt_of_cell? w _ hx183_0)).trans hx183_0
       replace hx183_1 := (HB.out.cell (World.block_lt_of_cell? w _ hx183_1)).trans hx183_1
       replace p183 := eq_true p183
       replace q183 := eq_true q183
       go_wp2
       repeat (go_quiet (fail); try go_wp2)
       go_ret
       exact ⟨by first | rfl | (simp [errW_none, errW_some] <;> rfl) | (simp [*, errW_none, errW_some] <;> rfl), by repeat (first | (with_reducible first | exact HB.out | apply below_alloc | apply pw_below_drewN | apply below_drew1 | refine below_set ?_ GE181.out) | exact HB.out)⟩
      ·rw [if_neg c7] at H
       have c7b0 : (((rd_T84 l0 x5_1).f1) == a1_1) = false := beq_eq_false_iff_ne.mpr c7
       have c7b1 : (((rd_T84 l0 x5_1).f1) != a1_1) = true := bne_iff_ne.mpr c7
       have H' := Aside0.mk H
       clear H
       have p182 : 0 ≤ (x5_1 : Int) := of_decide_eq_true (by first | (with_reducible assumption) | assumption)
       have q182 : x5_1 < (l0.length : Int) := of_decide_eq_true (by first | (with_reducible assumption) | assumption)
       obtain ⟨ad182, e182, hx182_0, hx182_1⟩ := at_T84 HR0.out x5_1 p182 q182
       cases e182
       replace hx182_0 := (HB.out.cell (World.block_lt_of_cell? w _ hx182_0)).trans hx182_0
       replace hx182_1 := (HB.out.cell (World.block_lt_of_cell? w _ hx182_1)).trans hx182_1
       replace p182 := eq_true p182
       replace q182 := eq_true q182
       have hcz9_0 : wr.cell? ⟨gb181, 0, none⟩ = some (.int .i64 a1_0) := (blk_cell BK181.out 0).trans rfl
       have hcz9_1 : wr.cell? ⟨gb181, 1, none⟩ = some (.int .i64 a1_1) := (blk_cell BK181.out 1).trans rfl
       have hfz9_0 := blk_frozen BK181.out 0
       have hfz9_1 := blk_frozen BK181.out 1
       have p183 : 0 ≤ (x5_1 : Int) := of_decide_eq_true (by first | (with_reducible assumption) | assumption)
       have q183 : x5_1 < (l0.length : Int) := of_decide_eq_true (by first | (with_reducible assumption) | assumption)
       obtain ⟨ad183, e183, hx183_0, hx183_1⟩ := at_T84 HR0.out x5_1 p183 q183
       obtain rfl : ad182 = ad183 := (by injection e183)
       replace hx183_0 := (HB.out.cell (World.block_lt_of_cell? w _ hx183_0)).trans hx183_0
       replace hx183_1 := (HB.out.cell (World.block_lt_of_cell? w _ hx183_1)).trans hx183_1
       replace p183 := eq_true p183
       replace q183 := eq_true q183
       go_wp2
       repeat (go_quiet (fail); try go_wp2)
       go_roundg k1
       case measure => have := HK1.out; omega
       case rel => exact ⟨(wrap64 (x5_1 + 1)), (by first | rfl | (simp; done) | (simp [*]; done)), H', ⟨by have := HK1.out; omega⟩, ⟨by (with_reducible repeat (first | refine blk_drewN ?_ _ | refine blk_drew ?_ | refine blk_alloc ?_ _)); exact BK181.out⟩, ⟨by repeat (first | (with_reducible first | exact HB.out | apply below_alloc | apply pw_below_drewN | apply below_drew1 | refine below_set ?_ GE181.out) | exact HB.out)⟩⟩
     ·rw [if_neg c6] at H
      have c6b0 : (((rd_T84 l0 x5_1).f0) == a1_0) = false := beq_eq_false_iff_ne.mpr c6
      have c6b1 : (((rd_T84 l0 x5_1).f0) != a1_0) = true := bne_iff_ne.mpr c6
      have H' := Aside0.mk H
      clear H
      have p182 : 0 ≤ (x5_1 : Int) := of_decide_eq_true (by first | (with_reducible assumption) | assumption)
      have q182 : x5_1 < (l0.length : Int) := of_decide_eq_true (by first | (with_reducible assumption) | assumption)
      obtain ⟨ad182, e182, hx182_0, hx182_1⟩ := at_T84 HR0.out x5_1 p182 q182
      cases e182
      replace hx182_0 := (HB.out.cell (World.block_lt_of_cell? w _ hx182_0)).trans hx182_0
      replace hx182_1 := (HB.out.cell (World.block_lt_of_cell? w _ hx182_1)).trans hx182_1
      replace p182 := eq_true p182
      replace q182 := eq_true q182
      have hcz10_0 : wr.cell? ⟨gb181, 0, none⟩ = some (.int .i64 a1_0) := (blk_cell BK181.out 0).trans rfl
      have hcz10_1 : wr.cell? ⟨gb181, 1, none⟩ = some (.int .i64 a1_1) := (blk_cell BK181.out 1).trans rfl
      have hfz10_0 := blk_frozen BK181.out 0
      have hfz10_1 := blk_frozen BK181.out 1
      go_wp2
      repeat (go_quiet (fail); try go_wp2)
      go_roundg k1
      case measure => have := HK1.out; omega
      case rel => exact ⟨(wrap64 (x5_1 + 1)), (by first | rfl | (simp; done) | (simp [*]; done)), H', ⟨by have := HK1.out; omega⟩, ⟨by (with_reducible repeat (first | refine blk_drewN ?_ _ | refine blk_drew ?_ | refine blk_alloc ?_ _)); exact BK181.out⟩, ⟨by repeat (first | (with_reducible first | exact HB.out | apply below_alloc | apply pw_below_drewN | apply below_drew1 | refine below_set ?_ GE181.out) | exact HB.out)⟩⟩
    ·rw [if_neg c5] at H
     exact absurd H (by simp)
   ·rw [if_neg c4] at H
    have c4b0 : decide (x5_1 < (l0.length : Int)) = false := decide_eq_false c4
    clear c4
    obtain rfl := Option.some.inj H
    go_wp2
    repeat (go_quiet (fail); try go_wp2)
    go_ret
    exact ⟨by first | rfl | (simp [errW_none, errW_some] <;> rfl) | (simp [*, errW_none, errW_some] <;> rfl), by repeat (first | (with_reducible first | exact HB.out | apply below_alloc | apply pw_below_drewN | apply below_drew1 | refine below_set ?_ GE181.out) | exact HB.out)⟩

end Go.Proofs.YtgckohmppefibaaDoorX.Hz
