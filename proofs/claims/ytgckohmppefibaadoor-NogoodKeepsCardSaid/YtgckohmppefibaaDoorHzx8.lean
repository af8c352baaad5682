-- Printed by wip/tools/hp.sh (functions of the translation, out of Lean's print of them).
import Derived.Test.YtgckohmppefibaaDoorHzx0
namespace Go.Proofs.YtgckohmppefibaaDoorX.Hz
open Go.RowKit Go.Proofs.YtgckohmppefibaaDoorW.PrintWords Go.Proofs.YtgckohmppefibaaDoorW.PrintLast Go.Proofs.YtgckohmppefibaaDoorW.PrintMore
attribute [local go_sem] max2_int min2_int max_two min_two max_three min_three max_four min_four   -- for this text's walks alone
set_option linter.unusedVariables false
set_option linter.unusedSimpArgs false
attribute [local go_sem] Go.Proofs.YtgckohmppefibaaDoor.Hook.cell_two

/-! ### jigsawref10_Same: function 20 -/
mutual
def jigsawref10_Same.l0 : Nat → List (List Int) → List (List Int) → Int → Option (Bool)
  | 0, _, _, _ => none
  | k + 1, x0, x1, x5 => if x5 < (x0.length : Int) then (if 0 ≤ x5 then (if x5 < (x1.length : Int) then (if ((rd_L13 x0 x5).length : Int) = ((rd_L13 x1 x5).length : Int) then (jigsawref10_Same.l1 k x0 x1 x5 0) else (some false)) else (none)) else (none)) else (some true)
def jigsawref10_Same.l1 : Nat → List (List Int) → List (List Int) → Int → Int → Option (Bool)
  | 0, _, _, _, _ => none
  | k + 1, x0, x1, x5, x6 => if 0 ≤ x5 then (if x5 < (x0.length : Int) then (if x6 < ((rd_L13 x0 x5).length : Int) then (if 0 ≤ x6 then (if x5 < (x1.length : Int) then (if x6 < ((rd_L13 x1 x5).length : Int) then (if (rd (rd_L13 x0 x5) x6) = (rd (rd_L13 x1 x5) x6) then (jigsawref10_Same.l1 k x0 x1 x5 (wrap64 (x6 + 1))) else (some false)) else (none)) else (none)) else (none)) else (jigsawref10_Same.l0 k x0 x1 (wrap64 (x5 + 1)))) else (none)) else (none)
end
def jigsawref10_Same.f (k : Nat) (l0 : List (List Int)) (l1 : List (List Int)) : Option (Bool) := if (l0.length : Int) = (l1.length : Int) then (jigsawref10_Same.l0 k l0 l1 0) else (some false)
theorem jigsawref10_Same.mono_l : ∀ k, (∀ y0 y1 y2, LeO (jigsawref10_Same.l0 k y0 y1 y2) (jigsawref10_Same.l0 (k + 1) y0 y1 y2)) ∧ (∀ y0 y1 y2 y3, LeO (jigsawref10_Same.l1 k y0 y1 y2 y3) (jigsawref10_Same.l1 (k + 1) y0 y1 y2 y3))
  | 0 => ⟨fun _ _ _ r h => by simp [jigsawref10_Same.l0] at h, fun _ _ _ _ r h => by simp [jigsawref10_Same.l1] at h⟩
  | k + 1 => by
    obtain ⟨ih0, ih1⟩ := jigsawref10_Same.mono_l k
    refine ⟨?_, ?_⟩
    · intro y0 y1 y2
      unfold jigsawref10_Same.l0
      repeat' first
      | (with_reducible exact ih0 _ _ _)
      | (with_reducible exact ih1 _ _ _ _)
      | (with_reducible exact LeO.refl _)
      | (with_reducible exact LeO.none _)
      | (with_reducible refine LeO.ite ?_ ?_)
      | (with_reducible refine LeO.bind ?_ (fun _ => ?_))
      | exact ih0 _ _ _
      | exact ih1 _ _ _ _
      | exact LeO.none _
      | refine LeO.ite ?_ ?_
      | refine LeO.bind ?_ (fun _ => ?_)
    · intro y0 y1 y2 y3
      unfold jigsawref10_Same.l1
      repeat' first
      | (with_reducible exact ih0 _ _ _)
      | (with_reducible exact ih1 _ _ _ _)
      | (with_reducible exact LeO.refl _)
      | (with_reducible exact LeO.none _)
      | (with_reducible refine LeO.ite ?_ ?_)
      | (with_reducible refine LeO.bind ?_ (fun _ => ?_))
      | exact ih0 _ _ _
      | exact ih1 _ _ _ _
      | exact LeO.none _
      | refine LeO.ite ?_ ?_
      | refine LeO.bind ?_ (fun _ => ?_)
theorem jigsawref10_Same.mono : ∀ a0 a1 k, LeO (jigsawref10_Same.f k a0 a1) (jigsawref10_Same.f (k + 1) a0 a1) := by
  intro a0 a1 k
  obtain ⟨ih0, ih1⟩ := jigsawref10_Same.mono_l k
  unfold jigsawref10_Same.f
  repeat' first
      | (with_reducible exact ih0 _ _ _)
      | (with_reducible exact ih1 _ _ _ _)
      | (with_reducible exact LeO.refl _)
      | (with_reducible exact LeO.none _)
      | (with_reducible refine LeO.ite ?_ ?_)
      | (with_reducible refine LeO.bind ?_ (fun _ => ?_))
      | exact ih0 _ _ _
      | exact ih1 _ _ _ _
      | exact LeO.none _
      | refine LeO.ite ?_ ?_
      | refine LeO.bind ?_ (fun _ => ?_)
set_option maxHeartbeats 8000000 in
set_option maxRecDepth 100000 in
theorem jigsawref10_Same.calls (k : Nat) (A0 : Option Addr) (c0 : Nat) (l0 : List (List Int)) (A1 : Option Addr) (c1 : Nat) (l1 : List (List Int)) (r : Bool) (w : World) (hr0 : Kd.C (Kd.slice 3 (Kd.int .i64)) w A0 l0.length l0) (hc0 : l0.length ≤ c0) (hr1 : Kd.C (Kd.slice 3 (Kd.int .i64)) w A1 l1.length l1) (hc1 : l1.length ≤ c1) (h : jigsawref10_Same.f k l0 l1 = some r) :
    Calls Tryd.prog 20 #[.slice A0 l0.length c0, .slice A1 l1.length c1] w fun e w' => e = .returned (.bool r) ∧ Drawn0 w w' := by
  have HR0 := Aside0.mk hr0
  have HC0 := Aside0.mk hc0
  clear hr0 hc0
  have HR1 := Aside0.mk hr1
  have HC1 := Aside0.mk hc1
  clear hr1 hc1
  have H : (if (l0.length : Int) = (l1.length : Int) then (jigsawref10_Same.l0 k l0 l1 0) else (some false)) = some r := h
  clear h
  by_cases c3 : (l0.length : Int) = (l1.length : Int)
  · rw [if_pos c3] at H
    have c3b0 : ((l0.length : Int) == (l1.length : Int)) = true := beq_iff_eq.mpr c3
    have c3b1 : ((l0.length : Int) != (l1.length : Int)) = false := bne_eq_false_iff_eq.mpr c3
    have c3b2 : (l0.length == l1.length) = true := by first | simpa using c3 | (simp at c3 ⊢; omega)
    clear c3
    have H' := Aside0.mk H
    clear H
    go_enter Tryd.func20, Tryd.ntmps20
    go_wp2
    repeat (go_quiet (fail); try go_wp2)
    go_loopg [5] k (fun kq v5 w' => ∃ (x5_1 : Int), v5 = .int .i64 x5_1 ∧ Aside0 (jigsawref10_Same.l0 kq l0 l1 x5_1 = some r) ∧ Aside0 (kq ≤ k) ∧ Drawn0 w w')
    case atStart => exact ⟨(0), (by first | rfl | (simp; done) | (simp [*]; done)), H', ⟨Nat.le_refl _⟩, by repeat (first | exact Drawn0.refl _ | apply Drawn0.step)⟩
    case round =>
      clear H'
      try clear c1
      try clear c2
      try clear p2
      try clear c3
      try clear c3b0
      try clear c3b1
      try clear c3b2
      obtain ⟨x5_1, rfl, HA, HK1, ⟨m1, rfl⟩⟩ := hrel
      cases gk with
      | zero => exact absurd HA.out (by simp [jigsawref10_Same.l0])
      | succ k1 =>
        have H := HA.out
        clear HA
        simp only [jigsawref10_Same.l0] at H
        by_cases c4 : x5_1 < (l0.length : Int)
        · rw [if_pos c4] at H
          have c4b0 : decide (x5_1 < (l0.length : Int)) = true := decide_eq_true c4
          clear c4
          by_cases c5 : 0 ≤ x5_1
          · rw [if_pos c5] at H
            have c5b0 : decide (0 ≤ x5_1) = true := decide_eq_true c5
            clear c5
            by_cases c6 : x5_1 < (l1.length : Int)
            · rw [if_pos c6] at H
              have c6b0 : decide (x5_1 < (l1.length : Int)) = true := decide_eq_true c6
              clear c6
              by_cases c7 : ((rd_L13 l0 x5_1).length : Int) = ((rd_L13 l1 x5_1).length : Int)
              · rw [if_pos c7] at H
                have c7b0 : (((rd_L13 l0 x5_1).length : Int) == ((rd_L13 l1 x5_1).length : Int)) = true := beq_iff_eq.mpr c7
                have c7b1 : (((rd_L13 l0 x5_1).length : Int) != ((rd_L13 l1 x5_1).length : Int)) = false := bne_eq_false_iff_eq.mpr c7
                have c7b2 : ((rd_L13 l0 x5_1).length == (rd_L13 l1 x5_1).length) = true := by first | simpa using c7 | (simp at c7 ⊢; omega)
                clear c7
                have H' := Aside0.mk H
                clear H
                have p244 : 0 ≤ (x5_1 : Int) := of_decide_eq_true (by first | (with_reducible assumption) | assumption)
                have q244 : x5_1 < (l0.length : Int) := of_decide_eq_true (by first | (with_reducible assumption) | assumption)
                obtain ⟨ad244, A244_0, c244_0, e244, hx244_0, hl244_0, hi244_0⟩ := at_L13 HR0.out x5_1 p244 q244
                cases e244
                have HR244_0 := Aside0.mk hi244_0
                have HC244_0 := Aside0.mk hl244_0
                clear hi244_0 hl244_0
                replace p244 := eq_true p244
                replace q244 := eq_true q244
                have p245 : 0 ≤ (x5_1 : Int) := of_decide_eq_true (by first | (with_reducible assumption) | assumption)
                have q245 : x5_1 < (l1.length : Int) := of_decide_eq_true (by first | (with_reducible assumption) | assumption)
                obtain ⟨ad245, A245_0, c245_0, e245, hx245_0, hl245_0, hi245_0⟩ := at_L13 HR1.out x5_1 p245 q245
                cases e245
                have HR245_0 := Aside0.mk hi245_0
                have HC245_0 := Aside0.mk hl245_0
                clear hi245_0 hl245_0
                replace p245 := eq_true p245
                replace q245 := eq_true q245
                go_wp2
                repeat (go_quiet (fail); try go_wp2)
                go_loopg [6] k1 (fun kq v6 w' => ∃ (x6_2 : Int), v6 = .int .i64 x6_2 ∧ Aside0 (jigsawref10_Same.l1 kq l0 l1 x5_1 x6_2 = some r) ∧ Aside0 (kq ≤ k1) ∧ Drawn0 w w')
                case atStart => exact ⟨(0), (by first | rfl | (simp; done) | (simp [*]; done)), H', ⟨Nat.le_refl _⟩, by repeat (first | exact Drawn0.refl _ | apply Drawn0.step)⟩
                case round =>
                  clear H'
                  try clear c1
                  try clear c2
                  try clear p2
                  try clear q2
                  try clear hx2
                  try clear c3
                  try clear c3b0
                  try clear c3b1
                  try clear c3b2
                  try clear c4
                  try clear c4b0
                  try clear c5
                  try clear c5b0
                  try clear c6
                  try clear c6b0
                  try clear c7
                  try clear c7b0
                  try clear c7b1
                  try clear c7b2
                  try clear hx244_0
                  try clear hx245_0
                  try clear p2
                  try clear p244
                  try clear p245
                  try clear q244
                  try clear q245
                  obtain ⟨x6_2, rfl, HA, HK2, ⟨m2, rfl⟩⟩ := hrel
                  cases gk with
                  | zero => exact absurd HA.out (by simp [jigsawref10_Same.l1])
                  | succ k2 =>
                    have H := HA.out
                    clear HA
                    simp only [jigsawref10_Same.l1] at H
                    by_cases c8 : 0 ≤ x5_1
                    · rw [if_pos c8] at H
                      have c8b0 : decide (0 ≤ x5_1) = true := decide_eq_true c8
                      clear c8
                      by_cases c9 : x5_1 < (l0.length : Int)
                      · rw [if_pos c9] at H
                        have c9b0 : decide (x5_1 < (l0.length : Int)) = true := decide_eq_true c9
                        clear c9
                        by_cases c10 : x6_2 < ((rd_L13 l0 x5_1).length : Int)
                        · rw [if_pos c10] at H
                          have c10b0 : decide (x6_2 < ((rd_L13 l0 x5_1).length : Int)) = true := decide_eq_true c10
                          clear c10
                          by_cases c11 : 0 ≤ x6_2
                          · rw [if_pos c11] at H
                            have c11b0 : decide (0 ≤ x6_2) = true := decide_eq_true c11
                            clear c11
                            by_cases c12 : x5_1 < (l1.length : Int)
                            · rw [if_pos c12] at H
                              have c12b0 : decide (x5_1 < (l1.length : Int)) = true := decide_eq_true c12
                              clear c12
                              by_cases c13 : x6_2 < ((rd_L13 l1 x5_1).length : Int)
                              · rw [if_pos c13] at H
                                have c13b0 : decide (x6_2 < ((rd_L13 l1 x5_1).length : Int)) = true := decide_eq_true c13
                                clear c13
                                by_cases c14 : (rd (rd_L13 l0 x5_1) x6_2) = (rd (rd_L13 l1 x5_1) x6_2)
                                · rw [if_pos c14] at H
                                  have c14b0 : ((rd (rd_L13 l0 x5_1) x6_2) == (rd (rd_L13 l1 x5_1) x6_2)) = true := beq_iff_eq.mpr c14
                                  have c14b1 : ((rd (rd_L13 l0 x5_1) x6_2) != (rd (rd_L13 l1 x5_1) x6_2)) = false := bne_eq_false_iff_eq.mpr c14
                                  clear c14
                                  have H' := Aside0.mk H
                                  clear H
                                  have p246 : 0 ≤ (x5_1 : Int) := of_decide_eq_true (by first | (with_reducible assumption) | assumption)
                                  have q246 : x5_1 < (l0.length : Int) := of_decide_eq_true (by first | (with_reducible assumption) | assumption)
                                  obtain ⟨ad246, A246_0, c246_0, e246, hx246_0, hl246_0, hi246_0⟩ := at_L13 HR0.out x5_1 p246 q246
                                  obtain rfl : ad244 = ad246 := (by injection e246)
                                  have HR246_0 := Aside0.mk hi246_0
                                  have HC246_0 := Aside0.mk hl246_0
                                  clear hi246_0 hl246_0
                                  replace p246 := eq_true p246
                                  replace q246 := eq_true q246
                                  have p247 : 0 ≤ (x5_1 : Int) := of_decide_eq_true (by first | (with_reducible assumption) | assumption)
                                  have q247 : x5_1 < (l0.length : Int) := of_decide_eq_true (by first | (with_reducible assumption) | assumption)
                                  obtain ⟨ad247, A247_0, c247_0, e247, hx247_0, hl247_0, hi247_0⟩ := at_L13 HR0.out x5_1 p247 q247
                                  obtain rfl : ad244 = ad247 := (by injection e247)
                                  have HR247_0 := Aside0.mk hi247_0
                                  have HC247_0 := Aside0.mk hl247_0
                                  clear hi247_0 hl247_0
                                  replace p247 := eq_true p247
                                  replace q247 := eq_true q247
                                  have ea_ := Option.some.inj (hx246_0.symm.trans hx247_0)
                                  injection ea_ with ea_ en_ ec_
                                  subst ea_
                                  subst ec_
                                  clear en_
                                  have p248 : 0 ≤ (x6_2 : Int) := of_decide_eq_true (by first | (with_reducible assumption) | assumption)
                                  have q248 : x6_2 < ((rd_L13 l0 x5_1).length : Int) := of_decide_eq_true (by first | (with_reducible assumption) | assumption)
                                  obtain ⟨ad248, e248, hx248_0⟩ := Kd.at_int HR247_0.out x6_2 p248 q248
                                  cases e248
                                  replace p248 := eq_true p248
                                  replace q248 := eq_true q248
                                  have p249 : 0 ≤ (x5_1 : Int) := of_decide_eq_true (by first | (with_reducible assumption) | assumption)
                                  have q249 : x5_1 < (l1.length : Int) := of_decide_eq_true (by first | (with_reducible assumption) | assumption)
                                  obtain ⟨ad249, A249_0, c249_0, e249, hx249_0, hl249_0, hi249_0⟩ := at_L13 HR1.out x5_1 p249 q249
                                  obtain rfl : ad245 = ad249 := (by injection e249)
                                  have HR249_0 := Aside0.mk hi249_0
                                  have HC249_0 := Aside0.mk hl249_0
                                  clear hi249_0 hl249_0
                                  replace p249 := eq_true p249
                                  replace q249 := eq_true q249
                                  have p250 : 0 ≤ (x6_2 : Int) := of_decide_eq_true (by first | (with_reducible assumption) | assumption)
                                  have q250 : x6_2 < ((rd_L13 l1 x5_1).length : Int) := of_decide_eq_true (by first | (with_reducible assumption) | assumption)
                                  obtain ⟨ad250, e250, hx250_0⟩ := Kd.at_int HR249_0.out x6_2 p250 q250
                                  cases e250
                                  replace p250 := eq_true p250
                                  replace q250 := eq_true q250
                                  go_wp2
                                  repeat (go_quiet (fail); try go_wp2)
                                  go_roundg k2
                                  case measure => have := HK1.out; have := HK2.out; omega
                                  case rel => exact ⟨(wrap64 (x6_2 + 1)), (by first | rfl | (simp; done) | (simp [*]; done)), H', ⟨by have := HK1.out; have := HK2.out; omega⟩, by repeat (first | exact Drawn0.refl _ | apply Drawn0.step)⟩
                                · rw [if_neg c14] at H
                                  have c14b0 : ((rd (rd_L13 l0 x5_1) x6_2) == (rd (rd_L13 l1 x5_1) x6_2)) = false := beq_eq_false_iff_ne.mpr c14
                                  have c14b1 : ((rd (rd_L13 l0 x5_1) x6_2) != (rd (rd_L13 l1 x5_1) x6_2)) = true := bne_iff_ne.mpr c14
                                  obtain rfl := Option.some.inj H
                                  have p246 : 0 ≤ (x5_1 : Int) := of_decide_eq_true (by first | (with_reducible assumption) | assumption)
                                  have q246 : x5_1 < (l0.length : Int) := of_decide_eq_true (by first | (with_reducible assumption) | assumption)
                                  obtain ⟨ad246, A246_0, c246_0, e246, hx246_0, hl246_0, hi246_0⟩ := at_L13 HR0.out x5_1 p246 q246
                                  obtain rfl : ad244 = ad246 := (by injection e246)
                                  have HR246_0 := Aside0.mk hi246_0
                                  have HC246_0 := Aside0.mk hl246_0
                                  clear hi246_0 hl246_0
                                  replace p246 := eq_true p246
                                  replace q246 := eq_true q246
                                  have p247 : 0 ≤ (x5_1 : Int) := of_decide_eq_true (by first | (with_reducible assumption) | assumption)
                                  have q247 : x5_1 < (l0.length : Int) := of_decide_eq_true (by first | (with_reducible assumption) | assumption)
                                  obtain ⟨ad247, A247_0, c247_0, e247, hx247_0, hl247_0, hi247_0⟩ := at_L13 HR0.out x5_1 p247 q247
                                  obtain rfl : ad244 = ad247 := (by injection e247)
                                  have HR247_0 := Aside0.mk hi247_0
                                  have HC247_0 := Aside0.mk hl247_0
                                  clear hi247_0 hl247_0
                                  replace p247 := eq_true p247
                                  replace q247 := eq_true q247
                                  have ea_ := Option.some.inj (hx246_0.symm.trans hx247_0)
                                  injection ea_ with ea_ en_ ec_
                                  subst ea_
                                  subst ec_
                                  clear en_
                                  have p248 : 0 ≤ (x6_2 : Int) := of_decide_eq_true (by first | (with_reducible assumption) | assumption)
                                  have q248 : x6_2 < ((rd_L13 l0 x5_1).length : Int) := of_decide_eq_true (by first | (with_reducible assumption) | assumption)
                                  obtain ⟨ad248, e248, hx248_0⟩ := Kd.at_int HR247_0.out x6_2 p248 q248
                                  cases e248
                                  replace p248 := eq_true p248
                                  replace q248 := eq_true q248
                                  have p249 : 0 ≤ (x5_1 : Int) := of_decide_eq_true (by first | (with_reducible assumption) | assumption)
                                  have q249 : x5_1 < (l1.length : Int) := of_decide_eq_true (by first | (with_reducible assumption) | assumption)
                                  obtain ⟨ad249, A249_0, c249_0, e249, hx249_0, hl249_0, hi249_0⟩ := at_L13 HR1.out x5_1 p249 q249
                                  obtain rfl : ad245 = ad249 := (by injection e249)
                                  have HR249_0 := Aside0.mk hi249_0
                                  have HC249_0 := Aside0.mk hl249_0
                                  clear hi249_0 hl249_0
                                  replace p249 := eq_true p249
                                  replace q249 := eq_true q249
                                  have p250 : 0 ≤ (x6_2 : Int) := of_decide_eq_true (by first | (with_reducible assumption) | assumption)
                                  have q250 : x6_2 < ((rd_L13 l1 x5_1).length : Int) := of_decide_eq_true (by first | (with_reducible assumption) | assumption)
                                  obtain ⟨ad250, e250, hx250_0⟩ := Kd.at_int HR249_0.out x6_2 p250 q250
                                  cases e250
                                  replace p250 := eq_true p250
                                  replace q250 := eq_true q250
                                  go_wp2
                                  repeat (go_quiet (fail); try go_wp2)
                                  go_ret
                                  exact ⟨by first | rfl | (simp; done) | (simp [*]; done), by repeat (first | exact Drawn0.refl _ | apply Drawn0.step)⟩
                              · rw [if_neg c13] at H
                                exact absurd H (by simp)
                            · rw [if_neg c12] at H
                              exact absurd H (by simp)
                          · rw [if_neg c11] at H
                            exact absurd H (by simp)
                        · rw [if_neg c10] at H
                          have c10b0 : decide (x6_2 < ((rd_L13 l0 x5_1).length : Int)) = false := decide_eq_false c10
                          clear c10
                          have H' := Aside0.mk H
                          clear H
                          have p246 : 0 ≤ (x5_1 : Int) := of_decide_eq_true (by first | (with_reducible assumption) | assumption)
                          have q246 : x5_1 < (l0.length : Int) := of_decide_eq_true (by first | (with_reducible assumption) | assumption)
                          obtain ⟨ad246, A246_0, c246_0, e246, hx246_0, hl246_0, hi246_0⟩ := at_L13 HR0.out x5_1 p246 q246
                          obtain rfl : ad244 = ad246 := (by injection e246)
                          have HR246_0 := Aside0.mk hi246_0
                          have HC246_0 := Aside0.mk hl246_0
                          clear hi246_0 hl246_0
                          replace p246 := eq_true p246
                          replace q246 := eq_true q246
                          go_wp2
                          repeat (go_quiet (fail); try go_wp2)
                          go_roundg k2
                          case measure => have := HK1.out; have := HK2.out; omega
                          case rel => exact ⟨(wrap64 (x5_1 + 1)), (by first | rfl | (simp; done) | (simp [*]; done)), H', ⟨by have := HK1.out; have := HK2.out; omega⟩, by repeat (first | exact Drawn0.refl _ | apply Drawn0.step)⟩
                      · rw [if_neg c9] at H
                        exact absurd H (by simp)
                    · rw [if_neg c8] at H
                      exact absurd H (by simp)
              · rw [if_neg c7] at H
                have c7b0 : (((rd_L13 l0 x5_1).length : Int) == ((rd_L13 l1 x5_1).length : Int)) = false := beq_eq_false_iff_ne.mpr c7
                have c7b1 : (((rd_L13 l0 x5_1).length : Int) != ((rd_L13 l1 x5_1).length : Int)) = true := bne_iff_ne.mpr c7
                have c7b2 : ((rd_L13 l0 x5_1).length == (rd_L13 l1 x5_1).length) = false := by first | simpa using c7 | (simp at c7 ⊢; omega)
                obtain rfl := Option.some.inj H
                have p244 : 0 ≤ (x5_1 : Int) := of_decide_eq_true (by first | (with_reducible assumption) | assumption)
                have q244 : x5_1 < (l0.length : Int) := of_decide_eq_true (by first | (with_reducible assumption) | assumption)
                obtain ⟨ad244, A244_0, c244_0, e244, hx244_0, hl244_0, hi244_0⟩ := at_L13 HR0.out x5_1 p244 q244
                cases e244
                have HR244_0 := Aside0.mk hi244_0
                have HC244_0 := Aside0.mk hl244_0
                clear hi244_0 hl244_0
                replace p244 := eq_true p244
                replace q244 := eq_true q244
                have p245 : 0 ≤ (x5_1 : Int) := of_decide_eq_true (by first | (with_reducible assumption) | assumption)
                have q245 : x5_1 < (l1.length : Int) := of_decide_eq_true (by first | (with_reducible assumption) | assumption)
                obtain ⟨ad245, A245_0, c245_0, e245, hx245_0, hl245_0, hi245_0⟩ := at_L13 HR1.out x5_1 p245 q245
                cases e245
                have HR245_0 := Aside0.mk hi245_0
                have HC245_0 := Aside0.mk hl245_0
                clear hi245_0 hl245_0
                replace p245 := eq_true p245
                replace q245 := eq_true q245
                go_wp2
                repeat (go_quiet (fail); try go_wp2)
                go_ret
                exact ⟨by first | rfl | (simp; done) | (simp [*]; done), by repeat (first | exact Drawn0.refl _ | apply Drawn0.step)⟩
            · rw [if_neg c6] at H
              exact absurd H (by simp)
          · rw [if_neg c5] at H
            exact absurd H (by simp)
        · rw [if_neg c4] at H
          have c4b0 : decide (x5_1 < (l0.length : Int)) = false := decide_eq_false c4
          clear c4
          obtain rfl := Option.some.inj H
          go_wp2
          repeat (go_quiet (fail); try go_wp2)
          go_ret
          exact ⟨by first | rfl | (simp; done) | (simp [*]; done), by repeat (first | exact Drawn0.refl _ | apply Drawn0.step)⟩
  · rw [if_neg c3] at H
    have c3b0 : ((l0.length : Int) == (l1.length : Int)) = false := beq_eq_false_iff_ne.mpr c3
    have c3b1 : ((l0.length : Int) != (l1.length : Int)) = true := bne_iff_ne.mpr c3
    have c3b2 : (l0.length == l1.length) = false := by first | simpa using c3 | (simp at c3 ⊢; omega)
    obtain rfl := Option.some.inj H
    go_enter Tryd.func20, Tryd.ntmps20
    go_wp2
    repeat (go_quiet (fail); try go_wp2)
    go_ret
    exact ⟨by first | rfl | (simp; done) | (simp [*]; done), by repeat (first | exact Drawn0.refl _ | apply Drawn0.step)⟩

end Go.Proofs.YtgckohmppefibaaDoorX.Hz
