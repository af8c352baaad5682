-- Printed by wip/tools/hp.sh (functions of the translation, out of Lean's print of them).
import Derived.Test.YtdemfbfdhpccpaaDoorH5bx0
import Derived.Test.YtdemfbfdhpccpaaDoorShort
import Derived.Test.YtdemfbfdhpccpaaDoorH5bx2
namespace Go.Proofs.YtdemfbfdhpccpaaDoorX.H5b
open Go.RowKit Go.Proofs.YtdemfbfdhpccpaaDoorW.PrintWords Go.Proofs.YtdemfbfdhpccpaaDoorW.PrintLast Go.Proofs.YtdemfbfdhpccpaaDoorW.PrintMore
attribute [local go_sem] max2_int min2_int max_two min_two max_three min_three max_four min_four   -- for this text's walks alone
set_option linter.unusedVariables false
set_option linter.unusedSimpArgs false
attribute [local go_sem] Go.Proofs.YtdemfbfdhpccpaaDoor.Hook.cell_two

/-! ### jigsawlaw05_LexBack: function 5 -/
mutual
def jigsawlaw05_LexBack.l0 : Nat → List Int → List (S33) → ByteArray → List (S33) → Int → Int → Option (Bool)
 | 0, _, _, _, _, _, _ => none
 | k + 1, x1, x5, x8, x35, x36, x37 => if x37 < x36 then (if 0 ≤ x37 then (if x37 < (x35.length : Int) then (if x37 < (x1.length : Int) then ((some (([(⟨#[32]⟩ : ByteArray), (⟨#[10]⟩ : ByteArray), (⟨#[9, 32]⟩ : ByteArray), (⟨#[37, 32, 194, 167, 255, 10]⟩ : ByteArray), (⟨#[37, 10, 37, 37, 13, 10]⟩ : ByteArray), (⟨#[32, 13]⟩ : ByteArray)] : List ByteArray) : List ByteArray)).bind fun y163 => (if 0 ≤ (Int.tmod (rd x1 x37) 6) then (if (Int.tmod (rd x1 x37) 6) < (y163.length : Int) then (if ((rd_T33 x35 x37).f1).size + (rdOf ByteArray.empty y163 (Int.tmod (rd x1 x37) 6)).size ≤ 9223372036854775807 then (if x8.size + (((rd_T33 x35 x37).f1) ++ (rdOf ByteArray.empty y163 (Int.tmod (rd x1 x37) 6))).size ≤ 9223372036854775807 then (jigsawlaw05_LexBack.l0 k x1 x5 (x8 ++ (((rd_T33 x35 x37).f1) ++ (rdOf ByteArray.empty y163 (Int.tmod (rd x1 x37) 6)))) x35 x36 (wrap64 (x37 + 1))) else (none)) else (none)) else (none)) else (none))) else ((some (([(⟨#[32]⟩ : ByteArray), (⟨#[10]⟩ : ByteArray), (⟨#[9, 32]⟩ : ByteArray), (⟨#[37, 32, 194, 167, 255, 10]⟩ : ByteArray), (⟨#[37, 10, 37, 37, 13, 10]⟩ : ByteArray), (⟨#[32, 13]⟩ : ByteArray)] : List ByteArray) : List ByteArray)).bind fun y167 => (if 0 ≤ ((0 : Int) % 6) then (if ((0 : Int) % 6) < (y167.length : Int) then (if ((rd_T33 x35 x37).f1).size + (rdOf ByteArray.empty y167 ((0 : Int) % 6)).size ≤ 9223372036854775807 then (if x8.size + (((rd_T33 x35 x37).f1) ++ (rdOf ByteArray.empty y167 ((0 : Int) % 6))).size ≤ 9223372036854775807 then (jigsawlaw05_LexBack.l0 k x1 x5 (x8 ++ (((rd_T33 x35 x37).f1) ++ (rdOf ByteArray.empty y167 ((0 : Int) % 6)))) x35 x36 (wrap64 (x37 + 1))) else (none)) else (none)) else (none)) else (none)))) else (none)) else (none)) else ((lex_Lex.f k x8).bind fun bt171 => ((jigsawlaw05_wakes.f k).bind fun t176 => (if t176 = true then (if bt171.2.2 = 0 then (jigsawlaw05_LexBack.j1 k x5 x8 bt171.1 ((bt171.1.length : Int) != (x5.length : Int))) else (jigsawlaw05_LexBack.j1 k x5 x8 bt171.1 true)) else (jigsawlaw05_LexBack.j1 k x5 x8 bt171.1 true))))
def jigsawlaw05_LexBack.j1 : Nat → List (S33) → ByteArray → List (S33) → Bool → Option (Bool)
 | 0, _, _, _, _ => none
 | k + 1, x5, x8, x12, x79 => if x79 = true then (some false) else (jigsawlaw05_LexBack.l1 k x5 x8 x12 (x12.length : Int) 0)
def jigsawlaw05_LexBack.l1 : Nat → List (S33) → ByteArray → List (S33) → Int → Int → Option (Bool)
 | 0, _, _, _, _, _ => none
 | k + 1, x5, x8, x80, x81, x82 => if x82 < x81 then (if 0 ≤ x82 then (if x82 < (x80.length : Int) then (if x82 < (x5.length : Int) then (if ((rd_T33 x80 x82).f0) = ((rd_T33 x5 x82).f0) then (if ((rd_T33 x80 x82).f1).toList = ((rd_T33 x5 x82).f1).toList then (if ((rd_T33 x80 x82).f2) = ((rd_T33 x5 x82).f2) then (if ((rd_T33 x80 x82).f3) < 0 then (some false) else (if (wrap64 (((rd_T33 x80 x82).f3) + (((rd_T33 x80 x82).f1).size : Int))) > (x8.size : Int) then (some false) else (if 0 ≤ ((rd_T33 x80 x82).f3) then (if ((rd_T33 x80 x82).f3) ≤ (wrap64 (((rd_T33 x80 x82).f3) + (((rd_T33 x80 x82).f1).size : Int))) then (if (wrap64 (((rd_T33 x80 x82).f3) + (((rd_T33 x80 x82).f1).size : Int))) ≤ (x8.size : Int) then (if (x8.extract (((rd_T33 x80 x82).f3) : Int).toNat ((wrap64 (((rd_T33 x80 x82).f3) + (((rd_T33 x80 x82).f1).size : Int))) : Int).toNat).toList = ((rd_T33 x80 x82).f1).toList then (jigsawlaw05_LexBack.l1 k x5 x8 x80 x81 (wrap64 (x82 + 1))) else (some false)) else (none)) else (none)) else (none)))) else (some false)) else (some false)) else (some false)) else (none)) else (none)) else (none)) else (some true)
end
def jigsawlaw05_LexBack.f (k : Nat) (a0 : ByteArray) (l1 : List Int) : Option (Bool) := if 0 ≤ (mn (a0.size : Int) 500) then (if (mn (a0.size : Int) 500) ≤ (a0.size : Int) then ((lex_Lex.f k (a0.extract 0 ((mn (a0.size : Int) 500) : Int).toNat)).bind fun bt154 => (if bt154.2.2 = 0 then (jigsawlaw05_LexBack.l0 k l1 bt154.1 (⟨#[]⟩ : ByteArray) bt154.1 (bt154.1.length : Int) 0) else ((jigsawlaw05_wakes.f k).bind fun t159 => (if t159 = true then (some ((bt154.1.length : Int) == 0)) else (some false))))) else (none)) else (none)
theorem jigsawlaw05_LexBack.mono_l : ∀ k, (∀ y0 y1 y2 y3 y4 y5, LeO (jigsawlaw05_LexBack.l0 k y0 y1 y2 y3 y4 y5) (jigsawlaw05_LexBack.l0 (k + 1) y0 y1 y2 y3 y4 y5)) ∧ (∀ y0 y1 y2 y3, LeO (jigsawlaw05_LexBack.j1 k y0 y1 y2 y3) (jigsawlaw05_LexBack.j1 (k + 1) y0 y1 y2 y3)) ∧ (∀ y0 y1 y2 y3 y4, LeO (jigsawlaw05_LexBack.l1 k y0 y1 y2 y3 y4) (jigsawlaw05_LexBack.l1 (k + 1) y0 y1 y2 y3 y4))
 | 0 => ⟨fun _ _ _ _ _ _ r h => by simp [jigsawlaw05_LexBack.l0] at h, fun _ _ _ _ r h => by simp [jigsawlaw05_LexBack.j1] at h, fun _ _ _ _ _ r h => by simp [jigsawlaw05_LexBack.l1] at h⟩
 | k + 1 => by
  obtain ⟨ih0, ih1, ih2⟩ := jigsawlaw05_LexBack.mono_l k
  refine ⟨?_, ?_, ?_⟩
  ·intro y0 y1 y2 y3 y4 y5
   unfold jigsawlaw05_LexBack.l0
   repeat' first
   | (with_reducible exact ih0 _ _ _ _ _ _)
   | (with_reducible exact ih1 _ _ _ _)
   | (with_reducible exact ih2 _ _ _ _ _)
   | (with_reducible exact jigsawlaw05_wakes.mono _)
   | (with_reducible exact lex_Lex.mono _ _)
   | (with_reducible exact LeO.refl _)
   | (with_reducible exact LeO.none _)
   | (with_reducible refine LeO.ite ?_ ?_)
   | (with_reducible refine LeO.bind ?_ (fun _ => ?_))
   | exact ih0 _ _ _ _ _ _
   | exact ih1 _ _ _ _
   | exact ih2 _ _ _ _ _
   | exact jigsawlaw05_wakes.mono _
   | exact lex_Lex.mono _ _
   | exact LeO.none _
   | refine LeO.ite ?_ ?_
   | refine LeO.bind ?_ (fun _ => ?_)
  ·intro y0 y1 y2 y3
   unfold jigsawlaw05_LexBack.j1
   repeat' first
   | (with_reducible exact ih0 _ _ _ _ _ _)
   | (with_reducible exact ih1 _ _ _ _)
   | (with_reducible exact ih2 _ _ _ _ _)
   | (with_reducible exact jigsawlaw05_wakes.mono _)
   | (with_reducible exact lex_Lex.mono _ _)
   | (with_reducible exact LeO.refl _)
   | (with_reducible exact LeO.none _)
   | (with_reducible refine LeO.ite ?_ ?_)
   | (with_reducible refine LeO.bind ?_ (fun _ => ?_))
   | exact ih0 _ _ _ _ _ _
   | exact ih1 _ _ _ _
   | exact ih2 _ _ _ _ _
   | exact jigsawlaw05_wakes.mono _
   | exact lex_Lex.mono _ _
   | exact LeO.none _
   | refine LeO.ite ?_ ?_
   | refine LeO.bind ?_ (fun _ => ?_)
  ·intro y0 y1 y2 y3 y4
   unfold jigsawlaw05_LexBack.l1
   repeat' first
   | (with_reducible exact ih0 _ _ _ _ _ _)
   | (with_reducible exact ih1 _ _ _ _)
   | (with_reducible exact ih2 _ _ _ _ _)
   | (with_reducible exact jigsawlaw05_wakes.mono _)
   | (with_reducible exact lex_Lex.mono _ _)
   | (with_reducible exact LeO.refl _)
   | (with_reducible exact LeO.none _)
   | (with_reducible refine LeO.ite ?_ ?_)
   | (with_reducible refine LeO.bind ?_ (fun _ => ?_))
   | exact ih0 _ _ _ _ _ _
   | exact ih1 _ _ _ _
   | exact ih2 _ _ _ _ _
   | exact jigsawlaw05_wakes.mono _
   | exact lex_Lex.mono _ _
   | exact LeO.none _
   | refine LeO.ite ?_ ?_
   | refine LeO.bind ?_ (fun _ => ?_)
theorem jigsawlaw05_LexBack.mono : ∀ a0 a1 k, LeO (jigsawlaw05_LexBack.f k a0 a1) (jigsawlaw05_LexBack.f (k + 1) a0 a1) := by
 intro a0 a1 k
 obtain ⟨ih0, ih1, ih2⟩ := jigsawlaw05_LexBack.mono_l k
 unfold jigsawlaw05_LexBack.f
 repeat' first
   | (with_reducible exact ih0 _ _ _ _ _ _)
   | (with_reducible exact ih1 _ _ _ _)
   | (with_reducible exact ih2 _ _ _ _ _)
   | (with_reducible exact jigsawlaw05_wakes.mono _)
   | (with_reducible exact lex_Lex.mono _ _)
   | (with_reducible exact LeO.refl _)
   | (with_reducible exact LeO.none _)
   | (with_reducible refine LeO.ite ?_ ?_)
   | (with_reducible refine LeO.bind ?_ (fun _ => ?_))
   | exact ih0 _ _ _ _ _ _
   | exact ih1 _ _ _ _
   | exact ih2 _ _ _ _ _
   | exact jigsawlaw05_wakes.mono _
   | exact lex_Lex.mono _ _
   | exact LeO.none _
   | refine LeO.ite ?_ ?_
   | refine LeO.bind ?_ (fun _ => ?_)
def jigsawlaw05_LexBack.T11 : Bool × List (List Nat × List Nat) := (true, [([], []), ([], []), ([1], [1]), ([], []), ([], []), ([4], [4]), ([3, 5], [3, 5]), ([6], [6]), ([2, 7], [2, 7]), ([0, 8], [0, 8]), ([9, 0, 1, 2, 3, 4, 5, 6, 7, 8, 9], [0, 9])])
def jigsawlaw05_LexBack.B11 : List Nat := [0, 0, 2, 0, 0, 16, 56, 120, 254, 511, 1023]
theorem jigsawlaw05_LexBack.tab11 : rtab .any (opsOf Tryd.f5 11) = jigsawlaw05_LexBack.T11 := by kernel_rfl
theorem jigsawlaw05_LexBack.bits11 : waitsOk jigsawlaw05_LexBack.T11.2 jigsawlaw05_LexBack.B11 = true := by kernel_rfl
def jigsawlaw05_LexBack.T19 : Bool × List (List Nat × List Nat) := (true, [([], []), ([0], [0]), ([], []), ([], []), ([2, 3], [2, 3]), ([4], [4]), ([5], [5]), ([1, 6], [1, 6]), ([7], [7]), ([8], [8]), ([9, 8], [8, 9]), ([8], [8]), ([8], [8]), ([11, 12, 8], [8, 11, 12]), ([13, 8], [8, 13]), ([14, 8], [8, 14]), ([10, 15, 8], [8, 10, 15]), ([8, 16], [8, 16]), ([17, 8], [17]), ([18], [18]), ([19, 18], [18, 19]), ([18], [18]), ([18], [18]), ([21, 22, 18], [18, 21, 22]), ([23, 18], [18, 23]), ([24, 18], [18, 24]), ([20, 25, 18], [18, 20, 25]), ([18, 26], [18, 26]), ([27, 18], [27]), ([28], [28]), ([29, 28], [28, 29]), ([30, 28], [28, 30]), ([28, 31], [28, 31]), ([32, 28], [32]), ([33], [33]), ([34, 33], [33, 34]), ([33], [33]), ([36, 33], [33, 36]), ([37, 33], [33, 37]), ([35, 38, 33], [33, 35, 38]), ([33], [33]), ([40, 33], [33, 40]), ([39, 41, 33], [33, 39, 41]), ([33, 42], [33, 42]), ([43, 33], [43]), ([44], [44]), ([44], [44]), ([46, 44], [44, 46]), ([44], [44]), ([48, 44], [44, 48]), ([44], [44]), ([50, 44], [44, 50]), ([51, 44], [44, 51]), ([49, 52, 44], [44, 49, 52]), ([45, 47, 53, 44], [44, 45, 47, 53]), ([44], [44]), ([55, 44], [44, 55]), ([54, 56, 44], [44, 54, 56]), ([44, 57], [44, 57])])
def jigsawlaw05_LexBack.B19 : List Nat := [0, 1, 0, 0, 12, 28, 60, 127, 255, 511, 1023, 511, 511, 6655, 14847, 31231, 65535, 131071, 262143, 524287, 1048575, 524287, 524287, 6815743, 15204351, 31981567, 67108863, 134217727, 268435455, 536870911, 1073741823, 2147483647, 4294967295, 8589934591, 17179869183, 34359738367, 17179869183, 85899345919, 223338299391, 549755813887, 17179869183, 1116691496959, 4398046511103, 8796093022207, 17592186044415, 35184372088831, 35184372088831, 105553116266495, 35184372088831, 316659348799487, 35184372088831, 1161084278931455, 3412884092616703, 8760908650119167, 18014398509481983, 35184372088831, 36063981391052799, 144115188075855871, 288230376151711743]
theorem jigsawlaw05_LexBack.tab19 : rtab .any (opsOf Tryd.f5 19) = jigsawlaw05_LexBack.T19 := by kernel_rfl
theorem jigsawlaw05_LexBack.bits19 : waitsOk jigsawlaw05_LexBack.T19.2 jigsawlaw05_LexBack.B19 = true := by kernel_rfl
abbrev LB0 : Array Bool := #[true, true, true, true, true, true, true, true, true, true, true]
abbrev LB1 : Array Bool := #[true, true, true, true, true, true, true, true, true, true, false]
abbrev LB2 : Array Bool := #[true, true, true, true, true, true, true, true, true, false, false]
abbrev LB3 : Array Bool := #[true, true, true, true, true, true, true, true, false, false, false]
abbrev LB4 : Array Bool := #[true, true, true, true, true, true, true, false, false, false, false]
abbrev LB5 : Array Bool := #[true, true, true, true, true, true, false, false, false, false, false]
abbrev LB6 : Array Bool := #[true, true, true, false, true, true, false, false, false, false, false]
abbrev LB7 : Array Bool := #[true, true, false, false, true, true, false, false, false, false, false]
abbrev LB8 : Array Bool := #[true, true, false, false, true, false, false, false, false, false, false]
abbrev LB9 : Array Bool := #[true, true, false, false, false, false, false, false, false, false, false]
abbrev LB10 : Array Bool := #[true, false, false, false, false, false, false, false, false, false, false]
abbrev LB11 : Array Bool := #[false, false, false, false, false, false, false, false, false, false, false]
abbrev LB12 : Array Bool := #[true, true, true, true, true, true, true, true, true, true, true, true, true, true, true, true, true, true, true, true, true, true, true, true, true, true, true, true, true, true, true, true, true, true, true, true, true, true, true, true, true, true, true, true, true, true, true, true, true, true, true, true, true, true, true, true, true, true, true]
abbrev LB13 : Array Bool := #[true, true, true, true, true, true, true, true, true, true, true, true, true, true, true, true, true, true, true, true, true, true, true, true, true, true, true, true, true, true, true, true, true, true, true, true, true, true, true, true, true, true, true, true, true, true, true, true, true, true, true, true, true, true, true, true, true, true, false]
abbrev LB14 : Array Bool := #[true, true, true, true, true, true, true, true, true, true, true, true, true, true, true, true, true, true, true, true, true, true, true, true, true, true, true, true, true, true, true, true, true, true, true, true, true, true, true, true, true, true, true, true, true, true, true, true, true, true, true, true, true, true, true, true, true, false, false]
abbrev LB15 : Array Bool := #[true, true, true, true, true, true, true, true, true, true, true, true, true, true, true, true, true, true, true, true, true, true, true, true, true, true, true, true, true, true, true, true, true, true, true, true, true, true, true, true, true, true, true, true, true, true, true, true, true, true, true, true, true, true, true, true, false, false, false]
abbrev LB16 : Array Bool := #[true, true, true, true, true, true, true, true, true, true, true, true, true, true, true, true, true, true, true, true, true, true, true, true, true, true, true, true, true, true, true, true, true, true, true, true, true, true, true, true, true, true, true, true, true, true, true, true, true, true, true, true, true, true, false, true, false, false, false]
abbrev LB17 : Array Bool := #[true, true, true, true, true, true, true, true, true, true, true, true, true, true, true, true, true, true, true, true, true, true, true, true, true, true, true, true, true, true, true, true, true, true, true, true, true, true, true, true, true, true, true, true, true, true, true, true, true, true, true, true, true, true, true, false, false, false, false]
abbrev LB18 : Array Bool := #[true, true, true, true, true, true, true, true, true, true, true, true, true, true, true, true, true, true, true, true, true, true, true, true, true, true, true, true, true, true, true, true, true, true, true, true, true, true, true, true, true, true, true, true, true, true, true, true, true, true, true, true, true, false, false, true, false, false, false]
abbrev LB19 : Array Bool := #[true, true, true, true, true, true, true, true, true, true, true, true, true, true, true, true, true, true, true, true, true, true, true, true, true, true, true, true, true, true, true, true, true, true, true, true, true, true, true, true, true, true, true, true, true, true, true, true, true, true, true, true, true, true, false, false, false, false, false]
abbrev LB20 : Array Bool := #[true, true, true, true, true, true, true, true, true, true, true, true, true, true, true, true, true, true, true, true, true, true, true, true, true, true, true, true, true, true, true, true, true, true, true, true, true, true, true, true, true, true, true, true, true, true, true, true, true, true, true, true, false, false, false, true, false, false, false]
abbrev LB21 : Array Bool := #[true, true, true, true, true, true, true, true, true, true, true, true, true, true, true, true, true, true, true, true, true, true, true, true, true, true, true, true, true, true, true, true, true, true, true, true, true, true, true, true, true, true, true, true, true, true, true, true, true, true, true, true, true, false, false, false, false, false, false]
abbrev LB22 : Array Bool := #[true, true, true, true, true, true, true, true, true, true, true, true, true, true, true, true, true, true, true, true, true, true, true, true, true, true, true, true, true, true, true, true, true, true, true, true, true, true, true, true, true, true, true, true, true, true, true, true, true, true, true, true, false, false, false, false, false, false, false]
abbrev LB23 : Array Bool := #[true, true, true, true, true, true, true, true, true, true, true, true, true, true, true, true, true, true, true, true, true, true, true, true, true, true, true, true, true, true, true, true, true, true, true, true, true, true, true, true, true, true, true, true, true, true, true, true, true, true, true, false, false, false, false, true, false, false, false]
abbrev LB24 : Array Bool := #[true, true, true, true, true, true, true, true, true, true, true, true, true, true, true, true, true, true, true, true, true, true, true, true, true, true, true, true, true, true, true, true, true, true, true, true, true, true, true, true, true, true, true, true, true, true, true, true, true, false, true, false, false, false, false, true, false, false, false]
abbrev LB25 : Array Bool := #[true, true, true, true, true, true, true, true, true, true, true, true, true, true, true, true, true, true, true, true, true, true, true, true, true, true, true, true, true, true, true, true, true, true, true, true, true, true, true, true, true, true, true, true, true, true, true, true, true, true, true, false, false, false, false, false, false, false, false]
abbrev LB26 : Array Bool := #[true, true, true, true, true, true, true, true, true, true, true, true, true, true, true, true, true, true, true, true, true, true, true, true, true, true, true, true, true, true, true, true, true, true, true, true, true, true, true, true, true, true, true, true, true, true, true, true, true, true, false, false, false, false, false, false, false, false, false]
abbrev LB27 : Array Bool := #[true, true, true, true, true, true, true, true, true, true, true, true, true, true, true, true, true, true, true, true, true, true, true, true, true, true, true, true, true, true, true, true, true, true, true, true, true, true, true, true, true, true, true, true, true, true, true, false, true, false, true, false, false, false, false, true, false, false, false]
abbrev LB28 : Array Bool := #[true, true, true, true, true, true, true, true, true, true, true, true, true, true, true, true, true, true, true, true, true, true, true, true, true, true, true, true, true, true, true, true, true, true, true, true, true, true, true, true, true, true, true, true, true, true, true, true, true, false, false, false, false, false, false, false, false, false, false]
abbrev LB29 : Array Bool := #[true, true, true, true, true, true, true, true, true, true, true, true, true, true, true, true, true, true, true, true, true, true, true, true, true, true, true, true, true, true, true, true, true, true, true, true, true, true, true, true, true, true, true, true, true, true, true, false, true, false, true, false, false, false, false, false, false, false, false]
abbrev LB30 : Array Bool := #[true, true, true, true, true, true, true, true, true, true, true, true, true, true, true, true, true, true, true, true, true, true, true, true, true, true, true, true, true, true, true, true, true, true, true, true, true, true, true, true, true, true, true, true, true, true, true, false, true, false, false, false, false, false, false, false, false, false, false]
abbrev LB31 : Array Bool := #[true, true, true, true, true, true, true, true, true, true, true, true, true, true, true, true, true, true, true, true, true, true, true, true, true, true, true, true, true, true, true, true, true, true, true, true, true, true, true, true, true, true, true, true, true, true, true, true, false, false, false, false, false, false, false, false, false, false, false]
abbrev LB32 : Array Bool := #[true, true, true, true, true, true, true, true, true, true, true, true, true, true, true, true, true, true, true, true, true, true, true, true, true, true, true, true, true, true, true, true, true, true, true, true, true, true, true, true, true, true, true, true, true, true, true, false, false, false, false, false, false, false, false, false, false, false, false]
abbrev LB33 : Array Bool := #[true, true, true, true, true, true, true, true, true, true, true, true, true, true, true, true, true, true, true, true, true, true, true, true, true, true, true, true, true, true, true, true, true, true, true, true, true, true, true, true, true, true, true, true, true, true, false, false, false, false, false, false, false, false, false, false, false, false, false]
abbrev LB34 : Array Bool := #[true, true, true, true, true, true, true, true, true, true, true, true, true, true, true, true, true, true, true, true, true, true, true, true, true, true, true, true, true, true, true, true, true, true, true, true, true, true, true, true, true, true, true, true, true, false, false, false, false, false, false, false, false, false, false, false, false, false, false]
abbrev LB35 : Array Bool := #[true, true, true, true, true, true, true, true, true, true, true, true, true, true, true, true, true, true, true, true, true, true, true, true, true, true, true, true, true, true, true, true, true, true, true, true, true, true, true, true, true, true, true, true, false, false, false, false, false, false, false, false, false, false, false, false, false, false, false]
abbrev LB36 : Array Bool := #[true, true, true, true, true, true, true, true, true, true, true, true, true, true, true, true, true, true, true, true, true, true, true, true, true, true, true, true, true, true, true, true, true, true, true, true, true, true, true, true, true, true, true, false, false, false, false, false, false, false, false, false, false, false, false, false, false, false, false]
abbrev LB37 : Array Bool := #[true, true, true, true, true, true, true, true, true, true, true, true, true, true, true, true, true, true, true, true, true, true, true, true, true, true, true, true, true, true, true, true, true, true, true, true, true, true, true, true, true, true, false, false, false, false, false, false, false, false, false, false, false, false, false, false, false, false, false]
abbrev LB38 : Array Bool := #[true, true, true, true, true, true, true, true, true, true, true, true, true, true, true, true, true, true, true, true, true, true, true, true, true, true, true, true, true, true, true, true, true, true, true, true, true, true, true, true, true, false, false, false, false, false, false, false, false, false, false, false, false, false, false, false, false, false, false]
abbrev LB39 : Array Bool := #[true, true, true, true, true, true, true, true, true, true, true, true, true, true, true, true, true, true, true, true, true, true, true, true, true, true, true, true, true, true, true, true, true, true, true, true, true, true, true, false, true, true, false, false, false, false, false, false, false, false, false, false, false, false, false, false, false, false, false]
abbrev LB40 : Array Bool := #[true, true, true, true, true, true, true, true, true, true, true, true, true, true, true, true, true, true, true, true, true, true, true, true, true, true, true, true, true, true, true, true, true, true, true, true, true, true, true, true, false, false, false, false, false, false, false, false, false, false, false, false, false, false, false, false, false, false, false]
abbrev LB41 : Array Bool := #[true, true, true, true, true, true, true, true, true, true, true, true, true, true, true, true, true, true, true, true, true, true, true, true, true, true, true, true, true, true, true, true, true, true, true, true, true, true, false, false, true, true, false, false, false, false, false, false, false, false, false, false, false, false, false, false, false, false, false]
abbrev LB42 : Array Bool := #[true, true, true, true, true, true, true, true, true, true, true, true, true, true, true, true, true, true, true, true, true, true, true, true, true, true, true, true, true, true, true, true, true, true, true, true, true, false, false, false, true, true, false, false, false, false, false, false, false, false, false, false, false, false, false, false, false, false, false]
abbrev LB43 : Array Bool := #[true, true, true, true, true, true, true, true, true, true, true, true, true, true, true, true, true, true, true, true, true, true, true, true, true, true, true, true, true, true, true, true, true, true, true, true, true, true, true, false, false, false, false, false, false, false, false, false, false, false, false, false, false, false, false, false, false, false, false]
abbrev LB44 : Array Bool := #[true, true, true, true, true, true, true, true, true, true, true, true, true, true, true, true, true, true, true, true, true, true, true, true, true, true, true, true, true, true, true, true, true, true, true, false, true, false, false, false, true, true, false, false, false, false, false, false, false, false, false, false, false, false, false, false, false, false, false]
abbrev LB45 : Array Bool := #[true, true, true, true, true, true, true, true, true, true, true, true, true, true, true, true, true, true, true, true, true, true, true, true, true, true, true, true, true, true, true, true, true, true, true, true, true, true, false, false, false, false, false, false, false, false, false, false, false, false, false, false, false, false, false, false, false, false, false]
abbrev LB46 : Array Bool := #[true, true, true, true, true, true, true, true, true, true, true, true, true, true, true, true, true, true, true, true, true, true, true, true, true, true, true, true, true, true, true, true, true, true, true, false, true, false, false, false, true, false, false, false, false, false, false, false, false, false, false, false, false, false, false, false, false, false, false]
abbrev LB47 : Array Bool := #[true, true, true, true, true, true, true, true, true, true, true, true, true, true, true, true, true, true, true, true, true, true, true, true, true, true, true, true, true, true, true, true, true, true, true, true, true, false, false, false, false, false, false, false, false, false, false, false, false, false, false, false, false, false, false, false, false, false, false]
abbrev LB48 : Array Bool := #[true, true, true, true, true, true, true, true, true, true, true, true, true, true, true, true, true, true, true, true, true, true, true, true, true, true, true, true, true, true, true, true, true, true, true, false, true, false, false, false, false, false, false, false, false, false, false, false, false, false, false, false, false, false, false, false, false, false, false]
abbrev LB49 : Array Bool := #[true, true, true, true, true, true, true, true, true, true, true, true, true, true, true, true, true, true, true, true, true, true, true, true, true, true, true, true, true, true, true, true, true, true, true, true, false, false, false, false, false, false, false, false, false, false, false, false, false, false, false, false, false, false, false, false, false, false, false]
abbrev LB50 : Array Bool := #[true, true, true, true, true, true, true, true, true, true, true, true, true, true, true, true, true, true, true, true, true, true, true, true, true, true, true, true, true, true, true, true, true, true, true, false, false, false, false, false, false, false, false, false, false, false, false, false, false, false, false, false, false, false, false, false, false, false, false]
abbrev LB51 : Array Bool := #[true, true, true, true, true, true, true, true, true, true, true, true, true, true, true, true, true, true, true, true, true, true, true, true, true, true, true, true, true, true, true, true, true, true, false, false, false, false, false, false, false, false, false, false, false, false, false, false, false, false, false, false, false, false, false, false, false, false, false]
abbrev LB52 : Array Bool := #[true, true, true, true, true, true, true, true, true, true, true, true, true, true, true, true, true, true, true, true, true, true, true, true, true, true, true, true, true, true, true, true, true, false, false, false, false, false, false, false, false, false, false, false, false, false, false, false, false, false, false, false, false, false, false, false, false, false, false]
abbrev LB53 : Array Bool := #[true, true, true, true, true, true, true, true, true, true, true, true, true, true, true, true, true, true, true, true, true, true, true, true, true, true, true, true, true, true, true, true, false, false, false, false, false, false, false, false, false, false, false, false, false, false, false, false, false, false, false, false, false, false, false, false, false, false, false]
abbrev LB54 : Array Bool := #[true, true, true, true, true, true, true, true, true, true, true, true, true, true, true, true, true, true, true, true, true, true, true, true, true, true, true, true, true, true, true, false, false, false, false, false, false, false, false, false, false, false, false, false, false, false, false, false, false, false, false, false, false, false, false, false, false, false, false]
abbrev LB55 : Array Bool := #[true, true, true, true, true, true, true, true, true, true, true, true, true, true, true, true, true, true, true, true, true, true, true, true, true, true, true, true, true, true, false, false, false, false, false, false, false, false, false, false, false, false, false, false, false, false, false, false, false, false, false, false, false, false, false, false, false, false, false]
abbrev LB56 : Array Bool := #[true, true, true, true, true, true, true, true, true, true, true, true, true, true, true, true, true, true, true, true, true, true, true, true, true, true, true, true, true, false, false, false, false, false, false, false, false, false, false, false, false, false, false, false, false, false, false, false, false, false, false, false, false, false, false, false, false, false, false]
abbrev LB57 : Array Bool := #[true, true, true, true, true, true, true, true, true, true, true, true, true, true, true, true, true, true, true, true, true, true, true, true, true, true, true, true, false, false, false, false, false, false, false, false, false, false, false, false, false, false, false, false, false, false, false, false, false, false, false, false, false, false, false, false, false, false, false]
abbrev LB58 : Array Bool := #[true, true, true, true, true, true, true, true, true, true, true, true, true, true, true, true, true, true, true, true, true, true, true, true, true, true, true, false, false, false, false, false, false, false, false, false, false, false, false, false, false, false, false, false, false, false, false, false, false, false, false, false, false, false, false, false, false, false, false]
abbrev LB59 : Array Bool := #[true, true, true, true, true, true, true, true, true, true, true, true, true, true, true, true, true, true, true, true, true, true, true, true, true, true, false, false, false, false, false, false, false, false, false, false, false, false, false, false, false, false, false, false, false, false, false, false, false, false, false, false, false, false, false, false, false, false, false]
abbrev LB60 : Array Bool := #[true, true, true, true, true, true, true, true, true, true, true, true, true, true, true, true, true, true, true, true, true, true, true, true, true, false, false, false, false, false, false, false, false, false, false, false, false, false, false, false, false, false, false, false, false, false, false, false, false, false, false, false, false, false, false, false, false, false, false]
abbrev LB61 : Array Bool := #[true, true, true, true, true, true, true, true, true, true, true, true, true, true, true, true, true, true, true, true, false, true, true, true, true, false, false, false, false, false, false, false, false, false, false, false, false, false, false, false, false, false, false, false, false, false, false, false, false, false, false, false, false, false, false, false, false, false, false]
abbrev LB62 : Array Bool := #[true, true, true, true, true, true, true, true, true, true, true, true, true, true, true, true, true, true, true, true, true, true, true, true, false, false, false, false, false, false, false, false, false, false, false, false, false, false, false, false, false, false, false, false, false, false, false, false, false, false, false, false, false, false, false, false, false, false, false]
abbrev LB63 : Array Bool := #[true, true, true, true, true, true, true, true, true, true, true, true, true, true, true, true, true, true, true, true, true, true, true, false, false, false, false, false, false, false, false, false, false, false, false, false, false, false, false, false, false, false, false, false, false, false, false, false, false, false, false, false, false, false, false, false, false, false, false]
abbrev LB64 : Array Bool := #[true, true, true, true, true, true, true, true, true, true, true, true, true, true, true, true, true, true, true, true, false, true, true, true, false, false, false, false, false, false, false, false, false, false, false, false, false, false, false, false, false, false, false, false, false, false, false, false, false, false, false, false, false, false, false, false, false, false, false]
abbrev LB65 : Array Bool := #[true, true, true, true, true, true, true, true, true, true, true, true, true, true, true, true, true, true, true, true, true, true, false, false, false, false, false, false, false, false, false, false, false, false, false, false, false, false, false, false, false, false, false, false, false, false, false, false, false, false, false, false, false, false, false, false, false, false, false]
abbrev LB66 : Array Bool := #[true, true, true, true, true, true, true, true, true, true, true, true, true, true, true, true, true, true, true, true, false, true, true, false, false, false, false, false, false, false, false, false, false, false, false, false, false, false, false, false, false, false, false, false, false, false, false, false, false, false, false, false, false, false, false, false, false, false, false]
abbrev LB67 : Array Bool := #[true, true, true, true, true, true, true, true, true, true, true, true, true, true, true, true, true, true, true, true, false, true, false, false, false, false, false, false, false, false, false, false, false, false, false, false, false, false, false, false, false, false, false, false, false, false, false, false, false, false, false, false, false, false, false, false, false, false, false]
abbrev LB68 : Array Bool := #[true, true, true, true, true, true, true, true, true, true, true, true, true, true, true, true, true, true, true, true, true, false, false, false, false, false, false, false, false, false, false, false, false, false, false, false, false, false, false, false, false, false, false, false, false, false, false, false, false, false, false, false, false, false, false, false, false, false, false]
abbrev LB69 : Array Bool := #[true, true, true, true, true, true, true, true, true, true, true, true, true, true, true, true, true, true, true, true, false, false, false, false, false, false, false, false, false, false, false, false, false, false, false, false, false, false, false, false, false, false, false, false, false, false, false, false, false, false, false, false, false, false, false, false, false, false, false]
abbrev LB70 : Array Bool := #[true, true, true, true, true, true, true, true, true, true, true, true, true, true, true, true, true, true, true, false, false, false, false, false, false, false, false, false, false, false, false, false, false, false, false, false, false, false, false, false, false, false, false, false, false, false, false, false, false, false, false, false, false, false, false, false, false, false, false]
abbrev LB71 : Array Bool := #[true, true, true, true, true, true, true, true, true, true, true, true, true, true, true, true, true, true, false, false, false, false, false, false, false, false, false, false, false, false, false, false, false, false, false, false, false, false, false, false, false, false, false, false, false, false, false, false, false, false, false, false, false, false, false, false, false, false, false]
abbrev LB72 : Array Bool := #[true, true, true, true, true, true, true, true, true, true, true, true, true, true, true, true, true, false, false, false, false, false, false, false, false, false, false, false, false, false, false, false, false, false, false, false, false, false, false, false, false, false, false, false, false, false, false, false, false, false, false, false, false, false, false, false, false, false, false]
abbrev LB73 : Array Bool := #[true, true, true, true, true, true, true, true, true, true, true, true, true, true, true, true, false, false, false, false, false, false, false, false, false, false, false, false, false, false, false, false, false, false, false, false, false, false, false, false, false, false, false, false, false, false, false, false, false, false, false, false, false, false, false, false, false, false, false]
abbrev LB74 : Array Bool := #[true, true, true, true, true, true, true, true, true, true, true, true, true, true, true, false, false, false, false, false, false, false, false, false, false, false, false, false, false, false, false, false, false, false, false, false, false, false, false, false, false, false, false, false, false, false, false, false, false, false, false, false, false, false, false, false, false, false, false]
abbrev LB75 : Array Bool := #[true, true, true, true, true, true, true, true, true, true, false, true, true, true, true, false, false, false, false, false, false, false, false, false, false, false, false, false, false, false, false, false, false, false, false, false, false, false, false, false, false, false, false, false, false, false, false, false, false, false, false, false, false, false, false, false, false, false, false]
abbrev LB76 : Array Bool := #[true, true, true, true, true, true, true, true, true, true, true, true, true, true, false, false, false, false, false, false, false, false, false, false, false, false, false, false, false, false, false, false, false, false, false, false, false, false, false, false, false, false, false, false, false, false, false, false, false, false, false, false, false, false, false, false, false, false, false]
abbrev LB77 : Array Bool := #[true, true, true, true, true, true, true, true, true, true, false, true, true, true, false, false, false, false, false, false, false, false, false, false, false, false, false, false, false, false, false, false, false, false, false, false, false, false, false, false, false, false, false, false, false, false, false, false, false, false, false, false, false, false, false, false, false, false, false]
abbrev LB78 : Array Bool := #[true, true, true, true, true, true, true, true, true, true, true, true, true, false, false, false, false, false, false, false, false, false, false, false, false, false, false, false, false, false, false, false, false, false, false, false, false, false, false, false, false, false, false, false, false, false, false, false, false, false, false, false, false, false, false, false, false, false, false]
abbrev LB79 : Array Bool := #[true, true, true, true, true, true, true, true, true, true, true, true, false, false, false, false, false, false, false, false, false, false, false, false, false, false, false, false, false, false, false, false, false, false, false, false, false, false, false, false, false, false, false, false, false, false, false, false, false, false, false, false, false, false, false, false, false, false, false]
abbrev LB80 : Array Bool := #[true, true, true, true, true, true, true, true, true, true, false, true, true, false, false, false, false, false, false, false, false, false, false, false, false, false, false, false, false, false, false, false, false, false, false, false, false, false, false, false, false, false, false, false, false, false, false, false, false, false, false, false, false, false, false, false, false, false, false]
abbrev LB81 : Array Bool := #[true, true, true, true, true, true, true, true, true, true, true, false, false, false, false, false, false, false, false, false, false, false, false, false, false, false, false, false, false, false, false, false, false, false, false, false, false, false, false, false, false, false, false, false, false, false, false, false, false, false, false, false, false, false, false, false, false, false, false]
abbrev LB82 : Array Bool := #[true, true, true, true, true, true, true, true, true, true, false, true, false, false, false, false, false, false, false, false, false, false, false, false, false, false, false, false, false, false, false, false, false, false, false, false, false, false, false, false, false, false, false, false, false, false, false, false, false, false, false, false, false, false, false, false, false, false, false]
abbrev LB83 : Array Bool := #[true, true, true, true, true, true, true, true, true, true, false, false, false, false, false, false, false, false, false, false, false, false, false, false, false, false, false, false, false, false, false, false, false, false, false, false, false, false, false, false, false, false, false, false, false, false, false, false, false, false, false, false, false, false, false, false, false, false, false]
abbrev LB84 : Array Bool := #[true, true, true, true, true, true, true, true, true, false, false, false, false, false, false, false, false, false, false, false, false, false, false, false, false, false, false, false, false, false, false, false, false, false, false, false, false, false, false, false, false, false, false, false, false, false, false, false, false, false, false, false, false, false, false, false, false, false, false]
abbrev LB85 : Array Bool := #[true, true, true, true, true, true, true, true, false, false, false, false, false, false, false, false, false, false, false, false, false, false, false, false, false, false, false, false, false, false, false, false, false, false, false, false, false, false, false, false, false, false, false, false, false, false, false, false, false, false, false, false, false, false, false, false, false, false, false]
abbrev LB86 : Array Bool := #[true, true, true, true, true, true, true, false, false, false, false, false, false, false, false, false, false, false, false, false, false, false, false, false, false, false, false, false, false, false, false, false, false, false, false, false, false, false, false, false, false, false, false, false, false, false, false, false, false, false, false, false, false, false, false, false, false, false, false]
abbrev LB87 : Array Bool := #[true, true, true, true, true, true, false, false, false, false, false, false, false, false, false, false, false, false, false, false, false, false, false, false, false, false, false, false, false, false, false, false, false, false, false, false, false, false, false, false, false, false, false, false, false, false, false, false, false, false, false, false, false, false, false, false, false, false, false]
abbrev LB88 : Array Bool := #[true, false, true, true, true, true, false, false, false, false, false, false, false, false, false, false, false, false, false, false, false, false, false, false, false, false, false, false, false, false, false, false, false, false, false, false, false, false, false, false, false, false, false, false, false, false, false, false, false, false, false, false, false, false, false, false, false, false, false]
abbrev LB89 : Array Bool := #[true, false, true, true, true, false, false, false, false, false, false, false, false, false, false, false, false, false, false, false, false, false, false, false, false, false, false, false, false, false, false, false, false, false, false, false, false, false, false, false, false, false, false, false, false, false, false, false, false, false, false, false, false, false, false, false, false, false, false]
abbrev LB90 : Array Bool := #[true, false, true, true, false, false, false, false, false, false, false, false, false, false, false, false, false, false, false, false, false, false, false, false, false, false, false, false, false, false, false, false, false, false, false, false, false, false, false, false, false, false, false, false, false, false, false, false, false, false, false, false, false, false, false, false, false, false, false]
abbrev LB91 : Array Bool := #[true, false, true, false, false, false, false, false, false, false, false, false, false, false, false, false, false, false, false, false, false, false, false, false, false, false, false, false, false, false, false, false, false, false, false, false, false, false, false, false, false, false, false, false, false, false, false, false, false, false, false, false, false, false, false, false, false, false, false]
abbrev LB92 : Array Bool := #[true, false, false, false, false, false, false, false, false, false, false, false, false, false, false, false, false, false, false, false, false, false, false, false, false, false, false, false, false, false, false, false, false, false, false, false, false, false, false, false, false, false, false, false, false, false, false, false, false, false, false, false, false, false, false, false, false, false, false]
abbrev LB93 : Array Bool := #[false, false, false, false, false, false, false, false, false, false, false, false, false, false, false, false, false, false, false, false, false, false, false, false, false, false, false, false, false, false, false, false, false, false, false, false, false, false, false, false, false, false, false, false, false, false, false, false, false, false, false, false, false, false, false, false, false, false, false]
set_option maxHeartbeats 8000000 in
set_option maxRecDepth 100000 in
theorem jigsawlaw05_LexBack.calls (k : Nat) (a0 : ByteArray) (A1 : Option Addr) (c1 : Nat) (l1 : List Int) (r : Bool) (w : World) (hr1 : Kd.C (Kd.int .u8) w A1 l1.length l1) (hc1 : l1.length ≤ c1) (h : jigsawlaw05_LexBack.f k a0 l1 = some r) :
  Calls Tryd.prog 5 #[.string a0, .slice A1 l1.length c1] w fun e w' => e = .returned (.bool r) ∧ Below w.heap.size w w' := by
 have hu33 := Tryd.underlying33
 have HR1 := Aside0.mk hr1
 have HC1 := Aside0.mk hc1
 clear hr1 hc1
 have HB := Aside0.mk (Below.refl w.heap.size w)
 have H : (if 0 ≤ (mn (a0.size : Int) 500) then (if (mn (a0.size : Int) 500) ≤ (a0.size : Int) then ((lex_Lex.f k (a0.extract 0 ((mn (a0.size : Int) 500) : Int).toNat)).bind fun bt154 => (if bt154.2.2 = 0 then (jigsawlaw05_LexBack.l0 k l1 bt154.1 (⟨#[]⟩ : ByteArray) bt154.1 (bt154.1.length : Int) 0) else ((jigsawlaw05_wakes.f k).bind fun t159 => (if t159 = true then (some ((bt154.1.length : Int) == 0)) else (some false))))) else (none)) else (none)) = some r := h
 clear h
 obtain ⟨ji3, hji3⟩ : ∃ j_ : Int, (mn (a0.size : Int) 500) = j_ := ⟨_, rfl⟩
 replace H : (if 0 ≤ (ji3) then (if (ji3) ≤ (a0.size : Int) then ((lex_Lex.f k (a0.extract 0 ((ji3) : Int).toNat)).bind fun bt154 => (if bt154.2.2 = 0 then (jigsawlaw05_LexBack.l0 k l1 bt154.1 (⟨#[]⟩ : ByteArray) bt154.1 (bt154.1.length : Int) 0) else ((jigsawlaw05_wakes.f k).bind fun t159 => (if t159 = true then (some ((bt154.1.length : Int) == 0)) else (some false))))) else (none)) else (none)) = some r := by first | (rw [hji3] at H; exact H) | (simp only [hji3] at H ⊢; exact H)
 (try (have hji3h : ji3 ≤ 500 := by (rw [← hji3]; unfold mn; (repeat' split) <;> omega)))
 (try (have hji3g : ji3 ≤ 64 := by omega))
 (try (have hji3l : 0 ≤ ji3 := by (rw [← hji3]; unfold mn; (repeat' split) <;> omega)))
 (try (have hji3m : 0 ≤ ji3 := by omega))
 have hji3_ : (if 500 < (a0.size : Int) then 500 else (a0.size : Int)) = ji3 := hji3
 by_cases c4 : 0 ≤ (ji3)
 ·rw [if_pos c4] at H
  have c4b0 := eq_true c4
  have c4b1 : decide (0 ≤ (ji3)) = true := decide_eq_true c4
  clear c4
  by_cases c5 : (ji3) ≤ (a0.size : Int)
  ·rw [if_pos c5] at H
   have c5b0 := eq_true c5
   have c5b1 : decide ((ji3) ≤ (a0.size : Int)) = true := decide_eq_true c5
   clear c5
   replace H := Option.bind_eq_some_iff.mp H
   obtain ⟨⟨t154, t155, t156⟩, A60, H⟩ := H
   replace H : (if t156 = 0 then (jigsawlaw05_LexBack.l0 k l1 t154 (⟨#[]⟩ : ByteArray) t154 (t154.length : Int) 0) else ((jigsawlaw05_wakes.f k).bind fun t159 => (if t159 = true then (some ((t154.length : Int) == 0)) else (some false)))) = some r := H
   have A6 := Aside0.mk A60
   clear A60
   by_cases c7 : t156 = 0
   ·rw [if_pos c7] at H
    have c7b0 : (t156 == 0) = true := beq_iff_eq.mpr c7
    have c7b1 : (t156 != 0) = false := bne_eq_false_iff_eq.mpr c7
    clear c7
    have H' := Aside0.mk H
    clear H
    go_enter Tryd.func5, Tryd.ntmps5
    go_wp2_with (first | ((with_reducible refine gate_callee (f := 8) rfl ?_); refine goesL_ (some 23) rfl rfl Tryd.func8 (by kernel_rfl) rfl #[.string (a0.extract 0 ((ji3) : Int).toNat)] rfl (by (try simp only [List.map_toArray, List.map_cons, List.map_nil]); first | done | (simp only [hji3]; rfl) | rfl | (simp only [List.length_drop, List.length_take]; rfl)) ?_; (with_reducible refine (lex_Lex.calls k (a0.extract 0 ((ji3) : Int).toNat) t154 t155 t156 _ A6.out).mono ?_); rintro e w8 ⟨v157, rfl, ho0, hb⟩; refine ⟨_, rfl, ?_⟩; have n0_ := Aside0.mk (Kd.R_lower ho0 (below_size (by repeat (first | (with_reducible first | exact HB.out | apply below_alloc | apply pw_below_drewN | apply below_drew1) | exact HB.out)))); have n1_ := Aside0.mk (below_step (by repeat (first | (with_reducible first | exact HB.out | apply below_alloc | apply pw_below_drewN | apply below_drew1) | exact HB.out)) hb); clear HB; have HO158 := n0_; have HB := n1_; clear n0_ n1_; (try clear hb); (try clear hb2); (try clear hk); (try clear hi); (try clear ho0); obtain ⟨Ao9, co9, eo9⟩ := Kd.R_slice HO158.out; subst eo9))
    go_loopg [8, 37] k (fun kq v8 v37 w' => ∃ (x8_1 : ByteArray) (x37_1 : Int), v8 = .string x8_1 ∧ v37 = .int .i64 x37_1 ∧ Aside0 (jigsawlaw05_LexBack.l0 kq l1 t154 x8_1 t154 (t154.length : Int) x37_1 = some r) ∧ Aside0 (kq ≤ k) ∧ Aside0 (Kd.R k33 33 w' w.heap.size (fun _ => True) (.slice Ao9 t154.length co9) t154) ∧ Aside0 (Kd.R k33 33 w' w.heap.size (fun _ => True) (.slice Ao9 t154.length co9) t154) ∧ Aside0 (Below w.heap.size w w'))
    case atStart => exact ⟨((⟨#[]⟩ : ByteArray)), (0), (by first | rfl | (simp; done) | (simp [*]; done)), (by first | rfl | (simp; done) | (simp [*]; done)), H', ⟨Nat.le_refl _⟩, ⟨by (with_reducible repeat (first | apply Kd.R_alloc | apply Kd.R_drewN | apply Kd.R_drew)); exact HO158.out⟩, ⟨by (with_reducible repeat (first | apply Kd.R_alloc | apply Kd.R_drewN | apply Kd.R_drew)); exact HO158.out⟩, ⟨by repeat (first | (with_reducible first | exact HB.out | apply below_alloc | apply pw_below_drewN | apply below_drew1) | exact HB.out)⟩⟩
    case round =>
     clear H'
     try clear c1
     try clear p2
     try clear c4
     try clear c4b0
     try clear c4b1
     try clear c5
     try clear c5b0
     try clear c5b1
     try clear c7
     try clear c7b0
     try clear c7b1
     try clear c8
     obtain ⟨x8_1, x37_1, rfl, rfl, HA, HK1, HO_5, HO_35, HB⟩ := hrel
     cases gk with
     | zero => exact absurd HA.out (by simp [jigsawlaw05_LexBack.l0])
     | succ k1 =>
      have H := HA.out
      clear HA
      simp only [jigsawlaw05_LexBack.l0] at H
      by_cases c10 : x37_1 < (t154.length : Int)
      ·rw [if_pos c10] at H
       have c10b0 : decide (x37_1 < (t154.length : Int)) = true := decide_eq_true c10
       clear c10
       by_cases c11 : 0 ≤ x37_1
       ·rw [if_pos c11] at H
        have c11b0 : decide (0 ≤ x37_1) = true := decide_eq_true c11
        clear c11
        by_cases c12 : x37_1 < (t154.length : Int)
        ·rw [if_pos c12] at H
         have c12b0 : decide (x37_1 < (t154.length : Int)) = true := decide_eq_true c12
         clear c12
         by_cases c13 : x37_1 < (l1.length : Int)
         ·rw [if_pos c13] at H
          have c13b0 : decide (x37_1 < (l1.length : Int)) = true := decide_eq_true c13
          clear c13
          obtain ⟨y163, hy163⟩ : ∃ y_ : List ByteArray, y_ = (([(⟨#[32]⟩ : ByteArray), (⟨#[10]⟩ : ByteArray), (⟨#[9, 32]⟩ : ByteArray), (⟨#[37, 32, 194, 167, 255, 10]⟩ : ByteArray), (⟨#[37, 10, 37, 37, 13, 10]⟩ : ByteArray), (⟨#[32, 13]⟩ : ByteArray)] : List ByteArray)) := ⟨_, rfl⟩
          replace H : (if 0 ≤ (Int.tmod (rd l1 x37_1) 6) then (if (Int.tmod (rd l1 x37_1) 6) < (y163.length : Int) then (if ((rd_T33 t154 x37_1).f1).size + (rdOf ByteArray.empty y163 (Int.tmod (rd l1 x37_1) 6)).size ≤ 9223372036854775807 then (if x8_1.size + (((rd_T33 t154 x37_1).f1) ++ (rdOf ByteArray.empty y163 (Int.tmod (rd l1 x37_1) 6))).size ≤ 9223372036854775807 then (jigsawlaw05_LexBack.l0 k1 l1 t154 (x8_1 ++ (((rd_T33 t154 x37_1).f1) ++ (rdOf ByteArray.empty y163 (Int.tmod (rd l1 x37_1) 6)))) t154 (t154.length : Int) (wrap64 (x37_1 + 1))) else (none)) else (none)) else (none)) else (none)) = some r := by first | (rw [hy163]; with_reducible exact H) | (have H2_ := (Option.bind_some _ _).symm.trans H; rw [hy163]; with_reducible exact H2_) | (have H2_ := (Option.bind_some _ _).symm.trans H; with_reducible exact H2_) | with_reducible exact H | (rw [hy163]; exact H) | exact H
          have Ny163 := Aside0.mk hy163
          clear hy163
          obtain ⟨ji14, hji14⟩ : ∃ j_ : Int, (Int.tmod (rd l1 x37_1) 6) = j_ := ⟨_, rfl⟩
          replace H : (if 0 ≤ (ji14) then (if (ji14) < (y163.length : Int) then (if ((rd_T33 t154 x37_1).f1).size + (rdOf ByteArray.empty y163 (ji14)).size ≤ 9223372036854775807 then (if x8_1.size + (((rd_T33 t154 x37_1).f1) ++ (rdOf ByteArray.empty y163 (ji14))).size ≤ 9223372036854775807 then (jigsawlaw05_LexBack.l0 k1 l1 t154 (x8_1 ++ (((rd_T33 t154 x37_1).f1) ++ (rdOf ByteArray.empty y163 (ji14)))) t154 (t154.length : Int) (wrap64 (x37_1 + 1))) else (none)) else (none)) else (none)) else (none)) = some r := by first | (rw [hji14] at H; exact H) | (simp only [hji14] at H ⊢; exact H)
          by_cases c15 : 0 ≤ (ji14)
          ·rw [if_pos c15] at H
           have c15b0 : decide (0 ≤ (ji14)) = true := decide_eq_true c15
           clear c15
           by_cases c16 : (ji14) < (y163.length : Int)
           ·rw [if_pos c16] at H
            have c16b0 : decide ((ji14) < (y163.length : Int)) = true := decide_eq_true c16
            clear c16
            by_cases c17 : ((rd_T33 t154 x37_1).f1).size + (rdOf ByteArray.empty y163 (ji14)).size ≤ 9223372036854775807
            ·rw [if_pos c17] at H
             have c17b0 := eq_true c17
             have c17b1 : decide (((rd_T33 t154 x37_1).f1).size + (rdOf ByteArray.empty y163 (ji14)).size ≤ 9223372036854775807) = true := decide_eq_true c17
             try have c17b2 : (9223372036854775807 < ((rd_T33 t154 x37_1).f1).size + (rdOf ByteArray.empty y163 (ji14)).size) = False := eq_false (Nat.not_lt.2 c17)
             by_cases c18 : x8_1.size + (((rd_T33 t154 x37_1).f1) ++ (rdOf ByteArray.empty y163 (ji14))).size ≤ 9223372036854775807
             ·rw [if_pos c18] at H
              have c18b0 := eq_true c18
              have c18b1 : decide (x8_1.size + (((rd_T33 t154 x37_1).f1) ++ (rdOf ByteArray.empty y163 (ji14))).size ≤ 9223372036854775807) = true := decide_eq_true c18
              try have c18b2 : (9223372036854775807 < x8_1.size + (((rd_T33 t154 x37_1).f1) ++ (rdOf ByteArray.empty y163 (ji14))).size) = False := eq_false (Nat.not_lt.2 c18)
              have c18b3 : (9223372036854775807 < x8_1.size + ((((rd_T33 t154 x37_1).f1)).size + ((rdOf ByteArray.empty y163 (ji14))).size)) = False := eq_false (by have h_ := c18; rw [ByteArray.size_append] at h_; omega)
              have H' := Aside0.mk H
              clear H
              have p160 : 0 ≤ (x37_1 : Int) := of_decide_eq_true (by first | (with_reducible assumption) | assumption)
              have q160 : x37_1 < (t154.length : Int) := of_decide_eq_true (by first | (with_reducible assumption) | assumption)
              obtain ⟨ad160, e160, hx160_0, hx160_1, hx160_2, hx160_3⟩ := at_T33 (Kd.R_reads' HO_35.out).2.2 x37_1 p160 q160
              cases e160
              replace p160 := eq_true p160
              replace q160 := eq_true q160
              try go_wp2_with (first | ((with_reducible refine gate_dst (N := 10) rfl ?_); (try (refine gate_guard (by rfl) ?_; dsimp only)); refine box_event ?hg (N := 10) ?hd (cs := #[.int .i64 0, .string (⟨#[]⟩ : ByteArray), .int .i64 0, .int .i64 0]) (t := 33) ?hr ?_; (case hd => rfl); (case hg => rfl); (case hr => first | (go_simp; done) | (go_simp; rfl)); intro gb161 hg w19 hbox hb; have n0_ := Aside0.mk (Kd.R_below (Kd.R_elderB (by (with_reducible repeat (first | apply Kd.R_alloc | apply Kd.R_drewN | apply Kd.R_drew)); exact HO_5.out) gb161 (Nat.le_of_eq hg.symm)) hb); have n1_ := Aside0.mk (Kd.R_below (Kd.R_elderB (by (with_reducible repeat (first | apply Kd.R_alloc | apply Kd.R_drewN | apply Kd.R_drew)); exact HO_35.out) gb161 (Nat.le_of_eq hg.symm)) hb); have n2_ := Aside0.mk (below_step (by repeat (first | (with_reducible first | exact HB.out | apply below_alloc | apply pw_below_drewN | apply below_drew1) | exact HB.out)) hb); have n3_ := Aside0.mk (hbox); have n4_ := Aside0.mk ((by rw [hg]; exact (below_size (by repeat (first | (with_reducible first | exact HB.out | apply below_alloc | apply pw_below_drewN | apply below_drew1) | exact HB.out))) : w.heap.size ≤ gb161)); have n5_ := Aside0.mk ((by rw [hg]; exact (below_size (by repeat (first | (with_reducible first | exact HB.out | apply below_alloc | apply pw_below_drewN | apply below_drew1) | exact HB.out))) : w.heap.size ≤ gb161)); clear HO_5; clear HO_35; clear HB; have HO_5 := n0_; have HO_35 := n1_; have HB := n2_; have BK161 := n3_; have GW161 := n4_; have GE161 := n5_; clear n0_ n1_ n2_ n3_ n4_ n5_; clear hb hbox hg; have hcz20_0 : w19.cell? ⟨gb161, 0, none⟩ = some (.int .i64 0) := (blk_cell BK161.out 0).trans rfl; have hcz20_1 : w19.cell? ⟨gb161, 1, none⟩ = some (.string (⟨#[]⟩ : ByteArray)) := (blk_cell BK161.out 1).trans rfl; have hcz20_2 : w19.cell? ⟨gb161, 2, none⟩ = some (.int .i64 0) := (blk_cell BK161.out 2).trans rfl; have hcz20_3 : w19.cell? ⟨gb161, 3, none⟩ = some (.int .i64 0) := (blk_cell BK161.out 3).trans rfl; have hfz20_0 := blk_frozen BK161.out 0; have hfz20_1 := blk_frozen BK161.out 1; have hfz20_2 := blk_frozen BK161.out 2; have hfz20_3 := blk_frozen BK161.out 3; have p162 : 0 ≤ (x37_1 : Int) := of_decide_eq_true (by first | (with_reducible assumption) | assumption); have q162 : x37_1 < (l1.length : Int) := of_decide_eq_true (by first | (with_reducible assumption) | assumption); obtain ⟨ad162, e162, hx162_0⟩ := Kd.at_int HR1.out x37_1 p162 q162; cases e162; have hn162_0 : ad162.block ≠ gb161 := Nat.ne_of_lt (Nat.lt_of_lt_of_le (by have := World.block_lt_of_cell? _ _ hx162_0; first | rwa [add_block] at this | exact this) GW161.out); have hn162_1 : ad162.block ≠ gb161 := Nat.ne_of_lt (Nat.lt_of_lt_of_le (by have := World.block_lt_of_cell? _ _ hx162_0; first | rwa [add_block] at this | exact this) GW161.out); have hn162_2 : ad162.block ≠ gb161 := Nat.ne_of_lt (Nat.lt_of_lt_of_le (by have := World.block_lt_of_cell? _ _ hx162_0; first | rwa [add_block] at this | exact this) GW161.out); have hn162_3 : ad162.block ≠ gb161 := Nat.ne_of_lt (Nat.lt_of_lt_of_le (by have := World.block_lt_of_cell? _ _ hx162_0; first | rwa [add_block] at this | exact this) GW161.out); replace hx162_0 := (HB.out.cell (World.block_lt_of_cell? w _ hx162_0)).trans hx162_0; replace hx162_0 := (cell_far (p := ⟨gb161, 0, none⟩) (by first | (rw [add_block]; exact hn162_0) | (show (Addr.add _ _).block ≠ _; rw [add_block]; exact hn162_0) | exact hn162_0) (.int .i64 ((rd_T33 t154 x37_1).f0))).trans hx162_0; replace hx162_0 := (cell_far (p := ⟨gb161, 1, none⟩) (by first | (rw [add_block]; exact hn162_1) | (show (Addr.add _ _).block ≠ _; rw [add_block]; exact hn162_1) | exact hn162_1) (.string ((rd_T33 t154 x37_1).f1))).trans hx162_0; replace hx162_0 := (cell_far (p := ⟨gb161, 2, none⟩) (by first | (rw [add_block]; exact hn162_2) | (show (Addr.add _ _).block ≠ _; rw [add_block]; exact hn162_2) | exact hn162_2) (.int .i64 ((rd_T33 t154 x37_1).f2))).trans hx162_0; replace hx162_0 := (cell_far (p := ⟨gb161, 3, none⟩) (by first | (rw [add_block]; exact hn162_3) | (show (Addr.add _ _).block ≠ _; rw [add_block]; exact hn162_3) | exact hn162_3) (.int .i64 ((rd_T33 t154 x37_1).f3))).trans hx162_0; clear hn162_0; clear hn162_1; clear hn162_2; clear hn162_3; replace p162 := eq_true p162; replace q162 := eq_true q162))
              have pi166 : (0 ≤ ((ji14) : Int)) = True := eq_true (of_decide_eq_true (by first | (with_reducible assumption) | assumption))
              have qi166 : ((ji14) < (y163.length : Int)) = True := eq_true (of_decide_eq_true (by first | (with_reducible assumption) | assumption))
              have n0_ : Aside0 (Kd.R k33 33 ((((w19.setCell ⟨gb161, 0, none⟩ (.int .i64 ((rd_T33 t154 x37_1).f0))).setCell ⟨gb161, 1, none⟩ (.string ((rd_T33 t154 x37_1).f1))).setCell ⟨gb161, 2, none⟩ (.int .i64 ((rd_T33 t154 x37_1).f2))).setCell ⟨gb161, 3, none⟩ (.int .i64 ((rd_T33 t154 x37_1).f3))) w.heap.size (fun k_ => k_ ≠ gb161) (.slice (some ad160) t154.length co9) t154) := ⟨by (with_reducible repeat (first | apply Kd.R_alloc | apply Kd.R_drewN | apply Kd.R_drew)); exact Kd.R_mono (Kd.R_far (p := ⟨gb161, 3, none⟩) (Kd.R_far (p := ⟨gb161, 2, none⟩) (Kd.R_far (p := ⟨gb161, 1, none⟩) (Kd.R_far (p := ⟨gb161, 0, none⟩) (Kd.R_mono HO_5.out (fun k_ hk => (⟨hk, hk.2⟩ : _ ∧ k_ ≠ gb161))) (fun _ hk => hk.2) (.int .i64 ((rd_T33 t154 x37_1).f0))) (fun _ hk => hk.2) (.string ((rd_T33 t154 x37_1).f1))) (fun _ hk => hk.2) (.int .i64 ((rd_T33 t154 x37_1).f2))) (fun _ hk => hk.2) (.int .i64 ((rd_T33 t154 x37_1).f3))) (fun _ hk => hk.1.2)⟩
              have n1_ : Aside0 (Kd.R k33 33 ((((w19.setCell ⟨gb161, 0, none⟩ (.int .i64 ((rd_T33 t154 x37_1).f0))).setCell ⟨gb161, 1, none⟩ (.string ((rd_T33 t154 x37_1).f1))).setCell ⟨gb161, 2, none⟩ (.int .i64 ((rd_T33 t154 x37_1).f2))).setCell ⟨gb161, 3, none⟩ (.int .i64 ((rd_T33 t154 x37_1).f3))) w.heap.size (fun k_ => k_ ≠ gb161) (.slice (some ad160) t154.length co9) t154) := ⟨by (with_reducible repeat (first | apply Kd.R_alloc | apply Kd.R_drewN | apply Kd.R_drew)); exact Kd.R_mono (Kd.R_far (p := ⟨gb161, 3, none⟩) (Kd.R_far (p := ⟨gb161, 2, none⟩) (Kd.R_far (p := ⟨gb161, 1, none⟩) (Kd.R_far (p := ⟨gb161, 0, none⟩) (Kd.R_mono HO_35.out (fun k_ hk => (⟨hk, hk.2⟩ : _ ∧ k_ ≠ gb161))) (fun _ hk => hk.2) (.int .i64 ((rd_T33 t154 x37_1).f0))) (fun _ hk => hk.2) (.string ((rd_T33 t154 x37_1).f1))) (fun _ hk => hk.2) (.int .i64 ((rd_T33 t154 x37_1).f2))) (fun _ hk => hk.2) (.int .i64 ((rd_T33 t154 x37_1).f3))) (fun _ hk => hk.1.2)⟩
              have n2_ : Aside0 (((((w19.setCell ⟨gb161, 0, none⟩ (.int .i64 ((rd_T33 t154 x37_1).f0))).setCell ⟨gb161, 1, none⟩ (.string ((rd_T33 t154 x37_1).f1))).setCell ⟨gb161, 2, none⟩ (.int .i64 ((rd_T33 t154 x37_1).f2))).setCell ⟨gb161, 3, none⟩ (.int .i64 ((rd_T33 t154 x37_1).f3))).heap[gb161]? = some (.cells #[.int .i64 ((rd_T33 t154 x37_1).f0), .string ((rd_T33 t154 x37_1).f1), .int .i64 ((rd_T33 t154 x37_1).f2), .int .i64 ((rd_T33 t154 x37_1).f3)] 33 (0, 0))) := ⟨by (with_reducible repeat (first | refine blk_drewN ?_ _ | refine blk_drew ?_ | refine blk_alloc ?_ _)); refine blk_put (cs := #[.int .i64 ((rd_T33 t154 x37_1).f0), .string ((rd_T33 t154 x37_1).f1), .int .i64 ((rd_T33 t154 x37_1).f2), .int .i64 0]) ?_ 3 _ rfl; (with_reducible repeat (first | refine blk_drewN ?_ _ | refine blk_drew ?_ | refine blk_alloc ?_ _)); refine blk_put (cs := #[.int .i64 ((rd_T33 t154 x37_1).f0), .string ((rd_T33 t154 x37_1).f1), .int .i64 0, .int .i64 0]) ?_ 2 _ rfl; (with_reducible repeat (first | refine blk_drewN ?_ _ | refine blk_drew ?_ | refine blk_alloc ?_ _)); refine blk_put (cs := #[.int .i64 ((rd_T33 t154 x37_1).f0), .string (⟨#[]⟩ : ByteArray), .int .i64 0, .int .i64 0]) ?_ 1 _ rfl; (with_reducible repeat (first | refine blk_drewN ?_ _ | refine blk_drew ?_ | refine blk_alloc ?_ _)); refine blk_put (cs := #[.int .i64 0, .string (⟨#[]⟩ : ByteArray), .int .i64 0, .int .i64 0]) ?_ 0 _ rfl; (with_reducible repeat (first | refine blk_drewN ?_ _ | refine blk_drew ?_ | refine blk_alloc ?_ _)); exact BK161.out⟩
              have n3_ : Aside0 (Below w.heap.size w ((((w19.setCell ⟨gb161, 0, none⟩ (.int .i64 ((rd_T33 t154 x37_1).f0))).setCell ⟨gb161, 1, none⟩ (.string ((rd_T33 t154 x37_1).f1))).setCell ⟨gb161, 2, none⟩ (.int .i64 ((rd_T33 t154 x37_1).f2))).setCell ⟨gb161, 3, none⟩ (.int .i64 ((rd_T33 t154 x37_1).f3)))) := ⟨by repeat (first | (with_reducible first | exact HB.out | apply below_alloc | apply pw_below_drewN | apply below_drew1 | refine below_set ?_ GE161.out) | exact HB.out)⟩
              (try clear HO_5)
              (try clear HO_35)
              (try clear BK161)
              (try clear HB)
              generalize ((((w19.setCell ⟨gb161, 0, none⟩ (.int .i64 ((rd_T33 t154 x37_1).f0))).setCell ⟨gb161, 1, none⟩ (.string ((rd_T33 t154 x37_1).f1))).setCell ⟨gb161, 2, none⟩ (.int .i64 ((rd_T33 t154 x37_1).f2))).setCell ⟨gb161, 3, none⟩ (.int .i64 ((rd_T33 t154 x37_1).f3))) = w21 at n0_ n1_ n2_ n3_ ⊢
              have HO_5 := n0_
              have HO_35 := n1_
              have BK161 := n2_
              have HB := n3_
              clear n0_ n1_ n2_ n3_
              have n0_ := Aside0.mk (Kd.R_drew HO_5.out)
              have n1_ := Aside0.mk (Kd.R_drew HO_35.out)
              have n2_ := Aside0.mk (blk_drew BK161.out)
              have n3_ := Aside0.mk (below_drew1 HB.out)
              clear HO_5
              clear HO_35
              clear BK161
              clear HB
              have HO_5 := n0_
              have HO_35 := n1_
              have BK161 := n2_
              have HB := n3_
              clear n0_ n1_ n2_ n3_
              refine start_ (n := 11) (S := fun w' => w'.cell? ⟨gb161, 0, none⟩ = some (.int .i64 ((rd_T33 t154 x37_1).f0)) ∧ w'.cell? ⟨gb161, 1, none⟩ = some (.string ((rd_T33 t154 x37_1).f1)) ∧ w'.cell? ⟨gb161, 2, none⟩ = some (.int .i64 ((rd_T33 t154 x37_1).f2)) ∧ w'.cell? ⟨gb161, 3, none⟩ = some (.int .i64 ((rd_T33 t154 x37_1).f3))) (ds := []) LB11 (by kernel_rfl) rfl rfl ⟨(blk_cell BK161.out 0).trans rfl, (blk_cell BK161.out 1).trans rfl, (blk_cell BK161.out 2).trans rfl, (blk_cell BK161.out 3).trans rfl⟩ (fun hHeld => ?_); refine with_tabW jigsawlaw05_LexBack.tab11 jigsawlaw05_LexBack.bits11 (fun HT_ HW_ => ?_)
              generalize w21.drew = w22 at HO_5 HO_35 BK161 HB hHeld ⊢
              refine pA 0 50 LB10 HT_ ?_
              refine pA 1 51 LB9 HT_ ?_
              refine pA 4 54 LB8 HT_ ?_
              refine pA 5 55 LB7 HT_ ?_
              refine pT4 2 52 LB6 HT_ HW_ hHeld ?_
              refine one_ (i := 3) (N := some 53) LB5 rfl rfl (one_of HT_.out (by kernel_rfl)) (by decide) (fun K hK => ?_)
              refine Kd.R_lit_step Kd.string _ 9 ?hg (N := 53) ?hd (xs := ([(⟨#[32]⟩ : ByteArray), (⟨#[10]⟩ : ByteArray), (⟨#[9, 32]⟩ : ByteArray), (⟨#[37, 32, 194, 167, 255, 10]⟩ : ByteArray), (⟨#[37, 10, 37, 37, 13, 10]⟩ : ByteArray), (⟨#[32, 13]⟩ : ByteArray)] : List ByteArray)) (inner := [.string (⟨#[32]⟩ : ByteArray), .string (⟨#[10]⟩ : ByteArray), .string (⟨#[9, 32]⟩ : ByteArray), .string (⟨#[37, 32, 194, 167, 255, 10]⟩ : ByteArray), .string (⟨#[37, 10, 37, 37, 13, 10]⟩ : ByteArray), .string (⟨#[32, 13]⟩ : ByteArray)]) (ok := fun _ => True) (okp := fun _ => True) ?hr ?hp (fun _ hk => hk) trivial (Below.refl _ _) (Nat.le_refl _) (by simp) ?_; (case hd => rfl); (case hg => rfl); (case hr => first | (go_simp; done) | (go_simp; rfl)); (case hp => exact (Reps.one (show Kd.M Kd.string _ _ _ (⟨#[32]⟩ : ByteArray) [.string (⟨#[32]⟩ : ByteArray)] from rfl) (Reps.one (show Kd.M Kd.string _ _ _ (⟨#[10]⟩ : ByteArray) [.string (⟨#[10]⟩ : ByteArray)] from rfl) (Reps.one (show Kd.M Kd.string _ _ _ (⟨#[9, 32]⟩ : ByteArray) [.string (⟨#[9, 32]⟩ : ByteArray)] from rfl) (Reps.one (show Kd.M Kd.string _ _ _ (⟨#[37, 32, 194, 167, 255, 10]⟩ : ByteArray) [.string (⟨#[37, 32, 194, 167, 255, 10]⟩ : ByteArray)] from rfl) (Reps.one (show Kd.M Kd.string _ _ _ (⟨#[37, 10, 37, 37, 13, 10]⟩ : ByteArray) [.string (⟨#[37, 10, 37, 37, 13, 10]⟩ : ByteArray)] from rfl) (Reps.one (show Kd.M Kd.string _ _ _ (⟨#[32, 13]⟩ : ByteArray) [.string (⟨#[32, 13]⟩ : ByteArray)] from rfl) (Reps.none _ _))))))))
              intro v164 w23 ho24 hb hg_ hnew_
              clear hg_ hnew_
              (first | rw [← Ny163.out] at ho24 | (simp only [Int.reduceToNat] at ho24; rw [← Ny163.out] at ho24))
              have n0_ := Aside0.mk (Kd.R_below (by (with_reducible repeat (first | apply Kd.R_alloc | apply Kd.R_drewN | apply Kd.R_drew)); exact HO_5.out) hb)
              have n1_ := Aside0.mk (Kd.R_below (by (with_reducible repeat (first | apply Kd.R_alloc | apply Kd.R_drewN | apply Kd.R_drew)); exact HO_35.out) hb)
              have n2_ := Aside0.mk (Kd.R_lower ho24 (below_size (by repeat (first | (with_reducible first | exact HB.out | apply below_alloc | apply pw_below_drewN | apply below_drew1 | refine below_set ?_ GE161.out) | exact HB.out))))
              have n3_ := Aside0.mk (blk_below (g := gb161) (o := .cells #[.int .i64 ((rd_T33 t154 x37_1).f0), .string ((rd_T33 t154 x37_1).f1), .int .i64 ((rd_T33 t154 x37_1).f2), .int .i64 ((rd_T33 t154 x37_1).f3)] 33 (0, 0)) (by (with_reducible repeat (first | refine blk_drewN ?_ _ | refine blk_drew ?_ | refine blk_alloc ?_ _)); exact BK161.out) hb)
              have n4_ := Aside0.mk (below_step (by repeat (first | (with_reducible first | exact HB.out | apply below_alloc | apply pw_below_drewN | apply below_drew1 | refine below_set ?_ GE161.out) | exact HB.out)) hb)
              clear HO_5
              clear HO_35
              clear BK161
              clear HB
              have HO_5 := n0_
              have HO_35 := n1_
              have HO165 := n2_
              have BK161 := n3_
              have HB := n4_
              clear n0_ n1_ n2_ n3_ n4_
              clear hb ho24
              obtain ⟨Ao25, co25, eo25⟩ := Kd.R_slice HO165.out
              subst eo25
              obtain ⟨ado25, fo25, _⟩ := Kd.at_string (Kd.R_reads' HO165.out).2.2 0 (by decide) (by rw [Ny163.out]; simp)
              cases fo25
              refine hK.out _ _ ⟨(blk_cell BK161.out 0).trans rfl, (blk_cell BK161.out 1).trans rfl, (blk_cell BK161.out 2).trans rfl, (blk_cell BK161.out 3).trans rfl⟩ (fun hHeld => ?_)
              clear hK K
              refine norm_ (a' := ?_) ?_ ?_
              rotate_left
              ·show Act.put _ (some 53) _ = _
               simp only [Act.put, List.setIfInBounds_toArray, List.set_cons_zero, List.set_cons_succ, i64_w, i32_w]
               rfl
              refine pA 6 56 LB4 HT_ ?_
              refine one_ (i := 7) (N := some 57) LB3 rfl rfl (one_of HT_.out (by kernel_rfl)) (by decide) (fun K hK => ?_)
              (have p166 : 0 ≤ ((ji14) : Int) := of_decide_eq_true (by first | (with_reducible assumption) | assumption); have q166 : (ji14) < (y163.length : Int) := of_decide_eq_true (by first | (with_reducible assumption) | assumption); obtain ⟨ad166, e166, hx166_0⟩ := Kd.at_string (Kd.R_reads' HO165.out).2.2 (ji14) p166 q166; obtain rfl : ado25 = ad166 := (by injection e166))
              refine value_ (w1 := ?_) (v := ?_) (by rfl) rfl ?_ ?_
              rotate_left 2
              ·go_simp
               constructor
               ·rfl
               ·rfl
              clear hx166_0
              refine hK.out _ _ ⟨(blk_cell BK161.out 0).trans rfl, (blk_cell BK161.out 1).trans rfl, (blk_cell BK161.out 2).trans rfl, (blk_cell BK161.out 3).trans rfl⟩ (fun hHeld => ?_)
              clear hK K
              refine norm_ (a' := ?_) ?_ ?_
              rotate_left
              ·show Act.put _ (some 57) _ = _
               simp only [Act.put, List.setIfInBounds_toArray, List.set_cons_zero, List.set_cons_succ, i64_w, i32_w]
               rfl
              refine pA 8 58 LB2 HT_ ?_
              refine pA 9 59 LB1 HT_ ?_
              refine pA 10 8 LB0 HT_ ?_
              refine done_ (done_of HT_.out (by kernel_rfl)) ?_
              try go_wp2
              go_roundg k1
              case measure => have := HK1.out; omega
              case rel => exact ⟨(x8_1 ++ (((rd_T33 t154 x37_1).f1) ++ (rdOf ByteArray.empty y163 (ji14)))), (wrap64 (x37_1 + 1)), (by first | rfl | (simp; done) | (simp only [← hji14] <;> (first | rfl | simp)) | (simp [*]; done)), (by first | rfl | (simp; done) | (simp [*]; done)), H', ⟨by have := HK1.out; omega⟩, ⟨by (with_reducible repeat (first | apply Kd.R_alloc | apply Kd.R_drewN | apply Kd.R_drew)); exact Kd.R_mono HO_5.out (fun _ hk => trivial)⟩, ⟨by (with_reducible repeat (first | apply Kd.R_alloc | apply Kd.R_drewN | apply Kd.R_drew)); exact Kd.R_mono HO_35.out (fun _ hk => trivial)⟩, ⟨by repeat (first | (with_reducible first | exact HB.out | apply below_alloc | apply pw_below_drewN | apply below_drew1 | refine below_set ?_ GE161.out) | exact HB.out)⟩⟩
             ·rw [if_neg c18] at H
              exact absurd H (by simp)
            ·rw [if_neg c17] at H
             exact absurd H (by simp)
           ·rw [if_neg c16] at H
            exact absurd H (by simp)
          ·rw [if_neg c15] at H
           exact absurd H (by simp)
         ·rw [if_neg c13] at H
          have c13b0 : decide (x37_1 < (l1.length : Int)) = false := decide_eq_false c13
          clear c13
          obtain ⟨y167, hy167⟩ : ∃ y_ : List ByteArray, y_ = (([(⟨#[32]⟩ : ByteArray), (⟨#[10]⟩ : ByteArray), (⟨#[9, 32]⟩ : ByteArray), (⟨#[37, 32, 194, 167, 255, 10]⟩ : ByteArray), (⟨#[37, 10, 37, 37, 13, 10]⟩ : ByteArray), (⟨#[32, 13]⟩ : ByteArray)] : List ByteArray)) := ⟨_, rfl⟩
          replace H : (if 0 ≤ ((0 : Int) % 6) then (if ((0 : Int) % 6) < (y167.length : Int) then (if ((rd_T33 t154 x37_1).f1).size + (rdOf ByteArray.empty y167 ((0 : Int) % 6)).size ≤ 9223372036854775807 then (if x8_1.size + (((rd_T33 t154 x37_1).f1) ++ (rdOf ByteArray.empty y167 ((0 : Int) % 6))).size ≤ 9223372036854775807 then (jigsawlaw05_LexBack.l0 k1 l1 t154 (x8_1 ++ (((rd_T33 t154 x37_1).f1) ++ (rdOf ByteArray.empty y167 ((0 : Int) % 6)))) t154 (t154.length : Int) (wrap64 (x37_1 + 1))) else (none)) else (none)) else (none)) else (none)) = some r := by first | (rw [hy167]; with_reducible exact H) | (have H2_ := (Option.bind_some _ _).symm.trans H; rw [hy167]; with_reducible exact H2_) | (have H2_ := (Option.bind_some _ _).symm.trans H; with_reducible exact H2_) | with_reducible exact H | (rw [hy167]; exact H) | exact H
          have Ny167 := Aside0.mk hy167
          clear hy167
          have hji26 : ((0 : Int) % 6) = (0 : Int) := rfl
          replace H : (if 0 ≤ ((0 : Int)) then (if ((0 : Int)) < (y167.length : Int) then (if ((rd_T33 t154 x37_1).f1).size + (rdOf ByteArray.empty y167 ((0 : Int))).size ≤ 9223372036854775807 then (if x8_1.size + (((rd_T33 t154 x37_1).f1) ++ (rdOf ByteArray.empty y167 ((0 : Int)))).size ≤ 9223372036854775807 then (jigsawlaw05_LexBack.l0 k1 l1 t154 (x8_1 ++ (((rd_T33 t154 x37_1).f1) ++ (rdOf ByteArray.empty y167 ((0 : Int))))) t154 (t154.length : Int) (wrap64 (x37_1 + 1))) else (none)) else (none)) else (none)) else (none)) = some r := by first | (rw [hji26] at H; exact H) | (simp only [hji26] at H ⊢; exact H)
          by_cases c27 : 0 ≤ ((0 : Int))
          ·rw [if_pos c27] at H
           have c27b0 : decide (0 ≤ ((0 : Int))) = true := decide_eq_true c27
           clear c27
           by_cases c28 : ((0 : Int)) < (y167.length : Int)
           ·rw [if_pos c28] at H
            have c28b0 : decide (((0 : Int)) < (y167.length : Int)) = true := decide_eq_true c28
            have c28n : (0 < y167.length) = True := eq_true (by omega)
            clear c28
            by_cases c29 : ((rd_T33 t154 x37_1).f1).size + (rdOf ByteArray.empty y167 ((0 : Int))).size ≤ 9223372036854775807
            ·rw [if_pos c29] at H
             have c29b0 := eq_true c29
             have c29b1 : decide (((rd_T33 t154 x37_1).f1).size + (rdOf ByteArray.empty y167 ((0 : Int))).size ≤ 9223372036854775807) = true := decide_eq_true c29
             try have c29b2 : (9223372036854775807 < ((rd_T33 t154 x37_1).f1).size + (rdOf ByteArray.empty y167 ((0 : Int))).size) = False := eq_false (Nat.not_lt.2 c29)
             by_cases c30 : x8_1.size + (((rd_T33 t154 x37_1).f1) ++ (rdOf ByteArray.empty y167 ((0 : Int)))).size ≤ 9223372036854775807
             ·rw [if_pos c30] at H
              have c30b0 := eq_true c30
              have c30b1 : decide (x8_1.size + (((rd_T33 t154 x37_1).f1) ++ (rdOf ByteArray.empty y167 ((0 : Int)))).size ≤ 9223372036854775807) = true := decide_eq_true c30
              try have c30b2 : (9223372036854775807 < x8_1.size + (((rd_T33 t154 x37_1).f1) ++ (rdOf ByteArray.empty y167 ((0 : Int)))).size) = False := eq_false (Nat.not_lt.2 c30)
              have c30b3 : (9223372036854775807 < x8_1.size + ((((rd_T33 t154 x37_1).f1)).size + ((rdOf ByteArray.empty y167 ((0 : Int)))).size)) = False := eq_false (by have h_ := c30; rw [ByteArray.size_append] at h_; omega)
              have H' := Aside0.mk H
              clear H
              have p160 : 0 ≤ (x37_1 : Int) := of_decide_eq_true (by first | (with_reducible assumption) | assumption)
              have q160 : x37_1 < (t154.length : Int) := of_decide_eq_true (by first | (with_reducible assumption) | assumption)
              obtain ⟨ad160, e160, hx160_0, hx160_1, hx160_2, hx160_3⟩ := at_T33 (Kd.R_reads' HO_35.out).2.2 x37_1 p160 q160
              cases e160
              replace p160 := eq_true p160
              replace q160 := eq_true q160
              try go_wp2_with (first | ((with_reducible refine gate_dst (N := 10) rfl ?_); (try (refine gate_guard (by rfl) ?_; dsimp only)); refine box_event ?hg (N := 10) ?hd (cs := #[.int .i64 0, .string (⟨#[]⟩ : ByteArray), .int .i64 0, .int .i64 0]) (t := 33) ?hr ?_; (case hd => rfl); (case hg => rfl); (case hr => first | (go_simp; done) | (go_simp; rfl)); intro gb161 hg w31 hbox hb; have n0_ := Aside0.mk (Kd.R_below (Kd.R_elderB (by (with_reducible repeat (first | apply Kd.R_alloc | apply Kd.R_drewN | apply Kd.R_drew)); exact HO_5.out) gb161 (Nat.le_of_eq hg.symm)) hb); have n1_ := Aside0.mk (Kd.R_below (Kd.R_elderB (by (with_reducible repeat (first | apply Kd.R_alloc | apply Kd.R_drewN | apply Kd.R_drew)); exact HO_35.out) gb161 (Nat.le_of_eq hg.symm)) hb); have n2_ := Aside0.mk (below_step (by repeat (first | (with_reducible first | exact HB.out | apply below_alloc | apply pw_below_drewN | apply below_drew1) | exact HB.out)) hb); have n3_ := Aside0.mk (hbox); have n4_ := Aside0.mk ((by rw [hg]; exact (below_size (by repeat (first | (with_reducible first | exact HB.out | apply below_alloc | apply pw_below_drewN | apply below_drew1) | exact HB.out))) : w.heap.size ≤ gb161)); have n5_ := Aside0.mk ((by rw [hg]; exact (below_size (by repeat (first | (with_reducible first | exact HB.out | apply below_alloc | apply pw_below_drewN | apply below_drew1) | exact HB.out))) : w.heap.size ≤ gb161)); clear HO_5; clear HO_35; clear HB; have HO_5 := n0_; have HO_35 := n1_; have HB := n2_; have BK161 := n3_; have GW161 := n4_; have GE161 := n5_; clear n0_ n1_ n2_ n3_ n4_ n5_; clear hb hbox hg; have hcz32_0 : w31.cell? ⟨gb161, 0, none⟩ = some (.int .i64 0) := (blk_cell BK161.out 0).trans rfl; have hcz32_1 : w31.cell? ⟨gb161, 1, none⟩ = some (.string (⟨#[]⟩ : ByteArray)) := (blk_cell BK161.out 1).trans rfl; have hcz32_2 : w31.cell? ⟨gb161, 2, none⟩ = some (.int .i64 0) := (blk_cell BK161.out 2).trans rfl; have hcz32_3 : w31.cell? ⟨gb161, 3, none⟩ = some (.int .i64 0) := (blk_cell BK161.out 3).trans rfl; have hfz32_0 := blk_frozen BK161.out 0; have hfz32_1 := blk_frozen BK161.out 1; have hfz32_2 := blk_frozen BK161.out 2; have hfz32_3 := blk_frozen BK161.out 3))
              have pi170 : (0 ≤ (((0 : Int)) : Int)) = True := eq_true (of_decide_eq_true (by first | (with_reducible assumption) | assumption))
              have qi170 : (((0 : Int)) < (y167.length : Int)) = True := eq_true (of_decide_eq_true (by first | (with_reducible assumption) | assumption))
              have n0_ : Aside0 (Kd.R k33 33 ((((w31.setCell ⟨gb161, 0, none⟩ (.int .i64 ((rd_T33 t154 x37_1).f0))).setCell ⟨gb161, 1, none⟩ (.string ((rd_T33 t154 x37_1).f1))).setCell ⟨gb161, 2, none⟩ (.int .i64 ((rd_T33 t154 x37_1).f2))).setCell ⟨gb161, 3, none⟩ (.int .i64 ((rd_T33 t154 x37_1).f3))) w.heap.size (fun k_ => k_ ≠ gb161) (.slice (some ad160) t154.length co9) t154) := ⟨by (with_reducible repeat (first | apply Kd.R_alloc | apply Kd.R_drewN | apply Kd.R_drew)); exact Kd.R_mono (Kd.R_far (p := ⟨gb161, 3, none⟩) (Kd.R_far (p := ⟨gb161, 2, none⟩) (Kd.R_far (p := ⟨gb161, 1, none⟩) (Kd.R_far (p := ⟨gb161, 0, none⟩) (Kd.R_mono HO_5.out (fun k_ hk => (⟨hk, hk.2⟩ : _ ∧ k_ ≠ gb161))) (fun _ hk => hk.2) (.int .i64 ((rd_T33 t154 x37_1).f0))) (fun _ hk => hk.2) (.string ((rd_T33 t154 x37_1).f1))) (fun _ hk => hk.2) (.int .i64 ((rd_T33 t154 x37_1).f2))) (fun _ hk => hk.2) (.int .i64 ((rd_T33 t154 x37_1).f3))) (fun _ hk => hk.1.2)⟩
              have n1_ : Aside0 (Kd.R k33 33 ((((w31.setCell ⟨gb161, 0, none⟩ (.int .i64 ((rd_T33 t154 x37_1).f0))).setCell ⟨gb161, 1, none⟩ (.string ((rd_T33 t154 x37_1).f1))).setCell ⟨gb161, 2, none⟩ (.int .i64 ((rd_T33 t154 x37_1).f2))).setCell ⟨gb161, 3, none⟩ (.int .i64 ((rd_T33 t154 x37_1).f3))) w.heap.size (fun k_ => k_ ≠ gb161) (.slice (some ad160) t154.length co9) t154) := ⟨by (with_reducible repeat (first | apply Kd.R_alloc | apply Kd.R_drewN | apply Kd.R_drew)); exact Kd.R_mono (Kd.R_far (p := ⟨gb161, 3, none⟩) (Kd.R_far (p := ⟨gb161, 2, none⟩) (Kd.R_far (p := ⟨gb161, 1, none⟩) (Kd.R_far (p := ⟨gb161, 0, none⟩) (Kd.R_mono HO_35.out (fun k_ hk => (⟨hk, hk.2⟩ : _ ∧ k_ ≠ gb161))) (fun _ hk => hk.2) (.int .i64 ((rd_T33 t154 x37_1).f0))) (fun _ hk => hk.2) (.string ((rd_T33 t154 x37_1).f1))) (fun _ hk => hk.2) (.int .i64 ((rd_T33 t154 x37_1).f2))) (fun _ hk => hk.2) (.int .i64 ((rd_T33 t154 x37_1).f3))) (fun _ hk => hk.1.2)⟩
              have n2_ : Aside0 (((((w31.setCell ⟨gb161, 0, none⟩ (.int .i64 ((rd_T33 t154 x37_1).f0))).setCell ⟨gb161, 1, none⟩ (.string ((rd_T33 t154 x37_1).f1))).setCell ⟨gb161, 2, none⟩ (.int .i64 ((rd_T33 t154 x37_1).f2))).setCell ⟨gb161, 3, none⟩ (.int .i64 ((rd_T33 t154 x37_1).f3))).heap[gb161]? = some (.cells #[.int .i64 ((rd_T33 t154 x37_1).f0), .string ((rd_T33 t154 x37_1).f1), .int .i64 ((rd_T33 t154 x37_1).f2), .int .i64 ((rd_T33 t154 x37_1).f3)] 33 (0, 0))) := ⟨by (with_reducible repeat (first | refine blk_drewN ?_ _ | refine blk_drew ?_ | refine blk_alloc ?_ _)); refine blk_put (cs := #[.int .i64 ((rd_T33 t154 x37_1).f0), .string ((rd_T33 t154 x37_1).f1), .int .i64 ((rd_T33 t154 x37_1).f2), .int .i64 0]) ?_ 3 _ rfl; (with_reducible repeat (first | refine blk_drewN ?_ _ | refine blk_drew ?_ | refine blk_alloc ?_ _)); refine blk_put (cs := #[.int .i64 ((rd_T33 t154 x37_1).f0), .string ((rd_T33 t154 x37_1).f1), .int .i64 0, .int .i64 0]) ?_ 2 _ rfl; (with_reducible repeat (first | refine blk_drewN ?_ _ | refine blk_drew ?_ | refine blk_alloc ?_ _)); refine blk_put (cs := #[.int .i64 ((rd_T33 t154 x37_1).f0), .string (⟨#[]⟩ : ByteArray), .int .i64 0, .int .i64 0]) ?_ 1 _ rfl; (with_reducible repeat (first | refine blk_drewN ?_ _ | refine blk_drew ?_ | refine blk_alloc ?_ _)); refine blk_put (cs := #[.int .i64 0, .string (⟨#[]⟩ : ByteArray), .int .i64 0, .int .i64 0]) ?_ 0 _ rfl; (with_reducible repeat (first | refine blk_drewN ?_ _ | refine blk_drew ?_ | refine blk_alloc ?_ _)); exact BK161.out⟩
              have n3_ : Aside0 (Below w.heap.size w ((((w31.setCell ⟨gb161, 0, none⟩ (.int .i64 ((rd_T33 t154 x37_1).f0))).setCell ⟨gb161, 1, none⟩ (.string ((rd_T33 t154 x37_1).f1))).setCell ⟨gb161, 2, none⟩ (.int .i64 ((rd_T33 t154 x37_1).f2))).setCell ⟨gb161, 3, none⟩ (.int .i64 ((rd_T33 t154 x37_1).f3)))) := ⟨by repeat (first | (with_reducible first | exact HB.out | apply below_alloc | apply pw_below_drewN | apply below_drew1 | refine below_set ?_ GE161.out) | exact HB.out)⟩
              (try clear HO_5)
              (try clear HO_35)
              (try clear BK161)
              (try clear HB)
              generalize ((((w31.setCell ⟨gb161, 0, none⟩ (.int .i64 ((rd_T33 t154 x37_1).f0))).setCell ⟨gb161, 1, none⟩ (.string ((rd_T33 t154 x37_1).f1))).setCell ⟨gb161, 2, none⟩ (.int .i64 ((rd_T33 t154 x37_1).f2))).setCell ⟨gb161, 3, none⟩ (.int .i64 ((rd_T33 t154 x37_1).f3))) = w33 at n0_ n1_ n2_ n3_ ⊢
              have HO_5 := n0_
              have HO_35 := n1_
              have BK161 := n2_
              have HB := n3_
              clear n0_ n1_ n2_ n3_
              have n0_ := Aside0.mk (Kd.R_drew HO_5.out)
              have n1_ := Aside0.mk (Kd.R_drew HO_35.out)
              have n2_ := Aside0.mk (blk_drew BK161.out)
              have n3_ := Aside0.mk (below_drew1 HB.out)
              clear HO_5
              clear HO_35
              clear BK161
              clear HB
              have HO_5 := n0_
              have HO_35 := n1_
              have BK161 := n2_
              have HB := n3_
              clear n0_ n1_ n2_ n3_
              refine start_ (n := 11) (S := fun w' => w'.cell? ⟨gb161, 0, none⟩ = some (.int .i64 ((rd_T33 t154 x37_1).f0)) ∧ w'.cell? ⟨gb161, 1, none⟩ = some (.string ((rd_T33 t154 x37_1).f1)) ∧ w'.cell? ⟨gb161, 2, none⟩ = some (.int .i64 ((rd_T33 t154 x37_1).f2)) ∧ w'.cell? ⟨gb161, 3, none⟩ = some (.int .i64 ((rd_T33 t154 x37_1).f3))) (ds := []) LB11 (by kernel_rfl) rfl rfl ⟨(blk_cell BK161.out 0).trans rfl, (blk_cell BK161.out 1).trans rfl, (blk_cell BK161.out 2).trans rfl, (blk_cell BK161.out 3).trans rfl⟩ (fun hHeld => ?_); refine with_tabW jigsawlaw05_LexBack.tab11 jigsawlaw05_LexBack.bits11 (fun HT_ HW_ => ?_)
              generalize w33.drew = w34 at HO_5 HO_35 BK161 HB hHeld ⊢
              refine pA 0 50 LB10 HT_ ?_
              refine pA 1 51 LB9 HT_ ?_
              refine pA 4 54 LB8 HT_ ?_
              refine pA 5 55 LB7 HT_ ?_
              refine pT4 2 52 LB6 HT_ HW_ hHeld ?_
              refine one_ (i := 3) (N := some 53) LB5 rfl rfl (one_of HT_.out (by kernel_rfl)) (by decide) (fun K hK => ?_)
              refine Kd.R_lit_step Kd.string _ 9 ?hg (N := 53) ?hd (xs := ([(⟨#[32]⟩ : ByteArray), (⟨#[10]⟩ : ByteArray), (⟨#[9, 32]⟩ : ByteArray), (⟨#[37, 32, 194, 167, 255, 10]⟩ : ByteArray), (⟨#[37, 10, 37, 37, 13, 10]⟩ : ByteArray), (⟨#[32, 13]⟩ : ByteArray)] : List ByteArray)) (inner := [.string (⟨#[32]⟩ : ByteArray), .string (⟨#[10]⟩ : ByteArray), .string (⟨#[9, 32]⟩ : ByteArray), .string (⟨#[37, 32, 194, 167, 255, 10]⟩ : ByteArray), .string (⟨#[37, 10, 37, 37, 13, 10]⟩ : ByteArray), .string (⟨#[32, 13]⟩ : ByteArray)]) (ok := fun _ => True) (okp := fun _ => True) ?hr ?hp (fun _ hk => hk) trivial (Below.refl _ _) (Nat.le_refl _) (by simp) ?_; (case hd => rfl); (case hg => rfl); (case hr => first | (go_simp; done) | (go_simp; rfl)); (case hp => exact (Reps.one (show Kd.M Kd.string _ _ _ (⟨#[32]⟩ : ByteArray) [.string (⟨#[32]⟩ : ByteArray)] from rfl) (Reps.one (show Kd.M Kd.string _ _ _ (⟨#[10]⟩ : ByteArray) [.string (⟨#[10]⟩ : ByteArray)] from rfl) (Reps.one (show Kd.M Kd.string _ _ _ (⟨#[9, 32]⟩ : ByteArray) [.string (⟨#[9, 32]⟩ : ByteArray)] from rfl) (Reps.one (show Kd.M Kd.string _ _ _ (⟨#[37, 32, 194, 167, 255, 10]⟩ : ByteArray) [.string (⟨#[37, 32, 194, 167, 255, 10]⟩ : ByteArray)] from rfl) (Reps.one (show Kd.M Kd.string _ _ _ (⟨#[37, 10, 37, 37, 13, 10]⟩ : ByteArray) [.string (⟨#[37, 10, 37, 37, 13, 10]⟩ : ByteArray)] from rfl) (Reps.one (show Kd.M Kd.string _ _ _ (⟨#[32, 13]⟩ : ByteArray) [.string (⟨#[32, 13]⟩ : ByteArray)] from rfl) (Reps.none _ _))))))))
              intro v168 w35 ho36 hb hg_ hnew_
              clear hg_ hnew_
              (first | rw [← Ny167.out] at ho36 | (simp only [Int.reduceToNat] at ho36; rw [← Ny167.out] at ho36))
              have n0_ := Aside0.mk (Kd.R_below (by (with_reducible repeat (first | apply Kd.R_alloc | apply Kd.R_drewN | apply Kd.R_drew)); exact HO_5.out) hb)
              have n1_ := Aside0.mk (Kd.R_below (by (with_reducible repeat (first | apply Kd.R_alloc | apply Kd.R_drewN | apply Kd.R_drew)); exact HO_35.out) hb)
              have n2_ := Aside0.mk (Kd.R_lower ho36 (below_size (by repeat (first | (with_reducible first | exact HB.out | apply below_alloc | apply pw_below_drewN | apply below_drew1 | refine below_set ?_ GE161.out) | exact HB.out))))
              have n3_ := Aside0.mk (blk_below (g := gb161) (o := .cells #[.int .i64 ((rd_T33 t154 x37_1).f0), .string ((rd_T33 t154 x37_1).f1), .int .i64 ((rd_T33 t154 x37_1).f2), .int .i64 ((rd_T33 t154 x37_1).f3)] 33 (0, 0)) (by (with_reducible repeat (first | refine blk_drewN ?_ _ | refine blk_drew ?_ | refine blk_alloc ?_ _)); exact BK161.out) hb)
              have n4_ := Aside0.mk (below_step (by repeat (first | (with_reducible first | exact HB.out | apply below_alloc | apply pw_below_drewN | apply below_drew1 | refine below_set ?_ GE161.out) | exact HB.out)) hb)
              clear HO_5
              clear HO_35
              clear BK161
              clear HB
              have HO_5 := n0_
              have HO_35 := n1_
              have HO169 := n2_
              have BK161 := n3_
              have HB := n4_
              clear n0_ n1_ n2_ n3_ n4_
              clear hb ho36
              obtain ⟨Ao37, co37, eo37⟩ := Kd.R_slice HO169.out
              subst eo37
              obtain ⟨ado37, fo37, _⟩ := Kd.at_string (Kd.R_reads' HO169.out).2.2 0 (by decide) (by rw [Ny167.out]; simp)
              cases fo37
              refine hK.out _ _ ⟨(blk_cell BK161.out 0).trans rfl, (blk_cell BK161.out 1).trans rfl, (blk_cell BK161.out 2).trans rfl, (blk_cell BK161.out 3).trans rfl⟩ (fun hHeld => ?_)
              clear hK K
              refine norm_ (a' := ?_) ?_ ?_
              rotate_left
              ·show Act.put _ (some 53) _ = _
               simp only [Act.put, List.setIfInBounds_toArray, List.set_cons_zero, List.set_cons_succ, i64_w, i32_w]
               rfl
              refine pA 6 56 LB4 HT_ ?_
              refine one_ (i := 7) (N := some 57) LB3 rfl rfl (one_of HT_.out (by kernel_rfl)) (by decide) (fun K hK => ?_)
              (have p170 : 0 ≤ (((0 : Int)) : Int) := of_decide_eq_true (by first | (with_reducible assumption) | assumption); have q170 : ((0 : Int)) < (y167.length : Int) := of_decide_eq_true (by first | (with_reducible assumption) | assumption); obtain ⟨ad170, e170, hx170_0⟩ := Kd.at_string (Kd.R_reads' HO169.out).2.2 ((0 : Int)) p170 q170; have hx170_z := hx170_0; rw [show (0 : Int).toNat = 0 from rfl, Addr.add_zero'] at hx170_z; obtain rfl : ado37 = ad170 := (by injection e170))
              refine value_ (w1 := ?_) (v := ?_) (by rfl) rfl ?_ ?_
              rotate_left 2
              ·go_simp
               constructor
               ·rfl
               ·rfl
              try clear hx170_0
              refine hK.out _ _ ⟨(blk_cell BK161.out 0).trans rfl, (blk_cell BK161.out 1).trans rfl, (blk_cell BK161.out 2).trans rfl, (blk_cell BK161.out 3).trans rfl⟩ (fun hHeld => ?_)
              clear hK K
              refine norm_ (a' := ?_) ?_ ?_
              rotate_left
              ·show Act.put _ (some 57) _ = _
               simp only [Act.put, List.setIfInBounds_toArray, List.set_cons_zero, List.set_cons_succ, i64_w, i32_w]
               rfl
              refine pA 8 58 LB2 HT_ ?_
              refine pA 9 59 LB1 HT_ ?_
              refine pA 10 8 LB0 HT_ ?_
              refine done_ (done_of HT_.out (by kernel_rfl)) ?_
              try go_wp2
              go_roundg k1
              case measure => have := HK1.out; omega
              case rel => exact ⟨(x8_1 ++ (((rd_T33 t154 x37_1).f1) ++ (rdOf ByteArray.empty y167 ((0 : Int))))), (wrap64 (x37_1 + 1)), (by first | rfl | (simp; done) | (simp only [← hji26] <;> (first | rfl | simp)) | (simp [*]; done)), (by first | rfl | (simp; done) | (simp [*]; done)), H', ⟨by have := HK1.out; omega⟩, ⟨by (with_reducible repeat (first | apply Kd.R_alloc | apply Kd.R_drewN | apply Kd.R_drew)); exact Kd.R_mono HO_5.out (fun _ hk => trivial)⟩, ⟨by (with_reducible repeat (first | apply Kd.R_alloc | apply Kd.R_drewN | apply Kd.R_drew)); exact Kd.R_mono HO_35.out (fun _ hk => trivial)⟩, ⟨by repeat (first | (with_reducible first | exact HB.out | apply below_alloc | apply pw_below_drewN | apply below_drew1 | refine below_set ?_ GE161.out) | exact HB.out)⟩⟩
             ·rw [if_neg c30] at H
              exact absurd H (by simp)
            ·rw [if_neg c29] at H
             exact absurd H (by simp)
           ·rw [if_neg c28] at H
            exact absurd H (by simp)
          ·rw [if_neg c27] at H
           exact absurd H (by simp)
        ·rw [if_neg c12] at H
         exact absurd H (by simp)
       ·rw [if_neg c11] at H
        exact absurd H (by simp)
      ·rw [if_neg c10] at H
       have c10b0 : decide (x37_1 < (t154.length : Int)) = false := decide_eq_false c10
       clear c10
       replace H := Option.bind_eq_some_iff.mp H
       obtain ⟨⟨t171, t172, t173⟩, A380, H⟩ := H
       replace H : ((jigsawlaw05_wakes.f k1).bind fun t176 => (if t176 = true then (if t173 = 0 then (jigsawlaw05_LexBack.j1 k1 t154 x8_1 t171 ((t171.length : Int) != (t154.length : Int))) else (jigsawlaw05_LexBack.j1 k1 t154 x8_1 t171 true)) else (jigsawlaw05_LexBack.j1 k1 t154 x8_1 t171 true))) = some r := H
       have A38 := Aside0.mk A380
       clear A380
       have HC39 := Aside0.mk H
       clear H
       go_upto_region 14 with (first | ((with_reducible refine gate_callee (f := 8) rfl ?_); refine goesL_ (some 63) rfl rfl Tryd.func8 (by kernel_rfl) rfl #[.string x8_1] rfl (by (try simp only [List.map_toArray, List.map_cons, List.map_nil]); first | done | rfl | (simp only [List.length_drop, List.length_take]; rfl)) ?_; (with_reducible refine (lex_Lex.calls k1 x8_1 t171 t172 t173 _ A38.out).mono ?_); rintro e w40 ⟨v174, rfl, ho0, hb⟩; refine ⟨_, rfl, ?_⟩; have n0_ := Aside0.mk (Kd.R_elder' (by (with_reducible repeat (first | apply Kd.R_alloc | apply Kd.R_drewN | apply Kd.R_drew)); exact HO_5.out) (Kd.R_base ho0) hb); have n1_ := Aside0.mk (Kd.R_elder' (by (with_reducible repeat (first | apply Kd.R_alloc | apply Kd.R_drewN | apply Kd.R_drew)); exact HO_35.out) (Kd.R_base ho0) hb); have n2_ := Aside0.mk (Kd.R_lower (Kd.R_new' (Kd.R_new' ho0 (Kd.R_lt (by (with_reducible repeat (first | apply Kd.R_alloc | apply Kd.R_drewN | apply Kd.R_drew)); exact HO_5.out))) (Kd.R_lt (by (with_reducible repeat (first | apply Kd.R_alloc | apply Kd.R_drewN | apply Kd.R_drew)); exact HO_35.out))) (below_size (by repeat (first | (with_reducible first | exact HB.out | apply below_alloc | apply pw_below_drewN | apply below_drew1) | exact HB.out)))); have n3_ := Aside0.mk (below_step (by repeat (first | (with_reducible first | exact HB.out | apply below_alloc | apply pw_below_drewN | apply below_drew1) | exact HB.out)) hb); clear HO_5; clear HO_35; clear HB; have HO_5 := n0_; have HO_35 := n1_; have HO175 := n2_; have HB := n3_; clear n0_ n1_ n2_ n3_; (try clear hb); (try clear hb2); (try clear hk); (try clear hi); (try clear ho0)))
       (try simp only [Act.put, List.setIfInBounds_toArray, List.set_cons_zero, List.set_cons_succ])
       go_cut [79] (fun v79 wc => ∃ (kq : Nat) (x79_38 : Bool), v79 = .bool x79_38 ∧ Aside0 (jigsawlaw05_LexBack.j1 kq t154 x8_1 t171 x79_38 = some r) ∧ Aside0 (kq ≤ k1) ∧ Aside0 (Kd.R k33 33 wc w.heap.size (fun k_ => some k_ ≠ (v174 : Value).ownBlock) (.slice Ao9 t154.length co9) t154) ∧ Aside0 (Kd.R k33 33 wc w.heap.size (fun k_ => some k_ ≠ ((.slice Ao9 t154.length co9) : Value).ownBlock) v174 t171) ∧ Aside0 (Below w.heap.size w wc))
       case first =>
        have H := HC39.out
        clear HC39
        replace H := Option.bind_eq_some_iff.mp H
        obtain ⟨t176, A410, H⟩ := H
        replace H : (if t176 = true then (if t173 = 0 then (jigsawlaw05_LexBack.j1 k1 t154 x8_1 t171 ((t171.length : Int) != (t154.length : Int))) else (jigsawlaw05_LexBack.j1 k1 t154 x8_1 t171 true)) else (jigsawlaw05_LexBack.j1 k1 t154 x8_1 t171 true)) = some r := H
        have A41 := Aside0.mk A410
        clear A410
        by_cases c42 : t176 = true
        ·subst c42
         have H1 : (if t173 = 0 then (jigsawlaw05_LexBack.j1 k1 t154 x8_1 t171 ((t171.length : Int) != (t154.length : Int))) else (jigsawlaw05_LexBack.j1 k1 t154 x8_1 t171 true)) = some r := by rw [if_pos rfl] at H; exact H
         clear H
         have H := H1
         clear H1
         by_cases c43 : t173 = 0
         ·rw [if_pos c43] at H
          have c43b0 : (t173 == 0) = true := beq_iff_eq.mpr c43
          have c43b1 : (t173 != 0) = false := bne_eq_false_iff_eq.mpr c43
          clear c43
          (first | rw [c43b0] | (simp only [i64_w, i32_w]; rw [c43b0]) | skip)
          have H' := Aside0.mk H
          clear H
          go_wp2_with (first | ((with_reducible refine gate_callee (f := 10) rfl ?_); refine goesL_ (some 67) rfl rfl Tryd.func10 (by kernel_rfl) rfl #[] rfl (by (try simp only [List.map_toArray, List.map_cons, List.map_nil]); first | done | rfl | (simp only [List.length_drop, List.length_take]; rfl)) ?_; (with_reducible refine (jigsawlaw05_wakes.calls k1  true _ A41.out).mono ?_); rintro e w44 ⟨rfl, hb⟩; refine ⟨_, rfl, ?_⟩; have n0_ := Aside0.mk (Kd.R_below (by (with_reducible repeat (first | apply Kd.R_alloc | apply Kd.R_drewN | apply Kd.R_drew)); exact HO_5.out) hb); have n1_ := Aside0.mk (Kd.R_below (by (with_reducible repeat (first | apply Kd.R_alloc | apply Kd.R_drewN | apply Kd.R_drew)); exact HO_35.out) hb); have n2_ := Aside0.mk (Kd.R_below (by (with_reducible repeat (first | apply Kd.R_alloc | apply Kd.R_drewN | apply Kd.R_drew)); exact HO175.out) hb); have n3_ := Aside0.mk (below_step (by repeat (first | (with_reducible first | exact HB.out | apply below_alloc | apply pw_below_drewN | apply below_drew1) | exact HB.out)) hb); clear HO_5; clear HO_35; clear HO175; clear HB; have HO_5 := n0_; have HO_35 := n1_; have HO175 := n2_; have HB := n3_; clear n0_ n1_ n2_ n3_; (try clear hb); (try clear hb2); (try clear hk); (try clear hi); obtain ⟨Ao45, co45, eo45⟩ := Kd.R_slice HO175.out; subst eo45))
          go_meet
          case rel => exact ⟨_, (((t171.length : Int) != (t154.length : Int))), (by first | rfl | (simp; done) | (simp [*]; done)), H', ⟨by have := HK1.out; first | omega | exact Nat.le_refl _⟩, ⟨by (with_reducible repeat (first | apply Kd.R_alloc | apply Kd.R_drewN | apply Kd.R_drew)); exact Kd.R_mono HO_5.out (fun _ hk => hk.2)⟩, ⟨by (with_reducible repeat (first | apply Kd.R_alloc | apply Kd.R_drewN | apply Kd.R_drew)); exact Kd.R_mono HO175.out (fun _ hk => hk.1.2)⟩, ⟨by repeat (first | (with_reducible first | exact HB.out | apply below_alloc | apply pw_below_drewN | apply below_drew1) | exact HB.out)⟩⟩
         ·rw [if_neg c43] at H
          have c43b0 : (t173 == 0) = false := beq_eq_false_iff_ne.mpr c43
          have c43b1 : (t173 != 0) = true := bne_iff_ne.mpr c43
          (first | rw [c43b0] | (simp only [i64_w, i32_w]; rw [c43b0]) | skip)
          have H' := Aside0.mk H
          clear H
          go_wp2_with (first | ((with_reducible refine gate_callee (f := 10) rfl ?_); refine goesL_ (some 67) rfl rfl Tryd.func10 (by kernel_rfl) rfl #[] rfl (by (try simp only [List.map_toArray, List.map_cons, List.map_nil]); first | done | rfl | (simp only [List.length_drop, List.length_take]; rfl)) ?_; (with_reducible refine (jigsawlaw05_wakes.calls k1  true _ A41.out).mono ?_); rintro e w46 ⟨rfl, hb⟩; refine ⟨_, rfl, ?_⟩; have n0_ := Aside0.mk (Kd.R_below (by (with_reducible repeat (first | apply Kd.R_alloc | apply Kd.R_drewN | apply Kd.R_drew)); exact HO_5.out) hb); have n1_ := Aside0.mk (Kd.R_below (by (with_reducible repeat (first | apply Kd.R_alloc | apply Kd.R_drewN | apply Kd.R_drew)); exact HO_35.out) hb); have n2_ := Aside0.mk (Kd.R_below (by (with_reducible repeat (first | apply Kd.R_alloc | apply Kd.R_drewN | apply Kd.R_drew)); exact HO175.out) hb); have n3_ := Aside0.mk (below_step (by repeat (first | (with_reducible first | exact HB.out | apply below_alloc | apply pw_below_drewN | apply below_drew1) | exact HB.out)) hb); clear HO_5; clear HO_35; clear HO175; clear HB; have HO_5 := n0_; have HO_35 := n1_; have HO175 := n2_; have HB := n3_; clear n0_ n1_ n2_ n3_; (try clear hb); (try clear hb2); (try clear hk); (try clear hi)))
          go_meet
          case rel => exact ⟨_, (true), (by first | rfl | (simp; done) | (simp [*]; done)), H', ⟨by have := HK1.out; first | omega | exact Nat.le_refl _⟩, ⟨by (with_reducible repeat (first | apply Kd.R_alloc | apply Kd.R_drewN | apply Kd.R_drew)); exact Kd.R_mono HO_5.out (fun _ hk => hk.2)⟩, ⟨by (with_reducible repeat (first | apply Kd.R_alloc | apply Kd.R_drewN | apply Kd.R_drew)); exact Kd.R_mono HO175.out (fun _ hk => hk.1.2)⟩, ⟨by repeat (first | (with_reducible first | exact HB.out | apply below_alloc | apply pw_below_drewN | apply below_drew1) | exact HB.out)⟩⟩
        ·replace c42 := Bool.eq_false_iff.mpr c42
         subst c42
         have H1 : (jigsawlaw05_LexBack.j1 k1 t154 x8_1 t171 true) = some r := by rw [if_neg (show ¬ (false = true) by decide)] at H; exact H
         clear H
         have H := H1
         clear H1
         have H' := Aside0.mk H
         clear H
         go_wp2_with (first | ((with_reducible refine gate_callee (f := 10) rfl ?_); refine goesL_ (some 67) rfl rfl Tryd.func10 (by kernel_rfl) rfl #[] rfl (by (try simp only [List.map_toArray, List.map_cons, List.map_nil]); first | done | rfl | (simp only [List.length_drop, List.length_take]; rfl)) ?_; (with_reducible refine (jigsawlaw05_wakes.calls k1  false _ A41.out).mono ?_); rintro e w47 ⟨rfl, hb⟩; refine ⟨_, rfl, ?_⟩; have n0_ := Aside0.mk (Kd.R_below (by (with_reducible repeat (first | apply Kd.R_alloc | apply Kd.R_drewN | apply Kd.R_drew)); exact HO_5.out) hb); have n1_ := Aside0.mk (Kd.R_below (by (with_reducible repeat (first | apply Kd.R_alloc | apply Kd.R_drewN | apply Kd.R_drew)); exact HO_35.out) hb); have n2_ := Aside0.mk (Kd.R_below (by (with_reducible repeat (first | apply Kd.R_alloc | apply Kd.R_drewN | apply Kd.R_drew)); exact HO175.out) hb); have n3_ := Aside0.mk (below_step (by repeat (first | (with_reducible first | exact HB.out | apply below_alloc | apply pw_below_drewN | apply below_drew1) | exact HB.out)) hb); clear HO_5; clear HO_35; clear HO175; clear HB; have HO_5 := n0_; have HO_35 := n1_; have HO175 := n2_; have HB := n3_; clear n0_ n1_ n2_ n3_; (try clear hb); (try clear hb2); (try clear hk); (try clear hi)))
         go_meet
         case rel => exact ⟨_, (true), (by first | rfl | (simp; done) | (simp [*]; done)), H', ⟨by have := HK1.out; first | omega | exact Nat.le_refl _⟩, ⟨by (with_reducible repeat (first | apply Kd.R_alloc | apply Kd.R_drewN | apply Kd.R_drew)); exact Kd.R_mono HO_5.out (fun _ hk => hk.2)⟩, ⟨by (with_reducible repeat (first | apply Kd.R_alloc | apply Kd.R_drewN | apply Kd.R_drew)); exact Kd.R_mono HO175.out (fun _ hk => hk.1.2)⟩, ⟨by repeat (first | (with_reducible first | exact HB.out | apply below_alloc | apply pw_below_drewN | apply below_drew1) | exact HB.out)⟩⟩
       case rest =>
        clear HC39
        try clear c1
        try clear p1
        try clear q1
        try clear hx1
        try clear qi1
        try clear c2
        try clear p2
        try clear c3
        try clear c4
        try clear c4b0
        try clear c4b1
        try clear c5
        try clear c5b0
        try clear c5b1
        try clear p6
        try clear c7
        try clear c7b0
        try clear c7b1
        try clear c8
        try clear c10
        try clear c10b0
        try clear c11
        try clear c11b0
        try clear c12
        try clear c12b0
        try clear c13
        try clear c13b0
        try clear c15
        try clear c15b0
        try clear c16
        try clear c16b0
        try clear p16
        try clear q16
        try clear hx16
        try clear qi16
        try clear c17
        try clear c17b0
        try clear c17b1
        try clear c17b2
        try clear p17
        try clear q17
        try clear hx17
        try clear qi17
        try clear c18
        try clear c18b0
        try clear c18b1
        try clear c18b2
        try clear c27
        try clear c27b0
        try clear c28
        try clear c28b0
        try clear c29
        try clear c29b0
        try clear c29b1
        try clear c29b2
        try clear c30
        try clear c30b0
        try clear c30b1
        try clear c30b2
        try clear c42
        try clear c43
        try clear c43b0
        try clear c43b1
        try clear hcz20_0
        try clear hcz20_1
        try clear hcz20_2
        try clear hcz20_3
        try clear hcz32_0
        try clear hcz32_1
        try clear hcz32_2
        try clear hcz32_3
        try clear hfz20_0
        try clear hfz20_1
        try clear hfz20_2
        try clear hfz20_3
        try clear hfz32_0
        try clear hfz32_1
        try clear hfz32_2
        try clear hfz32_3
        try clear hx160_0
        try clear hx160_1
        try clear hx160_2
        try clear hx160_3
        try clear hx162_0
        try clear hx166_0
        try try clear hx170_0
        try clear p160
        try clear p162
        try clear p166
        try clear p170
        try clear p2
        try clear q160
        try clear q162
        try clear q166
        try clear q170
        obtain ⟨kq, x79_38, rfl, HA, HJ38, HO_5, HO_12, HB⟩ := hcut
        cases kq with
        | zero => exact absurd HA.out (by simp [jigsawlaw05_LexBack.j1])
        | succ kj38 =>
         have H := HA.out
         clear HA
         simp only [jigsawlaw05_LexBack.j1] at H
         by_cases c48 : x79_38 = true
         ·subst c48
          have H1 : (some false) = some r := by rw [if_pos rfl] at H; exact H
          clear H
          have H := H1
          clear H1
          obtain rfl := Option.some.inj H
          go_wp2
          go_ret
          exact ⟨by first | rfl | (simp [errW_none, errW_some] <;> rfl) | (simp only [← hji3]; first | rfl | (simp [errW_none, errW_some] <;> rfl)) | (simp [*, errW_none, errW_some] <;> rfl), by repeat (first | (with_reducible first | exact HB.out | apply below_alloc | apply pw_below_drewN | apply below_drew1) | exact HB.out)⟩
         ·replace c48 := Bool.eq_false_iff.mpr c48
          subst c48
          have H1 : (jigsawlaw05_LexBack.l1 kj38 t154 x8_1 t171 (t171.length : Int) 0) = some r := by rw [if_neg (show ¬ (false = true) by decide)] at H; exact H
          clear H
          have H := H1
          clear H1
          have H' := Aside0.mk H
          clear H
          obtain ⟨Ao49, co49, eo49⟩ := Kd.R_slice HO_12.out
          subst eo49
          go_wp2
          go_loopg [82] kj38 (fun kq v82 w' => ∃ (x82_3 : Int), v82 = .int .i64 x82_3 ∧ Aside0 (jigsawlaw05_LexBack.l1 kq t154 x8_1 t171 (t171.length : Int) x82_3 = some r) ∧ Aside0 (kq ≤ kj38) ∧ Aside0 (Kd.R k33 33 w' w.heap.size (fun k_ => some k_ ≠ ((.slice Ao49 t171.length co49) : Value).ownBlock) (.slice Ao9 t154.length co9) t154) ∧ Aside0 (Kd.R k33 33 w' w.heap.size (fun k_ => some k_ ≠ ((.slice Ao9 t154.length co9) : Value).ownBlock) (.slice Ao49 t171.length co49) t171) ∧ Aside0 (Below w.heap.size w w'))
          case atStart => exact ⟨(0), (by first | rfl | (simp; done) | (simp [*]; done)), H', ⟨Nat.le_refl _⟩, ⟨by (with_reducible repeat (first | apply Kd.R_alloc | apply Kd.R_drewN | apply Kd.R_drew)); exact HO_5.out⟩, ⟨by (with_reducible repeat (first | apply Kd.R_alloc | apply Kd.R_drewN | apply Kd.R_drew)); exact HO_12.out⟩, ⟨by repeat (first | (with_reducible first | exact HB.out | apply below_alloc | apply pw_below_drewN | apply below_drew1) | exact HB.out)⟩⟩
          case round =>
           clear H'
           try clear c1
           try clear p1
           try clear q1
           try clear hx1
           try clear qi1
           try clear c2
           try clear p2
           try clear c3
           try clear c4
           try clear c4b0
           try clear c4b1
           try clear c5
           try clear c5b0
           try clear c5b1
           try clear p6
           try clear c7
           try clear c7b0
           try clear c7b1
           try clear c8
           try clear c10
           try clear c10b0
           try clear c11
           try clear c11b0
           try clear c12
           try clear c12b0
           try clear c13
           try clear c13b0
           try clear c15
           try clear c15b0
           try clear c16
           try clear c16b0
           try clear p16
           try clear q16
           try clear hx16
           try clear qi16
           try clear c17
           try clear c17b0
           try clear c17b1
           try clear c17b2
           try clear p17
           try clear q17
           try clear hx17
           try clear qi17
           try clear c18
           try clear c18b0
           try clear c18b1
           try clear c18b2
           try clear c27
           try clear c27b0
           try clear c28
           try clear c28b0
           try clear c29
           try clear c29b0
           try clear c29b1
           try clear c29b2
           try clear c30
           try clear c30b0
           try clear c30b1
           try clear c30b2
           try clear c42
           try clear c43
           try clear c43b0
           try clear c43b1
           try clear c48
           try clear hcz20_0
           try clear hcz20_1
           try clear hcz20_2
           try clear hcz20_3
           try clear hcz32_0
           try clear hcz32_1
           try clear hcz32_2
           try clear hcz32_3
           try clear hfz20_0
           try clear hfz20_1
           try clear hfz20_2
           try clear hfz20_3
           try clear hfz32_0
           try clear hfz32_1
           try clear hfz32_2
           try clear hfz32_3
           try clear hx160_0
           try clear hx160_1
           try clear hx160_2
           try clear hx160_3
           try clear hx162_0
           try clear hx166_0
           try try clear hx170_0
           try clear p1
           try clear p16
           try clear p160
           try clear p162
           try clear p166
           try clear p17
           try clear p170
           try clear p2
           try clear p6
           try clear q1
           try clear q16
           try clear q160
           try clear q162
           try clear q166
           try clear q17
           try clear q170
           obtain ⟨x82_3, rfl, HA, HK3, HO_5, HO_80, HB⟩ := hrel
           cases gk with
           | zero => exact absurd HA.out (by simp [jigsawlaw05_LexBack.l1])
           | succ k3 =>
            have H := HA.out
            clear HA
            simp only [jigsawlaw05_LexBack.l1] at H
            by_cases c50 : x82_3 < (t171.length : Int)
            ·rw [if_pos c50] at H
             have c50b0 : decide (x82_3 < (t171.length : Int)) = true := decide_eq_true c50
             clear c50
             by_cases c51 : 0 ≤ x82_3
             ·rw [if_pos c51] at H
              have c51b0 : decide (0 ≤ x82_3) = true := decide_eq_true c51
              clear c51
              by_cases c52 : x82_3 < (t171.length : Int)
              ·rw [if_pos c52] at H
               have c52b0 : decide (x82_3 < (t171.length : Int)) = true := decide_eq_true c52
               clear c52
               by_cases c53 : x82_3 < (t154.length : Int)
               ·rw [if_pos c53] at H
                have c53b0 : decide (x82_3 < (t154.length : Int)) = true := decide_eq_true c53
                clear c53
                by_cases c54 : ((rd_T33 t171 x82_3).f0) = ((rd_T33 t154 x82_3).f0)
                ·rw [if_pos c54] at H
                 have c54b0 : (((rd_T33 t171 x82_3).f0) == ((rd_T33 t154 x82_3).f0)) = true := beq_iff_eq.mpr c54
                 have c54b1 : (((rd_T33 t171 x82_3).f0) != ((rd_T33 t154 x82_3).f0)) = false := bne_eq_false_iff_eq.mpr c54
                 clear c54
                 by_cases c55 : ((rd_T33 t171 x82_3).f1).toList = ((rd_T33 t154 x82_3).f1).toList
                 ·rw [if_pos c55] at H
                  have c55b0 : (((rd_T33 t171 x82_3).f1).toList == ((rd_T33 t154 x82_3).f1).toList) = true := beq_iff_eq.mpr c55
                  have c55b1 : (((rd_T33 t171 x82_3).f1).toList != ((rd_T33 t154 x82_3).f1).toList) = false := bne_eq_false_iff_eq.mpr c55
                  clear c55
                  by_cases c56 : ((rd_T33 t171 x82_3).f2) = ((rd_T33 t154 x82_3).f2)
                  ·rw [if_pos c56] at H
                   have c56b0 : (((rd_T33 t171 x82_3).f2) == ((rd_T33 t154 x82_3).f2)) = true := beq_iff_eq.mpr c56
                   have c56b1 : (((rd_T33 t171 x82_3).f2) != ((rd_T33 t154 x82_3).f2)) = false := bne_eq_false_iff_eq.mpr c56
                   clear c56
                   by_cases c57 : ((rd_T33 t171 x82_3).f3) < 0
                   ·rw [if_pos c57] at H
                    have c57b0 : decide (((rd_T33 t171 x82_3).f3) < 0) = true := decide_eq_true c57
                    clear c57
                    obtain rfl := Option.some.inj H
                    have p177 : 0 ≤ (x82_3 : Int) := of_decide_eq_true (by first | (with_reducible assumption) | assumption)
                    have q177 : x82_3 < (t171.length : Int) := of_decide_eq_true (by first | (with_reducible assumption) | assumption)
                    obtain ⟨ad177, e177, hx177_0, hx177_1, hx177_2, hx177_3⟩ := at_T33 (Kd.R_reads' HO_80.out).2.2 x82_3 p177 q177
                    cases e177
                    replace p177 := eq_true p177
                    replace q177 := eq_true q177
                    try go_wp2_with (first | ((with_reducible refine gate_dst (N := 16) rfl ?_); (try (refine gate_guard (by rfl) ?_; dsimp only)); refine box_event ?hg (N := 16) ?hd (cs := #[.int .i64 0, .string (⟨#[]⟩ : ByteArray), .int .i64 0, .int .i64 0]) (t := 33) ?hr ?_; (case hd => rfl); (case hg => rfl); (case hr => first | (go_simp; done) | (go_simp; rfl)); intro gb178 hg w58 hbox hb; have n0_ := Aside0.mk (Kd.R_below (Kd.R_elderB (by (with_reducible repeat (first | apply Kd.R_alloc | apply Kd.R_drewN | apply Kd.R_drew)); exact HO_5.out) gb178 (Nat.le_of_eq hg.symm)) hb); have n1_ := Aside0.mk (Kd.R_below (Kd.R_elderB (by (with_reducible repeat (first | apply Kd.R_alloc | apply Kd.R_drewN | apply Kd.R_drew)); exact HO_80.out) gb178 (Nat.le_of_eq hg.symm)) hb); have n2_ := Aside0.mk (below_step (by repeat (first | (with_reducible first | exact HB.out | apply below_alloc | apply pw_below_drewN | apply below_drew1) | exact HB.out)) hb); have n3_ := Aside0.mk (hbox); have n4_ := Aside0.mk ((by rw [hg]; exact (below_size (by repeat (first | (with_reducible first | exact HB.out | apply below_alloc | apply pw_below_drewN | apply below_drew1) | exact HB.out))) : w.heap.size ≤ gb178)); have n5_ := Aside0.mk ((by rw [hg]; exact (below_size (by repeat (first | (with_reducible first | exact HB.out | apply below_alloc | apply pw_below_drewN | apply below_drew1) | exact HB.out))) : w.heap.size ≤ gb178)); clear HO_5; clear HO_80; clear HB; have HO_5 := n0_; have HO_80 := n1_; have HB := n2_; have BK178 := n3_; have GW178 := n4_; have GE178 := n5_; clear n0_ n1_ n2_ n3_ n4_ n5_; clear hb hbox hg; have hcz59_0 : w58.cell? ⟨gb178, 0, none⟩ = some (.int .i64 0) := (blk_cell BK178.out 0).trans rfl; have hcz59_1 : w58.cell? ⟨gb178, 1, none⟩ = some (.string (⟨#[]⟩ : ByteArray)) := (blk_cell BK178.out 1).trans rfl; have hcz59_2 : w58.cell? ⟨gb178, 2, none⟩ = some (.int .i64 0) := (blk_cell BK178.out 2).trans rfl; have hcz59_3 : w58.cell? ⟨gb178, 3, none⟩ = some (.int .i64 0) := (blk_cell BK178.out 3).trans rfl; have hfz59_0 := blk_frozen BK178.out 0; have hfz59_1 := blk_frozen BK178.out 1; have hfz59_2 := blk_frozen BK178.out 2; have hfz59_3 := blk_frozen BK178.out 3))
                    have n0_ : Aside0 (Kd.R k33 33 ((((w58.setCell ⟨gb178, 0, none⟩ (.int .i64 ((rd_T33 t171 x82_3).f0))).setCell ⟨gb178, 1, none⟩ (.string ((rd_T33 t171 x82_3).f1))).setCell ⟨gb178, 2, none⟩ (.int .i64 ((rd_T33 t171 x82_3).f2))).setCell ⟨gb178, 3, none⟩ (.int .i64 ((rd_T33 t171 x82_3).f3))) w.heap.size (fun k_ => some k_ ≠ (.slice (some ad177) t171.length co49 : Value).ownBlock ∧ k_ ≠ gb178) (.slice Ao9 t154.length co9) t154) := ⟨by (with_reducible repeat (first | apply Kd.R_alloc | apply Kd.R_drewN | apply Kd.R_drew)); exact Kd.R_mono (Kd.R_far (p := ⟨gb178, 3, none⟩) (Kd.R_far (p := ⟨gb178, 2, none⟩) (Kd.R_far (p := ⟨gb178, 1, none⟩) (Kd.R_far (p := ⟨gb178, 0, none⟩) (Kd.R_mono HO_5.out (fun k_ hk => (⟨hk, hk.2⟩ : _ ∧ k_ ≠ gb178))) (fun _ hk => hk.2) (.int .i64 ((rd_T33 t171 x82_3).f0))) (fun _ hk => hk.2) (.string ((rd_T33 t171 x82_3).f1))) (fun _ hk => hk.2) (.int .i64 ((rd_T33 t171 x82_3).f2))) (fun _ hk => hk.2) (.int .i64 ((rd_T33 t171 x82_3).f3))) (fun _ hk => ⟨hk.1.1, hk.1.2⟩)⟩
                    have n1_ : Aside0 (Kd.R k33 33 ((((w58.setCell ⟨gb178, 0, none⟩ (.int .i64 ((rd_T33 t171 x82_3).f0))).setCell ⟨gb178, 1, none⟩ (.string ((rd_T33 t171 x82_3).f1))).setCell ⟨gb178, 2, none⟩ (.int .i64 ((rd_T33 t171 x82_3).f2))).setCell ⟨gb178, 3, none⟩ (.int .i64 ((rd_T33 t171 x82_3).f3))) w.heap.size (fun k_ => some k_ ≠ (.slice Ao9 t154.length co9 : Value).ownBlock ∧ k_ ≠ gb178) (.slice (some ad177) t171.length co49) t171) := ⟨by (with_reducible repeat (first | apply Kd.R_alloc | apply Kd.R_drewN | apply Kd.R_drew)); exact Kd.R_mono (Kd.R_far (p := ⟨gb178, 3, none⟩) (Kd.R_far (p := ⟨gb178, 2, none⟩) (Kd.R_far (p := ⟨gb178, 1, none⟩) (Kd.R_far (p := ⟨gb178, 0, none⟩) (Kd.R_mono HO_80.out (fun k_ hk => (⟨hk, hk.2⟩ : _ ∧ k_ ≠ gb178))) (fun _ hk => hk.2) (.int .i64 ((rd_T33 t171 x82_3).f0))) (fun _ hk => hk.2) (.string ((rd_T33 t171 x82_3).f1))) (fun _ hk => hk.2) (.int .i64 ((rd_T33 t171 x82_3).f2))) (fun _ hk => hk.2) (.int .i64 ((rd_T33 t171 x82_3).f3))) (fun _ hk => ⟨hk.1.1, hk.1.2⟩)⟩
                    have n2_ : Aside0 (((((w58.setCell ⟨gb178, 0, none⟩ (.int .i64 ((rd_T33 t171 x82_3).f0))).setCell ⟨gb178, 1, none⟩ (.string ((rd_T33 t171 x82_3).f1))).setCell ⟨gb178, 2, none⟩ (.int .i64 ((rd_T33 t171 x82_3).f2))).setCell ⟨gb178, 3, none⟩ (.int .i64 ((rd_T33 t171 x82_3).f3))).heap[gb178]? = some (.cells #[.int .i64 ((rd_T33 t171 x82_3).f0), .string ((rd_T33 t171 x82_3).f1), .int .i64 ((rd_T33 t171 x82_3).f2), .int .i64 ((rd_T33 t171 x82_3).f3)] 33 (0, 0))) := ⟨by (with_reducible repeat (first | refine blk_drewN ?_ _ | refine blk_drew ?_ | refine blk_alloc ?_ _)); refine blk_put (cs := #[.int .i64 ((rd_T33 t171 x82_3).f0), .string ((rd_T33 t171 x82_3).f1), .int .i64 ((rd_T33 t171 x82_3).f2), .int .i64 0]) ?_ 3 _ rfl; (with_reducible repeat (first | refine blk_drewN ?_ _ | refine blk_drew ?_ | refine blk_alloc ?_ _)); refine blk_put (cs := #[.int .i64 ((rd_T33 t171 x82_3).f0), .string ((rd_T33 t171 x82_3).f1), .int .i64 0, .int .i64 0]) ?_ 2 _ rfl; (with_reducible repeat (first | refine blk_drewN ?_ _ | refine blk_drew ?_ | refine blk_alloc ?_ _)); refine blk_put (cs := #[.int .i64 ((rd_T33 t171 x82_3).f0), .string (⟨#[]⟩ : ByteArray), .int .i64 0, .int .i64 0]) ?_ 1 _ rfl; (with_reducible repeat (first | refine blk_drewN ?_ _ | refine blk_drew ?_ | refine blk_alloc ?_ _)); refine blk_put (cs := #[.int .i64 0, .string (⟨#[]⟩ : ByteArray), .int .i64 0, .int .i64 0]) ?_ 0 _ rfl; (with_reducible repeat (first | refine blk_drewN ?_ _ | refine blk_drew ?_ | refine blk_alloc ?_ _)); exact BK178.out⟩
                    have n3_ : Aside0 (Below w.heap.size w ((((w58.setCell ⟨gb178, 0, none⟩ (.int .i64 ((rd_T33 t171 x82_3).f0))).setCell ⟨gb178, 1, none⟩ (.string ((rd_T33 t171 x82_3).f1))).setCell ⟨gb178, 2, none⟩ (.int .i64 ((rd_T33 t171 x82_3).f2))).setCell ⟨gb178, 3, none⟩ (.int .i64 ((rd_T33 t171 x82_3).f3)))) := ⟨by repeat (first | (with_reducible first | exact HB.out | apply below_alloc | apply pw_below_drewN | apply below_drew1 | refine below_set ?_ GE178.out) | exact HB.out)⟩
                    (try clear HO_5)
                    (try clear HO_80)
                    (try clear BK178)
                    (try clear HB)
                    generalize ((((w58.setCell ⟨gb178, 0, none⟩ (.int .i64 ((rd_T33 t171 x82_3).f0))).setCell ⟨gb178, 1, none⟩ (.string ((rd_T33 t171 x82_3).f1))).setCell ⟨gb178, 2, none⟩ (.int .i64 ((rd_T33 t171 x82_3).f2))).setCell ⟨gb178, 3, none⟩ (.int .i64 ((rd_T33 t171 x82_3).f3))) = w60 at n0_ n1_ n2_ n3_ ⊢
                    have HO_5 := n0_
                    have HO_80 := n1_
                    have BK178 := n2_
                    have HB := n3_
                    clear n0_ n1_ n2_ n3_
                    have n0_ := Aside0.mk (Kd.R_drew HO_5.out)
                    have n1_ := Aside0.mk (Kd.R_drew HO_80.out)
                    have n2_ := Aside0.mk (blk_drew BK178.out)
                    have n3_ := Aside0.mk (below_drew1 HB.out)
                    clear HO_5
                    clear HO_80
                    clear BK178
                    clear HB
                    have HO_5 := n0_
                    have HO_80 := n1_
                    have BK178 := n2_
                    have HB := n3_
                    clear n0_ n1_ n2_ n3_
                    have p179 : 0 ≤ (x82_3 : Int) := of_decide_eq_true (by first | (with_reducible assumption) | assumption)
                    have q179 : x82_3 < (t154.length : Int) := of_decide_eq_true (by first | (with_reducible assumption) | assumption)
                    obtain ⟨ad179, e179, hx179_0, hx179_1, hx179_2, hx179_3⟩ := at_T33 (Kd.R_reads' HO_5.out).2.2 x82_3 p179 q179
                    cases e179
                    replace p179 := eq_true p179
                    replace q179 := eq_true q179
                    have p180 : 0 ≤ (x82_3 : Int) := of_decide_eq_true (by first | (with_reducible assumption) | assumption)
                    have q180 : x82_3 < (t154.length : Int) := of_decide_eq_true (by first | (with_reducible assumption) | assumption)
                    obtain ⟨ad180, e180, hx180_0, hx180_1, hx180_2, hx180_3⟩ := at_T33 (Kd.R_reads' HO_5.out).2.2 x82_3 p180 q180
                    obtain rfl : ad179 = ad180 := (by injection e180)
                    replace p180 := eq_true p180
                    replace q180 := eq_true q180
                    have p181 : 0 ≤ (x82_3 : Int) := of_decide_eq_true (by first | (with_reducible assumption) | assumption)
                    have q181 : x82_3 < (t154.length : Int) := of_decide_eq_true (by first | (with_reducible assumption) | assumption)
                    obtain ⟨ad181, e181, hx181_0, hx181_1, hx181_2, hx181_3⟩ := at_T33 (Kd.R_reads' HO_5.out).2.2 x82_3 p181 q181
                    obtain rfl : ad179 = ad181 := (by injection e181)
                    replace p181 := eq_true p181
                    replace q181 := eq_true q181
                    refine start_ (n := 59) (S := fun w' => w'.cell? ⟨gb178, 0, none⟩ = some (.int .i64 ((rd_T33 t171 x82_3).f0)) ∧ w'.cell? ⟨gb178, 1, none⟩ = some (.string ((rd_T33 t171 x82_3).f1)) ∧ w'.cell? ⟨gb178, 2, none⟩ = some (.int .i64 ((rd_T33 t171 x82_3).f2)) ∧ w'.cell? ⟨gb178, 3, none⟩ = some (.int .i64 ((rd_T33 t171 x82_3).f3)) ∧ w'.cell? (ad179.add ((x82_3).toNat * 4)) = some (.int .i64 ((rd_T33 t154 x82_3).f0)) ∧ w'.cell? ⟨(ad179.add ((x82_3).toNat * 4)).block, (ad179.add ((x82_3).toNat * 4)).off + 1, none⟩ = some (.string ((rd_T33 t154 x82_3).f1)) ∧ w'.cell? ⟨(ad179.add ((x82_3).toNat * 4)).block, (ad179.add ((x82_3).toNat * 4)).off + 2, none⟩ = some (.int .i64 ((rd_T33 t154 x82_3).f2)) ∧ w'.cell? ⟨(ad179.add ((x82_3).toNat * 4)).block, (ad179.add ((x82_3).toNat * 4)).off + 3, none⟩ = some (.int .i64 ((rd_T33 t154 x82_3).f3)) ∧ w'.cell? (ad179.add ((x82_3).toNat * 4)) = some (.int .i64 ((rd_T33 t154 x82_3).f0)) ∧ w'.cell? ⟨(ad179.add ((x82_3).toNat * 4)).block, (ad179.add ((x82_3).toNat * 4)).off + 1, none⟩ = some (.string ((rd_T33 t154 x82_3).f1)) ∧ w'.cell? ⟨(ad179.add ((x82_3).toNat * 4)).block, (ad179.add ((x82_3).toNat * 4)).off + 2, none⟩ = some (.int .i64 ((rd_T33 t154 x82_3).f2)) ∧ w'.cell? ⟨(ad179.add ((x82_3).toNat * 4)).block, (ad179.add ((x82_3).toNat * 4)).off + 3, none⟩ = some (.int .i64 ((rd_T33 t154 x82_3).f3)) ∧ w'.cell? (ad179.add ((x82_3).toNat * 4)) = some (.int .i64 ((rd_T33 t154 x82_3).f0)) ∧ w'.cell? ⟨(ad179.add ((x82_3).toNat * 4)).block, (ad179.add ((x82_3).toNat * 4)).off + 1, none⟩ = some (.string ((rd_T33 t154 x82_3).f1)) ∧ w'.cell? ⟨(ad179.add ((x82_3).toNat * 4)).block, (ad179.add ((x82_3).toNat * 4)).off + 2, none⟩ = some (.int .i64 ((rd_T33 t154 x82_3).f2)) ∧ w'.cell? ⟨(ad179.add ((x82_3).toNat * 4)).block, (ad179.add ((x82_3).toNat * 4)).off + 3, none⟩ = some (.int .i64 ((rd_T33 t154 x82_3).f3))) (ds := []) LB93 (by kernel_rfl) rfl rfl ⟨(blk_cell BK178.out 0).trans rfl, (blk_cell BK178.out 1).trans rfl, (blk_cell BK178.out 2).trans rfl, (blk_cell BK178.out 3).trans rfl, hx179_0, hx179_1, hx179_2, hx179_3, hx180_0, hx180_1, hx180_2, hx180_3, hx181_0, hx181_1, hx181_2, hx181_3⟩ (fun hHeld => ?_); refine with_tabW jigsawlaw05_LexBack.tab19 jigsawlaw05_LexBack.bits19 (fun HT_ HW_ => ?_)
                    generalize w60.drew = w61 at HO_5 HO_80 BK178 HB hx179_0 hx179_1 hx179_2 hx179_3 hx180_0 hx180_1 hx180_2 hx180_3 hx181_0 hx181_1 hx181_2 hx181_3 hHeld ⊢
                    refine pA 0 87 LB92 HT_ ?_
                    refine pA 2 89 LB91 HT_ ?_
                    refine pA 3 90 LB90 HT_ ?_
                    refine pA 4 91 LB89 HT_ ?_
                    refine pA 5 92 LB88 HT_ ?_
                    refine pT16 1 88 LB87 HT_ HW_ hHeld ?_
                    refine pT16 6 93 LB86 HT_ HW_ hHeld ?_
                    refine pA 7 94 LB85 HT_ ?_
                    refine pA 8 95 LB84 HT_ ?_
                    refine pA 9 96 LB83 HT_ ?_
                    refine pA 11 98 LB82 HT_ ?_
                    refine pA 12 99 LB80 HT_ ?_
                    refine pA 13 100 LB77 HT_ ?_
                    refine pA 14 101 LB75 HT_ ?_
                    refine pT16 10 97 LB74 HT_ HW_ hHeld ?_
                    refine pT16 15 102 LB73 HT_ HW_ hHeld ?_
                    refine pA 16 103 LB72 HT_ ?_
                    refine pA 17 104 LB71 HT_ ?_
                    refine pA 18 105 LB70 HT_ ?_
                    refine pA 19 106 LB69 HT_ ?_
                    refine pA 21 108 LB67 HT_ ?_
                    refine pA 22 109 LB66 HT_ ?_
                    refine pA 23 110 LB64 HT_ ?_
                    refine pA 24 111 LB61 HT_ ?_
                    refine pT16 20 107 LB60 HT_ HW_ hHeld ?_
                    refine pT16 25 112 LB59 HT_ HW_ hHeld ?_
                    refine pA 26 113 LB58 HT_ ?_
                    refine pA 27 114 LB57 HT_ ?_
                    refine pA 28 115 LB56 HT_ ?_
                    refine pA 29 116 LB55 HT_ ?_
                    refine pT16 30 117 LB54 HT_ HW_ hHeld ?_
                    refine pA 31 118 LB53 HT_ ?_
                    refine pA 32 119 LB52 HT_ ?_
                    refine pA 33 120 LB51 HT_ ?_
                    refine pB 34 121 LB50 HT_ ?_
                    refine pB 35 122 LB49 HT_ ?_
                    refine pB 36 123 LB47 HT_ ?_
                    refine pB 37 124 LB45 HT_ ?_
                    refine pB 38 125 LB43 HT_ ?_
                    refine pB 39 126 LB40 HT_ ?_
                    refine pB 40 127 LB38 HT_ ?_
                    refine pB 41 128 LB37 HT_ ?_
                    refine pB 42 129 LB36 HT_ ?_
                    refine pA 43 130 LB35 HT_ ?_
                    refine pA 44 131 LB34 HT_ ?_
                    refine pB 45 132 LB33 HT_ ?_
                    refine pB 46 133 LB32 HT_ ?_
                    refine pB 47 134 LB31 HT_ ?_
                    refine pB 48 135 LB28 HT_ ?_
                    refine pB 49 136 LB26 HT_ ?_
                    refine pB 50 137 LB25 HT_ ?_
                    refine pB 51 138 LB22 HT_ ?_
                    refine pB 52 139 LB21 HT_ ?_
                    refine pB 53 140 LB19 HT_ ?_
                    refine pB 54 141 LB17 HT_ ?_
                    refine pB 55 142 LB15 HT_ ?_
                    refine pB 56 143 LB14 HT_ ?_
                    refine pB 57 144 LB13 HT_ ?_
                    refine pA 58 145 LB12 HT_ ?_
                    refine done_ (done_of HT_.out (by kernel_rfl)) ?_
                    try go_wp2
                    go_ret
                    exact ⟨by first | rfl | (simp [errW_none, errW_some] <;> rfl) | (simp only [← hji3]; first | rfl | (simp [errW_none, errW_some] <;> rfl)) | (simp [*, errW_none, errW_some] <;> rfl), by repeat (first | (with_reducible first | exact HB.out | apply below_alloc | apply pw_below_drewN | apply below_drew1 | refine below_set ?_ GE178.out) | exact HB.out)⟩
                   ·rw [if_neg c57] at H
                    have c57b0 : decide (((rd_T33 t171 x82_3).f3) < 0) = false := decide_eq_false c57
                    clear c57
                    by_cases c62 : (wrap64 (((rd_T33 t171 x82_3).f3) + (((rd_T33 t171 x82_3).f1).size : Int))) > (x8_1.size : Int)
                    ·rw [if_pos c62] at H
                     have c62b0 : decide ((x8_1.size : Int) < (wrap64 (((rd_T33 t171 x82_3).f3) + (((rd_T33 t171 x82_3).f1).size : Int)))) = true := decide_eq_true c62
                     clear c62
                     obtain rfl := Option.some.inj H
                     have p177 : 0 ≤ (x82_3 : Int) := of_decide_eq_true (by first | (with_reducible assumption) | assumption)
                     have q177 : x82_3 < (t171.length : Int) := of_decide_eq_true (by first | (with_reducible assumption) | assumption)
                     obtain ⟨ad177, e177, hx177_0, hx177_1, hx177_2, hx177_3⟩ := at_T33 (Kd.R_reads' HO_80.out).2.2 x82_3 p177 q177
                     cases e177
                     replace p177 := eq_true p177
                     replace q177 := eq_true q177
                     try go_wp2_with (first | ((with_reducible refine gate_dst (N := 16) rfl ?_); (try (refine gate_guard (by rfl) ?_; dsimp only)); refine box_event ?hg (N := 16) ?hd (cs := #[.int .i64 0, .string (⟨#[]⟩ : ByteArray), .int .i64 0, .int .i64 0]) (t := 33) ?hr ?_; (case hd => rfl); (case hg => rfl); (case hr => first | (go_simp; done) | (go_simp; rfl)); intro gb178 hg w63 hbox hb; have n0_ := Aside0.mk (Kd.R_below (Kd.R_elderB (by (with_reducible repeat (first | apply Kd.R_alloc | apply Kd.R_drewN | apply Kd.R_drew)); exact HO_5.out) gb178 (Nat.le_of_eq hg.symm)) hb); have n1_ := Aside0.mk (Kd.R_below (Kd.R_elderB (by (with_reducible repeat (first | apply Kd.R_alloc | apply Kd.R_drewN | apply Kd.R_drew)); exact HO_80.out) gb178 (Nat.le_of_eq hg.symm)) hb); have n2_ := Aside0.mk (below_step (by repeat (first | (with_reducible first | exact HB.out | apply below_alloc | apply pw_below_drewN | apply below_drew1) | exact HB.out)) hb); have n3_ := Aside0.mk (hbox); have n4_ := Aside0.mk ((by rw [hg]; exact (below_size (by repeat (first | (with_reducible first | exact HB.out | apply below_alloc | apply pw_below_drewN | apply below_drew1) | exact HB.out))) : w.heap.size ≤ gb178)); have n5_ := Aside0.mk ((by rw [hg]; exact (below_size (by repeat (first | (with_reducible first | exact HB.out | apply below_alloc | apply pw_below_drewN | apply below_drew1) | exact HB.out))) : w.heap.size ≤ gb178)); clear HO_5; clear HO_80; clear HB; have HO_5 := n0_; have HO_80 := n1_; have HB := n2_; have BK178 := n3_; have GW178 := n4_; have GE178 := n5_; clear n0_ n1_ n2_ n3_ n4_ n5_; clear hb hbox hg; have hcz64_0 : w63.cell? ⟨gb178, 0, none⟩ = some (.int .i64 0) := (blk_cell BK178.out 0).trans rfl; have hcz64_1 : w63.cell? ⟨gb178, 1, none⟩ = some (.string (⟨#[]⟩ : ByteArray)) := (blk_cell BK178.out 1).trans rfl; have hcz64_2 : w63.cell? ⟨gb178, 2, none⟩ = some (.int .i64 0) := (blk_cell BK178.out 2).trans rfl; have hcz64_3 : w63.cell? ⟨gb178, 3, none⟩ = some (.int .i64 0) := (blk_cell BK178.out 3).trans rfl; have hfz64_0 := blk_frozen BK178.out 0; have hfz64_1 := blk_frozen BK178.out 1; have hfz64_2 := blk_frozen BK178.out 2; have hfz64_3 := blk_frozen BK178.out 3))
                     have n0_ : Aside0 (Kd.R k33 33 ((((w63.setCell ⟨gb178, 0, none⟩ (.int .i64 ((rd_T33 t171 x82_3).f0))).setCell ⟨gb178, 1, none⟩ (.string ((rd_T33 t171 x82_3).f1))).setCell ⟨gb178, 2, none⟩ (.int .i64 ((rd_T33 t171 x82_3).f2))).setCell ⟨gb178, 3, none⟩ (.int .i64 ((rd_T33 t171 x82_3).f3))) w.heap.size (fun k_ => some k_ ≠ (.slice (some ad177) t171.length co49 : Value).ownBlock ∧ k_ ≠ gb178) (.slice Ao9 t154.length co9) t154) := ⟨by (with_reducible repeat (first | apply Kd.R_alloc | apply Kd.R_drewN | apply Kd.R_drew)); exact Kd.R_mono (Kd.R_far (p := ⟨gb178, 3, none⟩) (Kd.R_far (p := ⟨gb178, 2, none⟩) (Kd.R_far (p := ⟨gb178, 1, none⟩) (Kd.R_far (p := ⟨gb178, 0, none⟩) (Kd.R_mono HO_5.out (fun k_ hk => (⟨hk, hk.2⟩ : _ ∧ k_ ≠ gb178))) (fun _ hk => hk.2) (.int .i64 ((rd_T33 t171 x82_3).f0))) (fun _ hk => hk.2) (.string ((rd_T33 t171 x82_3).f1))) (fun _ hk => hk.2) (.int .i64 ((rd_T33 t171 x82_3).f2))) (fun _ hk => hk.2) (.int .i64 ((rd_T33 t171 x82_3).f3))) (fun _ hk => ⟨hk.1.1, hk.1.2⟩)⟩
                     have n1_ : Aside0 (Kd.R k33 33 ((((w63.setCell ⟨gb178, 0, none⟩ (.int .i64 ((rd_T33 t171 x82_3).f0))).setCell ⟨gb178, 1, none⟩ (.string ((rd_T33 t171 x82_3).f1))).setCell ⟨gb178, 2, none⟩ (.int .i64 ((rd_T33 t171 x82_3).f2))).setCell ⟨gb178, 3, none⟩ (.int .i64 ((rd_T33 t171 x82_3).f3))) w.heap.size (fun k_ => some k_ ≠ (.slice Ao9 t154.length co9 : Value).ownBlock ∧ k_ ≠ gb178) (.slice (some ad177) t171.length co49) t171) := ⟨by (with_reducible repeat (first | apply Kd.R_alloc | apply Kd.R_drewN | apply Kd.R_drew)); exact Kd.R_mono (Kd.R_far (p := ⟨gb178, 3, none⟩) (Kd.R_far (p := ⟨gb178, 2, none⟩) (Kd.R_far (p := ⟨gb178, 1, none⟩) (Kd.R_far (p := ⟨gb178, 0, none⟩) (Kd.R_mono HO_80.out (fun k_ hk => (⟨hk, hk.2⟩ : _ ∧ k_ ≠ gb178))) (fun _ hk => hk.2) (.int .i64 ((rd_T33 t171 x82_3).f0))) (fun _ hk => hk.2) (.string ((rd_T33 t171 x82_3).f1))) (fun _ hk => hk.2) (.int .i64 ((rd_T33 t171 x82_3).f2))) (fun _ hk => hk.2) (.int .i64 ((rd_T33 t171 x82_3).f3))) (fun _ hk => ⟨hk.1.1, hk.1.2⟩)⟩
                     have n2_ : Aside0 (((((w63.setCell ⟨gb178, 0, none⟩ (.int .i64 ((rd_T33 t171 x82_3).f0))).setCell ⟨gb178, 1, none⟩ (.string ((rd_T33 t171 x82_3).f1))).setCell ⟨gb178, 2, none⟩ (.int .i64 ((rd_T33 t171 x82_3).f2))).setCell ⟨gb178, 3, none⟩ (.int .i64 ((rd_T33 t171 x82_3).f3))).heap[gb178]? = some (.cells #[.int .i64 ((rd_T33 t171 x82_3).f0), .string ((rd_T33 t171 x82_3).f1), .int .i64 ((rd_T33 t171 x82_3).f2), .int .i64 ((rd_T33 t171 x82_3).f3)] 33 (0, 0))) := ⟨by (with_reducible repeat (first | refine blk_drewN ?_ _ | refine blk_drew ?_ | refine blk_alloc ?_ _)); refine blk_put (cs := #[.int .i64 ((rd_T33 t171 x82_3).f0), .string ((rd_T33 t171 x82_3).f1), .int .i64 ((rd_T33 t171 x82_3).f2), .int .i64 0]) ?_ 3 _ rfl; (with_reducible repeat (first | refine blk_drewN ?_ _ | refine blk_drew ?_ | refine blk_alloc ?_ _)); refine blk_put (cs := #[.int .i64 ((rd_T33 t171 x82_3).f0), .string ((rd_T33 t171 x82_3).f1), .int .i64 0, .int .i64 0]) ?_ 2 _ rfl; (with_reducible repeat (first | refine blk_drewN ?_ _ | refine blk_drew ?_ | refine blk_alloc ?_ _)); refine blk_put (cs := #[.int .i64 ((rd_T33 t171 x82_3).f0), .string (⟨#[]⟩ : ByteArray), .int .i64 0, .int .i64 0]) ?_ 1 _ rfl; (with_reducible repeat (first | refine blk_drewN ?_ _ | refine blk_drew ?_ | refine blk_alloc ?_ _)); refine blk_put (cs := #[.int .i64 0, .string (⟨#[]⟩ : ByteArray), .int .i64 0, .int .i64 0]) ?_ 0 _ rfl; (with_reducible repeat (first | refine blk_drewN ?_ _ | refine blk_drew ?_ | refine blk_alloc ?_ _)); exact BK178.out⟩
                     have n3_ : Aside0 (Below w.heap.size w ((((w63.setCell ⟨gb178, 0, none⟩ (.int .i64 ((rd_T33 t171 x82_3).f0))).setCell ⟨gb178, 1, none⟩ (.string ((rd_T33 t171 x82_3).f1))).setCell ⟨gb178, 2, none⟩ (.int .i64 ((rd_T33 t171 x82_3).f2))).setCell ⟨gb178, 3, none⟩ (.int .i64 ((rd_T33 t171 x82_3).f3)))) := ⟨by repeat (first | (with_reducible first | exact HB.out | apply below_alloc | apply pw_below_drewN | apply below_drew1 | refine below_set ?_ GE178.out) | exact HB.out)⟩
                     (try clear HO_5)
                     (try clear HO_80)
                     (try clear BK178)
                     (try clear HB)
                     generalize ((((w63.setCell ⟨gb178, 0, none⟩ (.int .i64 ((rd_T33 t171 x82_3).f0))).setCell ⟨gb178, 1, none⟩ (.string ((rd_T33 t171 x82_3).f1))).setCell ⟨gb178, 2, none⟩ (.int .i64 ((rd_T33 t171 x82_3).f2))).setCell ⟨gb178, 3, none⟩ (.int .i64 ((rd_T33 t171 x82_3).f3))) = w65 at n0_ n1_ n2_ n3_ ⊢
                     have HO_5 := n0_
                     have HO_80 := n1_
                     have BK178 := n2_
                     have HB := n3_
                     clear n0_ n1_ n2_ n3_
                     have n0_ := Aside0.mk (Kd.R_drew HO_5.out)
                     have n1_ := Aside0.mk (Kd.R_drew HO_80.out)
                     have n2_ := Aside0.mk (blk_drew BK178.out)
                     have n3_ := Aside0.mk (below_drew1 HB.out)
                     clear HO_5
                     clear HO_80
                     clear BK178
                     clear HB
                     have HO_5 := n0_
                     have HO_80 := n1_
                     have BK178 := n2_
                     have HB := n3_
                     clear n0_ n1_ n2_ n3_
                     have p179 : 0 ≤ (x82_3 : Int) := of_decide_eq_true (by first | (with_reducible assumption) | assumption)
                     have q179 : x82_3 < (t154.length : Int) := of_decide_eq_true (by first | (with_reducible assumption) | assumption)
                     obtain ⟨ad179, e179, hx179_0, hx179_1, hx179_2, hx179_3⟩ := at_T33 (Kd.R_reads' HO_5.out).2.2 x82_3 p179 q179
                     cases e179
                     replace p179 := eq_true p179
                     replace q179 := eq_true q179
                     have p180 : 0 ≤ (x82_3 : Int) := of_decide_eq_true (by first | (with_reducible assumption) | assumption)
                     have q180 : x82_3 < (t154.length : Int) := of_decide_eq_true (by first | (with_reducible assumption) | assumption)
                     obtain ⟨ad180, e180, hx180_0, hx180_1, hx180_2, hx180_3⟩ := at_T33 (Kd.R_reads' HO_5.out).2.2 x82_3 p180 q180
                     obtain rfl : ad179 = ad180 := (by injection e180)
                     replace p180 := eq_true p180
                     replace q180 := eq_true q180
                     have p181 : 0 ≤ (x82_3 : Int) := of_decide_eq_true (by first | (with_reducible assumption) | assumption)
                     have q181 : x82_3 < (t154.length : Int) := of_decide_eq_true (by first | (with_reducible assumption) | assumption)
                     obtain ⟨ad181, e181, hx181_0, hx181_1, hx181_2, hx181_3⟩ := at_T33 (Kd.R_reads' HO_5.out).2.2 x82_3 p181 q181
                     obtain rfl : ad179 = ad181 := (by injection e181)
                     replace p181 := eq_true p181
                     replace q181 := eq_true q181
                     refine start_ (n := 59) (S := fun w' => w'.cell? ⟨gb178, 0, none⟩ = some (.int .i64 ((rd_T33 t171 x82_3).f0)) ∧ w'.cell? ⟨gb178, 1, none⟩ = some (.string ((rd_T33 t171 x82_3).f1)) ∧ w'.cell? ⟨gb178, 2, none⟩ = some (.int .i64 ((rd_T33 t171 x82_3).f2)) ∧ w'.cell? ⟨gb178, 3, none⟩ = some (.int .i64 ((rd_T33 t171 x82_3).f3)) ∧ w'.cell? (ad179.add ((x82_3).toNat * 4)) = some (.int .i64 ((rd_T33 t154 x82_3).f0)) ∧ w'.cell? ⟨(ad179.add ((x82_3).toNat * 4)).block, (ad179.add ((x82_3).toNat * 4)).off + 1, none⟩ = some (.string ((rd_T33 t154 x82_3).f1)) ∧ w'.cell? ⟨(ad179.add ((x82_3).toNat * 4)).block, (ad179.add ((x82_3).toNat * 4)).off + 2, none⟩ = some (.int .i64 ((rd_T33 t154 x82_3).f2)) ∧ w'.cell? ⟨(ad179.add ((x82_3).toNat * 4)).block, (ad179.add ((x82_3).toNat * 4)).off + 3, none⟩ = some (.int .i64 ((rd_T33 t154 x82_3).f3)) ∧ w'.cell? (ad179.add ((x82_3).toNat * 4)) = some (.int .i64 ((rd_T33 t154 x82_3).f0)) ∧ w'.cell? ⟨(ad179.add ((x82_3).toNat * 4)).block, (ad179.add ((x82_3).toNat * 4)).off + 1, none⟩ = some (.string ((rd_T33 t154 x82_3).f1)) ∧ w'.cell? ⟨(ad179.add ((x82_3).toNat * 4)).block, (ad179.add ((x82_3).toNat * 4)).off + 2, none⟩ = some (.int .i64 ((rd_T33 t154 x82_3).f2)) ∧ w'.cell? ⟨(ad179.add ((x82_3).toNat * 4)).block, (ad179.add ((x82_3).toNat * 4)).off + 3, none⟩ = some (.int .i64 ((rd_T33 t154 x82_3).f3)) ∧ w'.cell? (ad179.add ((x82_3).toNat * 4)) = some (.int .i64 ((rd_T33 t154 x82_3).f0)) ∧ w'.cell? ⟨(ad179.add ((x82_3).toNat * 4)).block, (ad179.add ((x82_3).toNat * 4)).off + 1, none⟩ = some (.string ((rd_T33 t154 x82_3).f1)) ∧ w'.cell? ⟨(ad179.add ((x82_3).toNat * 4)).block, (ad179.add ((x82_3).toNat * 4)).off + 2, none⟩ = some (.int .i64 ((rd_T33 t154 x82_3).f2)) ∧ w'.cell? ⟨(ad179.add ((x82_3).toNat * 4)).block, (ad179.add ((x82_3).toNat * 4)).off + 3, none⟩ = some (.int .i64 ((rd_T33 t154 x82_3).f3))) (ds := []) LB93 (by kernel_rfl) rfl rfl ⟨(blk_cell BK178.out 0).trans rfl, (blk_cell BK178.out 1).trans rfl, (blk_cell BK178.out 2).trans rfl, (blk_cell BK178.out 3).trans rfl, hx179_0, hx179_1, hx179_2, hx179_3, hx180_0, hx180_1, hx180_2, hx180_3, hx181_0, hx181_1, hx181_2, hx181_3⟩ (fun hHeld => ?_); refine with_tabW jigsawlaw05_LexBack.tab19 jigsawlaw05_LexBack.bits19 (fun HT_ HW_ => ?_)
                     generalize w65.drew = w66 at HO_5 HO_80 BK178 HB hx179_0 hx179_1 hx179_2 hx179_3 hx180_0 hx180_1 hx180_2 hx180_3 hx181_0 hx181_1 hx181_2 hx181_3 hHeld ⊢
                     refine pA 0 87 LB92 HT_ ?_
                     refine pA 2 89 LB91 HT_ ?_
                     refine pA 3 90 LB90 HT_ ?_
                     refine pA 4 91 LB89 HT_ ?_
                     refine pA 5 92 LB88 HT_ ?_
                     refine pT16 1 88 LB87 HT_ HW_ hHeld ?_
                     refine pT16 6 93 LB86 HT_ HW_ hHeld ?_
                     refine pA 7 94 LB85 HT_ ?_
                     refine pA 8 95 LB84 HT_ ?_
                     refine pA 9 96 LB83 HT_ ?_
                     refine pA 11 98 LB82 HT_ ?_
                     refine pA 12 99 LB80 HT_ ?_
                     refine pA 13 100 LB77 HT_ ?_
                     refine pA 14 101 LB75 HT_ ?_
                     refine pT16 10 97 LB74 HT_ HW_ hHeld ?_
                     refine pT16 15 102 LB73 HT_ HW_ hHeld ?_
                     refine pA 16 103 LB72 HT_ ?_
                     refine pA 17 104 LB71 HT_ ?_
                     refine pA 18 105 LB70 HT_ ?_
                     refine pA 19 106 LB69 HT_ ?_
                     refine pA 21 108 LB67 HT_ ?_
                     refine pA 22 109 LB66 HT_ ?_
                     refine pA 23 110 LB64 HT_ ?_
                     refine pA 24 111 LB61 HT_ ?_
                     refine pT16 20 107 LB60 HT_ HW_ hHeld ?_
                     refine pT16 25 112 LB59 HT_ HW_ hHeld ?_
                     refine pA 26 113 LB58 HT_ ?_
                     refine pA 27 114 LB57 HT_ ?_
                     refine pA 28 115 LB56 HT_ ?_
                     refine pA 29 116 LB55 HT_ ?_
                     refine pT16 30 117 LB54 HT_ HW_ hHeld ?_
                     refine pA 31 118 LB53 HT_ ?_
                     refine pA 32 119 LB52 HT_ ?_
                     refine pA 33 120 LB51 HT_ ?_
                     refine pA 34 121 LB50 HT_ ?_
                     refine pA 36 123 LB48 HT_ ?_
                     refine pA 40 127 LB46 HT_ ?_
                     refine pA 41 128 LB44 HT_ ?_
                     refine pT16 35 122 LB42 HT_ HW_ hHeld ?_
                     refine pT16 37 124 LB41 HT_ HW_ hHeld ?_
                     refine pA 38 125 LB39 HT_ ?_
                     refine pA 39 126 LB37 HT_ ?_
                     refine pA 42 129 LB36 HT_ ?_
                     refine pA 43 130 LB35 HT_ ?_
                     refine pA 44 131 LB34 HT_ ?_
                     refine pB 45 132 LB33 HT_ ?_
                     refine pB 46 133 LB32 HT_ ?_
                     refine pB 47 134 LB31 HT_ ?_
                     refine pB 48 135 LB28 HT_ ?_
                     refine pB 49 136 LB26 HT_ ?_
                     refine pB 50 137 LB25 HT_ ?_
                     refine pB 51 138 LB22 HT_ ?_
                     refine pB 52 139 LB21 HT_ ?_
                     refine pB 53 140 LB19 HT_ ?_
                     refine pB 54 141 LB17 HT_ ?_
                     refine pB 55 142 LB15 HT_ ?_
                     refine pB 56 143 LB14 HT_ ?_
                     refine pB 57 144 LB13 HT_ ?_
                     refine pA 58 145 LB12 HT_ ?_
                     refine done_ (done_of HT_.out (by kernel_rfl)) ?_
                     try go_wp2
                     go_ret
                     exact ⟨by first | rfl | (simp [errW_none, errW_some] <;> rfl) | (simp only [← hji3]; first | rfl | (simp [errW_none, errW_some] <;> rfl)) | (simp [*, errW_none, errW_some] <;> rfl), by repeat (first | (with_reducible first | exact HB.out | apply below_alloc | apply pw_below_drewN | apply below_drew1 | refine below_set ?_ GE178.out) | exact HB.out)⟩
                    ·rw [if_neg c62] at H
                     have c62b0 : decide ((x8_1.size : Int) < (wrap64 (((rd_T33 t171 x82_3).f3) + (((rd_T33 t171 x82_3).f1).size : Int)))) = false := decide_eq_false c62
                     clear c62
                     by_cases c67 : 0 ≤ ((rd_T33 t171 x82_3).f3)
                     ·rw [if_pos c67] at H
                      have c67b0 := eq_true c67
                      have c67b1 : decide (0 ≤ ((rd_T33 t171 x82_3).f3)) = true := decide_eq_true c67
                      clear c67
                      by_cases c68 : ((rd_T33 t171 x82_3).f3) ≤ (wrap64 (((rd_T33 t171 x82_3).f3) + (((rd_T33 t171 x82_3).f1).size : Int)))
                      ·rw [if_pos c68] at H
                       have c68b0 := eq_true c68
                       have c68b1 : decide (((rd_T33 t171 x82_3).f3) ≤ (wrap64 (((rd_T33 t171 x82_3).f3) + (((rd_T33 t171 x82_3).f1).size : Int)))) = true := decide_eq_true c68
                       by_cases c69 : (wrap64 (((rd_T33 t171 x82_3).f3) + (((rd_T33 t171 x82_3).f1).size : Int))) ≤ (x8_1.size : Int)
                       ·rw [if_pos c69] at H
                        have c69b0 := eq_true c69
                        have c69b1 : decide ((wrap64 (((rd_T33 t171 x82_3).f3) + (((rd_T33 t171 x82_3).f1).size : Int))) ≤ (x8_1.size : Int)) = true := decide_eq_true c69
                        by_cases c70 : (x8_1.extract (((rd_T33 t171 x82_3).f3) : Int).toNat ((wrap64 (((rd_T33 t171 x82_3).f3) + (((rd_T33 t171 x82_3).f1).size : Int))) : Int).toNat).toList = ((rd_T33 t171 x82_3).f1).toList
                        ·rw [if_pos c70] at H
                         have c70b0 : ((x8_1.extract (((rd_T33 t171 x82_3).f3) : Int).toNat ((wrap64 (((rd_T33 t171 x82_3).f3) + (((rd_T33 t171 x82_3).f1).size : Int))) : Int).toNat).toList == ((rd_T33 t171 x82_3).f1).toList) = true := beq_iff_eq.mpr c70
                         have c70b1 : ((x8_1.extract (((rd_T33 t171 x82_3).f3) : Int).toNat ((wrap64 (((rd_T33 t171 x82_3).f3) + (((rd_T33 t171 x82_3).f1).size : Int))) : Int).toNat).toList != ((rd_T33 t171 x82_3).f1).toList) = false := bne_eq_false_iff_eq.mpr c70
                         clear c70
                         have H' := Aside0.mk H
                         clear H
                         have p177 : 0 ≤ (x82_3 : Int) := of_decide_eq_true (by first | (with_reducible assumption) | assumption)
                         have q177 : x82_3 < (t171.length : Int) := of_decide_eq_true (by first | (with_reducible assumption) | assumption)
                         obtain ⟨ad177, e177, hx177_0, hx177_1, hx177_2, hx177_3⟩ := at_T33 (Kd.R_reads' HO_80.out).2.2 x82_3 p177 q177
                         cases e177
                         replace p177 := eq_true p177
                         replace q177 := eq_true q177
                         try go_wp2_with (first | ((with_reducible refine gate_dst (N := 16) rfl ?_); (try (refine gate_guard (by rfl) ?_; dsimp only)); refine box_event ?hg (N := 16) ?hd (cs := #[.int .i64 0, .string (⟨#[]⟩ : ByteArray), .int .i64 0, .int .i64 0]) (t := 33) ?hr ?_; (case hd => rfl); (case hg => rfl); (case hr => first | (go_simp; done) | (go_simp; rfl)); intro gb178 hg w71 hbox hb; have n0_ := Aside0.mk (Kd.R_below (Kd.R_elderB (by (with_reducible repeat (first | apply Kd.R_alloc | apply Kd.R_drewN | apply Kd.R_drew)); exact HO_5.out) gb178 (Nat.le_of_eq hg.symm)) hb); have n1_ := Aside0.mk (Kd.R_below (Kd.R_elderB (by (with_reducible repeat (first | apply Kd.R_alloc | apply Kd.R_drewN | apply Kd.R_drew)); exact HO_80.out) gb178 (Nat.le_of_eq hg.symm)) hb); have n2_ := Aside0.mk (below_step (by repeat (first | (with_reducible first | exact HB.out | apply below_alloc | apply pw_below_drewN | apply below_drew1) | exact HB.out)) hb); have n3_ := Aside0.mk (hbox); have n4_ := Aside0.mk ((by rw [hg]; exact (below_size (by repeat (first | (with_reducible first | exact HB.out | apply below_alloc | apply pw_below_drewN | apply below_drew1) | exact HB.out))) : w.heap.size ≤ gb178)); have n5_ := Aside0.mk ((by rw [hg]; exact (below_size (by repeat (first | (with_reducible first | exact HB.out | apply below_alloc | apply pw_below_drewN | apply below_drew1) | exact HB.out))) : w.heap.size ≤ gb178)); clear HO_5; clear HO_80; clear HB; have HO_5 := n0_; have HO_80 := n1_; have HB := n2_; have BK178 := n3_; have GW178 := n4_; have GE178 := n5_; clear n0_ n1_ n2_ n3_ n4_ n5_; clear hb hbox hg; have hcz72_0 : w71.cell? ⟨gb178, 0, none⟩ = some (.int .i64 0) := (blk_cell BK178.out 0).trans rfl; have hcz72_1 : w71.cell? ⟨gb178, 1, none⟩ = some (.string (⟨#[]⟩ : ByteArray)) := (blk_cell BK178.out 1).trans rfl; have hcz72_2 : w71.cell? ⟨gb178, 2, none⟩ = some (.int .i64 0) := (blk_cell BK178.out 2).trans rfl; have hcz72_3 : w71.cell? ⟨gb178, 3, none⟩ = some (.int .i64 0) := (blk_cell BK178.out 3).trans rfl; have hfz72_0 := blk_frozen BK178.out 0; have hfz72_1 := blk_frozen BK178.out 1; have hfz72_2 := blk_frozen BK178.out 2; have hfz72_3 := blk_frozen BK178.out 3))
                         have n0_ : Aside0 (Kd.R k33 33 ((((w71.setCell ⟨gb178, 0, none⟩ (.int .i64 ((rd_T33 t171 x82_3).f0))).setCell ⟨gb178, 1, none⟩ (.string ((rd_T33 t171 x82_3).f1))).setCell ⟨gb178, 2, none⟩ (.int .i64 ((rd_T33 t171 x82_3).f2))).setCell ⟨gb178, 3, none⟩ (.int .i64 ((rd_T33 t171 x82_3).f3))) w.heap.size (fun k_ => some k_ ≠ (.slice (some ad177) t171.length co49 : Value).ownBlock ∧ k_ ≠ gb178) (.slice Ao9 t154.length co9) t154) := ⟨by (with_reducible repeat (first | apply Kd.R_alloc | apply Kd.R_drewN | apply Kd.R_drew)); exact Kd.R_mono (Kd.R_far (p := ⟨gb178, 3, none⟩) (Kd.R_far (p := ⟨gb178, 2, none⟩) (Kd.R_far (p := ⟨gb178, 1, none⟩) (Kd.R_far (p := ⟨gb178, 0, none⟩) (Kd.R_mono HO_5.out (fun k_ hk => (⟨hk, hk.2⟩ : _ ∧ k_ ≠ gb178))) (fun _ hk => hk.2) (.int .i64 ((rd_T33 t171 x82_3).f0))) (fun _ hk => hk.2) (.string ((rd_T33 t171 x82_3).f1))) (fun _ hk => hk.2) (.int .i64 ((rd_T33 t171 x82_3).f2))) (fun _ hk => hk.2) (.int .i64 ((rd_T33 t171 x82_3).f3))) (fun _ hk => ⟨hk.1.1, hk.1.2⟩)⟩
                         have n1_ : Aside0 (Kd.R k33 33 ((((w71.setCell ⟨gb178, 0, none⟩ (.int .i64 ((rd_T33 t171 x82_3).f0))).setCell ⟨gb178, 1, none⟩ (.string ((rd_T33 t171 x82_3).f1))).setCell ⟨gb178, 2, none⟩ (.int .i64 ((rd_T33 t171 x82_3).f2))).setCell ⟨gb178, 3, none⟩ (.int .i64 ((rd_T33 t171 x82_3).f3))) w.heap.size (fun k_ => some k_ ≠ (.slice Ao9 t154.length co9 : Value).ownBlock ∧ k_ ≠ gb178) (.slice (some ad177) t171.length co49) t171) := ⟨by (with_reducible repeat (first | apply Kd.R_alloc | apply Kd.R_drewN | apply Kd.R_drew)); exact Kd.R_mono (Kd.R_far (p := ⟨gb178, 3, none⟩) (Kd.R_far (p := ⟨gb178, 2, none⟩) (Kd.R_far (p := ⟨gb178, 1, none⟩) (Kd.R_far (p := ⟨gb178, 0, none⟩) (Kd.R_mono HO_80.out (fun k_ hk => (⟨hk, hk.2⟩ : _ ∧ k_ ≠ gb178))) (fun _ hk => hk.2) (.int .i64 ((rd_T33 t171 x82_3).f0))) (fun _ hk => hk.2) (.string ((rd_T33 t171 x82_3).f1))) (fun _ hk => hk.2) (.int .i64 ((rd_T33 t171 x82_3).f2))) (fun _ hk => hk.2) (.int .i64 ((rd_T33 t171 x82_3).f3))) (fun _ hk => ⟨hk.1.1, hk.1.2⟩)⟩
                         have n2_ : Aside0 (((((w71.setCell ⟨gb178, 0, none⟩ (.int .i64 ((rd_T33 t171 x82_3).f0))).setCell ⟨gb178, 1, none⟩ (.string ((rd_T33 t171 x82_3).f1))).setCell ⟨gb178, 2, none⟩ (.int .i64 ((rd_T33 t171 x82_3).f2))).setCell ⟨gb178, 3, none⟩ (.int .i64 ((rd_T33 t171 x82_3).f3))).heap[gb178]? = some (.cells #[.int .i64 ((rd_T33 t171 x82_3).f0), .string ((rd_T33 t171 x82_3).f1), .int .i64 ((rd_T33 t171 x82_3).f2), .int .i64 ((rd_T33 t171 x82_3).f3)] 33 (0, 0))) := ⟨by (with_reducible repeat (first | refine blk_drewN ?_ _ | refine blk_drew ?_ | refine blk_alloc ?_ _)); refine blk_put (cs := #[.int .i64 ((rd_T33 t171 x82_3).f0), .string ((rd_T33 t171 x82_3).f1), .int .i64 ((rd_T33 t171 x82_3).f2), .int .i64 0]) ?_ 3 _ rfl; (with_reducible repeat (first | refine blk_drewN ?_ _ | refine blk_drew ?_ | refine blk_alloc ?_ _)); refine blk_put (cs := #[.int .i64 ((rd_T33 t171 x82_3).f0), .string ((rd_T33 t171 x82_3).f1), .int .i64 0, .int .i64 0]) ?_ 2 _ rfl; (with_reducible repeat (first | refine blk_drewN ?_ _ | refine blk_drew ?_ | refine blk_alloc ?_ _)); refine blk_put (cs := #[.int .i64 ((rd_T33 t171 x82_3).f0), .string (⟨#[]⟩ : ByteArray), .int .i64 0, .int .i64 0]) ?_ 1 _ rfl; (with_reducible repeat (first | refine blk_drewN ?_ _ | refine blk_drew ?_ | refine blk_alloc ?_ _)); refine blk_put (cs := #[.int .i64 0, .string (⟨#[]⟩ : ByteArray), .int .i64 0, .int .i64 0]) ?_ 0 _ rfl; (with_reducible repeat (first | refine blk_drewN ?_ _ | refine blk_drew ?_ | refine blk_alloc ?_ _)); exact BK178.out⟩
                         have n3_ : Aside0 (Below w.heap.size w ((((w71.setCell ⟨gb178, 0, none⟩ (.int .i64 ((rd_T33 t171 x82_3).f0))).setCell ⟨gb178, 1, none⟩ (.string ((rd_T33 t171 x82_3).f1))).setCell ⟨gb178, 2, none⟩ (.int .i64 ((rd_T33 t171 x82_3).f2))).setCell ⟨gb178, 3, none⟩ (.int .i64 ((rd_T33 t171 x82_3).f3)))) := ⟨by repeat (first | (with_reducible first | exact HB.out | apply below_alloc | apply pw_below_drewN | apply below_drew1 | refine below_set ?_ GE178.out) | exact HB.out)⟩
                         (try clear HO_5)
                         (try clear HO_80)
                         (try clear BK178)
                         (try clear HB)
                         generalize ((((w71.setCell ⟨gb178, 0, none⟩ (.int .i64 ((rd_T33 t171 x82_3).f0))).setCell ⟨gb178, 1, none⟩ (.string ((rd_T33 t171 x82_3).f1))).setCell ⟨gb178, 2, none⟩ (.int .i64 ((rd_T33 t171 x82_3).f2))).setCell ⟨gb178, 3, none⟩ (.int .i64 ((rd_T33 t171 x82_3).f3))) = w73 at n0_ n1_ n2_ n3_ ⊢
                         have HO_5 := n0_
                         have HO_80 := n1_
                         have BK178 := n2_
                         have HB := n3_
                         clear n0_ n1_ n2_ n3_
                         have n0_ := Aside0.mk (Kd.R_drew HO_5.out)
                         have n1_ := Aside0.mk (Kd.R_drew HO_80.out)
                         have n2_ := Aside0.mk (blk_drew BK178.out)
                         have n3_ := Aside0.mk (below_drew1 HB.out)
                         clear HO_5
                         clear HO_80
                         clear BK178
                         clear HB
                         have HO_5 := n0_
                         have HO_80 := n1_
                         have BK178 := n2_
                         have HB := n3_
                         clear n0_ n1_ n2_ n3_
                         have p179 : 0 ≤ (x82_3 : Int) := of_decide_eq_true (by first | (with_reducible assumption) | assumption)
                         have q179 : x82_3 < (t154.length : Int) := of_decide_eq_true (by first | (with_reducible assumption) | assumption)
                         obtain ⟨ad179, e179, hx179_0, hx179_1, hx179_2, hx179_3⟩ := at_T33 (Kd.R_reads' HO_5.out).2.2 x82_3 p179 q179
                         cases e179
                         replace p179 := eq_true p179
                         replace q179 := eq_true q179
                         have p180 : 0 ≤ (x82_3 : Int) := of_decide_eq_true (by first | (with_reducible assumption) | assumption)
                         have q180 : x82_3 < (t154.length : Int) := of_decide_eq_true (by first | (with_reducible assumption) | assumption)
                         obtain ⟨ad180, e180, hx180_0, hx180_1, hx180_2, hx180_3⟩ := at_T33 (Kd.R_reads' HO_5.out).2.2 x82_3 p180 q180
                         obtain rfl : ad179 = ad180 := (by injection e180)
                         replace p180 := eq_true p180
                         replace q180 := eq_true q180
                         have p181 : 0 ≤ (x82_3 : Int) := of_decide_eq_true (by first | (with_reducible assumption) | assumption)
                         have q181 : x82_3 < (t154.length : Int) := of_decide_eq_true (by first | (with_reducible assumption) | assumption)
                         obtain ⟨ad181, e181, hx181_0, hx181_1, hx181_2, hx181_3⟩ := at_T33 (Kd.R_reads' HO_5.out).2.2 x82_3 p181 q181
                         obtain rfl : ad179 = ad181 := (by injection e181)
                         replace p181 := eq_true p181
                         replace q181 := eq_true q181
                         refine start_ (n := 59) (S := fun w' => w'.cell? ⟨gb178, 0, none⟩ = some (.int .i64 ((rd_T33 t171 x82_3).f0)) ∧ w'.cell? ⟨gb178, 1, none⟩ = some (.string ((rd_T33 t171 x82_3).f1)) ∧ w'.cell? ⟨gb178, 2, none⟩ = some (.int .i64 ((rd_T33 t171 x82_3).f2)) ∧ w'.cell? ⟨gb178, 3, none⟩ = some (.int .i64 ((rd_T33 t171 x82_3).f3)) ∧ w'.cell? (ad179.add ((x82_3).toNat * 4)) = some (.int .i64 ((rd_T33 t154 x82_3).f0)) ∧ w'.cell? ⟨(ad179.add ((x82_3).toNat * 4)).block, (ad179.add ((x82_3).toNat * 4)).off + 1, none⟩ = some (.string ((rd_T33 t154 x82_3).f1)) ∧ w'.cell? ⟨(ad179.add ((x82_3).toNat * 4)).block, (ad179.add ((x82_3).toNat * 4)).off + 2, none⟩ = some (.int .i64 ((rd_T33 t154 x82_3).f2)) ∧ w'.cell? ⟨(ad179.add ((x82_3).toNat * 4)).block, (ad179.add ((x82_3).toNat * 4)).off + 3, none⟩ = some (.int .i64 ((rd_T33 t154 x82_3).f3)) ∧ w'.cell? (ad179.add ((x82_3).toNat * 4)) = some (.int .i64 ((rd_T33 t154 x82_3).f0)) ∧ w'.cell? ⟨(ad179.add ((x82_3).toNat * 4)).block, (ad179.add ((x82_3).toNat * 4)).off + 1, none⟩ = some (.string ((rd_T33 t154 x82_3).f1)) ∧ w'.cell? ⟨(ad179.add ((x82_3).toNat * 4)).block, (ad179.add ((x82_3).toNat * 4)).off + 2, none⟩ = some (.int .i64 ((rd_T33 t154 x82_3).f2)) ∧ w'.cell? ⟨(ad179.add ((x82_3).toNat * 4)).block, (ad179.add ((x82_3).toNat * 4)).off + 3, none⟩ = some (.int .i64 ((rd_T33 t154 x82_3).f3)) ∧ w'.cell? (ad179.add ((x82_3).toNat * 4)) = some (.int .i64 ((rd_T33 t154 x82_3).f0)) ∧ w'.cell? ⟨(ad179.add ((x82_3).toNat * 4)).block, (ad179.add ((x82_3).toNat * 4)).off + 1, none⟩ = some (.string ((rd_T33 t154 x82_3).f1)) ∧ w'.cell? ⟨(ad179.add ((x82_3).toNat * 4)).block, (ad179.add ((x82_3).toNat * 4)).off + 2, none⟩ = some (.int .i64 ((rd_T33 t154 x82_3).f2)) ∧ w'.cell? ⟨(ad179.add ((x82_3).toNat * 4)).block, (ad179.add ((x82_3).toNat * 4)).off + 3, none⟩ = some (.int .i64 ((rd_T33 t154 x82_3).f3))) (ds := []) LB93 (by kernel_rfl) rfl rfl ⟨(blk_cell BK178.out 0).trans rfl, (blk_cell BK178.out 1).trans rfl, (blk_cell BK178.out 2).trans rfl, (blk_cell BK178.out 3).trans rfl, hx179_0, hx179_1, hx179_2, hx179_3, hx180_0, hx180_1, hx180_2, hx180_3, hx181_0, hx181_1, hx181_2, hx181_3⟩ (fun hHeld => ?_); refine with_tabW jigsawlaw05_LexBack.tab19 jigsawlaw05_LexBack.bits19 (fun HT_ HW_ => ?_)
                         generalize w73.drew = w74 at HO_5 HO_80 BK178 HB hx179_0 hx179_1 hx179_2 hx179_3 hx180_0 hx180_1 hx180_2 hx180_3 hx181_0 hx181_1 hx181_2 hx181_3 hHeld ⊢
                         refine pA 0 87 LB92 HT_ ?_
                         refine pA 2 89 LB91 HT_ ?_
                         refine pA 3 90 LB90 HT_ ?_
                         refine pA 4 91 LB89 HT_ ?_
                         refine pA 5 92 LB88 HT_ ?_
                         refine pT16 1 88 LB87 HT_ HW_ hHeld ?_
                         refine pT16 6 93 LB86 HT_ HW_ hHeld ?_
                         refine pA 7 94 LB85 HT_ ?_
                         refine pA 8 95 LB84 HT_ ?_
                         refine pA 9 96 LB83 HT_ ?_
                         refine pA 11 98 LB82 HT_ ?_
                         refine pA 12 99 LB80 HT_ ?_
                         refine pA 13 100 LB77 HT_ ?_
                         refine pA 14 101 LB75 HT_ ?_
                         refine pT16 10 97 LB74 HT_ HW_ hHeld ?_
                         refine pT16 15 102 LB73 HT_ HW_ hHeld ?_
                         refine pA 16 103 LB72 HT_ ?_
                         refine pA 17 104 LB71 HT_ ?_
                         refine pA 18 105 LB70 HT_ ?_
                         refine pA 19 106 LB69 HT_ ?_
                         refine pA 21 108 LB67 HT_ ?_
                         refine pA 22 109 LB66 HT_ ?_
                         refine pA 23 110 LB64 HT_ ?_
                         refine pA 24 111 LB61 HT_ ?_
                         refine pT16 20 107 LB60 HT_ HW_ hHeld ?_
                         refine pT16 25 112 LB59 HT_ HW_ hHeld ?_
                         refine pA 26 113 LB58 HT_ ?_
                         refine pA 27 114 LB57 HT_ ?_
                         refine pA 28 115 LB56 HT_ ?_
                         refine pA 29 116 LB55 HT_ ?_
                         refine pT16 30 117 LB54 HT_ HW_ hHeld ?_
                         refine pA 31 118 LB53 HT_ ?_
                         refine pA 32 119 LB52 HT_ ?_
                         refine pA 33 120 LB51 HT_ ?_
                         refine pA 34 121 LB50 HT_ ?_
                         refine pA 36 123 LB48 HT_ ?_
                         refine pA 40 127 LB46 HT_ ?_
                         refine pA 41 128 LB44 HT_ ?_
                         refine pT16 35 122 LB42 HT_ HW_ hHeld ?_
                         refine pT16 37 124 LB41 HT_ HW_ hHeld ?_
                         refine pA 38 125 LB39 HT_ ?_
                         refine pA 39 126 LB37 HT_ ?_
                         refine pA 42 129 LB36 HT_ ?_
                         refine pA 43 130 LB35 HT_ ?_
                         refine pA 44 131 LB34 HT_ ?_
                         refine pA 45 132 LB33 HT_ ?_
                         refine pA 46 133 LB32 HT_ ?_
                         refine pA 48 135 LB30 HT_ ?_
                         refine pA 50 137 LB29 HT_ ?_
                         refine pA 55 142 LB27 HT_ ?_
                         refine pT16 47 134 LB24 HT_ HW_ hHeld ?_
                         refine pT16 49 136 LB23 HT_ HW_ hHeld ?_
                         refine pT16 51 138 LB20 HT_ HW_ hHeld ?_
                         refine pA 52 139 LB18 HT_ ?_
                         refine pA 53 140 LB16 HT_ ?_
                         refine pA 54 141 LB15 HT_ ?_
                         refine pT16 56 143 LB14 HT_ HW_ hHeld ?_
                         refine pA 57 144 LB13 HT_ ?_
                         refine pA 58 145 LB12 HT_ ?_
                         refine done_ (done_of HT_.out (by kernel_rfl)) ?_
                         try go_wp2
                         go_roundg k3
                         case measure => have := HK1.out; have := HJ38.out; have := HK3.out; omega
                         case rel => exact ⟨(wrap64 (x82_3 + 1)), (by first | rfl | (simp; done) | (simp [*]; done)), H', ⟨by have := HK1.out; have := HJ38.out; have := HK3.out; omega⟩, ⟨by (with_reducible repeat (first | apply Kd.R_alloc | apply Kd.R_drewN | apply Kd.R_drew)); exact Kd.R_mono HO_5.out (fun _ hk => hk.1)⟩, ⟨by (with_reducible repeat (first | apply Kd.R_alloc | apply Kd.R_drewN | apply Kd.R_drew)); exact Kd.R_mono HO_80.out (fun _ hk => hk.1)⟩, ⟨by repeat (first | (with_reducible first | exact HB.out | apply below_alloc | apply pw_below_drewN | apply below_drew1 | refine below_set ?_ GE178.out) | exact HB.out)⟩⟩
                        ·rw [if_neg c70] at H
                         have c70b0 : ((x8_1.extract (((rd_T33 t171 x82_3).f3) : Int).toNat ((wrap64 (((rd_T33 t171 x82_3).f3) + (((rd_T33 t171 x82_3).f1).size : Int))) : Int).toNat).toList == ((rd_T33 t171 x82_3).f1).toList) = false := beq_eq_false_iff_ne.mpr c70
                         have c70b1 : ((x8_1.extract (((rd_T33 t171 x82_3).f3) : Int).toNat ((wrap64 (((rd_T33 t171 x82_3).f3) + (((rd_T33 t171 x82_3).f1).size : Int))) : Int).toNat).toList != ((rd_T33 t171 x82_3).f1).toList) = true := bne_iff_ne.mpr c70
                         obtain rfl := Option.some.inj H
                         have p177 : 0 ≤ (x82_3 : Int) := of_decide_eq_true (by first | (with_reducible assumption) | assumption)
                         have q177 : x82_3 < (t171.length : Int) := of_decide_eq_true (by first | (with_reducible assumption) | assumption)
                         obtain ⟨ad177, e177, hx177_0, hx177_1, hx177_2, hx177_3⟩ := at_T33 (Kd.R_reads' HO_80.out).2.2 x82_3 p177 q177
                         cases e177
                         replace p177 := eq_true p177
                         replace q177 := eq_true q177
                         try go_wp2_with (first | ((with_reducible refine gate_dst (N := 16) rfl ?_); (try (refine gate_guard (by rfl) ?_; dsimp only)); refine box_event ?hg (N := 16) ?hd (cs := #[.int .i64 0, .string (⟨#[]⟩ : ByteArray), .int .i64 0, .int .i64 0]) (t := 33) ?hr ?_; (case hd => rfl); (case hg => rfl); (case hr => first | (go_simp; done) | (go_simp; rfl)); intro gb178 hg w75 hbox hb; have n0_ := Aside0.mk (Kd.R_below (Kd.R_elderB (by (with_reducible repeat (first | apply Kd.R_alloc | apply Kd.R_drewN | apply Kd.R_drew)); exact HO_5.out) gb178 (Nat.le_of_eq hg.symm)) hb); have n1_ := Aside0.mk (Kd.R_below (Kd.R_elderB (by (with_reducible repeat (first | apply Kd.R_alloc | apply Kd.R_drewN | apply Kd.R_drew)); exact HO_80.out) gb178 (Nat.le_of_eq hg.symm)) hb); have n2_ := Aside0.mk (below_step (by repeat (first | (with_reducible first | exact HB.out | apply below_alloc | apply pw_below_drewN | apply below_drew1) | exact HB.out)) hb); have n3_ := Aside0.mk (hbox); have n4_ := Aside0.mk ((by rw [hg]; exact (below_size (by repeat (first | (with_reducible first | exact HB.out | apply below_alloc | apply pw_below_drewN | apply below_drew1) | exact HB.out))) : w.heap.size ≤ gb178)); have n5_ := Aside0.mk ((by rw [hg]; exact (below_size (by repeat (first | (with_reducible first | exact HB.out | apply below_alloc | apply pw_below_drewN | apply below_drew1) | exact HB.out))) : w.heap.size ≤ gb178)); clear HO_5; clear HO_80; clear HB; have HO_5 := n0_; have HO_80 := n1_; have HB := n2_; have BK178 := n3_; have GW178 := n4_; have GE178 := n5_; clear n0_ n1_ n2_ n3_ n4_ n5_; clear hb hbox hg; have hcz76_0 : w75.cell? ⟨gb178, 0, none⟩ = some (.int .i64 0) := (blk_cell BK178.out 0).trans rfl; have hcz76_1 : w75.cell? ⟨gb178, 1, none⟩ = some (.string (⟨#[]⟩ : ByteArray)) := (blk_cell BK178.out 1).trans rfl; have hcz76_2 : w75.cell? ⟨gb178, 2, none⟩ = some (.int .i64 0) := (blk_cell BK178.out 2).trans rfl; have hcz76_3 : w75.cell? ⟨gb178, 3, none⟩ = some (.int .i64 0) := (blk_cell BK178.out 3).trans rfl; have hfz76_0 := blk_frozen BK178.out 0; have hfz76_1 := blk_frozen BK178.out 1; have hfz76_2 := blk_frozen BK178.out 2; have hfz76_3 := blk_frozen BK178.out 3))
                         have n0_ : Aside0 (Kd.R k33 33 ((((w75.setCell ⟨gb178, 0, none⟩ (.int .i64 ((rd_T33 t171 x82_3).f0))).setCell ⟨gb178, 1, none⟩ (.string ((rd_T33 t171 x82_3).f1))).setCell ⟨gb178, 2, none⟩ (.int .i64 ((rd_T33 t171 x82_3).f2))).setCell ⟨gb178, 3, none⟩ (.int .i64 ((rd_T33 t171 x82_3).f3))) w.heap.size (fun k_ => some k_ ≠ (.slice (some ad177) t171.length co49 : Value).ownBlock ∧ k_ ≠ gb178) (.slice Ao9 t154.length co9) t154) := ⟨by (with_reducible repeat (first | apply Kd.R_alloc | apply Kd.R_drewN | apply Kd.R_drew)); exact Kd.R_mono (Kd.R_far (p := ⟨gb178, 3, none⟩) (Kd.R_far (p := ⟨gb178, 2, none⟩) (Kd.R_far (p := ⟨gb178, 1, none⟩) (Kd.R_far (p := ⟨gb178, 0, none⟩) (Kd.R_mono HO_5.out (fun k_ hk => (⟨hk, hk.2⟩ : _ ∧ k_ ≠ gb178))) (fun _ hk => hk.2) (.int .i64 ((rd_T33 t171 x82_3).f0))) (fun _ hk => hk.2) (.string ((rd_T33 t171 x82_3).f1))) (fun _ hk => hk.2) (.int .i64 ((rd_T33 t171 x82_3).f2))) (fun _ hk => hk.2) (.int .i64 ((rd_T33 t171 x82_3).f3))) (fun _ hk => ⟨hk.1.1, hk.1.2⟩)⟩
                         have n1_ : Aside0 (Kd.R k33 33 ((((w75.setCell ⟨gb178, 0, none⟩ (.int .i64 ((rd_T33 t171 x82_3).f0))).setCell ⟨gb178, 1, none⟩ (.string ((rd_T33 t171 x82_3).f1))).setCell ⟨gb178, 2, none⟩ (.int .i64 ((rd_T33 t171 x82_3).f2))).setCell ⟨gb178, 3, none⟩ (.int .i64 ((rd_T33 t171 x82_3).f3))) w.heap.size (fun k_ => some k_ ≠ (.slice Ao9 t154.length co9 : Value).ownBlock ∧ k_ ≠ gb178) (.slice (some ad177) t171.length co49) t171) := ⟨by (with_reducible repeat (first | apply Kd.R_alloc | apply Kd.R_drewN | apply Kd.R_drew)); exact Kd.R_mono (Kd.R_far (p := ⟨gb178, 3, none⟩) (Kd.R_far (p := ⟨gb178, 2, none⟩) (Kd.R_far (p := ⟨gb178, 1, none⟩) (Kd.R_far (p := ⟨gb178, 0, none⟩) (Kd.R_mono HO_80.out (fun k_ hk => (⟨hk, hk.2⟩ : _ ∧ k_ ≠ gb178))) (fun _ hk => hk.2) (.int .i64 ((rd_T33 t171 x82_3).f0))) (fun _ hk => hk.2) (.string ((rd_T33 t171 x82_3).f1))) (fun _ hk => hk.2) (.int .i64 ((rd_T33 t171 x82_3).f2))) (fun _ hk => hk.2) (.int .i64 ((rd_T33 t171 x82_3).f3))) (fun _ hk => ⟨hk.1.1, hk.1.2⟩)⟩
                         have n2_ : Aside0 (((((w75.setCell ⟨gb178, 0, none⟩ (.int .i64 ((rd_T33 t171 x82_3).f0))).setCell ⟨gb178, 1, none⟩ (.string ((rd_T33 t171 x82_3).f1))).setCell ⟨gb178, 2, none⟩ (.int .i64 ((rd_T33 t171 x82_3).f2))).setCell ⟨gb178, 3, none⟩ (.int .i64 ((rd_T33 t171 x82_3).f3))).heap[gb178]? = some (.cells #[.int .i64 ((rd_T33 t171 x82_3).f0), .string ((rd_T33 t171 x82_3).f1), .int .i64 ((rd_T33 t171 x82_3).f2), .int .i64 ((rd_T33 t171 x82_3).f3)] 33 (0, 0))) := ⟨by (with_reducible repeat (first | refine blk_drewN ?_ _ | refine blk_drew ?_ | refine blk_alloc ?_ _)); refine blk_put (cs := #[.int .i64 ((rd_T33 t171 x82_3).f0), .string ((rd_T33 t171 x82_3).f1), .int .i64 ((rd_T33 t171 x82_3).f2), .int .i64 0]) ?_ 3 _ rfl; (with_reducible repeat (first | refine blk_drewN ?_ _ | refine blk_drew ?_ | refine blk_alloc ?_ _)); refine blk_put (cs := #[.int .i64 ((rd_T33 t171 x82_3).f0), .string ((rd_T33 t171 x82_3).f1), .int .i64 0, .int .i64 0]) ?_ 2 _ rfl; (with_reducible repeat (first | refine blk_drewN ?_ _ | refine blk_drew ?_ | refine blk_alloc ?_ _)); refine blk_put (cs := #[.int .i64 ((rd_T33 t171 x82_3).f0), .string (⟨#[]⟩ : ByteArray), .int .i64 0, .int .i64 0]) ?_ 1 _ rfl; (with_reducible repeat (first | refine blk_drewN ?_ _ | refine blk_drew ?_ | refine blk_alloc ?_ _)); refine blk_put (cs := #[.int .i64 0, .string (⟨#[]⟩ : ByteArray), .int .i64 0, .int .i64 0]) ?_ 0 _ rfl; (with_reducible repeat (first | refine blk_drewN ?_ _ | refine blk_drew ?_ | refine blk_alloc ?_ _)); exact BK178.out⟩
                         have n3_ : Aside0 (Below w.heap.size w ((((w75.setCell ⟨gb178, 0, none⟩ (.int .i64 ((rd_T33 t171 x82_3).f0))).setCell ⟨gb178, 1, none⟩ (.string ((rd_T33 t171 x82_3).f1))).setCell ⟨gb178, 2, none⟩ (.int .i64 ((rd_T33 t171 x82_3).f2))).setCell ⟨gb178, 3, none⟩ (.int .i64 ((rd_T33 t171 x82_3).f3)))) := ⟨by repeat (first | (with_reducible first | exact HB.out | apply below_alloc | apply pw_below_drewN | apply below_drew1 | refine below_set ?_ GE178.out) | exact HB.out)⟩
                         (try clear HO_5)
                         (try clear HO_80)
                         (try clear BK178)
                         (try clear HB)
                         generalize ((((w75.setCell ⟨gb178, 0, none⟩ (.int .i64 ((rd_T33 t171 x82_3).f0))).setCell ⟨gb178, 1, none⟩ (.string ((rd_T33 t171 x82_3).f1))).setCell ⟨gb178, 2, none⟩ (.int .i64 ((rd_T33 t171 x82_3).f2))).setCell ⟨gb178, 3, none⟩ (.int .i64 ((rd_T33 t171 x82_3).f3))) = w77 at n0_ n1_ n2_ n3_ ⊢
                         have HO_5 := n0_
                         have HO_80 := n1_
                         have BK178 := n2_
                         have HB := n3_
                         clear n0_ n1_ n2_ n3_
                         have n0_ := Aside0.mk (Kd.R_drew HO_5.out)
                         have n1_ := Aside0.mk (Kd.R_drew HO_80.out)
                         have n2_ := Aside0.mk (blk_drew BK178.out)
                         have n3_ := Aside0.mk (below_drew1 HB.out)
                         clear HO_5
                         clear HO_80
                         clear BK178
                         clear HB
                         have HO_5 := n0_
                         have HO_80 := n1_
                         have BK178 := n2_
                         have HB := n3_
                         clear n0_ n1_ n2_ n3_
                         have p179 : 0 ≤ (x82_3 : Int) := of_decide_eq_true (by first | (with_reducible assumption) | assumption)
                         have q179 : x82_3 < (t154.length : Int) := of_decide_eq_true (by first | (with_reducible assumption) | assumption)
                         obtain ⟨ad179, e179, hx179_0, hx179_1, hx179_2, hx179_3⟩ := at_T33 (Kd.R_reads' HO_5.out).2.2 x82_3 p179 q179
                         cases e179
                         replace p179 := eq_true p179
                         replace q179 := eq_true q179
                         have p180 : 0 ≤ (x82_3 : Int) := of_decide_eq_true (by first | (with_reducible assumption) | assumption)
                         have q180 : x82_3 < (t154.length : Int) := of_decide_eq_true (by first | (with_reducible assumption) | assumption)
                         obtain ⟨ad180, e180, hx180_0, hx180_1, hx180_2, hx180_3⟩ := at_T33 (Kd.R_reads' HO_5.out).2.2 x82_3 p180 q180
                         obtain rfl : ad179 = ad180 := (by injection e180)
                         replace p180 := eq_true p180
                         replace q180 := eq_true q180
                         have p181 : 0 ≤ (x82_3 : Int) := of_decide_eq_true (by first | (with_reducible assumption) | assumption)
                         have q181 : x82_3 < (t154.length : Int) := of_decide_eq_true (by first | (with_reducible assumption) | assumption)
                         obtain ⟨ad181, e181, hx181_0, hx181_1, hx181_2, hx181_3⟩ := at_T33 (Kd.R_reads' HO_5.out).2.2 x82_3 p181 q181
                         obtain rfl : ad179 = ad181 := (by injection e181)
                         replace p181 := eq_true p181
                         replace q181 := eq_true q181
                         refine start_ (n := 59) (S := fun w' => w'.cell? ⟨gb178, 0, none⟩ = some (.int .i64 ((rd_T33 t171 x82_3).f0)) ∧ w'.cell? ⟨gb178, 1, none⟩ = some (.string ((rd_T33 t171 x82_3).f1)) ∧ w'.cell? ⟨gb178, 2, none⟩ = some (.int .i64 ((rd_T33 t171 x82_3).f2)) ∧ w'.cell? ⟨gb178, 3, none⟩ = some (.int .i64 ((rd_T33 t171 x82_3).f3)) ∧ w'.cell? (ad179.add ((x82_3).toNat * 4)) = some (.int .i64 ((rd_T33 t154 x82_3).f0)) ∧ w'.cell? ⟨(ad179.add ((x82_3).toNat * 4)).block, (ad179.add ((x82_3).toNat * 4)).off + 1, none⟩ = some (.string ((rd_T33 t154 x82_3).f1)) ∧ w'.cell? ⟨(ad179.add ((x82_3).toNat * 4)).block, (ad179.add ((x82_3).toNat * 4)).off + 2, none⟩ = some (.int .i64 ((rd_T33 t154 x82_3).f2)) ∧ w'.cell? ⟨(ad179.add ((x82_3).toNat * 4)).block, (ad179.add ((x82_3).toNat * 4)).off + 3, none⟩ = some (.int .i64 ((rd_T33 t154 x82_3).f3)) ∧ w'.cell? (ad179.add ((x82_3).toNat * 4)) = some (.int .i64 ((rd_T33 t154 x82_3).f0)) ∧ w'.cell? ⟨(ad179.add ((x82_3).toNat * 4)).block, (ad179.add ((x82_3).toNat * 4)).off + 1, none⟩ = some (.string ((rd_T33 t154 x82_3).f1)) ∧ w'.cell? ⟨(ad179.add ((x82_3).toNat * 4)).block, (ad179.add ((x82_3).toNat * 4)).off + 2, none⟩ = some (.int .i64 ((rd_T33 t154 x82_3).f2)) ∧ w'.cell? ⟨(ad179.add ((x82_3).toNat * 4)).block, (ad179.add ((x82_3).toNat * 4)).off + 3, none⟩ = some (.int .i64 ((rd_T33 t154 x82_3).f3)) ∧ w'.cell? (ad179.add ((x82_3).toNat * 4)) = some (.int .i64 ((rd_T33 t154 x82_3).f0)) ∧ w'.cell? ⟨(ad179.add ((x82_3).toNat * 4)).block, (ad179.add ((x82_3).toNat * 4)).off + 1, none⟩ = some (.string ((rd_T33 t154 x82_3).f1)) ∧ w'.cell? ⟨(ad179.add ((x82_3).toNat * 4)).block, (ad179.add ((x82_3).toNat * 4)).off + 2, none⟩ = some (.int .i64 ((rd_T33 t154 x82_3).f2)) ∧ w'.cell? ⟨(ad179.add ((x82_3).toNat * 4)).block, (ad179.add ((x82_3).toNat * 4)).off + 3, none⟩ = some (.int .i64 ((rd_T33 t154 x82_3).f3))) (ds := []) LB93 (by kernel_rfl) rfl rfl ⟨(blk_cell BK178.out 0).trans rfl, (blk_cell BK178.out 1).trans rfl, (blk_cell BK178.out 2).trans rfl, (blk_cell BK178.out 3).trans rfl, hx179_0, hx179_1, hx179_2, hx179_3, hx180_0, hx180_1, hx180_2, hx180_3, hx181_0, hx181_1, hx181_2, hx181_3⟩ (fun hHeld => ?_); refine with_tabW jigsawlaw05_LexBack.tab19 jigsawlaw05_LexBack.bits19 (fun HT_ HW_ => ?_)
                         generalize w77.drew = w78 at HO_5 HO_80 BK178 HB hx179_0 hx179_1 hx179_2 hx179_3 hx180_0 hx180_1 hx180_2 hx180_3 hx181_0 hx181_1 hx181_2 hx181_3 hHeld ⊢
                         refine pA 0 87 LB92 HT_ ?_
                         refine pA 2 89 LB91 HT_ ?_
                         refine pA 3 90 LB90 HT_ ?_
                         refine pA 4 91 LB89 HT_ ?_
                         refine pA 5 92 LB88 HT_ ?_
                         refine pT16 1 88 LB87 HT_ HW_ hHeld ?_
                         refine pT16 6 93 LB86 HT_ HW_ hHeld ?_
                         refine pA 7 94 LB85 HT_ ?_
                         refine pA 8 95 LB84 HT_ ?_
                         refine pA 9 96 LB83 HT_ ?_
                         refine pA 11 98 LB82 HT_ ?_
                         refine pA 12 99 LB80 HT_ ?_
                         refine pA 13 100 LB77 HT_ ?_
                         refine pA 14 101 LB75 HT_ ?_
                         refine pT16 10 97 LB74 HT_ HW_ hHeld ?_
                         refine pT16 15 102 LB73 HT_ HW_ hHeld ?_
                         refine pA 16 103 LB72 HT_ ?_
                         refine pA 17 104 LB71 HT_ ?_
                         refine pA 18 105 LB70 HT_ ?_
                         refine pA 19 106 LB69 HT_ ?_
                         refine pA 21 108 LB67 HT_ ?_
                         refine pA 22 109 LB66 HT_ ?_
                         refine pA 23 110 LB64 HT_ ?_
                         refine pA 24 111 LB61 HT_ ?_
                         refine pT16 20 107 LB60 HT_ HW_ hHeld ?_
                         refine pT16 25 112 LB59 HT_ HW_ hHeld ?_
                         refine pA 26 113 LB58 HT_ ?_
                         refine pA 27 114 LB57 HT_ ?_
                         refine pA 28 115 LB56 HT_ ?_
                         refine pA 29 116 LB55 HT_ ?_
                         refine pT16 30 117 LB54 HT_ HW_ hHeld ?_
                         refine pA 31 118 LB53 HT_ ?_
                         refine pA 32 119 LB52 HT_ ?_
                         refine pA 33 120 LB51 HT_ ?_
                         refine pA 34 121 LB50 HT_ ?_
                         refine pA 36 123 LB48 HT_ ?_
                         refine pA 40 127 LB46 HT_ ?_
                         refine pA 41 128 LB44 HT_ ?_
                         refine pT16 35 122 LB42 HT_ HW_ hHeld ?_
                         refine pT16 37 124 LB41 HT_ HW_ hHeld ?_
                         refine pA 38 125 LB39 HT_ ?_
                         refine pA 39 126 LB37 HT_ ?_
                         refine pA 42 129 LB36 HT_ ?_
                         refine pA 43 130 LB35 HT_ ?_
                         refine pA 44 131 LB34 HT_ ?_
                         refine pA 45 132 LB33 HT_ ?_
                         refine pA 46 133 LB32 HT_ ?_
                         refine pA 48 135 LB30 HT_ ?_
                         refine pA 50 137 LB29 HT_ ?_
                         refine pA 55 142 LB27 HT_ ?_
                         refine pT16 47 134 LB24 HT_ HW_ hHeld ?_
                         refine pT16 49 136 LB23 HT_ HW_ hHeld ?_
                         refine pT16 51 138 LB20 HT_ HW_ hHeld ?_
                         refine pA 52 139 LB18 HT_ ?_
                         refine pA 53 140 LB16 HT_ ?_
                         refine pA 54 141 LB15 HT_ ?_
                         refine pT16 56 143 LB14 HT_ HW_ hHeld ?_
                         refine pA 57 144 LB13 HT_ ?_
                         refine pA 58 145 LB12 HT_ ?_
                         refine done_ (done_of HT_.out (by kernel_rfl)) ?_
                         try go_wp2
                         go_ret
                         exact ⟨by first | rfl | (simp [errW_none, errW_some] <;> rfl) | (simp only [← hji3]; first | rfl | (simp [errW_none, errW_some] <;> rfl)) | (simp [*, errW_none, errW_some] <;> rfl), by repeat (first | (with_reducible first | exact HB.out | apply below_alloc | apply pw_below_drewN | apply below_drew1 | refine below_set ?_ GE178.out) | exact HB.out)⟩
                       ·rw [if_neg c69] at H
                        exact absurd H (by simp)
                      ·rw [if_neg c68] at H
                       exact absurd H (by simp)
                     ·rw [if_neg c67] at H
                      exact absurd H (by simp)
                  ·rw [if_neg c56] at H
                   have c56b0 : (((rd_T33 t171 x82_3).f2) == ((rd_T33 t154 x82_3).f2)) = false := beq_eq_false_iff_ne.mpr c56
                   have c56b1 : (((rd_T33 t171 x82_3).f2) != ((rd_T33 t154 x82_3).f2)) = true := bne_iff_ne.mpr c56
                   obtain rfl := Option.some.inj H
                   have p177 : 0 ≤ (x82_3 : Int) := of_decide_eq_true (by first | (with_reducible assumption) | assumption)
                   have q177 : x82_3 < (t171.length : Int) := of_decide_eq_true (by first | (with_reducible assumption) | assumption)
                   obtain ⟨ad177, e177, hx177_0, hx177_1, hx177_2, hx177_3⟩ := at_T33 (Kd.R_reads' HO_80.out).2.2 x82_3 p177 q177
                   cases e177
                   replace p177 := eq_true p177
                   replace q177 := eq_true q177
                   try go_wp2_with (first | ((with_reducible refine gate_dst (N := 16) rfl ?_); (try (refine gate_guard (by rfl) ?_; dsimp only)); refine box_event ?hg (N := 16) ?hd (cs := #[.int .i64 0, .string (⟨#[]⟩ : ByteArray), .int .i64 0, .int .i64 0]) (t := 33) ?hr ?_; (case hd => rfl); (case hg => rfl); (case hr => first | (go_simp; done) | (go_simp; rfl)); intro gb178 hg w79 hbox hb; have n0_ := Aside0.mk (Kd.R_below (Kd.R_elderB (by (with_reducible repeat (first | apply Kd.R_alloc | apply Kd.R_drewN | apply Kd.R_drew)); exact HO_5.out) gb178 (Nat.le_of_eq hg.symm)) hb); have n1_ := Aside0.mk (Kd.R_below (Kd.R_elderB (by (with_reducible repeat (first | apply Kd.R_alloc | apply Kd.R_drewN | apply Kd.R_drew)); exact HO_80.out) gb178 (Nat.le_of_eq hg.symm)) hb); have n2_ := Aside0.mk (below_step (by repeat (first | (with_reducible first | exact HB.out | apply below_alloc | apply pw_below_drewN | apply below_drew1) | exact HB.out)) hb); have n3_ := Aside0.mk (hbox); have n4_ := Aside0.mk ((by rw [hg]; exact (below_size (by repeat (first | (with_reducible first | exact HB.out | apply below_alloc | apply pw_below_drewN | apply below_drew1) | exact HB.out))) : w.heap.size ≤ gb178)); have n5_ := Aside0.mk ((by rw [hg]; exact (below_size (by repeat (first | (with_reducible first | exact HB.out | apply below_alloc | apply pw_below_drewN | apply below_drew1) | exact HB.out))) : w.heap.size ≤ gb178)); clear HO_5; clear HO_80; clear HB; have HO_5 := n0_; have HO_80 := n1_; have HB := n2_; have BK178 := n3_; have GW178 := n4_; have GE178 := n5_; clear n0_ n1_ n2_ n3_ n4_ n5_; clear hb hbox hg; have hcz80_0 : w79.cell? ⟨gb178, 0, none⟩ = some (.int .i64 0) := (blk_cell BK178.out 0).trans rfl; have hcz80_1 : w79.cell? ⟨gb178, 1, none⟩ = some (.string (⟨#[]⟩ : ByteArray)) := (blk_cell BK178.out 1).trans rfl; have hcz80_2 : w79.cell? ⟨gb178, 2, none⟩ = some (.int .i64 0) := (blk_cell BK178.out 2).trans rfl; have hcz80_3 : w79.cell? ⟨gb178, 3, none⟩ = some (.int .i64 0) := (blk_cell BK178.out 3).trans rfl; have hfz80_0 := blk_frozen BK178.out 0; have hfz80_1 := blk_frozen BK178.out 1; have hfz80_2 := blk_frozen BK178.out 2; have hfz80_3 := blk_frozen BK178.out 3))
                   have n0_ : Aside0 (Kd.R k33 33 ((((w79.setCell ⟨gb178, 0, none⟩ (.int .i64 ((rd_T33 t171 x82_3).f0))).setCell ⟨gb178, 1, none⟩ (.string ((rd_T33 t171 x82_3).f1))).setCell ⟨gb178, 2, none⟩ (.int .i64 ((rd_T33 t171 x82_3).f2))).setCell ⟨gb178, 3, none⟩ (.int .i64 ((rd_T33 t171 x82_3).f3))) w.heap.size (fun k_ => some k_ ≠ (.slice (some ad177) t171.length co49 : Value).ownBlock ∧ k_ ≠ gb178) (.slice Ao9 t154.length co9) t154) := ⟨by (with_reducible repeat (first | apply Kd.R_alloc | apply Kd.R_drewN | apply Kd.R_drew)); exact Kd.R_mono (Kd.R_far (p := ⟨gb178, 3, none⟩) (Kd.R_far (p := ⟨gb178, 2, none⟩) (Kd.R_far (p := ⟨gb178, 1, none⟩) (Kd.R_far (p := ⟨gb178, 0, none⟩) (Kd.R_mono HO_5.out (fun k_ hk => (⟨hk, hk.2⟩ : _ ∧ k_ ≠ gb178))) (fun _ hk => hk.2) (.int .i64 ((rd_T33 t171 x82_3).f0))) (fun _ hk => hk.2) (.string ((rd_T33 t171 x82_3).f1))) (fun _ hk => hk.2) (.int .i64 ((rd_T33 t171 x82_3).f2))) (fun _ hk => hk.2) (.int .i64 ((rd_T33 t171 x82_3).f3))) (fun _ hk => ⟨hk.1.1, hk.1.2⟩)⟩
                   have n1_ : Aside0 (Kd.R k33 33 ((((w79.setCell ⟨gb178, 0, none⟩ (.int .i64 ((rd_T33 t171 x82_3).f0))).setCell ⟨gb178, 1, none⟩ (.string ((rd_T33 t171 x82_3).f1))).setCell ⟨gb178, 2, none⟩ (.int .i64 ((rd_T33 t171 x82_3).f2))).setCell ⟨gb178, 3, none⟩ (.int .i64 ((rd_T33 t171 x82_3).f3))) w.heap.size (fun k_ => some k_ ≠ (.slice Ao9 t154.length co9 : Value).ownBlock ∧ k_ ≠ gb178) (.slice (some ad177) t171.length co49) t171) := ⟨by (with_reducible repeat (first | apply Kd.R_alloc | apply Kd.R_drewN | apply Kd.R_drew)); exact Kd.R_mono (Kd.R_far (p := ⟨gb178, 3, none⟩) (Kd.R_far (p := ⟨gb178, 2, none⟩) (Kd.R_far (p := ⟨gb178, 1, none⟩) (Kd.R_far (p := ⟨gb178, 0, none⟩) (Kd.R_mono HO_80.out (fun k_ hk => (⟨hk, hk.2⟩ : _ ∧ k_ ≠ gb178))) (fun _ hk => hk.2) (.int .i64 ((rd_T33 t171 x82_3).f0))) (fun _ hk => hk.2) (.string ((rd_T33 t171 x82_3).f1))) (fun _ hk => hk.2) (.int .i64 ((rd_T33 t171 x82_3).f2))) (fun _ hk => hk.2) (.int .i64 ((rd_T33 t171 x82_3).f3))) (fun _ hk => ⟨hk.1.1, hk.1.2⟩)⟩
                   have n2_ : Aside0 (((((w79.setCell ⟨gb178, 0, none⟩ (.int .i64 ((rd_T33 t171 x82_3).f0))).setCell ⟨gb178, 1, none⟩ (.string ((rd_T33 t171 x82_3).f1))).setCell ⟨gb178, 2, none⟩ (.int .i64 ((rd_T33 t171 x82_3).f2))).setCell ⟨gb178, 3, none⟩ (.int .i64 ((rd_T33 t171 x82_3).f3))).heap[gb178]? = some (.cells #[.int .i64 ((rd_T33 t171 x82_3).f0), .string ((rd_T33 t171 x82_3).f1), .int .i64 ((rd_T33 t171 x82_3).f2), .int .i64 ((rd_T33 t171 x82_3).f3)] 33 (0, 0))) := ⟨by (with_reducible repeat (first | refine blk_drewN ?_ _ | refine blk_drew ?_ | refine blk_alloc ?_ _)); refine blk_put (cs := #[.int .i64 ((rd_T33 t171 x82_3).f0), .string ((rd_T33 t171 x82_3).f1), .int .i64 ((rd_T33 t171 x82_3).f2), .int .i64 0]) ?_ 3 _ rfl; (with_reducible repeat (first | refine blk_drewN ?_ _ | refine blk_drew ?_ | refine blk_alloc ?_ _)); refine blk_put (cs := #[.int .i64 ((rd_T33 t171 x82_3).f0), .string ((rd_T33 t171 x82_3).f1), .int .i64 0, .int .i64 0]) ?_ 2 _ rfl; (with_reducible repeat (first | refine blk_drewN ?_ _ | refine blk_drew ?_ | refine blk_alloc ?_ _)); refine blk_put (cs := #[.int .i64 ((rd_T33 t171 x82_3).f0), .string (⟨#[]⟩ : ByteArray), .int .i64 0, .int .i64 0]) ?_ 1 _ rfl; (with_reducible repeat (first | refine blk_drewN ?_ _ | refine blk_drew ?_ | refine blk_alloc ?_ _)); refine blk_put (cs := #[.int .i64 0, .string (⟨#[]⟩ : ByteArray), .int .i64 0, .int .i64 0]) ?_ 0 _ rfl; (with_reducible repeat (first | refine blk_drewN ?_ _ | refine blk_drew ?_ | refine blk_alloc ?_ _)); exact BK178.out⟩
                   have n3_ : Aside0 (Below w.heap.size w ((((w79.setCell ⟨gb178, 0, none⟩ (.int .i64 ((rd_T33 t171 x82_3).f0))).setCell ⟨gb178, 1, none⟩ (.string ((rd_T33 t171 x82_3).f1))).setCell ⟨gb178, 2, none⟩ (.int .i64 ((rd_T33 t171 x82_3).f2))).setCell ⟨gb178, 3, none⟩ (.int .i64 ((rd_T33 t171 x82_3).f3)))) := ⟨by repeat (first | (with_reducible first | exact HB.out | apply below_alloc | apply pw_below_drewN | apply below_drew1 | refine below_set ?_ GE178.out) | exact HB.out)⟩
                   (try clear HO_5)
                   (try clear HO_80)
                   (try clear BK178)
                   (try clear HB)
                   generalize ((((w79.setCell ⟨gb178, 0, none⟩ (.int .i64 ((rd_T33 t171 x82_3).f0))).setCell ⟨gb178, 1, none⟩ (.string ((rd_T33 t171 x82_3).f1))).setCell ⟨gb178, 2, none⟩ (.int .i64 ((rd_T33 t171 x82_3).f2))).setCell ⟨gb178, 3, none⟩ (.int .i64 ((rd_T33 t171 x82_3).f3))) = w81 at n0_ n1_ n2_ n3_ ⊢
                   have HO_5 := n0_
                   have HO_80 := n1_
                   have BK178 := n2_
                   have HB := n3_
                   clear n0_ n1_ n2_ n3_
                   have n0_ := Aside0.mk (Kd.R_drew HO_5.out)
                   have n1_ := Aside0.mk (Kd.R_drew HO_80.out)
                   have n2_ := Aside0.mk (blk_drew BK178.out)
                   have n3_ := Aside0.mk (below_drew1 HB.out)
                   clear HO_5
                   clear HO_80
                   clear BK178
                   clear HB
                   have HO_5 := n0_
                   have HO_80 := n1_
                   have BK178 := n2_
                   have HB := n3_
                   clear n0_ n1_ n2_ n3_
                   have p179 : 0 ≤ (x82_3 : Int) := of_decide_eq_true (by first | (with_reducible assumption) | assumption)
                   have q179 : x82_3 < (t154.length : Int) := of_decide_eq_true (by first | (with_reducible assumption) | assumption)
                   obtain ⟨ad179, e179, hx179_0, hx179_1, hx179_2, hx179_3⟩ := at_T33 (Kd.R_reads' HO_5.out).2.2 x82_3 p179 q179
                   cases e179
                   replace p179 := eq_true p179
                   replace q179 := eq_true q179
                   have p180 : 0 ≤ (x82_3 : Int) := of_decide_eq_true (by first | (with_reducible assumption) | assumption)
                   have q180 : x82_3 < (t154.length : Int) := of_decide_eq_true (by first | (with_reducible assumption) | assumption)
                   obtain ⟨ad180, e180, hx180_0, hx180_1, hx180_2, hx180_3⟩ := at_T33 (Kd.R_reads' HO_5.out).2.2 x82_3 p180 q180
                   obtain rfl : ad179 = ad180 := (by injection e180)
                   replace p180 := eq_true p180
                   replace q180 := eq_true q180
                   have p181 : 0 ≤ (x82_3 : Int) := of_decide_eq_true (by first | (with_reducible assumption) | assumption)
                   have q181 : x82_3 < (t154.length : Int) := of_decide_eq_true (by first | (with_reducible assumption) | assumption)
                   obtain ⟨ad181, e181, hx181_0, hx181_1, hx181_2, hx181_3⟩ := at_T33 (Kd.R_reads' HO_5.out).2.2 x82_3 p181 q181
                   obtain rfl : ad179 = ad181 := (by injection e181)
                   replace p181 := eq_true p181
                   replace q181 := eq_true q181
                   refine start_ (n := 59) (S := fun w' => w'.cell? ⟨gb178, 0, none⟩ = some (.int .i64 ((rd_T33 t171 x82_3).f0)) ∧ w'.cell? ⟨gb178, 1, none⟩ = some (.string ((rd_T33 t171 x82_3).f1)) ∧ w'.cell? ⟨gb178, 2, none⟩ = some (.int .i64 ((rd_T33 t171 x82_3).f2)) ∧ w'.cell? ⟨gb178, 3, none⟩ = some (.int .i64 ((rd_T33 t171 x82_3).f3)) ∧ w'.cell? (ad179.add ((x82_3).toNat * 4)) = some (.int .i64 ((rd_T33 t154 x82_3).f0)) ∧ w'.cell? ⟨(ad179.add ((x82_3).toNat * 4)).block, (ad179.add ((x82_3).toNat * 4)).off + 1, none⟩ = some (.string ((rd_T33 t154 x82_3).f1)) ∧ w'.cell? ⟨(ad179.add ((x82_3).toNat * 4)).block, (ad179.add ((x82_3).toNat * 4)).off + 2, none⟩ = some (.int .i64 ((rd_T33 t154 x82_3).f2)) ∧ w'.cell? ⟨(ad179.add ((x82_3).toNat * 4)).block, (ad179.add ((x82_3).toNat * 4)).off + 3, none⟩ = some (.int .i64 ((rd_T33 t154 x82_3).f3)) ∧ w'.cell? (ad179.add ((x82_3).toNat * 4)) = some (.int .i64 ((rd_T33 t154 x82_3).f0)) ∧ w'.cell? ⟨(ad179.add ((x82_3).toNat * 4)).block, (ad179.add ((x82_3).toNat * 4)).off + 1, none⟩ = some (.string ((rd_T33 t154 x82_3).f1)) ∧ w'.cell? ⟨(ad179.add ((x82_3).toNat * 4)).block, (ad179.add ((x82_3).toNat * 4)).off + 2, none⟩ = some (.int .i64 ((rd_T33 t154 x82_3).f2)) ∧ w'.cell? ⟨(ad179.add ((x82_3).toNat * 4)).block, (ad179.add ((x82_3).toNat * 4)).off + 3, none⟩ = some (.int .i64 ((rd_T33 t154 x82_3).f3)) ∧ w'.cell? (ad179.add ((x82_3).toNat * 4)) = some (.int .i64 ((rd_T33 t154 x82_3).f0)) ∧ w'.cell? ⟨(ad179.add ((x82_3).toNat * 4)).block, (ad179.add ((x82_3).toNat * 4)).off + 1, none⟩ = some (.string ((rd_T33 t154 x82_3).f1)) ∧ w'.cell? ⟨(ad179.add ((x82_3).toNat * 4)).block, (ad179.add ((x82_3).toNat * 4)).off + 2, none⟩ = some (.int .i64 ((rd_T33 t154 x82_3).f2)) ∧ w'.cell? ⟨(ad179.add ((x82_3).toNat * 4)).block, (ad179.add ((x82_3).toNat * 4)).off + 3, none⟩ = some (.int .i64 ((rd_T33 t154 x82_3).f3))) (ds := []) LB93 (by kernel_rfl) rfl rfl ⟨(blk_cell BK178.out 0).trans rfl, (blk_cell BK178.out 1).trans rfl, (blk_cell BK178.out 2).trans rfl, (blk_cell BK178.out 3).trans rfl, hx179_0, hx179_1, hx179_2, hx179_3, hx180_0, hx180_1, hx180_2, hx180_3, hx181_0, hx181_1, hx181_2, hx181_3⟩ (fun hHeld => ?_); refine with_tabW jigsawlaw05_LexBack.tab19 jigsawlaw05_LexBack.bits19 (fun HT_ HW_ => ?_)
                   generalize w81.drew = w82 at HO_5 HO_80 BK178 HB hx179_0 hx179_1 hx179_2 hx179_3 hx180_0 hx180_1 hx180_2 hx180_3 hx181_0 hx181_1 hx181_2 hx181_3 hHeld ⊢
                   refine pA 0 87 LB92 HT_ ?_
                   refine pA 2 89 LB91 HT_ ?_
                   refine pA 3 90 LB90 HT_ ?_
                   refine pA 4 91 LB89 HT_ ?_
                   refine pA 5 92 LB88 HT_ ?_
                   refine pT16 1 88 LB87 HT_ HW_ hHeld ?_
                   refine pT16 6 93 LB86 HT_ HW_ hHeld ?_
                   refine pA 7 94 LB85 HT_ ?_
                   refine pA 8 95 LB84 HT_ ?_
                   refine pA 9 96 LB83 HT_ ?_
                   refine pA 11 98 LB82 HT_ ?_
                   refine pA 12 99 LB80 HT_ ?_
                   refine pA 13 100 LB77 HT_ ?_
                   refine pA 14 101 LB75 HT_ ?_
                   refine pT16 10 97 LB74 HT_ HW_ hHeld ?_
                   refine pT16 15 102 LB73 HT_ HW_ hHeld ?_
                   refine pA 16 103 LB72 HT_ ?_
                   refine pA 17 104 LB71 HT_ ?_
                   refine pA 18 105 LB70 HT_ ?_
                   refine pA 19 106 LB69 HT_ ?_
                   refine pA 21 108 LB67 HT_ ?_
                   refine pA 22 109 LB66 HT_ ?_
                   refine pA 23 110 LB64 HT_ ?_
                   refine pA 24 111 LB61 HT_ ?_
                   refine pT16 20 107 LB60 HT_ HW_ hHeld ?_
                   refine pT16 25 112 LB59 HT_ HW_ hHeld ?_
                   refine pA 26 113 LB58 HT_ ?_
                   refine pA 27 114 LB57 HT_ ?_
                   refine pA 28 115 LB56 HT_ ?_
                   refine pB 29 116 LB55 HT_ ?_
                   refine pB 30 117 LB54 HT_ ?_
                   refine pB 31 118 LB53 HT_ ?_
                   refine pA 32 119 LB52 HT_ ?_
                   refine pA 33 120 LB51 HT_ ?_
                   refine pB 34 121 LB50 HT_ ?_
                   refine pB 35 122 LB49 HT_ ?_
                   refine pB 36 123 LB47 HT_ ?_
                   refine pB 37 124 LB45 HT_ ?_
                   refine pB 38 125 LB43 HT_ ?_
                   refine pB 39 126 LB40 HT_ ?_
                   refine pB 40 127 LB38 HT_ ?_
                   refine pB 41 128 LB37 HT_ ?_
                   refine pB 42 129 LB36 HT_ ?_
                   refine pA 43 130 LB35 HT_ ?_
                   refine pA 44 131 LB34 HT_ ?_
                   refine pB 45 132 LB33 HT_ ?_
                   refine pB 46 133 LB32 HT_ ?_
                   refine pB 47 134 LB31 HT_ ?_
                   refine pB 48 135 LB28 HT_ ?_
                   refine pB 49 136 LB26 HT_ ?_
                   refine pB 50 137 LB25 HT_ ?_
                   refine pB 51 138 LB22 HT_ ?_
                   refine pB 52 139 LB21 HT_ ?_
                   refine pB 53 140 LB19 HT_ ?_
                   refine pB 54 141 LB17 HT_ ?_
                   refine pB 55 142 LB15 HT_ ?_
                   refine pB 56 143 LB14 HT_ ?_
                   refine pB 57 144 LB13 HT_ ?_
                   refine pA 58 145 LB12 HT_ ?_
                   refine done_ (done_of HT_.out (by kernel_rfl)) ?_
                   try go_wp2
                   go_ret
                   exact ⟨by first | rfl | (simp [errW_none, errW_some] <;> rfl) | (simp only [← hji3]; first | rfl | (simp [errW_none, errW_some] <;> rfl)) | (simp [*, errW_none, errW_some] <;> rfl), by repeat (first | (with_reducible first | exact HB.out | apply below_alloc | apply pw_below_drewN | apply below_drew1 | refine below_set ?_ GE178.out) | exact HB.out)⟩
                 ·rw [if_neg c55] at H
                  have c55b0 : (((rd_T33 t171 x82_3).f1).toList == ((rd_T33 t154 x82_3).f1).toList) = false := beq_eq_false_iff_ne.mpr c55
                  have c55b1 : (((rd_T33 t171 x82_3).f1).toList != ((rd_T33 t154 x82_3).f1).toList) = true := bne_iff_ne.mpr c55
                  obtain rfl := Option.some.inj H
                  have p177 : 0 ≤ (x82_3 : Int) := of_decide_eq_true (by first | (with_reducible assumption) | assumption)
                  have q177 : x82_3 < (t171.length : Int) := of_decide_eq_true (by first | (with_reducible assumption) | assumption)
                  obtain ⟨ad177, e177, hx177_0, hx177_1, hx177_2, hx177_3⟩ := at_T33 (Kd.R_reads' HO_80.out).2.2 x82_3 p177 q177
                  cases e177
                  replace p177 := eq_true p177
                  replace q177 := eq_true q177
                  try go_wp2_with (first | ((with_reducible refine gate_dst (N := 16) rfl ?_); (try (refine gate_guard (by rfl) ?_; dsimp only)); refine box_event ?hg (N := 16) ?hd (cs := #[.int .i64 0, .string (⟨#[]⟩ : ByteArray), .int .i64 0, .int .i64 0]) (t := 33) ?hr ?_; (case hd => rfl); (case hg => rfl); (case hr => first | (go_simp; done) | (go_simp; rfl)); intro gb178 hg w83 hbox hb; have n0_ := Aside0.mk (Kd.R_below (Kd.R_elderB (by (with_reducible repeat (first | apply Kd.R_alloc | apply Kd.R_drewN | apply Kd.R_drew)); exact HO_5.out) gb178 (Nat.le_of_eq hg.symm)) hb); have n1_ := Aside0.mk (Kd.R_below (Kd.R_elderB (by (with_reducible repeat (first | apply Kd.R_alloc | apply Kd.R_drewN | apply Kd.R_drew)); exact HO_80.out) gb178 (Nat.le_of_eq hg.symm)) hb); have n2_ := Aside0.mk (below_step (by repeat (first | (with_reducible first | exact HB.out | apply below_alloc | apply pw_below_drewN | apply below_drew1) | exact HB.out)) hb); have n3_ := Aside0.mk (hbox); have n4_ := Aside0.mk ((by rw [hg]; exact (below_size (by repeat (first | (with_reducible first | exact HB.out | apply below_alloc | apply pw_below_drewN | apply below_drew1) | exact HB.out))) : w.heap.size ≤ gb178)); have n5_ := Aside0.mk ((by rw [hg]; exact (below_size (by repeat (first | (with_reducible first | exact HB.out | apply below_alloc | apply pw_below_drewN | apply below_drew1) | exact HB.out))) : w.heap.size ≤ gb178)); clear HO_5; clear HO_80; clear HB; have HO_5 := n0_; have HO_80 := n1_; have HB := n2_; have BK178 := n3_; have GW178 := n4_; have GE178 := n5_; clear n0_ n1_ n2_ n3_ n4_ n5_; clear hb hbox hg; have hcz84_0 : w83.cell? ⟨gb178, 0, none⟩ = some (.int .i64 0) := (blk_cell BK178.out 0).trans rfl; have hcz84_1 : w83.cell? ⟨gb178, 1, none⟩ = some (.string (⟨#[]⟩ : ByteArray)) := (blk_cell BK178.out 1).trans rfl; have hcz84_2 : w83.cell? ⟨gb178, 2, none⟩ = some (.int .i64 0) := (blk_cell BK178.out 2).trans rfl; have hcz84_3 : w83.cell? ⟨gb178, 3, none⟩ = some (.int .i64 0) := (blk_cell BK178.out 3).trans rfl; have hfz84_0 := blk_frozen BK178.out 0; have hfz84_1 := blk_frozen BK178.out 1; have hfz84_2 := blk_frozen BK178.out 2; have hfz84_3 := blk_frozen BK178.out 3))
                  have n0_ : Aside0 (Kd.R k33 33 ((((w83.setCell ⟨gb178, 0, none⟩ (.int .i64 ((rd_T33 t171 x82_3).f0))).setCell ⟨gb178, 1, none⟩ (.string ((rd_T33 t171 x82_3).f1))).setCell ⟨gb178, 2, none⟩ (.int .i64 ((rd_T33 t171 x82_3).f2))).setCell ⟨gb178, 3, none⟩ (.int .i64 ((rd_T33 t171 x82_3).f3))) w.heap.size (fun k_ => some k_ ≠ (.slice (some ad177) t171.length co49 : Value).ownBlock ∧ k_ ≠ gb178) (.slice Ao9 t154.length co9) t154) := ⟨by (with_reducible repeat (first | apply Kd.R_alloc | apply Kd.R_drewN | apply Kd.R_drew)); exact Kd.R_mono (Kd.R_far (p := ⟨gb178, 3, none⟩) (Kd.R_far (p := ⟨gb178, 2, none⟩) (Kd.R_far (p := ⟨gb178, 1, none⟩) (Kd.R_far (p := ⟨gb178, 0, none⟩) (Kd.R_mono HO_5.out (fun k_ hk => (⟨hk, hk.2⟩ : _ ∧ k_ ≠ gb178))) (fun _ hk => hk.2) (.int .i64 ((rd_T33 t171 x82_3).f0))) (fun _ hk => hk.2) (.string ((rd_T33 t171 x82_3).f1))) (fun _ hk => hk.2) (.int .i64 ((rd_T33 t171 x82_3).f2))) (fun _ hk => hk.2) (.int .i64 ((rd_T33 t171 x82_3).f3))) (fun _ hk => ⟨hk.1.1, hk.1.2⟩)⟩
                  have n1_ : Aside0 (Kd.R k33 33 ((((w83.setCell ⟨gb178, 0, none⟩ (.int .i64 ((rd_T33 t171 x82_3).f0))).setCell ⟨gb178, 1, none⟩ (.string ((rd_T33 t171 x82_3).f1))).setCell ⟨gb178, 2, none⟩ (.int .i64 ((rd_T33 t171 x82_3).f2))).setCell ⟨gb178, 3, none⟩ (.int .i64 ((rd_T33 t171 x82_3).f3))) w.heap.size (fun k_ => some k_ ≠ (.slice Ao9 t154.length co9 : Value).ownBlock ∧ k_ ≠ gb178) (.slice (some ad177) t171.length co49) t171) := ⟨by (with_reducible repeat (first | apply Kd.R_alloc | apply Kd.R_drewN | apply Kd.R_drew)); exact Kd.R_mono (Kd.R_far (p := ⟨gb178, 3, none⟩) (Kd.R_far (p := ⟨gb178, 2, none⟩) (Kd.R_far (p := ⟨gb178, 1, none⟩) (Kd.R_far (p := ⟨gb178, 0, none⟩) (Kd.R_mono HO_80.out (fun k_ hk => (⟨hk, hk.2⟩ : _ ∧ k_ ≠ gb178))) (fun _ hk => hk.2) (.int .i64 ((rd_T33 t171 x82_3).f0))) (fun _ hk => hk.2) (.string ((rd_T33 t171 x82_3).f1))) (fun _ hk => hk.2) (.int .i64 ((rd_T33 t171 x82_3).f2))) (fun _ hk => hk.2) (.int .i64 ((rd_T33 t171 x82_3).f3))) (fun _ hk => ⟨hk.1.1, hk.1.2⟩)⟩
                  have n2_ : Aside0 (((((w83.setCell ⟨gb178, 0, none⟩ (.int .i64 ((rd_T33 t171 x82_3).f0))).setCell ⟨gb178, 1, none⟩ (.string ((rd_T33 t171 x82_3).f1))).setCell ⟨gb178, 2, none⟩ (.int .i64 ((rd_T33 t171 x82_3).f2))).setCell ⟨gb178, 3, none⟩ (.int .i64 ((rd_T33 t171 x82_3).f3))).heap[gb178]? = some (.cells #[.int .i64 ((rd_T33 t171 x82_3).f0), .string ((rd_T33 t171 x82_3).f1), .int .i64 ((rd_T33 t171 x82_3).f2), .int .i64 ((rd_T33 t171 x82_3).f3)] 33 (0, 0))) := ⟨by (with_reducible repeat (first | refine blk_drewN ?_ _ | refine blk_drew ?_ | refine blk_alloc ?_ _)); refine blk_put (cs := #[.int .i64 ((rd_T33 t171 x82_3).f0), .string ((rd_T33 t171 x82_3).f1), .int .i64 ((rd_T33 t171 x82_3).f2), .int .i64 0]) ?_ 3 _ rfl; (with_reducible repeat (first | refine blk_drewN ?_ _ | refine blk_drew ?_ | refine blk_alloc ?_ _)); refine blk_put (cs := #[.int .i64 ((rd_T33 t171 x82_3).f0), .string ((rd_T33 t171 x82_3).f1), .int .i64 0, .int .i64 0]) ?_ 2 _ rfl; (with_reducible repeat (first | refine blk_drewN ?_ _ | refine blk_drew ?_ | refine blk_alloc ?_ _)); refine blk_put (cs := #[.int .i64 ((rd_T33 t171 x82_3).f0), .string (⟨#[]⟩ : ByteArray), .int .i64 0, .int .i64 0]) ?_ 1 _ rfl; (with_reducible repeat (first | refine blk_drewN ?_ _ | refine blk_drew ?_ | refine blk_alloc ?_ _)); refine blk_put (cs := #[.int .i64 0, .string (⟨#[]⟩ : ByteArray), .int .i64 0, .int .i64 0]) ?_ 0 _ rfl; (with_reducible repeat (first | refine blk_drewN ?_ _ | refine blk_drew ?_ | refine blk_alloc ?_ _)); exact BK178.out⟩
                  have n3_ : Aside0 (Below w.heap.size w ((((w83.setCell ⟨gb178, 0, none⟩ (.int .i64 ((rd_T33 t171 x82_3).f0))).setCell ⟨gb178, 1, none⟩ (.string ((rd_T33 t171 x82_3).f1))).setCell ⟨gb178, 2, none⟩ (.int .i64 ((rd_T33 t171 x82_3).f2))).setCell ⟨gb178, 3, none⟩ (.int .i64 ((rd_T33 t171 x82_3).f3)))) := ⟨by repeat (first | (with_reducible first | exact HB.out | apply below_alloc | apply pw_below_drewN | apply below_drew1 | refine below_set ?_ GE178.out) | exact HB.out)⟩
                  (try clear HO_5)
                  (try clear HO_80)
                  (try clear BK178)
                  (try clear HB)
                  generalize ((((w83.setCell ⟨gb178, 0, none⟩ (.int .i64 ((rd_T33 t171 x82_3).f0))).setCell ⟨gb178, 1, none⟩ (.string ((rd_T33 t171 x82_3).f1))).setCell ⟨gb178, 2, none⟩ (.int .i64 ((rd_T33 t171 x82_3).f2))).setCell ⟨gb178, 3, none⟩ (.int .i64 ((rd_T33 t171 x82_3).f3))) = w85 at n0_ n1_ n2_ n3_ ⊢
                  have HO_5 := n0_
                  have HO_80 := n1_
                  have BK178 := n2_
                  have HB := n3_
                  clear n0_ n1_ n2_ n3_
                  have n0_ := Aside0.mk (Kd.R_drew HO_5.out)
                  have n1_ := Aside0.mk (Kd.R_drew HO_80.out)
                  have n2_ := Aside0.mk (blk_drew BK178.out)
                  have n3_ := Aside0.mk (below_drew1 HB.out)
                  clear HO_5
                  clear HO_80
                  clear BK178
                  clear HB
                  have HO_5 := n0_
                  have HO_80 := n1_
                  have BK178 := n2_
                  have HB := n3_
                  clear n0_ n1_ n2_ n3_
                  have p179 : 0 ≤ (x82_3 : Int) := of_decide_eq_true (by first | (with_reducible assumption) | assumption)
                  have q179 : x82_3 < (t154.length : Int) := of_decide_eq_true (by first | (with_reducible assumption) | assumption)
                  obtain ⟨ad179, e179, hx179_0, hx179_1, hx179_2, hx179_3⟩ := at_T33 (Kd.R_reads' HO_5.out).2.2 x82_3 p179 q179
                  cases e179
                  replace p179 := eq_true p179
                  replace q179 := eq_true q179
                  have p180 : 0 ≤ (x82_3 : Int) := of_decide_eq_true (by first | (with_reducible assumption) | assumption)
                  have q180 : x82_3 < (t154.length : Int) := of_decide_eq_true (by first | (with_reducible assumption) | assumption)
                  obtain ⟨ad180, e180, hx180_0, hx180_1, hx180_2, hx180_3⟩ := at_T33 (Kd.R_reads' HO_5.out).2.2 x82_3 p180 q180
                  obtain rfl : ad179 = ad180 := (by injection e180)
                  replace p180 := eq_true p180
                  replace q180 := eq_true q180
                  refine start_ (n := 59) (S := fun w' => w'.cell? ⟨gb178, 0, none⟩ = some (.int .i64 ((rd_T33 t171 x82_3).f0)) ∧ w'.cell? ⟨gb178, 1, none⟩ = some (.string ((rd_T33 t171 x82_3).f1)) ∧ w'.cell? ⟨gb178, 2, none⟩ = some (.int .i64 ((rd_T33 t171 x82_3).f2)) ∧ w'.cell? ⟨gb178, 3, none⟩ = some (.int .i64 ((rd_T33 t171 x82_3).f3)) ∧ w'.cell? (ad179.add ((x82_3).toNat * 4)) = some (.int .i64 ((rd_T33 t154 x82_3).f0)) ∧ w'.cell? ⟨(ad179.add ((x82_3).toNat * 4)).block, (ad179.add ((x82_3).toNat * 4)).off + 1, none⟩ = some (.string ((rd_T33 t154 x82_3).f1)) ∧ w'.cell? ⟨(ad179.add ((x82_3).toNat * 4)).block, (ad179.add ((x82_3).toNat * 4)).off + 2, none⟩ = some (.int .i64 ((rd_T33 t154 x82_3).f2)) ∧ w'.cell? ⟨(ad179.add ((x82_3).toNat * 4)).block, (ad179.add ((x82_3).toNat * 4)).off + 3, none⟩ = some (.int .i64 ((rd_T33 t154 x82_3).f3)) ∧ w'.cell? (ad179.add ((x82_3).toNat * 4)) = some (.int .i64 ((rd_T33 t154 x82_3).f0)) ∧ w'.cell? ⟨(ad179.add ((x82_3).toNat * 4)).block, (ad179.add ((x82_3).toNat * 4)).off + 1, none⟩ = some (.string ((rd_T33 t154 x82_3).f1)) ∧ w'.cell? ⟨(ad179.add ((x82_3).toNat * 4)).block, (ad179.add ((x82_3).toNat * 4)).off + 2, none⟩ = some (.int .i64 ((rd_T33 t154 x82_3).f2)) ∧ w'.cell? ⟨(ad179.add ((x82_3).toNat * 4)).block, (ad179.add ((x82_3).toNat * 4)).off + 3, none⟩ = some (.int .i64 ((rd_T33 t154 x82_3).f3))) (ds := []) LB93 (by kernel_rfl) rfl rfl ⟨(blk_cell BK178.out 0).trans rfl, (blk_cell BK178.out 1).trans rfl, (blk_cell BK178.out 2).trans rfl, (blk_cell BK178.out 3).trans rfl, hx179_0, hx179_1, hx179_2, hx179_3, hx180_0, hx180_1, hx180_2, hx180_3⟩ (fun hHeld => ?_); refine with_tabW jigsawlaw05_LexBack.tab19 jigsawlaw05_LexBack.bits19 (fun HT_ HW_ => ?_)
                  generalize w85.drew = w86 at HO_5 HO_80 BK178 HB hx179_0 hx179_1 hx179_2 hx179_3 hx180_0 hx180_1 hx180_2 hx180_3 hHeld ⊢
                  refine pA 0 87 LB92 HT_ ?_
                  refine pA 2 89 LB91 HT_ ?_
                  refine pA 3 90 LB90 HT_ ?_
                  refine pA 4 91 LB89 HT_ ?_
                  refine pA 5 92 LB88 HT_ ?_
                  refine pT12 1 88 LB87 HT_ HW_ hHeld ?_
                  refine pT12 6 93 LB86 HT_ HW_ hHeld ?_
                  refine pA 7 94 LB85 HT_ ?_
                  refine pA 8 95 LB84 HT_ ?_
                  refine pA 9 96 LB83 HT_ ?_
                  refine pA 11 98 LB82 HT_ ?_
                  refine pA 12 99 LB80 HT_ ?_
                  refine pA 13 100 LB77 HT_ ?_
                  refine pA 14 101 LB75 HT_ ?_
                  refine pT12 10 97 LB74 HT_ HW_ hHeld ?_
                  refine pT12 15 102 LB73 HT_ HW_ hHeld ?_
                  refine pA 16 103 LB72 HT_ ?_
                  refine pA 17 104 LB71 HT_ ?_
                  refine pA 18 105 LB70 HT_ ?_
                  refine pB 19 106 LB69 HT_ ?_
                  refine pB 20 107 LB68 HT_ ?_
                  refine pB 21 108 LB65 HT_ ?_
                  refine pB 22 109 LB63 HT_ ?_
                  refine pB 23 110 LB62 HT_ ?_
                  refine pB 24 111 LB60 HT_ ?_
                  refine pB 25 112 LB59 HT_ ?_
                  refine pB 26 113 LB58 HT_ ?_
                  refine pA 27 114 LB57 HT_ ?_
                  refine pA 28 115 LB56 HT_ ?_
                  refine pB 29 116 LB55 HT_ ?_
                  refine pB 30 117 LB54 HT_ ?_
                  refine pB 31 118 LB53 HT_ ?_
                  refine pA 32 119 LB52 HT_ ?_
                  refine pA 33 120 LB51 HT_ ?_
                  refine pB 34 121 LB50 HT_ ?_
                  refine pB 35 122 LB49 HT_ ?_
                  refine pB 36 123 LB47 HT_ ?_
                  refine pB 37 124 LB45 HT_ ?_
                  refine pB 38 125 LB43 HT_ ?_
                  refine pB 39 126 LB40 HT_ ?_
                  refine pB 40 127 LB38 HT_ ?_
                  refine pB 41 128 LB37 HT_ ?_
                  refine pB 42 129 LB36 HT_ ?_
                  refine pA 43 130 LB35 HT_ ?_
                  refine pA 44 131 LB34 HT_ ?_
                  refine pB 45 132 LB33 HT_ ?_
                  refine pB 46 133 LB32 HT_ ?_
                  refine pB 47 134 LB31 HT_ ?_
                  refine pB 48 135 LB28 HT_ ?_
                  refine pB 49 136 LB26 HT_ ?_
                  refine pB 50 137 LB25 HT_ ?_
                  refine pB 51 138 LB22 HT_ ?_
                  refine pB 52 139 LB21 HT_ ?_
                  refine pB 53 140 LB19 HT_ ?_
                  refine pB 54 141 LB17 HT_ ?_
                  refine pB 55 142 LB15 HT_ ?_
                  refine pB 56 143 LB14 HT_ ?_
                  refine pB 57 144 LB13 HT_ ?_
                  refine pA 58 145 LB12 HT_ ?_
                  refine done_ (done_of HT_.out (by kernel_rfl)) ?_
                  try go_wp2
                  go_ret
                  exact ⟨by first | rfl | (simp [errW_none, errW_some] <;> rfl) | (simp only [← hji3]; first | rfl | (simp [errW_none, errW_some] <;> rfl)) | (simp [*, errW_none, errW_some] <;> rfl), by repeat (first | (with_reducible first | exact HB.out | apply below_alloc | apply pw_below_drewN | apply below_drew1 | refine below_set ?_ GE178.out) | exact HB.out)⟩
                ·rw [if_neg c54] at H
                 have c54b0 : (((rd_T33 t171 x82_3).f0) == ((rd_T33 t154 x82_3).f0)) = false := beq_eq_false_iff_ne.mpr c54
                 have c54b1 : (((rd_T33 t171 x82_3).f0) != ((rd_T33 t154 x82_3).f0)) = true := bne_iff_ne.mpr c54
                 obtain rfl := Option.some.inj H
                 have p177 : 0 ≤ (x82_3 : Int) := of_decide_eq_true (by first | (with_reducible assumption) | assumption)
                 have q177 : x82_3 < (t171.length : Int) := of_decide_eq_true (by first | (with_reducible assumption) | assumption)
                 obtain ⟨ad177, e177, hx177_0, hx177_1, hx177_2, hx177_3⟩ := at_T33 (Kd.R_reads' HO_80.out).2.2 x82_3 p177 q177
                 cases e177
                 replace p177 := eq_true p177
                 replace q177 := eq_true q177
                 try go_wp2_with (first | ((with_reducible refine gate_dst (N := 16) rfl ?_); (try (refine gate_guard (by rfl) ?_; dsimp only)); refine box_event ?hg (N := 16) ?hd (cs := #[.int .i64 0, .string (⟨#[]⟩ : ByteArray), .int .i64 0, .int .i64 0]) (t := 33) ?hr ?_; (case hd => rfl); (case hg => rfl); (case hr => first | (go_simp; done) | (go_simp; rfl)); intro gb178 hg w87 hbox hb; have n0_ := Aside0.mk (Kd.R_below (Kd.R_elderB (by (with_reducible repeat (first | apply Kd.R_alloc | apply Kd.R_drewN | apply Kd.R_drew)); exact HO_5.out) gb178 (Nat.le_of_eq hg.symm)) hb); have n1_ := Aside0.mk (Kd.R_below (Kd.R_elderB (by (with_reducible repeat (first | apply Kd.R_alloc | apply Kd.R_drewN | apply Kd.R_drew)); exact HO_80.out) gb178 (Nat.le_of_eq hg.symm)) hb); have n2_ := Aside0.mk (below_step (by repeat (first | (with_reducible first | exact HB.out | apply below_alloc | apply pw_below_drewN | apply below_drew1) | exact HB.out)) hb); have n3_ := Aside0.mk (hbox); have n4_ := Aside0.mk ((by rw [hg]; exact (below_size (by repeat (first | (with_reducible first | exact HB.out | apply below_alloc | apply pw_below_drewN | apply below_drew1) | exact HB.out))) : w.heap.size ≤ gb178)); have n5_ := Aside0.mk ((by rw [hg]; exact (below_size (by repeat (first | (with_reducible first | exact HB.out | apply below_alloc | apply pw_below_drewN | apply below_drew1) | exact HB.out))) : w.heap.size ≤ gb178)); clear HO_5; clear HO_80; clear HB; have HO_5 := n0_; have HO_80 := n1_; have HB := n2_; have BK178 := n3_; have GW178 := n4_; have GE178 := n5_; clear n0_ n1_ n2_ n3_ n4_ n5_; clear hb hbox hg; have hcz88_0 : w87.cell? ⟨gb178, 0, none⟩ = some (.int .i64 0) := (blk_cell BK178.out 0).trans rfl; have hcz88_1 : w87.cell? ⟨gb178, 1, none⟩ = some (.string (⟨#[]⟩ : ByteArray)) := (blk_cell BK178.out 1).trans rfl; have hcz88_2 : w87.cell? ⟨gb178, 2, none⟩ = some (.int .i64 0) := (blk_cell BK178.out 2).trans rfl; have hcz88_3 : w87.cell? ⟨gb178, 3, none⟩ = some (.int .i64 0) := (blk_cell BK178.out 3).trans rfl; have hfz88_0 := blk_frozen BK178.out 0; have hfz88_1 := blk_frozen BK178.out 1; have hfz88_2 := blk_frozen BK178.out 2; have hfz88_3 := blk_frozen BK178.out 3))
                 have n0_ : Aside0 (Kd.R k33 33 ((((w87.setCell ⟨gb178, 0, none⟩ (.int .i64 ((rd_T33 t171 x82_3).f0))).setCell ⟨gb178, 1, none⟩ (.string ((rd_T33 t171 x82_3).f1))).setCell ⟨gb178, 2, none⟩ (.int .i64 ((rd_T33 t171 x82_3).f2))).setCell ⟨gb178, 3, none⟩ (.int .i64 ((rd_T33 t171 x82_3).f3))) w.heap.size (fun k_ => some k_ ≠ (.slice (some ad177) t171.length co49 : Value).ownBlock ∧ k_ ≠ gb178) (.slice Ao9 t154.length co9) t154) := ⟨by (with_reducible repeat (first | apply Kd.R_alloc | apply Kd.R_drewN | apply Kd.R_drew)); exact Kd.R_mono (Kd.R_far (p := ⟨gb178, 3, none⟩) (Kd.R_far (p := ⟨gb178, 2, none⟩) (Kd.R_far (p := ⟨gb178, 1, none⟩) (Kd.R_far (p := ⟨gb178, 0, none⟩) (Kd.R_mono HO_5.out (fun k_ hk => (⟨hk, hk.2⟩ : _ ∧ k_ ≠ gb178))) (fun _ hk => hk.2) (.int .i64 ((rd_T33 t171 x82_3).f0))) (fun _ hk => hk.2) (.string ((rd_T33 t171 x82_3).f1))) (fun _ hk => hk.2) (.int .i64 ((rd_T33 t171 x82_3).f2))) (fun _ hk => hk.2) (.int .i64 ((rd_T33 t171 x82_3).f3))) (fun _ hk => ⟨hk.1.1, hk.1.2⟩)⟩
                 have n1_ : Aside0 (Kd.R k33 33 ((((w87.setCell ⟨gb178, 0, none⟩ (.int .i64 ((rd_T33 t171 x82_3).f0))).setCell ⟨gb178, 1, none⟩ (.string ((rd_T33 t171 x82_3).f1))).setCell ⟨gb178, 2, none⟩ (.int .i64 ((rd_T33 t171 x82_3).f2))).setCell ⟨gb178, 3, none⟩ (.int .i64 ((rd_T33 t171 x82_3).f3))) w.heap.size (fun k_ => some k_ ≠ (.slice Ao9 t154.length co9 : Value).ownBlock ∧ k_ ≠ gb178) (.slice (some ad177) t171.length co49) t171) := ⟨by (with_reducible repeat (first | apply Kd.R_alloc | apply Kd.R_drewN | apply Kd.R_drew)); exact Kd.R_mono (Kd.R_far (p := ⟨gb178, 3, none⟩) (Kd.R_far (p := ⟨gb178, 2, none⟩) (Kd.R_far (p := ⟨gb178, 1, none⟩) (Kd.R_far (p := ⟨gb178, 0, none⟩) (Kd.R_mono HO_80.out (fun k_ hk => (⟨hk, hk.2⟩ : _ ∧ k_ ≠ gb178))) (fun _ hk => hk.2) (.int .i64 ((rd_T33 t171 x82_3).f0))) (fun _ hk => hk.2) (.string ((rd_T33 t171 x82_3).f1))) (fun _ hk => hk.2) (.int .i64 ((rd_T33 t171 x82_3).f2))) (fun _ hk => hk.2) (.int .i64 ((rd_T33 t171 x82_3).f3))) (fun _ hk => ⟨hk.1.1, hk.1.2⟩)⟩
                 have n2_ : Aside0 (((((w87.setCell ⟨gb178, 0, none⟩ (.int .i64 ((rd_T33 t171 x82_3).f0))).setCell ⟨gb178, 1, none⟩ (.string ((rd_T33 t171 x82_3).f1))).setCell ⟨gb178, 2, none⟩ (.int .i64 ((rd_T33 t171 x82_3).f2))).setCell ⟨gb178, 3, none⟩ (.int .i64 ((rd_T33 t171 x82_3).f3))).heap[gb178]? = some (.cells #[.int .i64 ((rd_T33 t171 x82_3).f0), .string ((rd_T33 t171 x82_3).f1), .int .i64 ((rd_T33 t171 x82_3).f2), .int .i64 ((rd_T33 t171 x82_3).f3)] 33 (0, 0))) := ⟨by (with_reducible repeat (first | refine blk_drewN ?_ _ | refine blk_drew ?_ | refine blk_alloc ?_ _)); refine blk_put (cs := #[.int .i64 ((rd_T33 t171 x82_3).f0), .string ((rd_T33 t171 x82_3).f1), .int .i64 ((rd_T33 t171 x82_3).f2), .int .i64 0]) ?_ 3 _ rfl; (with_reducible repeat (first | refine blk_drewN ?_ _ | refine blk_drew ?_ | refine blk_alloc ?_ _)); refine blk_put (cs := #[.int .i64 ((rd_T33 t171 x82_3).f0), .string ((rd_T33 t171 x82_3).f1), .int .i64 0, .int .i64 0]) ?_ 2 _ rfl; (with_reducible repeat (first | refine blk_drewN ?_ _ | refine blk_drew ?_ | refine blk_alloc ?_ _)); refine blk_put (cs := #[.int .i64 ((rd_T33 t171 x82_3).f0), .string (⟨#[]⟩ : ByteArray), .int .i64 0, .int .i64 0]) ?_ 1 _ rfl; (with_reducible repeat (first | refine blk_drewN ?_ _ | refine blk_drew ?_ | refine blk_alloc ?_ _)); refine blk_put (cs := #[.int .i64 0, .string (⟨#[]⟩ : ByteArray), .int .i64 0, .int .i64 0]) ?_ 0 _ rfl; (with_reducible repeat (first | refine blk_drewN ?_ _ | refine blk_drew ?_ | refine blk_alloc ?_ _)); exact BK178.out⟩
                 have n3_ : Aside0 (Below w.heap.size w ((((w87.setCell ⟨gb178, 0, none⟩ (.int .i64 ((rd_T33 t171 x82_3).f0))).setCell ⟨gb178, 1, none⟩ (.string ((rd_T33 t171 x82_3).f1))).setCell ⟨gb178, 2, none⟩ (.int .i64 ((rd_T33 t171 x82_3).f2))).setCell ⟨gb178, 3, none⟩ (.int .i64 ((rd_T33 t171 x82_3).f3)))) := ⟨by repeat (first | (with_reducible first | exact HB.out | apply below_alloc | apply pw_below_drewN | apply below_drew1 | refine below_set ?_ GE178.out) | exact HB.out)⟩
                 (try clear HO_5)
                 (try clear HO_80)
                 (try clear BK178)
                 (try clear HB)
                 generalize ((((w87.setCell ⟨gb178, 0, none⟩ (.int .i64 ((rd_T33 t171 x82_3).f0))).setCell ⟨gb178, 1, none⟩ (.string ((rd_T33 t171 x82_3).f1))).setCell ⟨gb178, 2, none⟩ (.int .i64 ((rd_T33 t171 x82_3).f2))).setCell ⟨gb178, 3, none⟩ (.int .i64 ((rd_T33 t171 x82_3).f3))) = w89 at n0_ n1_ n2_ n3_ ⊢
                 have HO_5 := n0_
                 have HO_80 := n1_
                 have BK178 := n2_
                 have HB := n3_
                 clear n0_ n1_ n2_ n3_
                 have n0_ := Aside0.mk (Kd.R_drew HO_5.out)
                 have n1_ := Aside0.mk (Kd.R_drew HO_80.out)
                 have n2_ := Aside0.mk (blk_drew BK178.out)
                 have n3_ := Aside0.mk (below_drew1 HB.out)
                 clear HO_5
                 clear HO_80
                 clear BK178
                 clear HB
                 have HO_5 := n0_
                 have HO_80 := n1_
                 have BK178 := n2_
                 have HB := n3_
                 clear n0_ n1_ n2_ n3_
                 have p179 : 0 ≤ (x82_3 : Int) := of_decide_eq_true (by first | (with_reducible assumption) | assumption)
                 have q179 : x82_3 < (t154.length : Int) := of_decide_eq_true (by first | (with_reducible assumption) | assumption)
                 obtain ⟨ad179, e179, hx179_0, hx179_1, hx179_2, hx179_3⟩ := at_T33 (Kd.R_reads' HO_5.out).2.2 x82_3 p179 q179
                 cases e179
                 replace p179 := eq_true p179
                 replace q179 := eq_true q179
                 refine start_ (n := 59) (S := fun w' => w'.cell? ⟨gb178, 0, none⟩ = some (.int .i64 ((rd_T33 t171 x82_3).f0)) ∧ w'.cell? ⟨gb178, 1, none⟩ = some (.string ((rd_T33 t171 x82_3).f1)) ∧ w'.cell? ⟨gb178, 2, none⟩ = some (.int .i64 ((rd_T33 t171 x82_3).f2)) ∧ w'.cell? ⟨gb178, 3, none⟩ = some (.int .i64 ((rd_T33 t171 x82_3).f3)) ∧ w'.cell? (ad179.add ((x82_3).toNat * 4)) = some (.int .i64 ((rd_T33 t154 x82_3).f0)) ∧ w'.cell? ⟨(ad179.add ((x82_3).toNat * 4)).block, (ad179.add ((x82_3).toNat * 4)).off + 1, none⟩ = some (.string ((rd_T33 t154 x82_3).f1)) ∧ w'.cell? ⟨(ad179.add ((x82_3).toNat * 4)).block, (ad179.add ((x82_3).toNat * 4)).off + 2, none⟩ = some (.int .i64 ((rd_T33 t154 x82_3).f2)) ∧ w'.cell? ⟨(ad179.add ((x82_3).toNat * 4)).block, (ad179.add ((x82_3).toNat * 4)).off + 3, none⟩ = some (.int .i64 ((rd_T33 t154 x82_3).f3))) (ds := []) LB93 (by kernel_rfl) rfl rfl ⟨(blk_cell BK178.out 0).trans rfl, (blk_cell BK178.out 1).trans rfl, (blk_cell BK178.out 2).trans rfl, (blk_cell BK178.out 3).trans rfl, hx179_0, hx179_1, hx179_2, hx179_3⟩ (fun hHeld => ?_); refine with_tabW jigsawlaw05_LexBack.tab19 jigsawlaw05_LexBack.bits19 (fun HT_ HW_ => ?_)
                 generalize w89.drew = w90 at HO_5 HO_80 BK178 HB hx179_0 hx179_1 hx179_2 hx179_3 hHeld ⊢
                 refine pA 0 87 LB92 HT_ ?_
                 refine pA 2 89 LB91 HT_ ?_
                 refine pA 3 90 LB90 HT_ ?_
                 refine pA 4 91 LB89 HT_ ?_
                 refine pA 5 92 LB88 HT_ ?_
                 refine pT8 1 88 LB87 HT_ HW_ hHeld ?_
                 refine pT8 6 93 LB86 HT_ HW_ hHeld ?_
                 refine pA 7 94 LB85 HT_ ?_
                 refine pA 8 95 LB84 HT_ ?_
                 refine pB 9 96 LB83 HT_ ?_
                 refine pB 10 97 LB81 HT_ ?_
                 refine pB 11 98 LB79 HT_ ?_
                 refine pB 12 99 LB78 HT_ ?_
                 refine pB 13 100 LB76 HT_ ?_
                 refine pB 14 101 LB74 HT_ ?_
                 refine pB 15 102 LB73 HT_ ?_
                 refine pB 16 103 LB72 HT_ ?_
                 refine pA 17 104 LB71 HT_ ?_
                 refine pA 18 105 LB70 HT_ ?_
                 refine pB 19 106 LB69 HT_ ?_
                 refine pB 20 107 LB68 HT_ ?_
                 refine pB 21 108 LB65 HT_ ?_
                 refine pB 22 109 LB63 HT_ ?_
                 refine pB 23 110 LB62 HT_ ?_
                 refine pB 24 111 LB60 HT_ ?_
                 refine pB 25 112 LB59 HT_ ?_
                 refine pB 26 113 LB58 HT_ ?_
                 refine pA 27 114 LB57 HT_ ?_
                 refine pA 28 115 LB56 HT_ ?_
                 refine pB 29 116 LB55 HT_ ?_
                 refine pB 30 117 LB54 HT_ ?_
                 refine pB 31 118 LB53 HT_ ?_
                 refine pA 32 119 LB52 HT_ ?_
                 refine pA 33 120 LB51 HT_ ?_
                 refine pB 34 121 LB50 HT_ ?_
                 refine pB 35 122 LB49 HT_ ?_
                 refine pB 36 123 LB47 HT_ ?_
                 refine pB 37 124 LB45 HT_ ?_
                 refine pB 38 125 LB43 HT_ ?_
                 refine pB 39 126 LB40 HT_ ?_
                 refine pB 40 127 LB38 HT_ ?_
                 refine pB 41 128 LB37 HT_ ?_
                 refine pB 42 129 LB36 HT_ ?_
                 refine pA 43 130 LB35 HT_ ?_
                 refine pA 44 131 LB34 HT_ ?_
                 refine pB 45 132 LB33 HT_ ?_
                 refine pB 46 133 LB32 HT_ ?_
                 refine pB 47 134 LB31 HT_ ?_
                 refine pB 48 135 LB28 HT_ ?_
                 refine pB 49 136 LB26 HT_ ?_
                 refine pB 50 137 LB25 HT_ ?_
                 refine pB 51 138 LB22 HT_ ?_
                 refine pB 52 139 LB21 HT_ ?_
                 refine pB 53 140 LB19 HT_ ?_
                 refine pB 54 141 LB17 HT_ ?_
                 refine pB 55 142 LB15 HT_ ?_
                 refine pB 56 143 LB14 HT_ ?_
                 refine pB 57 144 LB13 HT_ ?_
                 refine pA 58 145 LB12 HT_ ?_
                 refine done_ (done_of HT_.out (by kernel_rfl)) ?_
                 try go_wp2
                 go_ret
                 exact ⟨by first | rfl | (simp [errW_none, errW_some] <;> rfl) | (simp only [← hji3]; first | rfl | (simp [errW_none, errW_some] <;> rfl)) | (simp [*, errW_none, errW_some] <;> rfl), by repeat (first | (with_reducible first | exact HB.out | apply below_alloc | apply pw_below_drewN | apply below_drew1 | refine below_set ?_ GE178.out) | exact HB.out)⟩
               ·rw [if_neg c53] at H
                exact absurd H (by simp)
              ·rw [if_neg c52] at H
               exact absurd H (by simp)
             ·rw [if_neg c51] at H
              exact absurd H (by simp)
            ·rw [if_neg c50] at H
             have c50b0 : decide (x82_3 < (t171.length : Int)) = false := decide_eq_false c50
             clear c50
             obtain rfl := Option.some.inj H
             go_wp2
             go_ret
             exact ⟨by first | rfl | (simp [errW_none, errW_some] <;> rfl) | (simp only [← hji3]; first | rfl | (simp [errW_none, errW_some] <;> rfl)) | (simp [*, errW_none, errW_some] <;> rfl), by repeat (first | (with_reducible first | exact HB.out | apply below_alloc | apply pw_below_drewN | apply below_drew1) | exact HB.out)⟩
   ·rw [if_neg c7] at H
    have c7b0 : (t156 == 0) = false := beq_eq_false_iff_ne.mpr c7
    have c7b1 : (t156 != 0) = true := bne_iff_ne.mpr c7
    replace H := Option.bind_eq_some_iff.mp H
    obtain ⟨t159, A910, H⟩ := H
    replace H : (if t159 = true then (some ((t154.length : Int) == 0)) else (some false)) = some r := H
    have A91 := Aside0.mk A910
    clear A910
    by_cases c92 : t159 = true
    ·subst c92
     have H1 : (some ((t154.length : Int) == 0)) = some r := by rw [if_pos rfl] at H; exact H
     clear H
     have H := H1
     clear H1
     obtain rfl := Option.some.inj H
     go_enter Tryd.func5, Tryd.ntmps5
     go_wp2_with (first | ((with_reducible refine gate_callee (f := 8) rfl ?_); refine goesL_ (some 23) rfl rfl Tryd.func8 (by kernel_rfl) rfl #[.string (a0.extract 0 ((ji3) : Int).toNat)] rfl (by (try simp only [List.map_toArray, List.map_cons, List.map_nil]); first | done | (simp only [hji3]; rfl) | rfl | (simp only [List.length_drop, List.length_take]; rfl)) ?_; (with_reducible refine (lex_Lex.calls k (a0.extract 0 ((ji3) : Int).toNat) t154 t155 t156 _ A6.out).mono ?_); rintro e w93 ⟨v157, rfl, ho0, hb⟩; refine ⟨_, rfl, ?_⟩; have n0_ := Aside0.mk (Kd.R_lower ho0 (below_size (by repeat (first | (with_reducible first | exact HB.out | apply below_alloc | apply pw_below_drewN | apply below_drew1) | exact HB.out)))); have n1_ := Aside0.mk (below_step (by repeat (first | (with_reducible first | exact HB.out | apply below_alloc | apply pw_below_drewN | apply below_drew1) | exact HB.out)) hb); clear HB; have HO158 := n0_; have HB := n1_; clear n0_ n1_; (try clear hb); (try clear hb2); (try clear hk); (try clear hi); (try clear ho0)) | ((with_reducible refine gate_callee (f := 10) rfl ?_); refine goesL_ (some 29) rfl rfl Tryd.func10 (by kernel_rfl) rfl #[] rfl (by (try simp only [List.map_toArray, List.map_cons, List.map_nil]); first | done | rfl | (simp only [List.length_drop, List.length_take]; rfl)) ?_; (with_reducible refine (jigsawlaw05_wakes.calls k  true _ A91.out).mono ?_); rintro e w94 ⟨rfl, hb⟩; refine ⟨_, rfl, ?_⟩; have n0_ := Aside0.mk (Kd.R_below (by (with_reducible repeat (first | apply Kd.R_alloc | apply Kd.R_drewN | apply Kd.R_drew)); exact HO158.out) hb); have n1_ := Aside0.mk (below_step (by repeat (first | (with_reducible first | exact HB.out | apply below_alloc | apply pw_below_drewN | apply below_drew1) | exact HB.out)) hb); clear HO158; clear HB; have HO158 := n0_; have HB := n1_; clear n0_ n1_; (try clear hb); (try clear hb2); (try clear hk); (try clear hi); obtain ⟨Ao95, co95, eo95⟩ := Kd.R_slice HO158.out; subst eo95))
     go_ret
     exact ⟨by first | rfl | (simp [errW_none, errW_some] <;> rfl) | (simp only [← hji3]; first | rfl | (simp [errW_none, errW_some] <;> rfl)) | (simp [*, errW_none, errW_some] <;> rfl), by repeat (first | (with_reducible first | exact HB.out | apply below_alloc | apply pw_below_drewN | apply below_drew1) | exact HB.out)⟩
    ·replace c92 := Bool.eq_false_iff.mpr c92
     subst c92
     have H1 : (some false) = some r := by rw [if_neg (show ¬ (false = true) by decide)] at H; exact H
     clear H
     have H := H1
     clear H1
     obtain rfl := Option.some.inj H
     go_enter Tryd.func5, Tryd.ntmps5
     go_wp2_with (first | ((with_reducible refine gate_callee (f := 8) rfl ?_); refine goesL_ (some 23) rfl rfl Tryd.func8 (by kernel_rfl) rfl #[.string (a0.extract 0 ((ji3) : Int).toNat)] rfl (by (try simp only [List.map_toArray, List.map_cons, List.map_nil]); first | done | (simp only [hji3]; rfl) | rfl | (simp only [List.length_drop, List.length_take]; rfl)) ?_; (with_reducible refine (lex_Lex.calls k (a0.extract 0 ((ji3) : Int).toNat) t154 t155 t156 _ A6.out).mono ?_); rintro e w96 ⟨v157, rfl, ho0, hb⟩; refine ⟨_, rfl, ?_⟩; have n0_ := Aside0.mk (Kd.R_lower ho0 (below_size (by repeat (first | (with_reducible first | exact HB.out | apply below_alloc | apply pw_below_drewN | apply below_drew1) | exact HB.out)))); have n1_ := Aside0.mk (below_step (by repeat (first | (with_reducible first | exact HB.out | apply below_alloc | apply pw_below_drewN | apply below_drew1) | exact HB.out)) hb); clear HB; have HO158 := n0_; have HB := n1_; clear n0_ n1_; (try clear hb); (try clear hb2); (try clear hk); (try clear hi); (try clear ho0)) | ((with_reducible refine gate_callee (f := 10) rfl ?_); refine goesL_ (some 29) rfl rfl Tryd.func10 (by kernel_rfl) rfl #[] rfl (by (try simp only [List.map_toArray, List.map_cons, List.map_nil]); first | done | rfl | (simp only [List.length_drop, List.length_take]; rfl)) ?_; (with_reducible refine (jigsawlaw05_wakes.calls k  false _ A91.out).mono ?_); rintro e w97 ⟨rfl, hb⟩; refine ⟨_, rfl, ?_⟩; have n0_ := Aside0.mk (Kd.R_below (by (with_reducible repeat (first | apply Kd.R_alloc | apply Kd.R_drewN | apply Kd.R_drew)); exact HO158.out) hb); have n1_ := Aside0.mk (below_step (by repeat (first | (with_reducible first | exact HB.out | apply below_alloc | apply pw_below_drewN | apply below_drew1) | exact HB.out)) hb); clear HO158; clear HB; have HO158 := n0_; have HB := n1_; clear n0_ n1_; (try clear hb); (try clear hb2); (try clear hk); (try clear hi)))
     go_ret
     exact ⟨by first | rfl | (simp [errW_none, errW_some] <;> rfl) | (simp only [← hji3]; first | rfl | (simp [errW_none, errW_some] <;> rfl)) | (simp [*, errW_none, errW_some] <;> rfl), by repeat (first | (with_reducible first | exact HB.out | apply below_alloc | apply pw_below_drewN | apply below_drew1) | exact HB.out)⟩
  ·rw [if_neg c5] at H
   exact absurd H (by simp)
 ·rw [if_neg c4] at H
  exact absurd H (by simp)

/-- THE ONE PURE STATEMENT of jigsawlaw05_LexBack: yours. -/
def jigsawlaw05_LexBack.Pure : Prop := ∀ (a0 : ByteArray) (l1 : List Int), a0.size ≤ 140737488351232 → l1.length ≤ maxLen → l1.length * 1 ≤ 140737488351232 → (∀ x ∈ l1, (Lit.int .u8 x).wf = true) → ∃ k, jigsawlaw05_LexBack.f k a0 l1 = some true
theorem jigsawlaw05_LexBack.walk (P : jigsawlaw05_LexBack.Pure) (a0 : ByteArray) (a1 : Option Addr) (len1 cap1 : Nat) (z1 : List Int) (w : World) (w0 : a0.size ≤ 140737488351232) (w1 : (a1 = none ∧ len1 = 0 ∧ cap1 = 0 ∧ z1 = []) ∨ ∃ x, a1 = some x ∧ len1 ≤ cap1 ∧ cap1 ≤ maxLen ∧ z1.length = cap1 ∧ (∀ i, i < z1.length → w.cell? (x.add i) = some (.int .u8 (z1.getD i 0))) ∧ ∀ n ∈ z1, (Lit.int .u8 n).wf = true) (y1 : len1 * 1 ≤ 140737488351232) :
  Calls Tryd.prog 5 #[.string a0, .slice a1 len1 cap1] w fun e w' => e = .returned (.bool true) ∧ Below w.heap.size w w' := by
 obtain ⟨l1, rfl, hr1, hm1, hw1, hc1⟩ := ReadsInt.ofRowC w1
 obtain ⟨k, h⟩ := P a0 l1 w0 hm1 y1 hw1
 refine (jigsawlaw05_LexBack.calls k a0 _ _ l1 true w (Kd.C_of_reads (d := (0 : Int)) (h1 := fun _ => rfl) hr1) hc1 h).mono ?_
 rintro e w' ⟨rfl, hd⟩
 exact ⟨rfl, hd⟩

end Go.Proofs.YtdemfbfdhpccpaaDoorX.H5b
