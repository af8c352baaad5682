/- Chapter 05: letters, digits, blanks; how many bytes from the beginning on are of a kind. -/
import Derived.Test.YtdemfbfdhpccpaaDoorLexA
import Derived.Test.YtdemfbfdhpccpaaDoorHeapN
import Derived.Test.YtdemfbfdhpccpaaDoorShelf
import Derived.Lib.OthersKept
import Derived.Lib.SpaceUEq
import Derived.Lib.TrimUEq
import Derived.Deep.DeepCutAuto
import Derived.Deep.CutBlock
import Derived.Deep.LoopGhost
namespace Go.Proofs.YtdemfbfdhpccpaaDoor
open Go.RowKit
set_option linter.unusedSimpArgs false
set_option linter.unusedVariables false

/-- A number told, a yes or no told: what was there is as it was. -/
def Lx.Tells (x : Int) (w : World) (e : Ending) (w' : World) : Prop := e = .returned (.int .i64 x) ∧ Below w.heap.size w w'
def Lx.Says (x : Bool) (w : World) (e : Ending) (w' : World) : Prop := e = .returned (.bool x) ∧ Below w.heap.size w w'
/-- The same, of a rune. -/
def Lx.ltI (c : Int) : Bool := decide (97 ≤ c ∧ c ≤ 122 ∨ 65 ≤ c ∧ c ≤ 90)
def Lx.dgI (c : Int) : Bool := decide (48 ≤ c ∧ c ≤ 57)
def Lx.innI (c : Int) : Bool := Lx.ltI c || Lx.dgI c || decide (c = 95)
def Lx.blI (c : Int) : Bool := decide (c = 32 ∨ c = 9 ∨ c = 13 ∨ c = 10)
def Lx.nlI (c : Int) : Bool := decide (c ≠ 10)

theorem lex_letter (c : Int) (w : World) : Calls Tryd.prog 20 #[.int .i32 c] w fun e w' => e = .returned (.bool (Lx.ltI c)) ∧ w = w' := by
  go_enter Tryd.func20, Tryd.ntmps20
  go_wp2
  all_goals
    go_ret
    exact ⟨ret_bool (by unfold Lx.ltI; rw [Bool.eq_iff_iff]; simp; omega), rfl⟩
theorem lex_digit (c : Int) (w : World) : Calls Tryd.prog 35 #[.int .i32 c] w fun e w' => e = .returned (.bool (Lx.dgI c)) ∧ w = w' := by
  go_enter Tryd.func35, Tryd.ntmps35
  go_wp2
  all_goals
    go_ret
    exact ⟨ret_bool (by unfold Lx.dgI; rw [Bool.eq_iff_iff]; simp; omega), rfl⟩
theorem lex_nl (c : Int) (w : World) : Calls Tryd.prog 33 #[.int .i32 c] w (Lx.Says (Lx.nlI c) w) := by
  go_enter Tryd.func33, Tryd.ntmps33
  go_wp2
  all_goals
    go_ret
    exact ⟨ret_bool (by unfold Lx.nlI; rw [Bool.eq_iff_iff]; simp), Below.refl _ _⟩
theorem lex_inner (c : Int) (w : World) : Calls Tryd.prog 22 #[.int .i32 c] w (Lx.Says (Lx.innI c) w) := by
  have h1 : Hid (Lx.innI c = (Lx.ltI c || Lx.dgI c || decide (c = 95))) := Lib.hid rfl
  have CL := Lib.hid (lex_letter c w)
  have CD := Lib.hid (lex_digit c w)
  generalize Lx.ltI c = a at *
  generalize Lx.dgI c = b at *
  cases a
  · cases b
    · by_cases hc : c = 95
      · have hb : (c == 95) = true := beq_iff_eq.2 hc
        have HC := Lib.hid hc
        clear hc
        go_enter Tryd.func22, Tryd.ntmps22
        go_wp2_with (first | (go_at_call 20; refine CL.out.mono ?_; rintro e w' ⟨rfl, rfl⟩) | (go_at_call 35; refine CD.out.mono ?_; rintro e w' ⟨rfl, rfl⟩))
        go_ret
        exact ⟨ret_bool (by rw [h1.out]; simp [HC.out]), Below.refl _ _⟩
      · have hb : (c == 95) = false := beq_eq_false_iff_ne.2 hc
        have HC := Lib.hid hc
        clear hc
        go_enter Tryd.func22, Tryd.ntmps22
        go_wp2_with (first | (go_at_call 20; refine CL.out.mono ?_; rintro e w' ⟨rfl, rfl⟩) | (go_at_call 35; refine CD.out.mono ?_; rintro e w' ⟨rfl, rfl⟩))
        go_ret
        exact ⟨ret_bool (by rw [h1.out]; simp [HC.out]), Below.refl _ _⟩
    · go_enter Tryd.func22, Tryd.ntmps22
      go_wp2_with (first | (go_at_call 20; refine CL.out.mono ?_; rintro e w' ⟨rfl, rfl⟩) | (go_at_call 35; refine CD.out.mono ?_; rintro e w' ⟨rfl, rfl⟩))
      go_ret
      exact ⟨ret_bool (by rw [h1.out]; simp), Below.refl _ _⟩
  · go_enter Tryd.func22, Tryd.ntmps22
    go_wp2_with (first | (go_at_call 20; refine CL.out.mono ?_; rintro e w' ⟨rfl, rfl⟩) | (go_at_call 35; refine CD.out.mono ?_; rintro e w' ⟨rfl, rfl⟩))
    go_ret
    exact ⟨ret_bool (by rw [h1.out]; simp), Below.refl _ _⟩
end Go.Proofs.YtdemfbfdhpccpaaDoor
