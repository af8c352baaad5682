/- Chapter 05: run, handed each of its functions. -/
import Derived.Test.YtdemfbfdhpccpaaDoorLexD
import Derived.Lib.UnsafeStr
namespace Go.Proofs.YtdemfbfdhpccpaaDoor
open Go.RowKit
set_option linter.unusedSimpArgs false
set_option linter.unusedVariables false

theorem Lx.cf_inner (args : Array Value) (w : World) : (callFunc 22 args).run Tryd.prog w = .ok (.enter 22 args) w := by go_simp
theorem Lx.cf_digit (args : Array Value) (w : World) : (callFunc 35 args).run Tryd.prog w = .ok (.enter 35 args) w := by go_simp
theorem Lx.cf_blank (args : Array Value) (w : World) : (callFunc 32 args).run Tryd.prog w = .ok (.enter 32 args) w := by go_simp
theorem Lx.cf_nl (args : Array Value) (w : World) : (callFunc 33 args).run Tryd.prog w = .ok (.enter 33 args) w := by go_simp
theorem lex_run_inner (s : ByteArray) (w : World) (hs : s.size ≤ 9223372036854775807) : Calls Tryd.prog 21 #[.string s, .func (.func 22) #[] #[]] w (Lx.Tells (Lx.run Lx.inn s.data.toList) w) :=
  lex_run _ Lx.innI Lx.inn false s w hs (fun c w _ _ => lex_inner c w) Lx.cf_inner
    (fun b _ => by unfold Lx.innI Lx.inn Lx.ltI Lx.dgI Lx.lt Lx.dg; rw [Bool.eq_iff_iff]; simp; omega)
    (fun c hc => by unfold Lx.innI Lx.ltI Lx.dgI; rw [Bool.eq_false_iff]; simp; omega)
    (fun b hb => by unfold Lx.inn Lx.lt Lx.dg; rw [Bool.eq_false_iff]; simp; omega)
theorem lex_run_digit (s : ByteArray) (w : World) (hs : s.size ≤ 9223372036854775807) : Calls Tryd.prog 21 #[.string s, .func (.func 35) #[] #[]] w (Lx.Tells (Lx.run Lx.dg s.data.toList) w) :=
  lex_run _ Lx.dgI Lx.dg false s w hs (fun c w _ _ => (lex_digit c w).mono fun e w' h => ⟨h.1, by rw [h.2]; exact Below.refl _ _⟩) Lx.cf_digit
    (fun b _ => by unfold Lx.dgI Lx.dg; rw [Bool.eq_iff_iff]; simp; omega)
    (fun c hc => by unfold Lx.dgI; rw [Bool.eq_false_iff]; simp; omega)
    (fun b hb => by unfold Lx.dg; rw [Bool.eq_false_iff]; simp; omega)
theorem lex_run_blank (s : ByteArray) (w : World) (hs : s.size ≤ 9223372036854775807) : Calls Tryd.prog 21 #[.string s, .func (.func 32) #[] #[]] w (Lx.Tells (Lx.run Lx.bl s.data.toList) w) :=
  lex_run _ Lx.blI Lx.bl false s w hs lex_blank Lx.cf_blank
    (fun b _ => by unfold Lx.blI Lx.bl; rw [Bool.eq_iff_iff]; simp; omega)
    (fun c hc => by unfold Lx.blI; rw [Bool.eq_false_iff]; simp; omega)
    (fun b hb => by unfold Lx.bl; rw [Bool.eq_false_iff]; simp; omega)
theorem lex_run_nl (s : ByteArray) (w : World) (hs : s.size ≤ 9223372036854775807) : Calls Tryd.prog 21 #[.string s, .func (.func 33) #[] #[]] w (Lx.Tells (Lx.run Lx.nl s.data.toList) w) :=
  lex_run _ Lx.nlI Lx.nl true s w hs (fun c w _ _ => lex_nl c w) Lx.cf_nl
    (fun b _ => by unfold Lx.nlI Lx.nl; rw [Bool.eq_iff_iff]; simp; omega)
    (fun c hc => by unfold Lx.nlI; simp; omega)
    (fun b hb => by unfold Lx.nl; simp; omega)
theorem Lx.bytesWorld_below (w : World) (e : TypeId) (s : ByteArray) : Below w.heap.size w (Lib.bytesWorld w e s) := by
  unfold Lib.bytesWorld
  exact Lib.below_freeze (below_alloc (Below.refl w.heap.size w).drew (.cells (Lib.bytesCells w e s) e)) (Nat.le_refl _) 1
end Go.Proofs.YtdemfbfdhpccpaaDoor
