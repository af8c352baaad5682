/- Fixed, Level of a store. -/
import Derived.Test.YtdbjljbkneopcaaDoorStoreC
namespace Go.Proofs.YtdbjljbkneopcaaDoor
open Go.RowKit
set_option linter.unusedSimpArgs false
set_option linter.unusedVariables false

theorem store_level (S : Nat) (p : Su.Parts) (m : Su.M) (w : World) (h : Su.Mem w S p m) : Calls Tryd.prog 36 #[.pointer (some ⟨S, 0, none⟩)] w fun e w' => e = .returned (.int .i64 m.marks.length) ∧ w = w' := by
  have e0 := cell_of h.box 3
  obtain ⟨A, c, hds⟩ := h.marks.len
  rw [hds] at e0
  generalize m.marks.length = n at *
  clear h hds
  go_enter Tryd.func36, Tryd.ntmps36
  go_wp2_with fail
  go_ret
  exact ⟨rfl, rfl⟩
theorem store_level_nil (w : World) : Calls Tryd.prog 36 #[.pointer none] w fun e w' => e = .returned (.int .i64 0) ∧ w = w' := by
  go_enter Tryd.func36, Tryd.ntmps36
  go_wp2_with fail
  go_ret
  exact ⟨rfl, rfl⟩
/-- The value of a variable that has one alone. -/
def Su.Fx (l : List Int) (w : World) (e : Ending) (w' : World) : Prop := e = .returned (.tuple #[.int .i64 (if l.length = 1 then l.headD 0 else 0), .bool (decide (l.length = 1))]) ∧ Below w.heap.size w w'
set_option maxHeartbeats 1000000 in
theorem store_fixed (pv : Value) (i : Int) (l : List Int) (w : World) (hg : Calls Tryd.prog 38 #[pv, .int .i64 i] w (Dm.Gv l w)) : Calls Tryd.prog 57 #[pv, .int .i64 i] w (Su.Fx l w) := by
  have H := Lib.hid hg
  clear hg
  go_enter Tryd.func57, Tryd.ntmps57
  go_wp2_with fail
  refine H.out.mono ?_
  rintro e w2 ⟨v, rfl, hr, hb⟩
  have RD := Lib.hid hr
  have CS := Lib.hid (fun w' (hb : Below w2.heap.size w2 w') => dom_size v l w' (hr.call hb))
  have CM := Lib.hid (fun w' (hb : Below w2.heap.size w2 w') => dom_min v l w' (hr.call hb))
  have BE := Lib.hid hb
  obtain ⟨off, sv, ws, rfl, hx⟩ := hr
  obtain ⟨A, c, rfl⟩ := hx.sl.len
  unfold Dm.val at *
  clear hx hb RD
  obtain ⟨n, hn⟩ : ∃ n, n = l.length := ⟨_, rfl⟩
  obtain ⟨lo, hlo⟩ : ∃ x, x = l.headD 0 := ⟨_, rfl⟩
  rw [← hn, ← hlo] at CS CM ⊢
  have F : Hid (∀ e w', e = .returned (.tuple #[.int .i64 (if n = 1 then lo else 0), .bool (decide (n = 1))]) → Below w.heap.size w w' → Su.Fx l w e w') := Lib.hid fun e w' h1 h2 => by unfold Su.Fx; rw [← hn, ← hlo]; exact ⟨h1, h2⟩
  clear hn hlo
  generalize l.getLastD 0 = hi at *
  generalize ws.length = mm at *
  by_cases h1 : n = 1
  · subst h1
    go_wp2_with fail
    refine (CS.out _ (below_alloc (Below.refl _ _) _)).mono ?_
    rintro e w3 ⟨rfl, hb⟩
    have HB := heap_call (heap_new w2 (.cells #[.int .i64 off, .slice A mm c, .int .i64 lo, .int .i64 hi, .int .i64 (1 : Nat)] 25)) hb
    have k0 := cell_of HB 0
    have k1 := cell_of HB 1
    have k2 := cell_of HB 2
    have k3 := cell_of HB 3
    have k4 := cell_of HB 4
    have B3 := Lib.hid (below_call (w0 := w2) (below_alloc (Below.refl _ _) _) hb)
    clear HB hb
    go_wp2_with fail
    refine (CM.out _ B3.out).mono ?_
    rintro e w4 ⟨rfl, hb⟩
    go_wp2_with fail
    go_ret2
    exact F.out _ _ rfl (below_call (below_call BE.out B3.out) hb)
  · have hb1 : ((n : Int) != 1) = true := by simp; omega
    have E := Lib.hid h1
    clear h1
    go_wp2_with fail
    refine (CS.out _ (below_alloc (Below.refl _ _) _)).mono ?_
    rintro e w3 ⟨rfl, hb⟩
    have B3 := Lib.hid (below_call (w0 := w2) (below_alloc (Below.refl _ _) _) hb)
    clear hb
    go_wp2_with fail
    go_ret2
    exact F.out _ _ (by rw [if_neg E.out, decide_eq_false E.out]; rfl) (below_call BE.out B3.out)
end Go.Proofs.YtdbjljbkneopcaaDoor
