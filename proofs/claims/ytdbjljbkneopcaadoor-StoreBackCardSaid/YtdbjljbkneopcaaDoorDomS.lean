/- same and wakes of chapter 02 walked. -/
import Derived.Test.YtdbjljbkneopcaaDoorDomR
namespace Go.Proofs.YtdbjljbkneopcaaDoor
open Go.RowKit
set_option linter.unusedSimpArgs false
set_option linter.unusedVariables false

set_option maxHeartbeats 2000000 in
set_option maxRecDepth 100000 in
theorem law2_same (d sv : Value) (l : List Int) (v : Int) (w : World) (hd : Dm.Rep w d l) (hs : Sl w 3 1 sv l.length (Iv l)) (hT : Tab w) :
    Calls Tryd.prog 25 #[d, sv, .int .i64 v] w (Rf.Says true w) := by
  have CN := Lib.hid (fun w' (hb : Below w.heap.size w w') => dom_next d l v w' (hd.call hb))
  have CP := Lib.hid (fun w' (hb : Below w.heap.size w w') => dom_prev d l v w' (hd.call hb))
  have CS := Lib.hid (fun w' (hb : Below w.heap.size w w') => dom_size d l w' (hd.call hb))
  have CI := Lib.hid (fun w' (hb : Below w.heap.size w w') => dom_min d l w' (hd.call hb))
  have CX := Lib.hid (fun w' (hb : Below w.heap.size w w') => dom_max d l w' (hd.call hb))
  have CL := Lib.hid (fun w' (hb : Below w.heap.size w w') => dom_list d l w' (hd.call hb) (hT.call hb))
  have CH := Lib.hid (fun w' (hb : Below w.heap.size w w') => dom_has d l v w' (hd.call hb))
  have RN := Lib.hid (fun w' (hb : Below w.heap.size w w') => ref_next sv l v w' (hs.call hb))
  have RP := Lib.hid (fun w' (hb : Below w.heap.size w w') => ref_prev sv l v w' (hs.call hb))
  have RH := Lib.hid (fun w' (hb : Below w.heap.size w w') => ref_has sv l v w' (hs.call hb))
  have RE := Lib.hid (fun w' (hb : Below w.heap.size w w') so (h : Sl w' 3 1 so l.length (Iv l)) => go_equal so sv l l w' h (hs.call hb))
  have HF : Hid (0 < l.length → ∃ A b o c, sv = .slice A l.length c ∧ A = some ⟨b, o, none⟩ ∧ ∀ w', Below w.heap.size w w' → w'.cell? ⟨b, o, none⟩ = some (.int .i64 (l.headD 0)) ∧ w'.cell? ⟨b, o + (l.length - 1), none⟩ = some (.int .i64 (l.getLastD 0))) := fun h => by
    obtain ⟨A, c, rfl⟩ := hs.len
    obtain ⟨b, o, e, h1, h2⟩ := Iv.first hs h
    refine ⟨A, b, o, c, rfl, e, fun w' hb => ?_⟩
    obtain ⟨b', o', e', h1', h2'⟩ := Iv.first (hs.call hb) h
    rw [e] at e'
    cases e'
    exact ⟨h1', h2'⟩
  have hbig := hs.big
  have HE := Lib.hid (show l.length = 0 → l.headD 0 = 0 ∧ l.getLastD 0 = 0 from fun h => by rw [List.length_eq_zero_iff.1 h]; exact ⟨rfl, rfl⟩)
  obtain ⟨off, dv, ws, rfl, hx⟩ := hd
  obtain ⟨A, c, rfl⟩ := hs.len
  unfold Dm.val at *
  clear hx hs hT
  have hdt : decide (l = l) = true := decide_eq_true rfl
  rw [hdt] at RE
  clear hdt
  generalize Rf.next l v = nx at *
  generalize Rf.prev l v = pv at *
  generalize decide (v ∈ l) = hh at *
  generalize l.headD 0 = lo at *
  generalize l.getLastD 0 = hi at *
  generalize hl : l.length = n at *
  have HL := Lib.hid hl
  clear hl
  have HBX := Lib.hid (heap_new w (.cells #[.int .i64 off, dv, .int .i64 lo, .int .i64 hi, .int .i64 n] 25))
  have BEL := Lib.hid (Below.refl w.heap.size w)
  by_cases hn : n = 0
  · subst hn
    obtain ⟨rfl, rfl⟩ := HE.out rfl
    go_enter Tryd.func25, Tryd.ntmps25
    go_wp2_with fail
    refine (CN.out _ (by repeat (first | exact BEL.out | refine below_alloc ?_ _ | refine below_drewN ?_ _))).mono ?_
    rintro e w2 ⟨rfl, hb⟩
    have HBX := Lib.hid (heap_call (by repeat (first | exact HBX.out | refine heap_alloc ?_ _ | refine heap_drewN ?_ _)) hb)
    have HBX_0 := cell_of HBX.out 0
    have HBX_1 := cell_of HBX.out 1
    have HBX_2 := cell_of HBX.out 2
    have HBX_3 := cell_of HBX.out 3
    have HBX_4 := cell_of HBX.out 4
    have BEL := Lib.hid (below_call (w0 := w) (by repeat (first | exact BEL.out | refine below_alloc ?_ _ | refine below_drewN ?_ _)) hb)
    clear hb
    go_wp2_with fail
    refine (RN.out _ (by repeat (first | exact BEL.out | refine below_alloc ?_ _ | refine below_drewN ?_ _))).mono ?_
    rintro e w2 ⟨rfl, rfl⟩
    go_wp2_with fail
    refine (CP.out _ (by repeat (first | exact BEL.out | refine below_alloc ?_ _ | refine below_drewN ?_ _))).mono ?_
    rintro e w2 ⟨rfl, hb⟩
    clear HBX_0 HBX_1 HBX_2 HBX_3 HBX_4
    have HBX := Lib.hid (heap_call (by repeat (first | exact HBX.out | refine heap_alloc ?_ _ | refine heap_drewN ?_ _)) hb)
    have HBX_0 := cell_of HBX.out 0
    have HBX_1 := cell_of HBX.out 1
    have HBX_2 := cell_of HBX.out 2
    have HBX_3 := cell_of HBX.out 3
    have HBX_4 := cell_of HBX.out 4
    have BEL := Lib.hid (below_call (w0 := w) (by repeat (first | exact BEL.out | refine below_alloc ?_ _ | refine below_drewN ?_ _)) hb)
    clear hb
    go_wp2_with fail
    refine (RP.out _ (by repeat (first | exact BEL.out | refine below_alloc ?_ _ | refine below_drewN ?_ _))).mono ?_
    rintro e w2 ⟨rfl, rfl⟩
    go_wp2_with fail
    refine (CS.out _ (by repeat (first | exact BEL.out | refine below_alloc ?_ _ | refine below_drewN ?_ _))).mono ?_
    rintro e w2 ⟨rfl, hb⟩
    clear HBX_0 HBX_1 HBX_2 HBX_3 HBX_4
    have HBX := Lib.hid (heap_call (by repeat (first | exact HBX.out | refine heap_alloc ?_ _ | refine heap_drewN ?_ _)) hb)
    have HBX_0 := cell_of HBX.out 0
    have HBX_1 := cell_of HBX.out 1
    have HBX_2 := cell_of HBX.out 2
    have HBX_3 := cell_of HBX.out 3
    have HBX_4 := cell_of HBX.out 4
    have BEL := Lib.hid (below_call (w0 := w) (by repeat (first | exact BEL.out | refine below_alloc ?_ _ | refine below_drewN ?_ _)) hb)
    clear hb
    go_wp2_with fail
    refine (CI.out _ (by repeat (first | exact BEL.out | refine below_alloc ?_ _ | refine below_drewN ?_ _))).mono ?_
    rintro e w2 ⟨rfl, hb⟩
    clear HBX_0 HBX_1 HBX_2 HBX_3 HBX_4
    have HBX := Lib.hid (heap_call (by repeat (first | exact HBX.out | refine heap_alloc ?_ _ | refine heap_drewN ?_ _)) hb)
    have HBX_0 := cell_of HBX.out 0
    have HBX_1 := cell_of HBX.out 1
    have HBX_2 := cell_of HBX.out 2
    have HBX_3 := cell_of HBX.out 3
    have HBX_4 := cell_of HBX.out 4
    have BEL := Lib.hid (below_call (w0 := w) (by repeat (first | exact BEL.out | refine below_alloc ?_ _ | refine below_drewN ?_ _)) hb)
    clear hb
    go_wp2_with fail
    refine (CX.out _ (by repeat (first | exact BEL.out | refine below_alloc ?_ _ | refine below_drewN ?_ _))).mono ?_
    rintro e w2 ⟨rfl, hb⟩
    clear HBX_0 HBX_1 HBX_2 HBX_3 HBX_4
    have HBX := Lib.hid (heap_call (by repeat (first | exact HBX.out | refine heap_alloc ?_ _ | refine heap_drewN ?_ _)) hb)
    have HBX_0 := cell_of HBX.out 0
    have HBX_1 := cell_of HBX.out 1
    have HBX_2 := cell_of HBX.out 2
    have HBX_3 := cell_of HBX.out 3
    have HBX_4 := cell_of HBX.out 4
    have BEL := Lib.hid (below_call (w0 := w) (by repeat (first | exact BEL.out | refine below_alloc ?_ _ | refine below_drewN ?_ _)) hb)
    clear hb
    go_wp2_with fail
    refine (CL.out _ (by repeat (first | exact BEL.out | refine below_alloc ?_ _ | refine below_drewN ?_ _))).mono ?_
    rintro e w2 ⟨so, rfl, hso, hb⟩
    clear HBX_0 HBX_1 HBX_2 HBX_3 HBX_4
    have HBX := Lib.hid (heap_call (by repeat (first | exact HBX.out | refine heap_alloc ?_ _ | refine heap_drewN ?_ _)) hb)
    have HBX_0 := cell_of HBX.out 0
    have HBX_1 := cell_of HBX.out 1
    have HBX_2 := cell_of HBX.out 2
    have HBX_3 := cell_of HBX.out 3
    have HBX_4 := cell_of HBX.out 4
    have BEL := Lib.hid (below_call (w0 := w) (by repeat (first | exact BEL.out | refine below_alloc ?_ _ | refine below_drewN ?_ _)) hb)
    have HSO := Lib.hid (by have := hso.sl; rwa [HL.out] at this)
    clear hso
    clear hb
    go_wp2_with fail
    refine (RE.out _ (by repeat (first | exact BEL.out | refine below_alloc ?_ _ | refine below_drewN ?_ _)) _ HSO.out).mono ?_
    rintro e w2 ⟨rfl, hb⟩
    clear HBX_0 HBX_1 HBX_2 HBX_3 HBX_4
    have HBX := Lib.hid (heap_call (by repeat (first | exact HBX.out | refine heap_alloc ?_ _ | refine heap_drewN ?_ _)) hb)
    have HBX_0 := cell_of HBX.out 0
    have HBX_1 := cell_of HBX.out 1
    have HBX_2 := cell_of HBX.out 2
    have HBX_3 := cell_of HBX.out 3
    have HBX_4 := cell_of HBX.out 4
    have BEL := Lib.hid (below_call (w0 := w) (by repeat (first | exact BEL.out | refine below_alloc ?_ _ | refine below_drewN ?_ _)) hb)
    clear hb
    go_wp2_with fail
    refine (CH.out _ (by repeat (first | exact BEL.out | refine below_alloc ?_ _ | refine below_drewN ?_ _))).mono ?_
    rintro e w2 ⟨rfl, hb⟩
    clear HBX_0 HBX_1 HBX_2 HBX_3 HBX_4
    have HBX := Lib.hid (heap_call (by repeat (first | exact HBX.out | refine heap_alloc ?_ _ | refine heap_drewN ?_ _)) hb)
    have HBX_0 := cell_of HBX.out 0
    have HBX_1 := cell_of HBX.out 1
    have HBX_2 := cell_of HBX.out 2
    have HBX_3 := cell_of HBX.out 3
    have HBX_4 := cell_of HBX.out 4
    have BEL := Lib.hid (below_call (w0 := w) (by repeat (first | exact BEL.out | refine below_alloc ?_ _ | refine below_drewN ?_ _)) hb)
    clear hb
    go_wp2_with fail
    refine (RH.out _ (by repeat (first | exact BEL.out | refine below_alloc ?_ _ | refine below_drewN ?_ _))).mono ?_
    rintro e w2 ⟨rfl, rfl⟩
    go_wp2_with fail
    go_ret
    refine ⟨ret_bool ?_, (by repeat (first | exact BEL.out | refine below_alloc ?_ _ | refine below_drewN ?_ _))⟩
    simp
  · have hn0 : (0 : Int) < (n : Int) := by omega
    have hn3 : (n : Int) - 1 = ((n - 1 : Nat) : Int) := by omega
    have hn4 : IntKind.i64.wrap ((n : Int) - 1) = ((n - 1 : Nat) : Int) := by rw [IntKind.wrap_i64]; omega
    have hn5 : ((n - 1 : Nat) : Int) < (n : Int) := by omega
    have hn6 : n - 1 < n := by omega
    have hn7 : 0 < n := by omega
    obtain ⟨A', b, o, c', e1, e2, h1⟩ := HF.out (by omega)
    cases e1
    subst e2
    have k1 : (w.alloc (.cells #[.int .i64 off, dv, .int .i64 lo, .int .i64 hi, .int .i64 n] 25)).cell? ⟨b, o, none⟩ = some (.int .i64 lo) := (h1 _ (below_alloc (Below.refl _ _) _)).1
    have k2 : (w.alloc (.cells #[.int .i64 off, dv, .int .i64 lo, .int .i64 hi, .int .i64 n] 25)).cell? ⟨b, o + (n - 1), none⟩ = some (.int .i64 hi) := (h1 _ (below_alloc (Below.refl _ _) _)).2
    clear h1 HF HE hn
    generalize n - 1 = n1 at *
    go_enter Tryd.func25, Tryd.ntmps25
    go_wp2_with fail
    go_quiet (fail)
    clear k1 k2
    go_wp2_with fail
    refine (CN.out _ (by repeat (first | exact BEL.out | refine below_alloc ?_ _ | refine below_drewN ?_ _))).mono ?_
    rintro e w2 ⟨rfl, hb⟩
    have HBX := Lib.hid (heap_call (by repeat (first | exact HBX.out | refine heap_alloc ?_ _ | refine heap_drewN ?_ _)) hb)
    have HBX_0 := cell_of HBX.out 0
    have HBX_1 := cell_of HBX.out 1
    have HBX_2 := cell_of HBX.out 2
    have HBX_3 := cell_of HBX.out 3
    have HBX_4 := cell_of HBX.out 4
    have BEL := Lib.hid (below_call (w0 := w) (by repeat (first | exact BEL.out | refine below_alloc ?_ _ | refine below_drewN ?_ _)) hb)
    clear hb
    go_wp2_with fail
    refine (RN.out _ (by repeat (first | exact BEL.out | refine below_alloc ?_ _ | refine below_drewN ?_ _))).mono ?_
    rintro e w2 ⟨rfl, rfl⟩
    go_wp2_with fail
    refine (CP.out _ (by repeat (first | exact BEL.out | refine below_alloc ?_ _ | refine below_drewN ?_ _))).mono ?_
    rintro e w2 ⟨rfl, hb⟩
    clear HBX_0 HBX_1 HBX_2 HBX_3 HBX_4
    have HBX := Lib.hid (heap_call (by repeat (first | exact HBX.out | refine heap_alloc ?_ _ | refine heap_drewN ?_ _)) hb)
    have HBX_0 := cell_of HBX.out 0
    have HBX_1 := cell_of HBX.out 1
    have HBX_2 := cell_of HBX.out 2
    have HBX_3 := cell_of HBX.out 3
    have HBX_4 := cell_of HBX.out 4
    have BEL := Lib.hid (below_call (w0 := w) (by repeat (first | exact BEL.out | refine below_alloc ?_ _ | refine below_drewN ?_ _)) hb)
    clear hb
    go_wp2_with fail
    refine (RP.out _ (by repeat (first | exact BEL.out | refine below_alloc ?_ _ | refine below_drewN ?_ _))).mono ?_
    rintro e w2 ⟨rfl, rfl⟩
    go_wp2_with fail
    refine (CS.out _ (by repeat (first | exact BEL.out | refine below_alloc ?_ _ | refine below_drewN ?_ _))).mono ?_
    rintro e w2 ⟨rfl, hb⟩
    clear HBX_0 HBX_1 HBX_2 HBX_3 HBX_4
    have HBX := Lib.hid (heap_call (by repeat (first | exact HBX.out | refine heap_alloc ?_ _ | refine heap_drewN ?_ _)) hb)
    have HBX_0 := cell_of HBX.out 0
    have HBX_1 := cell_of HBX.out 1
    have HBX_2 := cell_of HBX.out 2
    have HBX_3 := cell_of HBX.out 3
    have HBX_4 := cell_of HBX.out 4
    have BEL := Lib.hid (below_call (w0 := w) (by repeat (first | exact BEL.out | refine below_alloc ?_ _ | refine below_drewN ?_ _)) hb)
    clear hb
    go_wp2_with fail
    refine (CI.out _ (by repeat (first | exact BEL.out | refine below_alloc ?_ _ | refine below_drewN ?_ _))).mono ?_
    rintro e w2 ⟨rfl, hb⟩
    clear HBX_0 HBX_1 HBX_2 HBX_3 HBX_4
    have HBX := Lib.hid (heap_call (by repeat (first | exact HBX.out | refine heap_alloc ?_ _ | refine heap_drewN ?_ _)) hb)
    have HBX_0 := cell_of HBX.out 0
    have HBX_1 := cell_of HBX.out 1
    have HBX_2 := cell_of HBX.out 2
    have HBX_3 := cell_of HBX.out 3
    have HBX_4 := cell_of HBX.out 4
    have BEL := Lib.hid (below_call (w0 := w) (by repeat (first | exact BEL.out | refine below_alloc ?_ _ | refine below_drewN ?_ _)) hb)
    clear hb
    go_wp2_with fail
    refine (CX.out _ (by repeat (first | exact BEL.out | refine below_alloc ?_ _ | refine below_drewN ?_ _))).mono ?_
    rintro e w2 ⟨rfl, hb⟩
    clear HBX_0 HBX_1 HBX_2 HBX_3 HBX_4
    have HBX := Lib.hid (heap_call (by repeat (first | exact HBX.out | refine heap_alloc ?_ _ | refine heap_drewN ?_ _)) hb)
    have HBX_0 := cell_of HBX.out 0
    have HBX_1 := cell_of HBX.out 1
    have HBX_2 := cell_of HBX.out 2
    have HBX_3 := cell_of HBX.out 3
    have HBX_4 := cell_of HBX.out 4
    have BEL := Lib.hid (below_call (w0 := w) (by repeat (first | exact BEL.out | refine below_alloc ?_ _ | refine below_drewN ?_ _)) hb)
    clear hb
    go_wp2_with fail
    refine (CL.out _ (by repeat (first | exact BEL.out | refine below_alloc ?_ _ | refine below_drewN ?_ _))).mono ?_
    rintro e w2 ⟨so, rfl, hso, hb⟩
    clear HBX_0 HBX_1 HBX_2 HBX_3 HBX_4
    have HBX := Lib.hid (heap_call (by repeat (first | exact HBX.out | refine heap_alloc ?_ _ | refine heap_drewN ?_ _)) hb)
    have HBX_0 := cell_of HBX.out 0
    have HBX_1 := cell_of HBX.out 1
    have HBX_2 := cell_of HBX.out 2
    have HBX_3 := cell_of HBX.out 3
    have HBX_4 := cell_of HBX.out 4
    have BEL := Lib.hid (below_call (w0 := w) (by repeat (first | exact BEL.out | refine below_alloc ?_ _ | refine below_drewN ?_ _)) hb)
    have HSO := Lib.hid (by have := hso.sl; rwa [HL.out] at this)
    clear hso
    clear hb
    go_wp2_with fail
    refine (RE.out _ (by repeat (first | exact BEL.out | refine below_alloc ?_ _ | refine below_drewN ?_ _)) _ HSO.out).mono ?_
    rintro e w2 ⟨rfl, hb⟩
    clear HBX_0 HBX_1 HBX_2 HBX_3 HBX_4
    have HBX := Lib.hid (heap_call (by repeat (first | exact HBX.out | refine heap_alloc ?_ _ | refine heap_drewN ?_ _)) hb)
    have HBX_0 := cell_of HBX.out 0
    have HBX_1 := cell_of HBX.out 1
    have HBX_2 := cell_of HBX.out 2
    have HBX_3 := cell_of HBX.out 3
    have HBX_4 := cell_of HBX.out 4
    have BEL := Lib.hid (below_call (w0 := w) (by repeat (first | exact BEL.out | refine below_alloc ?_ _ | refine below_drewN ?_ _)) hb)
    clear hb
    go_wp2_with fail
    refine (CH.out _ (by repeat (first | exact BEL.out | refine below_alloc ?_ _ | refine below_drewN ?_ _))).mono ?_
    rintro e w2 ⟨rfl, hb⟩
    clear HBX_0 HBX_1 HBX_2 HBX_3 HBX_4
    have HBX := Lib.hid (heap_call (by repeat (first | exact HBX.out | refine heap_alloc ?_ _ | refine heap_drewN ?_ _)) hb)
    have HBX_0 := cell_of HBX.out 0
    have HBX_1 := cell_of HBX.out 1
    have HBX_2 := cell_of HBX.out 2
    have HBX_3 := cell_of HBX.out 3
    have HBX_4 := cell_of HBX.out 4
    have BEL := Lib.hid (below_call (w0 := w) (by repeat (first | exact BEL.out | refine below_alloc ?_ _ | refine below_drewN ?_ _)) hb)
    clear hb
    go_wp2_with fail
    refine (RH.out _ (by repeat (first | exact BEL.out | refine below_alloc ?_ _ | refine below_drewN ?_ _))).mono ?_
    rintro e w2 ⟨rfl, rfl⟩
    go_wp2_with fail
    go_ret
    refine ⟨ret_bool ?_, (by repeat (first | exact BEL.out | refine below_alloc ?_ _ | refine below_drewN ?_ _))⟩
    simp
end Go.Proofs.YtdbjljbkneopcaaDoor
