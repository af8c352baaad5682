/- The contracts of Without, Only, AtLeast and AtMost. -/
import Derived.Test.YtdbjljbkneopcaaDoorDomH
namespace Go.Proofs.YtdbjljbkneopcaaDoor
open Go.RowKit
set_option linter.unusedSimpArgs false
set_option linter.unusedVariables false

theorem enters_without_1 : ∀ args w, (callFunc 126 args).run Tryd.prog w = .ok (.enter 126 args) w := enters_of Tryd.func126 (by kernel_rfl) rfl
set_option maxHeartbeats 1000000 in
theorem dom_without (d : Value) (l : List Int) (v : Int) (w : World) (hd : Dm.Rep w d l) (hT : Tab w) (hv1 : -9223372036854775808 ≤ v) (hv2 : v ≤ 9223372036854775807) :
    Calls Tryd.prog 96 #[d, .int .i64 v] w (Dm.Left d l (l.filter fun u => !decide (u = v)) w) := by
  obtain ⟨off, sv, ws, rfl, hx⟩ := hd
  unfold Dm.val at *
  generalize e1 : l.headD 0 = lo at *
  generalize e2 : l.getLastD 0 = hi at *
  generalize e3 : l.length = sz at *
  have HX := Lib.hid hx
  have HT := Lib.hid hT
  have hb := below_alloc (below_alloc (below_alloc (Below.refl _ w) (.cells #[.int .i64 off, sv, .int .i64 lo, .int .i64 hi, .int .i64 sz] 25)) (.cells #[.int .i64 v] 3)) (.cells #[.int .i64 0, .slice none 0 0, .int .i64 0, .int .i64 0, .int .i64 0] 25)
  have hc := heap_alloc (heap_new (w.alloc (.cells #[.int .i64 off, sv, .int .i64 lo, .int .i64 hi, .int .i64 sz] 25)) (.cells #[.int .i64 v] 3)) (.cells #[.int .i64 0, .slice none 0 0, .int .i64 0, .int .i64 0, .int .i64 0] 25)
  rw [show (w.alloc (.cells #[.int .i64 off, sv, .int .i64 lo, .int .i64 hi, .int .i64 sz] 25)).heap.size = w.heap.size + 1 from by simp] at hc
  have hr := heap_new ((w.alloc (.cells #[.int .i64 off, sv, .int .i64 lo, .int .i64 hi, .int .i64 sz] 25)).alloc (.cells #[.int .i64 v] 3)) (.cells #[.int .i64 0, .slice none 0 0, .int .i64 0, .int .i64 0, .int .i64 0] 25)
  rw [show ((w.alloc (.cells #[.int .i64 off, sv, .int .i64 lo, .int .i64 hi, .int .i64 sz] 25)).alloc (.cells #[.int .i64 v] 3)).heap.size = w.heap.size + 1 + 1 from by simp] at hr
  have hg : ∀ wl : World, Below w.heap.size w wl → wl.heap[w.heap.size + 1]? = some (.cells #[.int .i64 v] 3 (0, 0)) → Dm.Gives wl off ws (fun u => !decide (u = v)) 126 (w.heap.size + 1) := by
    intro wl hbl hcl W hW i hi
    have k1 := HX.out.lo
    have k2 := HX.out.hi
    have k3 := HX.out.mod
    refine (dom_without_1 (off + 64 * i) v (ws.getD i 0) (w.heap.size + 1) W (heap_call hcl hW) (by omega) (by omega) (by omega) hv1 hv2).mono ?_
    rintro e w' ⟨y, rfl, hy, hb, hbe⟩
    exact ⟨y, rfl, hy, fun b hb' _ => hb b hb', hbe⟩
  have HL := Lib.hid (dom_less_loop off sv lo hi sz ws (fun u => !decide (u = v)) 126 (w.heap.size + 1) l _ enters_without_1 (hx.call hb) e1.symm e2.symm e3.symm (hg _ hb hc) (hT.call hb))
  have HB := Lib.hid hb
  have HR := Lib.hid hr
  clear hx hT hg hb hc hr e1 e2 e3
  go_enter Tryd.func96, Tryd.ntmps96
  go_wp2_with fail
  refine HL.out.mono ?_
  rintro e w2 ⟨v', rfl, hrep, hb2, hw2⟩
  have hr2 := heap_call HR.out hb2
  obtain ⟨off3, sv3, ws3, rfl, hx3⟩ := hrep
  obtain ⟨A3, c3, rfl⟩ := hx3.sl.len
  unfold Dm.val
  generalize e1 : (l.filter fun u => !decide (u = v)).headD 0 = lo3 at *
  generalize e2 : (l.filter fun u => !decide (u = v)).getLastD 0 = hi3 at *
  generalize e3 : (l.filter fun u => !decide (u = v)).length = sz3 at *
  have E1 := Lib.hid e1
  have E2 := Lib.hid e2
  have E3 := Lib.hid e3
  clear e1 e2 e3
  have r0 := cell_of hr2 0
  have r1 := cell_of hr2 1
  have r2 := cell_of hr2 2
  have r3 := cell_of hr2 3
  have r4 := cell_of hr2 4
  have f0 := frozen_of hr2 0
  have f1 := frozen_of hr2 1
  have f2 := frozen_of hr2 2
  have f3 := frozen_of hr2 3
  have f4 := frozen_of hr2 4
  have HB2 := Lib.hid (below_call HB.out hb2)
  have HX3 := Lib.hid hx3
  clear hr2 hb2 hx3
  go_wp2_with fail
  refine bodyPost_ret (v := .tuple #[.agg #[.int .i64 off3, .slice A3 ws3.length c3, .int .i64 lo3, .int .i64 hi3, .int .i64 sz3], .int .i64 (Dm.chg l (l.filter fun u => !decide (u = v)))]) (by simp [results, Tryd.results96, go_sem, r0, r1, r2, r3, r4]) rfl ?_
  refine Dm.left_put (w2 := w2) (B := w.heap.size + 1 + 1) HX3.out E1.out E2.out E3.out ?_ HB2.out ?_ (by omega)
  · refine Fr.set (Fr.set (Fr.set (Fr.set (Fr.set (Fr.refl _ _) ?_ _) ?_ _) ?_ _) ?_ _) ?_ _
    all_goals exact fun _ => rfl
  · intro b hb
    rcases hw2 b hb with h | h
    · exact Or.inl ⟨h, Sl.lt HX.out.sl h⟩
    · exact Or.inr (by simp at h; omega)

theorem enters_only_1 : ∀ args w, (callFunc 106 args).run Tryd.prog w = .ok (.enter 106 args) w := enters_of Tryd.func106 (by kernel_rfl) rfl
set_option maxHeartbeats 1000000 in
theorem dom_only (d : Value) (l : List Int) (v : Int) (w : World) (hd : Dm.Rep w d l) (hT : Tab w) (hv1 : -9223372036854775808 ≤ v) (hv2 : v ≤ 9223372036854775807) :
    Calls Tryd.prog 48 #[d, .int .i64 v] w (Dm.Left d l (l.filter fun u => decide (u = v)) w) := by
  obtain ⟨off, sv, ws, rfl, hx⟩ := hd
  unfold Dm.val at *
  generalize e1 : l.headD 0 = lo at *
  generalize e2 : l.getLastD 0 = hi at *
  generalize e3 : l.length = sz at *
  have HX := Lib.hid hx
  have HT := Lib.hid hT
  have hb := below_alloc (below_alloc (below_alloc (Below.refl _ w) (.cells #[.int .i64 off, sv, .int .i64 lo, .int .i64 hi, .int .i64 sz] 25)) (.cells #[.int .i64 v] 3)) (.cells #[.int .i64 0, .slice none 0 0, .int .i64 0, .int .i64 0, .int .i64 0] 25)
  have hc := heap_alloc (heap_new (w.alloc (.cells #[.int .i64 off, sv, .int .i64 lo, .int .i64 hi, .int .i64 sz] 25)) (.cells #[.int .i64 v] 3)) (.cells #[.int .i64 0, .slice none 0 0, .int .i64 0, .int .i64 0, .int .i64 0] 25)
  rw [show (w.alloc (.cells #[.int .i64 off, sv, .int .i64 lo, .int .i64 hi, .int .i64 sz] 25)).heap.size = w.heap.size + 1 from by simp] at hc
  have hr := heap_new ((w.alloc (.cells #[.int .i64 off, sv, .int .i64 lo, .int .i64 hi, .int .i64 sz] 25)).alloc (.cells #[.int .i64 v] 3)) (.cells #[.int .i64 0, .slice none 0 0, .int .i64 0, .int .i64 0, .int .i64 0] 25)
  rw [show ((w.alloc (.cells #[.int .i64 off, sv, .int .i64 lo, .int .i64 hi, .int .i64 sz] 25)).alloc (.cells #[.int .i64 v] 3)).heap.size = w.heap.size + 1 + 1 from by simp] at hr
  have hg : ∀ wl : World, Below w.heap.size w wl → wl.heap[w.heap.size + 1]? = some (.cells #[.int .i64 v] 3 (0, 0)) → Dm.Gives wl off ws (fun u => decide (u = v)) 106 (w.heap.size + 1) := by
    intro wl hbl hcl W hW i hi
    have k1 := HX.out.lo
    have k2 := HX.out.hi
    have k3 := HX.out.mod
    refine (dom_only_1 (off + 64 * i) v (ws.getD i 0) (w.heap.size + 1) W (heap_call hcl hW) (by omega) (by omega) (by omega) hv1 hv2).mono ?_
    rintro e w' ⟨y, rfl, hy, hb, hbe⟩
    exact ⟨y, rfl, hy, fun b hb' _ => hb b hb', hbe⟩
  have HL := Lib.hid (dom_less_loop off sv lo hi sz ws (fun u => decide (u = v)) 106 (w.heap.size + 1) l _ enters_only_1 (hx.call hb) e1.symm e2.symm e3.symm (hg _ hb hc) (hT.call hb))
  have HB := Lib.hid hb
  have HR := Lib.hid hr
  clear hx hT hg hb hc hr e1 e2 e3
  go_enter Tryd.func48, Tryd.ntmps48
  go_wp2_with fail
  refine HL.out.mono ?_
  rintro e w2 ⟨v', rfl, hrep, hb2, hw2⟩
  have hr2 := heap_call HR.out hb2
  obtain ⟨off3, sv3, ws3, rfl, hx3⟩ := hrep
  obtain ⟨A3, c3, rfl⟩ := hx3.sl.len
  unfold Dm.val
  generalize e1 : (l.filter fun u => decide (u = v)).headD 0 = lo3 at *
  generalize e2 : (l.filter fun u => decide (u = v)).getLastD 0 = hi3 at *
  generalize e3 : (l.filter fun u => decide (u = v)).length = sz3 at *
  have E1 := Lib.hid e1
  have E2 := Lib.hid e2
  have E3 := Lib.hid e3
  clear e1 e2 e3
  have r0 := cell_of hr2 0
  have r1 := cell_of hr2 1
  have r2 := cell_of hr2 2
  have r3 := cell_of hr2 3
  have r4 := cell_of hr2 4
  have f0 := frozen_of hr2 0
  have f1 := frozen_of hr2 1
  have f2 := frozen_of hr2 2
  have f3 := frozen_of hr2 3
  have f4 := frozen_of hr2 4
  have HB2 := Lib.hid (below_call HB.out hb2)
  have HX3 := Lib.hid hx3
  clear hr2 hb2 hx3
  go_wp2_with fail
  refine bodyPost_ret (v := .tuple #[.agg #[.int .i64 off3, .slice A3 ws3.length c3, .int .i64 lo3, .int .i64 hi3, .int .i64 sz3], .int .i64 (Dm.chg l (l.filter fun u => decide (u = v)))]) (by simp [results, Tryd.results48, go_sem, r0, r1, r2, r3, r4]) rfl ?_
  refine Dm.left_put (w2 := w2) (B := w.heap.size + 1 + 1) HX3.out E1.out E2.out E3.out ?_ HB2.out ?_ (by omega)
  · refine Fr.set (Fr.set (Fr.set (Fr.set (Fr.set (Fr.refl _ _) ?_ _) ?_ _) ?_ _) ?_ _) ?_ _
    all_goals exact fun _ => rfl
  · intro b hb
    rcases hw2 b hb with h | h
    · exact Or.inl ⟨h, Sl.lt HX.out.sl h⟩
    · exact Or.inr (by simp at h; omega)

theorem enters_atleast_1 : ∀ args w, (callFunc 103 args).run Tryd.prog w = .ok (.enter 103 args) w := enters_of Tryd.func103 (by kernel_rfl) rfl
set_option maxHeartbeats 1000000 in
theorem dom_atleast (d : Value) (l : List Int) (v : Int) (w : World) (hd : Dm.Rep w d l) (hT : Tab w) :
    Calls Tryd.prog 46 #[d, .int .i64 v] w (Dm.Left d l (l.filter fun u => decide (v ≤ u)) w) := by
  obtain ⟨off, sv, ws, rfl, hx⟩ := hd
  obtain ⟨z, hz⟩ : ∃ z, z = max (min v 1000001) (-1000000) := ⟨_, rfl⟩
  have hfe : (l.filter fun u => decide (v ≤ u)) = l.filter fun u => decide (z ≤ u) := List.filter_congr fun u hu => by
    have := hx.inr u hu
    exact decide_eq_decide.2 ⟨fun h => by omega, fun h => by omega⟩
  rw [hfe]
  clear hfe
  have hz1 : -1000001 ≤ z := by omega
  have hz2 : z ≤ 1000001 := by omega
  unfold Dm.val at *
  generalize e1 : l.headD 0 = lo at *
  generalize e2 : l.getLastD 0 = hi at *
  generalize e3 : l.length = sz at *
  have HX := Lib.hid hx
  have HT := Lib.hid hT
  have hb := below_alloc (below_alloc (below_alloc (Below.refl _ w) (.cells #[.int .i64 off, sv, .int .i64 lo, .int .i64 hi, .int .i64 sz] 25)) (.cells #[.int .i64 z] 3)) (.cells #[.int .i64 0, .slice none 0 0, .int .i64 0, .int .i64 0, .int .i64 0] 25)
  have hc := heap_alloc (heap_new (w.alloc (.cells #[.int .i64 off, sv, .int .i64 lo, .int .i64 hi, .int .i64 sz] 25)) (.cells #[.int .i64 z] 3)) (.cells #[.int .i64 0, .slice none 0 0, .int .i64 0, .int .i64 0, .int .i64 0] 25)
  rw [show (w.alloc (.cells #[.int .i64 off, sv, .int .i64 lo, .int .i64 hi, .int .i64 sz] 25)).heap.size = w.heap.size + 1 from by simp] at hc
  have hr := heap_new ((w.alloc (.cells #[.int .i64 off, sv, .int .i64 lo, .int .i64 hi, .int .i64 sz] 25)).alloc (.cells #[.int .i64 z] 3)) (.cells #[.int .i64 0, .slice none 0 0, .int .i64 0, .int .i64 0, .int .i64 0] 25)
  rw [show ((w.alloc (.cells #[.int .i64 off, sv, .int .i64 lo, .int .i64 hi, .int .i64 sz] 25)).alloc (.cells #[.int .i64 z] 3)).heap.size = w.heap.size + 1 + 1 from by simp] at hr
  have hg : ∀ wl : World, Below w.heap.size w wl → wl.heap[w.heap.size + 1]? = some (.cells #[.int .i64 z] 3 (0, 0)) → Dm.Gives wl off ws (fun u => decide (z ≤ u)) 103 (w.heap.size + 1) := by
    intro wl hbl hcl W hW i hi
    have k1 := HX.out.lo
    have k2 := HX.out.hi
    have k3 := HX.out.mod
    refine (dom_atleast_1 (off + 64 * i) z (ws.getD i 0) (w.heap.size + 1) W (heap_call hcl hW) (by omega) (by omega) (by omega) (by omega)).mono ?_
    rintro e w' ⟨y, rfl, hy, hb, hbe⟩
    exact ⟨y, rfl, hy, fun b hb' _ => hb b hb', hbe⟩
  have HL := Lib.hid (dom_less_loop off sv lo hi sz ws (fun u => decide (z ≤ u)) 103 (w.heap.size + 1) l _ enters_atleast_1 (hx.call hb) e1.symm e2.symm e3.symm (hg _ hb hc) (hT.call hb))
  have HB := Lib.hid hb
  have HR := Lib.hid hr
  clear hx hT hg hb hc hr e1 e2 e3
  have HZ := Lib.hid hz
  clear hz
  go_enter Tryd.func46, Tryd.ntmps46
  go_wp2_with fail
  rw [← HZ.out]
  refine HL.out.mono ?_
  rintro e w2 ⟨v', rfl, hrep, hb2, hw2⟩
  have hr2 := heap_call HR.out hb2
  obtain ⟨off3, sv3, ws3, rfl, hx3⟩ := hrep
  obtain ⟨A3, c3, rfl⟩ := hx3.sl.len
  unfold Dm.val
  generalize e1 : (l.filter fun u => decide (z ≤ u)).headD 0 = lo3 at *
  generalize e2 : (l.filter fun u => decide (z ≤ u)).getLastD 0 = hi3 at *
  generalize e3 : (l.filter fun u => decide (z ≤ u)).length = sz3 at *
  have E1 := Lib.hid e1
  have E2 := Lib.hid e2
  have E3 := Lib.hid e3
  clear e1 e2 e3
  have r0 := cell_of hr2 0
  have r1 := cell_of hr2 1
  have r2 := cell_of hr2 2
  have r3 := cell_of hr2 3
  have r4 := cell_of hr2 4
  have f0 := frozen_of hr2 0
  have f1 := frozen_of hr2 1
  have f2 := frozen_of hr2 2
  have f3 := frozen_of hr2 3
  have f4 := frozen_of hr2 4
  have HB2 := Lib.hid (below_call HB.out hb2)
  have HX3 := Lib.hid hx3
  clear hr2 hb2 hx3
  go_wp2_with fail
  refine bodyPost_ret (v := .tuple #[.agg #[.int .i64 off3, .slice A3 ws3.length c3, .int .i64 lo3, .int .i64 hi3, .int .i64 sz3], .int .i64 (Dm.chg l (l.filter fun u => decide (z ≤ u)))]) (by simp [results, Tryd.results46, go_sem, r0, r1, r2, r3, r4]) rfl ?_
  refine Dm.left_put (w2 := w2) (B := w.heap.size + 1 + 1) HX3.out E1.out E2.out E3.out ?_ HB2.out ?_ (by omega)
  · refine Fr.set (Fr.set (Fr.set (Fr.set (Fr.set (Fr.refl _ _) ?_ _) ?_ _) ?_ _) ?_ _) ?_ _
    all_goals exact fun _ => rfl
  · intro b hb
    rcases hw2 b hb with h | h
    · exact Or.inl ⟨h, Sl.lt HX.out.sl h⟩
    · exact Or.inr (by simp at h; omega)

theorem enters_atmost_1 : ∀ args w, (callFunc 105 args).run Tryd.prog w = .ok (.enter 105 args) w := enters_of Tryd.func105 (by kernel_rfl) rfl
set_option maxHeartbeats 1000000 in
theorem dom_atmost (d : Value) (l : List Int) (v : Int) (w : World) (hd : Dm.Rep w d l) (hT : Tab w) :
    Calls Tryd.prog 47 #[d, .int .i64 v] w (Dm.Left d l (l.filter fun u => decide (u ≤ v)) w) := by
  obtain ⟨off, sv, ws, rfl, hx⟩ := hd
  obtain ⟨z, hz⟩ : ∃ z, z = max (min v 1000000) (-1000001) := ⟨_, rfl⟩
  have hfe : (l.filter fun u => decide (u ≤ v)) = l.filter fun u => decide (u ≤ z) := List.filter_congr fun u hu => by
    have := hx.inr u hu
    exact decide_eq_decide.2 ⟨fun h => by omega, fun h => by omega⟩
  rw [hfe]
  clear hfe
  have hz1 : -1000001 ≤ z := by omega
  have hz2 : z ≤ 1000001 := by omega
  unfold Dm.val at *
  generalize e1 : l.headD 0 = lo at *
  generalize e2 : l.getLastD 0 = hi at *
  generalize e3 : l.length = sz at *
  have HX := Lib.hid hx
  have HT := Lib.hid hT
  have hb := below_alloc (below_alloc (below_alloc (Below.refl _ w) (.cells #[.int .i64 off, sv, .int .i64 lo, .int .i64 hi, .int .i64 sz] 25)) (.cells #[.int .i64 z] 3)) (.cells #[.int .i64 0, .slice none 0 0, .int .i64 0, .int .i64 0, .int .i64 0] 25)
  have hc := heap_alloc (heap_new (w.alloc (.cells #[.int .i64 off, sv, .int .i64 lo, .int .i64 hi, .int .i64 sz] 25)) (.cells #[.int .i64 z] 3)) (.cells #[.int .i64 0, .slice none 0 0, .int .i64 0, .int .i64 0, .int .i64 0] 25)
  rw [show (w.alloc (.cells #[.int .i64 off, sv, .int .i64 lo, .int .i64 hi, .int .i64 sz] 25)).heap.size = w.heap.size + 1 from by simp] at hc
  have hr := heap_new ((w.alloc (.cells #[.int .i64 off, sv, .int .i64 lo, .int .i64 hi, .int .i64 sz] 25)).alloc (.cells #[.int .i64 z] 3)) (.cells #[.int .i64 0, .slice none 0 0, .int .i64 0, .int .i64 0, .int .i64 0] 25)
  rw [show ((w.alloc (.cells #[.int .i64 off, sv, .int .i64 lo, .int .i64 hi, .int .i64 sz] 25)).alloc (.cells #[.int .i64 z] 3)).heap.size = w.heap.size + 1 + 1 from by simp] at hr
  have hg : ∀ wl : World, Below w.heap.size w wl → wl.heap[w.heap.size + 1]? = some (.cells #[.int .i64 z] 3 (0, 0)) → Dm.Gives wl off ws (fun u => decide (u ≤ z)) 105 (w.heap.size + 1) := by
    intro wl hbl hcl W hW i hi
    have k1 := HX.out.lo
    have k2 := HX.out.hi
    have k3 := HX.out.mod
    refine (dom_atmost_1 (off + 64 * i) z (ws.getD i 0) (w.heap.size + 1) W (heap_call hcl hW) (by omega) (by omega) (by omega) (by omega)).mono ?_
    rintro e w' ⟨y, rfl, hy, hb, hbe⟩
    exact ⟨y, rfl, hy, fun b hb' _ => hb b hb', hbe⟩
  have HL := Lib.hid (dom_less_loop off sv lo hi sz ws (fun u => decide (u ≤ z)) 105 (w.heap.size + 1) l _ enters_atmost_1 (hx.call hb) e1.symm e2.symm e3.symm (hg _ hb hc) (hT.call hb))
  have HB := Lib.hid hb
  have HR := Lib.hid hr
  clear hx hT hg hb hc hr e1 e2 e3
  have HZ := Lib.hid hz
  clear hz
  go_enter Tryd.func47, Tryd.ntmps47
  go_wp2_with fail
  rw [← HZ.out]
  refine HL.out.mono ?_
  rintro e w2 ⟨v', rfl, hrep, hb2, hw2⟩
  have hr2 := heap_call HR.out hb2
  obtain ⟨off3, sv3, ws3, rfl, hx3⟩ := hrep
  obtain ⟨A3, c3, rfl⟩ := hx3.sl.len
  unfold Dm.val
  generalize e1 : (l.filter fun u => decide (u ≤ z)).headD 0 = lo3 at *
  generalize e2 : (l.filter fun u => decide (u ≤ z)).getLastD 0 = hi3 at *
  generalize e3 : (l.filter fun u => decide (u ≤ z)).length = sz3 at *
  have E1 := Lib.hid e1
  have E2 := Lib.hid e2
  have E3 := Lib.hid e3
  clear e1 e2 e3
  have r0 := cell_of hr2 0
  have r1 := cell_of hr2 1
  have r2 := cell_of hr2 2
  have r3 := cell_of hr2 3
  have r4 := cell_of hr2 4
  have f0 := frozen_of hr2 0
  have f1 := frozen_of hr2 1
  have f2 := frozen_of hr2 2
  have f3 := frozen_of hr2 3
  have f4 := frozen_of hr2 4
  have HB2 := Lib.hid (below_call HB.out hb2)
  have HX3 := Lib.hid hx3
  clear hr2 hb2 hx3
  go_wp2_with fail
  refine bodyPost_ret (v := .tuple #[.agg #[.int .i64 off3, .slice A3 ws3.length c3, .int .i64 lo3, .int .i64 hi3, .int .i64 sz3], .int .i64 (Dm.chg l (l.filter fun u => decide (u ≤ z)))]) (by simp [results, Tryd.results47, go_sem, r0, r1, r2, r3, r4]) rfl ?_
  refine Dm.left_put (w2 := w2) (B := w.heap.size + 1 + 1) HX3.out E1.out E2.out E3.out ?_ HB2.out ?_ (by omega)
  · refine Fr.set (Fr.set (Fr.set (Fr.set (Fr.set (Fr.refl _ _) ?_ _) ?_ _) ?_ _) ?_ _) ?_ _
    all_goals exact fun _ => rfl
  · intro b hb
    rcases hw2 b hb with h | h
    · exact Or.inl ⟨h, Sl.lt HX.out.sl h⟩
    · exact Or.inr (by simp at h; omega)
end Go.Proofs.YtdbjljbkneopcaaDoor
