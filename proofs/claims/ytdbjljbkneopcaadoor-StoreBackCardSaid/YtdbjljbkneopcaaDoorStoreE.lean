/- Push, Events of a store. -/
import Derived.Test.YtdbjljbkneopcaaDoorStoreD
import Derived.Deep.RegionLaw
import Derived.Deep.DeepCutAuto
import Derived.Deep.CutBlock
namespace Go.Proofs.YtdbjljbkneopcaaDoor
open Go.RowKit
set_option linter.unusedSimpArgs false
set_option linter.unusedVariables false

/-- A call that turns a store. -/
def Su.Gv (w : World) (S : Nat) (p : Su.Parts) (m' : Su.M) (r : Value) (e : Ending) (w' : World) : Prop := e = .returned r ∧ ∃ p', Su.St w w' S p p' m'
theorem store_push_nil (w : World) : Calls Tryd.prog 35 #[.pointer none] w fun e w' => e = .returned (.tuple #[]) ∧ w = w' := by
  go_enter Tryd.func35, Tryd.ntmps35
  go_wp2_with fail
  (try simp only [Exit.inBlock, Exit.then]); refine bodyPost_ret (results_none rfl _ _ _) rfl ?_
  exact ⟨rfl, rfl⟩
set_option maxHeartbeats 2000000 in
theorem store_push (S : Nat) (p : Su.Parts) (m : Su.M) (N : Nat) (w : World) (h : Su.Mem w S p m) (hz : Su.Sz m N) (hN : N ≤ 100000000000) :
    Calls Tryd.prog 35 #[.pointer (some ⟨S, 0, none⟩)] w (Su.Gv w S p { m with marks := m.marks ++ [m.trail.length], time := m.time + 1 } (.tuple #[])) := by
  obtain ⟨i0, hi0, hz0, hz1, hz2⟩ := info_parts infoInt
  obtain ⟨A, c, hms⟩ := h.marks.len
  obtain ⟨At, ct, hts⟩ := h.trail.len
  have hml := hz.marks
  have ht0 := hz.t0
  have ht1 := hz.t1
  have HM := Lib.hid h
  have hbx := h.box
  rw [hms, hts] at hbx
  have HBX := Lib.hid hbx
  have hmk := h.marks
  rw [hms] at hmk
  have HMK := Lib.hid hmk
  have HMS := Lib.hid hms
  have HTS := Lib.hid hts
  have e3 := cell_of hbx 3
  have e2 := cell_of hbx 2
  have e4 := cell_of hbx 4
  have e3a : ∀ o : Obj, (w.alloc o).cell? ⟨S, 3, none⟩ = some (.slice A m.marks.length c) := fun o => cell_of (heap_alloc HBX.out o) 3
  have e2a : ∀ o : Obj, (w.alloc o).cell? ⟨S, 2, none⟩ = some (.slice At m.trail.length ct) := fun o => cell_of (heap_alloc HBX.out o) 2
  have hSlt := Lib.hid (heap_lt hbx)
  clear h hz hbx hmk hms hts
  generalize hn1 : m.marks.length = n1 at *
  generalize hn2 : m.trail.length = n2 at *
  generalize ht : m.time = t at *
  have F1 := Lib.hid hn1
  have F2 := Lib.hid hn2
  have FT := Lib.hid ht
  clear hn1 hn2 ht
  go_enter Tryd.func35, Tryd.ntmps35
  go_wp2_with fail
  go_region_law (first
    | (refine step_append_sl _ rfl _ _ 22 rfl 3 i0 (.int .i64 0) 1 8 Tryd.underlying22 hi0 hz0 hz1 hz2 rfl (by decide) (.slice A n1 c) _ _ rfl (by first | exact Sl.drew (Sl.alloc HMK.out _) | exact Sl.alloc HMK.out _) ⟨w.heap.size, 0, none⟩ 1 1 [.int .i64 (n2 : Int)] rfl rfl (by first | exact World.news_of_block (heap_drew (heap_new w (.cells #[.int .i64 (n2 : Int)] 3))) | exact World.news_of_block (heap_new w (.cells #[.int .i64 (n2 : Int)] 3))) (by intro u hu; simp at hu; subst hu; rfl) (by decide) (by unfold maxLen; omega) (by omega) _ rfl ?_; intro b2 f2 c2 w2 hs2 hf2 hb2; have HB2 := hf2.heap (by first | exact heap_drew (heap_alloc HBX.out _) | exact heap_alloc HBX.out _) (fun k => (HM.out.tyS).ne (HM.out.tym (by rw [HMS.out]; exact k)) (by decide) rfl); have s0 := cell_of HB2 3; have s1 := frozen_of HB2 3))
  all_goals
    have hS1 := HM.out.addMark n2 (b := b2) (f := f2) (c := c2) (by rw [F1.out]; exact hs2) (by rw [HMS.out]; exact (Fr.of_below (by first | exact (below_alloc (Below.refl _ _) _).drew | exact below_alloc (Below.refl _ _) _)).trans2 hf2 (fun k _ e => e)) (by rw [HMS.out]; exact hb2.imp id (fun e => by have := e.1; simp at this; omega))
    rw [F1.out, FT.out] at hS1
    clear hs2 hf2 hb2 HB2 s0 s1
    generalize w2.setCell ⟨S, 3, none⟩ (.slice (some ⟨b2, f2, none⟩) (n1 + 1) c2) = w3 at *
    have HS1 := Lib.hid hS1
    have t4 := cell_of hS1.mem.box 4
    have t5 := frozen_of hS1.mem.box 4
    clear hS1 e3 e2 e4 e3a e2a
    go_wp2_with fail
    go_end0
    exact ⟨rfl, _, HS1.out.trans (HS1.out.mem.setTime (t + 1))⟩
theorem store_events_nil (w : World) : Calls Tryd.prog 40 #[.pointer none] w fun e w' => e = .returned (.slice none 0 0) ∧ w = w' := by
  go_enter Tryd.func40, Tryd.ntmps40
  go_wp2_with fail
  go_ret
  exact ⟨rfl, rfl⟩
theorem store_events (S : Nat) (p : Su.Parts) (m : Su.M) (w : World) (h : Su.Mem w S p m) :
    Calls Tryd.prog 40 #[.pointer (some ⟨S, 0, none⟩)] w (Su.Gv w S p { m with events := [] } p.es) := by
  have HM := Lib.hid h
  have e5 := cell_of h.box 5
  have f5 := frozen_of h.box 5
  clear h
  go_enter Tryd.func40, Tryd.ntmps40
  go_wp2_with fail
  go_ret
  exact ⟨rfl, _, HM.out.noEvents⟩
/-- The first variable without values. -/
def Su.none? (cur : List (List Int)) : Option Nat := cur.findIdx? (fun l => l.isEmpty)
def Su.Fl (cur : List (List Int)) (w : World) (e : Ending) (w' : World) : Prop := e = .returned (.tuple #[.int .i64 ((Su.none? cur).getD 0 : Nat), .bool (Su.none? cur).isSome]) ∧ Below w.heap.size w w'
theorem store_failed_nil (w : World) : Calls Tryd.prog 58 #[.pointer none] w (Su.Fl [] w) := by
  go_enter Tryd.func58, Tryd.ntmps58
  go_wp2_with fail
  refine (store_len_nil _).mono ?_
  rintro e w2 ⟨rfl, rfl⟩
  go_wp2_with fail
  go_loopg [7] 0 (fun k s7 wr => s7 = .int .i64 0 ∧ wr = w)
  case atStart => exact ⟨rfl, rfl⟩
  case round =>
    obtain ⟨rfl, rfl⟩ := hrel
    go_wp2_with fail
    go_ret2
    exact ⟨rfl, Below.refl _ _⟩
theorem Su.none_take {cur : List (List Int)} {j : Nat} (hj : j < cur.length) (hno : Su.none? (cur.take j) = none) (h : cur.getD j [] ≠ []) : Su.none? (cur.take (j + 1)) = none := by
  unfold Su.none? at *
  rw [List.findIdx?_eq_none_iff] at *
  intro l hl
  rw [List.take_succ_eq_append_getElem hj, List.mem_append, List.mem_singleton] at hl
  rcases hl with hl | rfl
  · exact hno l hl
  · rw [List.getD_eq_getElem?_getD, List.getElem?_eq_getElem hj] at h
    simpa using h
theorem Su.none_at {cur : List (List Int)} {j : Nat} (hj : j < cur.length) (hno : Su.none? (cur.take j) = none) (h : cur.getD j [] = []) : Su.none? cur = some j := by
  unfold Su.none? at *
  rw [List.findIdx?_eq_none_iff] at hno
  rw [List.findIdx?_eq_some_iff_getElem]
  rw [List.getD_eq_getElem?_getD, List.getElem?_eq_getElem hj] at h
  refine ⟨hj, by simpa using h, fun i hi => ?_⟩
  have := hno cur[i] (by rw [List.mem_take_iff_getElem]; exact ⟨i, by omega, rfl⟩)
  simpa using this
set_option maxHeartbeats 1000000 in
theorem store_failed (S : Nat) (p : Su.Parts) (m : Su.M) (w : World) (h : Su.Mem w S p m) (hn : m.cur.length ≤ 1000000) :
    Calls Tryd.prog 58 #[.pointer (some ⟨S, 0, none⟩)] w (Su.Fl m.cur w) := by
  have HM := Lib.hid h
  have HL := Lib.hid (fun w' (hb : Below w.heap.size w w') => store_len S p m w' (h.call hb))
  have H0 : Hid (Su.none? (m.cur.take 0) = none) := Lib.hid rfl
  clear h
  generalize hcur : m.cur = cur at *
  have HC := Lib.hid hcur
  clear hcur
  generalize hnn : cur.length = n at *
  have HN := Lib.hid hnn
  clear hnn
  go_enter Tryd.func58, Tryd.ntmps58
  go_wp2_with fail
  refine (HL.out _ (Below.refl _ _)).mono ?_
  rintro e w2 ⟨rfl, rfl⟩
  go_wp2_with fail
  go_loopg [4, 7] n (fun k s4 s7 wr => ∃ j : Nat, s7 = .int .i64 j ∧ k + j = n ∧ Hid (Su.none? (cur.take j) = none) ∧ Hid (Below w.heap.size w wr))
  case atStart => exact ⟨0, rfl, by omega, H0, Lib.hid (Below.refl _ _)⟩
  case round =>
    obtain ⟨j, rfl, hj, hno, hb⟩ := hrel
    rcases Nat.lt_or_ge j n with hk | hk
    · have hm1 := HM.out.call hb.out
      obtain ⟨A, c, hds⟩ := hm1.doms.sl.len
      have hD := hm1.doms
      rw [hds] at hD
      have hjc : j < cur.length := by rw [HN.out]; exact hk
      obtain ⟨b, o, off, As, mm, cs, lo, hh, z, rfl, hv, hn2, hr, c0, c1, c2, c3, c4⟩ := hD.at j (by rw [HC.out]; exact hjc)
      rw [HC.out] at hn2 hr
      have e0 := cell_of hm1.box 0
      rw [hds, hD.len, HC.out, HN.out] at e0
      have CS := Lib.hid (dom_size _ _ wr hr)
      rw [← hn2] at CS
      have NT := Lib.hid (Su.none_take hjc hno.out)
      have NA := Lib.hid (Su.none_at hjc hno.out)
      have HZ := Lib.hid hn2
      rw [Nat.add_zero] at c0
      rw [← Nat.add_assoc] at c1 c2 c3 c4
      have hjn : (j : Int) < (n : Int) := by omega
      clear hm1 hds hD hv hn2 hr
      by_cases h0 : z = 0
      · have E0 := Lib.hid h0
        subst h0
        go_wp2_with fail
        refine CS.out.mono ?_
        rintro e w2 ⟨rfl, hb2⟩
        have B2 := Lib.hid (below_call hb.out hb2)
        have NE := Lib.hid (NA.out (List.eq_nil_of_length_eq_zero (by rw [← HZ.out])))
        clear hb2
        go_wp2_with fail
        go_ret2
        unfold Su.Fl
        rw [NE.out]
        exact ⟨rfl, B2.out⟩
      · have hb0 : ((z : Int) == 0) = false := beq_eq_false_iff_ne.2 (by omega)
        have E0 := Lib.hid h0
        clear h0
        go_wp2_with fail
        refine CS.out.mono ?_
        rintro e w2 ⟨rfl, hb2⟩
        have B2 := Lib.hid (below_call hb.out hb2)
        clear hb2
        go_wp2_with fail
        go_roundg (gk - 1)
        case measure => omega
        case rel => exact ⟨j + 1, by go_num, by omega, Lib.hid (NT.out (fun e => E0.out (by rw [HZ.out, e]; rfl))), B2⟩
    · obtain rfl : j = n := by omega
      go_wp2_with fail
      go_ret2
      unfold Su.Fl
      have e := hno.out
      rw [List.take_of_length_le (by rw [HN.out]; omega)] at e
      rw [e]
      exact ⟨rfl, hb.out⟩
end Go.Proofs.YtdbjljbkneopcaaDoor
