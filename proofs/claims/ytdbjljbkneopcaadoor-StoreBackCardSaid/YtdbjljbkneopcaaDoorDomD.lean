/- The contract of dom.made. -/
import Derived.Test.YtdbjljbkneopcaaDoorDomC
import Derived.Deep.RegionLaw
import Derived.Deep.LoopGhost
namespace Go.Proofs.YtdbjljbkneopcaaDoor
open Go.RowKit
set_option linter.unusedSimpArgs false
set_option linter.unusedVariables false

theorem headD_append (a b : List Int) : (a ++ b).headD 0 = if a = [] then b.headD 0 else a.headD 0 := by cases a <;> simp
theorem getLastD_append (a b : List Int) (hb : b ≠ []) : (a ++ b).getLastD 0 = b.getLastD 0 := by
  rw [List.getLastD_eq_getLast?, List.getLastD_eq_getLast?, List.getLast?_append]
  cases h : b.getLast? with
  | none => exact absurd (List.getLast?_eq_none_iff.1 h) hb
  | some y => simp
/-- A word more. -/
theorem Bt.els_take (ws : List Nat) (off : Int) (j : Nat) (hj : j < ws.length) : Bt.els off (ws.take (j + 1)) = Bt.els off (ws.take j) ++ (Bt.of (ws.getD j 0)).map (fun b : Nat => off + 64 * j + (b : Int)) := by
  rw [List.take_succ_eq_append_getElem hj, Bt.els_append, List.length_take, Nat.min_eq_left (by omega)]
  simp [Bt.els, List.getD_eq_getElem?_getD, List.getElem?_eq_getElem hj]
theorem Bt.els_length : ∀ (ws : List Nat) (off : Int), (Bt.els off ws).length ≤ 64 * ws.length
  | [], off => by simp [Bt.els]
  | x :: ws, off => by
    have := Bt.els_length ws (off + 64)
    have h2 : (Bt.of x).length ≤ 64 := by unfold Bt.of; exact Nat.le_trans (List.length_filter_le _ _) (by simp)
    simp only [Bt.els, List.length_append, List.length_map, List.length_cons]
    omega
theorem Bt.map_head (x : Nat) (h0 : x ≠ 0) (hx : x < 18446744073709551616) (o : Int) : ((Bt.of x).map (fun b : Nat => o + (b : Int))).headD 0 = o + (Lib.ctz 64 x : Int) := by
  rw [(Bt.step x h0 hx).1]
  rfl
theorem sorted_last (l : List Nat) (hl : l.Pairwise (· < ·)) (m : Nat) (hm : m ∈ l) (h : ∀ b ∈ l, b ≤ m) : l.getLast? = some m := by
  induction l with
  | nil => cases hm
  | cons x l ih =>
    rw [List.pairwise_cons] at hl
    cases l with
    | nil =>
      have : m = x := by simpa using hm
      subst this; rfl
    | cons y l =>
      rw [List.getLast?_cons_cons]
      apply ih hl.2
      · rcases List.mem_cons.1 hm with e | e
        · have h1 := hl.1 y (by simp)
          have h2 := h y (by simp)
          omega
        · exact e
      · exact fun b hb => h b (List.mem_cons_of_mem _ hb)
theorem Bt.map_last (x : Nat) (h0 : x ≠ 0) (hx : x < 18446744073709551616) (o : Int) : ((Bt.of x).map (fun b : Nat => o + (b : Int))).getLastD 0 = o + ((Lib.bitLen x - 1 : Nat) : Int) := by
  obtain ⟨h1, h2, h3, h4⟩ := Bt.last x h0 hx
  rw [List.getLastD_eq_getLast?, List.getLast?_map, sorted_last _ (Bt.sorted x) _ h3 h4]
  rfl

theorem Dm.cell_at {w : World} {A : Option Addr} {c : Nat} {ws : List Nat} (h : Sl w 140 1 (.slice A ws.length c) ws.length (Dm.u64s ws)) (j : Nat) (hj : j < ws.length) : ∃ b o, A = some ⟨b, o, none⟩ ∧ w.cell? ⟨b, o + j, none⟩ = some (.int .u64 (ws.getD j 0 : Nat)) := by
  obtain ⟨b, o, c', cs, e, _⟩ := h.form (by omega)
  cases e
  exact ⟨b, o, rfl, Dm.cell_u64 h j hj⟩
/-- What holds between two words. -/
structure Dm.Mk (w wr : World) (off : Int) (sv : Value) (l : List Int) : Prop where
  res : wr.heap[w.heap.size]? = some (.cells #[.int .i64 0, .slice none 0 0, .int .i64 0, .int .i64 0, .int .i64 0] 25 (0, 0))
  d : wr.heap[w.heap.size + 1]? = some (.cells #[.int .i64 off, sv, .int .i64 (l.headD 0), .int .i64 (l.getLastD 0), .int .i64 l.length] 25 (0, 0))
  below : Below w.heap.size w wr

theorem Dm.Mk.step3 {w wr : World} {off : Int} {sv : Value} {l : List Int} (h : Dm.Mk w wr off sv l) (l2 : List Int) (a b c : Int) (ha : a = l2.headD 0) (hb : b = l2.getLastD 0) (hc : c = l2.length) :
    Dm.Mk w (((wr.setCell ⟨w.heap.size + 1, 2, none⟩ (.int .i64 a)).setCell ⟨w.heap.size + 1, 3, none⟩ (.int .i64 b)).setCell ⟨w.heap.size + 1, 4, none⟩ (.int .i64 c)).drew off sv l2 := by
  subst ha hb hc
  refine ⟨heap_drew (heap_far (heap_far (heap_far h.res (by simp) _) (by simp) _) (by simp) _), ?_, (below_set (below_set (below_set h.below (by simp) _) (by simp) _) (by simp) _).drew⟩
  exact heap_drew (heap_set (heap_set (heap_set h.d 2 _) 3 _) 4 _)
theorem Dm.Mk.step2 {w wr : World} {off : Int} {sv : Value} {l : List Int} (h : Dm.Mk w wr off sv l) (l2 : List Int) (b c : Int) (ha : l.headD 0 = l2.headD 0) (hb : b = l2.getLastD 0) (hc : c = l2.length) :
    Dm.Mk w ((wr.setCell ⟨w.heap.size + 1, 3, none⟩ (.int .i64 b)).setCell ⟨w.heap.size + 1, 4, none⟩ (.int .i64 c)).drew off sv l2 := by
  subst hb hc
  refine ⟨heap_drew (heap_far (heap_far h.res (by simp) _) (by simp) _), ?_, (below_set (below_set h.below (by simp) _) (by simp) _).drew⟩
  have := heap_drew (heap_set (heap_set h.d 3 (.int .i64 (l2.getLastD 0))) 4 (.int .i64 l2.length))
  rw [ha] at this
  exact this

set_option maxHeartbeats 1000000 in
theorem dom_made (off : Int) (sv : Value) (ws : List Nat) (w : World) (h : Sl w 140 1 sv ws.length (Dm.u64s ws)) (hlt : ∀ x ∈ ws, x < 18446744073709551616) (h1 : -2000000 ≤ off) (h2 : off + 64 * ws.length ≤ 2000000) (hT : Tab w) :
    Calls Tryd.prog 89 #[.int .i64 off, sv] w fun e w' => e = .returned (Dm.val off sv (Bt.els off ws)) ∧ Below w.heap.size w w' := by
  have HS := Lib.hid h
  have HT := Lib.hid hT
  have HL := Lib.hid hlt
  obtain ⟨A, c, rfl⟩ := h.len
  clear h hT hlt
  unfold Dm.val
  go_enter Tryd.func89, Tryd.ntmps89
  go_wp2
  have HI : Hid (Dm.Mk w ((w.alloc (.cells #[.int .i64 0, .slice none 0 0, .int .i64 0, .int .i64 0, .int .i64 0] 25)).alloc (.cells #[.int .i64 off, .slice A ws.length c, .int .i64 0, .int .i64 0, .int .i64 0] 25)) off (.slice A ws.length c) (Bt.els off (ws.take 0))) :=
    ⟨heap_alloc (heap_new _ _) _, by have := heap_new (w.alloc (.cells #[.int .i64 0, .slice none 0 0, .int .i64 0, .int .i64 0, .int .i64 0] 25)) (.cells #[.int .i64 off, .slice A ws.length c, .int .i64 0, .int .i64 0, .int .i64 0] 25); simpa [Bt.els] using this, below_alloc (below_alloc (Below.refl _ _) _) _⟩
  go_loopg [13] ws.length (fun k s13 wr => ∃ j : Nat, s13 = .int .i64 j ∧ j + k = ws.length ∧ Dm.Mk w wr off (.slice A ws.length c) (Bt.els off (ws.take j)))
  case atStart => exact ⟨0, rfl, by omega, HI.out⟩
  case round =>
    obtain ⟨j, rfl, hj, hinv⟩ := hrel
    have H := Lib.hid hinv
    clear hinv
    rcases Nat.eq_zero_or_pos gk with hk | hk
    · obtain rfl : j = ws.length := by omega
      rw [List.take_length] at H
      have r0 := cell_of H.out.res 0
      have r1 := cell_of H.out.res 1
      have r2 := cell_of H.out.res 2
      have r3 := cell_of H.out.res 3
      have r4 := cell_of H.out.res 4
      have f0 := frozen_of H.out.res 0
      have f1 := frozen_of H.out.res 1
      have f2 := frozen_of H.out.res 2
      have f3 := frozen_of H.out.res 3
      have f4 := frozen_of H.out.res 4
      have d0 := cell_of H.out.d 0
      have d1 := cell_of H.out.d 1
      have d2 := cell_of H.out.d 2
      have d3 := cell_of H.out.d 3
      have d4 := cell_of H.out.d 4
      have B := Lib.hid H.out.below
      clear H
      generalize e1 : (Bt.els off ws).headD 0 = lo at *
      generalize e2 : (Bt.els off ws).getLastD 0 = hi at *
      generalize e3 : (Bt.els off ws).length = sz at *
      have E1 := Lib.hid e1
      have E2 := Lib.hid e2
      have E3 := Lib.hid e3
      clear e1 e2 e3
      go_wp2_with fail
      refine bodyPost_ret (v := .agg #[.int .i64 off, .slice A ws.length c, .int .i64 lo, .int .i64 hi, .int .i64 sz]) (by simp [results, Tryd.results89, go_sem, r0, r1, r2, r3, r4]) rfl ⟨by rw [E1.out, E2.out, E3.out], ?_⟩
      exact below_set (below_set (below_set (below_set (below_set B.out (Nat.le_refl _) _) (Nat.le_refl _) _) (Nat.le_refl _) _) (Nat.le_refl _) _) (Nat.le_refl _) _
    · have hjn : j < ws.length := by omega
      have hstep := Bt.els_take ws off j hjn
      have hcell := Dm.cell_at (HS.out.call H.out.below) j hjn
      obtain ⟨b, o, rfl, hcell⟩ := hcell
      have hxl := HL.out (ws.getD j 0) (by rw [List.getD_eq_getElem?_getD, List.getElem?_eq_getElem hjn]; simp)
      have d2 := cell_of H.out.d 2
      have d3 := cell_of H.out.d 3
      have d4 := cell_of H.out.d 4
      have f2 := frozen_of H.out.d 2
      have f3 := frozen_of H.out.d 3
      have f4 := frozen_of H.out.d 4
      have TT := Lib.hid (HT.out.call H.out.below)
      have hsz : (Bt.els off (ws.take j)).length ≤ 4000000 := by
        have := Bt.els_length (ws.take j) off
        rw [List.length_take] at this
        omega
      generalize Bt.els off (ws.take j) = l at *
      generalize ws.getD j 0 = x at *
      have ST := Lib.hid hstep
      clear hstep
      rcases Nat.eq_zero_or_pos x with h0 | h0
      · subst h0
        clear d2 d3 d4 f2 f3 f4
        go_wp2_with fail
        go_roundg (gk - 1)
        case measure => omega
        case rel => exact ⟨j + 1, by go_num, by omega, by rw [ST.out]; simpa [Bt.zero] using H.out⟩
      · have h0' : x ≠ 0 := by omega
        have hbx := Bt.last x h0' hxl
        have hct := (Bt.step x h0' hxl).2
        obtain ⟨hb1, hb2, hb3, -⟩ := hbx
        have hb0 : ((x : Int) == 0) = false := by simp; omega
        have hpl : (Bt.of x).length ≤ 64 := by unfold Bt.of; exact Nat.le_trans (List.length_filter_le _ _) (by simp)
        have hne : (Bt.of x).map (fun b : Nat => off + 64 * j + (b : Int)) ≠ [] := by
          intro e
          rw [List.map_eq_nil_iff] at e
          rw [e] at hb3; cases hb3
        have M1 := Lib.hid (Bt.map_head x h0' hxl (off + 64 * j))
        have M2 := Lib.hid (Bt.map_last x h0' hxl (off + 64 * j))
        have NE := Lib.hid hne
        clear hb3 hne
        rcases Nat.eq_zero_or_pos l.length with hl | hl
        · obtain rfl : l = [] := List.length_eq_zero_iff.1 hl
          simp only [List.headD_nil, List.getLastD_nil, List.length_nil] at *
          have hw : wrap64 ((Bt.of x).length : Int) = ((Bt.of x).length : Int) := by unfold wrap64; omega
          go_wp2_with (first
            | (go_at_call 94; refine (tz64 x _ h0' hxl TT.out).mono ?_; rintro e w3 ⟨rfl, rfl⟩)
            | (go_at_call 123; refine (lz64 x _ hxl).mono ?_; rintro e w3 ⟨rfl, rfl⟩))
          go_region_law (first | (go_simp; go_at_call 124; refine (ones64 x _ hxl).mono ?_; rintro e w3 ⟨rfl, rfl⟩))
          all_goals
            go_wp2_with fail
            go_roundg (gk - 1)
            case measure => omega
            case rel =>
              refine ⟨j + 1, by go_num, by omega, H.out.step3 _ _ _ _ ?_ ?_ ?_⟩
              · rw [ST.out, List.nil_append, M1.out]
              · rw [ST.out, List.nil_append, M2.out]; omega
              · rw [ST.out, List.nil_append, List.length_map]
        · have hl0 : ((l.length : Int) == 0) = false := by rw [beq_eq_false_iff_ne]; omega
          have hln : l ≠ [] := fun e => by subst e; simp at hl
          have hw : wrap64 ((l.length : Int) + ((Bt.of x).length : Int)) = (l.length : Int) + ((Bt.of x).length : Int) := by unfold wrap64; omega
          have LN := Lib.hid hln
          clear hln
          generalize hlo : l.headD 0 = lo at *
          generalize l.getLastD 0 = hi at *
          have HLO := Lib.hid hlo
          clear hlo
          go_wp2_with (first
            | (go_at_call 123; refine (lz64 x _ hxl).mono ?_; rintro e w3 ⟨rfl, rfl⟩))
          go_region_law (first | (go_simp; go_at_call 124; refine (ones64 x _ hxl).mono ?_; rintro e w3 ⟨rfl, rfl⟩))
          all_goals
            go_wp2_with fail
            go_roundg (gk - 1)
            case measure => omega
            case rel =>
              refine ⟨j + 1, by go_num, by omega, H.out.step2 _ _ _ ?_ ?_ ?_⟩
              · rw [ST.out, headD_append, if_neg LN.out]
              · rw [ST.out, getLastD_append _ _ NE.out, M2.out]; omega
              · rw [ST.out, List.length_append, List.length_map]; simp
end Go.Proofs.YtdbjljbkneopcaaDoor
