import Derived.Test.YtdbjljbkneopcaaDoorRef3B
import Derived.Test.YtdbjljbkneopcaaDoorRefE
import Derived.Test.YtdbjljbkneopcaaDoorStoreK
/- The reference's Narrow walked. -/
namespace Go.Proofs.YtdbjljbkneopcaaDoor
open Go.RowKit
set_option linter.unusedSimpArgs false
set_option linter.unusedVariables false

/-- While events are copied behind the levels. -/
structure R3F (Q : Nat → Prop) (wE W0 wr : World) (bt : Nat) (lv sv : Value) (M : List (List (List Int))) (N : List (Int × Int)) : Prop where
  box : wr.heap[bt]? = some (.cells #[lv, sv] 78 (0, 0))
  lev : ∃ us, Gw W0.heap.size 39 1 (fun _ vs L => E3r Q wE vs L) [] wr lv us M
  evs : ∃ us, Gw W0.heap.size 159 2 E3e (0, 0) wr sv us N
  fr : Fr (fun k => k = bt) W0 wr
  lt : bt < W0.heap.size
  below : Below wE.heap.size wE W0
  le : wE.heap.size ≤ bt
theorem R3F.bel {Q : Nat → Prop} {wE W0 wr : World} {bt : Nat} {lv sv : Value} {M : List (List (List Int))} {N : List (Int × Int)} (h : R3F Q wE W0 wr bt lv sv M N) : Below wE.heap.size wE wr :=
  Fr.below h.below h.fr (fun i hi => by rw [hi]; exact h.le)
theorem R3L.events {Q : Nat → Prop} {wE W0 wr : World} {bt : Nat} {lv : Value} {M : List (List (List Int))} (h : R3L Q wE W0 wr bt lv (.slice none 0 0) M) : R3F Q wE W0 wr bt lv (.slice none 0 0) M [] :=
  ⟨h.box, h.us, ⟨[], Gw.nil _ _ _ _ _ _⟩, h.fr, h.lt, h.below, h.le⟩
theorem R3F.app {Q : Nat → Prop} {wE W0 wr w2 : World} {bt : Nat} {lv sv sv' : Value} {M : List (List (List Int))} {N : List (Int × Int)} {x y : Int} (h : R3F Q wE W0 wr bt lv sv M N) {us : List (List Value)} (hg : Gw W0.heap.size 159 2 E3e (0, 0) wr sv us N) (a : App 159 2 wr sv N.length us.flatten [.int .i64 x, .int .i64 y] sv' w2) :
    R3F Q wE W0 (w2.setCell ⟨bt, 1, none⟩ sv') bt lv sv' M (N ++ [(x, y)]) := by
  obtain ⟨ul, hl⟩ := h.lev
  have hb2 := a.fr.heap h.box (fun e => by have := hg.own _ e; have := h.lt; omega)
  have FS : Fr (fun k => k = bt) w2 (w2.setCell ⟨bt, 1, none⟩ sv') := Fr.set (S := fun k => k = bt) (Fr.refl _ _) (p := ⟨bt, 1, none⟩) (fun _ => rfl) _
  have hfr : Fr (fun k => k = bt) W0 (w2.setCell ⟨bt, 1, none⟩ sv') := (h.fr.trans2 a.fr (fun k hk e => by have := hg.own _ e; omega)).trans FS
  have g2 := hg.app h.fr.size a rfl (fun _ _ h => h) (x := (x, y)) rfl
  have hl2 := hl.kept a.fr (fun b hb e => (hl.sl.typed hb).ne (hg.sl.typed e) (by decide) rfl) (fun _ _ h => h)
  exact ⟨heap_set hb2 1 sv', ⟨ul, hl2.kept FS (fun b hb e => by have := hl.own b hb; have := h.lt; omega) (fun _ _ h => h)⟩, ⟨_, g2.kept FS (fun b hb e => by have := g2.own b hb; have := h.lt; omega) (fun _ _ h => h)⟩, hfr, h.lt, h.below, h.le⟩
theorem R3F.fin {Q : Nat → Prop} {wE W0 wr : World} {bt br : Nat} {lv sv u0 u1 : Value} {M : List (List (List Int))} {N : List (Int × Int)} (h : R3F Q wE W0 wr bt lv sv M N) (h1 : br < wE.heap.size) (h3 : ∀ b, Q b → b ≠ br) :
    Gl (Or2 Q wE ((wr.setCell ⟨br, 0, none⟩ u0).setCell ⟨br, 1, none⟩ u1)) 1 (E3r (Or2 Q wE ((wr.setCell ⟨br, 0, none⟩ u0).setCell ⟨br, 1, none⟩ u1))) [] ((wr.setCell ⟨br, 0, none⟩ u0).setCell ⟨br, 1, none⟩ u1) lv M ∧ Gl (Or2 Q wE ((wr.setCell ⟨br, 0, none⟩ u0).setCell ⟨br, 1, none⟩ u1)) 2 E3e (0, 0) ((wr.setCell ⟨br, 0, none⟩ u0).setCell ⟨br, 1, none⟩ u1) sv N := by
  obtain ⟨us, hg⟩ := h.lev
  obtain ⟨ue, he⟩ := h.evs
  have hsz := h.below.size
  have FR : Fr (fun k => k = br) wr ((wr.setCell ⟨br, 0, none⟩ u0).setCell ⟨br, 1, none⟩ u1) := by
    refine Fr.set (Fr.set (Fr.refl _ _) ?_ _) ?_ _
    all_goals exact fun _ => rfl
  have hg2 := hg.kept FR (fun b hb e => by have := hg.own b hb; omega) (fun _ _ h => h)
  have he2 := he.kept FR (fun b hb e => by have := he.own b hb; omega) (fun _ _ h => h)
  refine ⟨(hg2.gl (Or2 Q wE _) (fun b hb => Or.inr ⟨by have := hg2.own b hb; omega, hg2.sl.lt hb⟩)).mono (fun b h => h) (fun vs L hE => ?_), he2.gl _ (fun b hb => Or.inr ⟨by have := he2.own b hb; omega, he2.sl.lt hb⟩)⟩
  exact E3r.mono (fun b hb => Or.inl hb) _ _ (E3r.kept FR (fun b hb e => h3 b hb e) _ _ (E3r.call h.bel _ _ hE))
/-- One cell that is a slice of numbers. -/
def E3i (Q : Nat → Prop) (w : World) (vs : List Value) (l : List Int) : Prop := ∃ v, vs = [v] ∧ Rd w v l ∧ ∀ b, v.ownBlock = some b → Q b
theorem Gl.rr {Q : Nat → Prop} {w : World} {sv : Value} {L : List (List Int)} (h : Gl Q 1 (E3i Q) [] w sv L) : Rr Q w sv L :=
  ⟨h.len, h.big, h.cap, fun h0 => by
    obtain ⟨b, o, c, e, h1, hp, h2⟩ := h.form h0
    refine ⟨b, o, c, e, h1, hp, fun j hj => ?_⟩
    obtain ⟨vs, h3, h4, v, rfl, h5, h6⟩ := h2 j hj
    have hc := h4 0 (by decide)
    rw [Nat.mul_one, Nat.add_zero] at hc
    exact ⟨v, hc, h5, h6⟩⟩
theorem R3.of {P Q : Nat → Prop} {w : World} {LS : List (List (List Int))} {es : List (Int × Int)} {lv ev : Value} (hl : Gl P 1 (E3r P) [] w lv LS) (he : Gl P 2 E3e (0, 0) w ev es) : R3 P w (.agg #[lv, ev]) LS es lv ev := ⟨rfl, hl, he⟩
set_option maxHeartbeats 4000000 in
set_option maxRecDepth 100000 in
theorem ref3_narrow_low (P : Nat → Prop) (v : Value) (LS : List (List (List Int))) (es : List (Int × Int)) (lv ev sd : Value) (d : List Int) (L : List (List Int)) (i : Int) (w : World) (h : R3 P w v LS es lv ev) (hL : LS.getD (LS.length - 1) [] = L) (h0 : 0 < LS.length) (hP : ∀ b, P b → b < w.heap.size) (hd : Rd w sd d) (hi : i < 0) :
    Calls Tryd.prog 54 #[v, .int .i64 i, sd] w (R3C P LS es 0 w) := by
  obtain ⟨snow, hnow, cnow⟩ := ref3_now P v LS es lv ev w h h0
  rw [hL] at hnow
  clear hL
  have HNOW := Lib.hid hnow
  have hlb := hnow.big
  obtain ⟨An, cn, rfl⟩ := hnow.len
  have CN := Lib.hid cnow
  have H0 := Lib.hid h
  obtain ⟨rfl, hl, hev⟩ := h
  have HL := Lib.hid hl
  have HEV := Lib.hid hev
  obtain ⟨A, c, rfl⟩ := hl.len
  obtain ⟨Ae, ce, rfl⟩ := hev.len
  generalize hes : es.length = ne at *
  have HES := Lib.hid hes
  have HD := Lib.hid hd
  have HB2 : Hid (Below w.heap.size w ((w.alloc (.cells #[.slice A LS.length c, .slice Ae ne ce] 78)).alloc (.cells #[.slice none 0 0, .slice none 0 0] 78))) := Lib.hid (below_alloc (below_alloc (Below.refl _ _) _) _)
  have HS2 : Hid (((w.alloc (.cells #[.slice A LS.length c, .slice Ae ne ce] 78)).alloc (.cells #[.slice none 0 0, .slice none 0 0] 78)).heap[w.heap.size]? = some (.cells #[.slice A LS.length c, .slice Ae ne ce] 78 (0, 0))) := Lib.hid (heap_alloc (heap_new w _) _)
  have HR2 : Hid (((w.alloc (.cells #[.slice A LS.length c, .slice Ae ne ce] 78)).alloc (.cells #[.slice none 0 0, .slice none 0 0] 78)).heap[w.heap.size + 1]? = some (.cells #[.slice none 0 0, .slice none 0 0] 78 (0, 0))) := Lib.hid (by have h1 := heap_new (w.alloc (.cells #[.slice A LS.length c, .slice Ae ne ce] 78)) (.cells #[.slice none 0 0, .slice none 0 0] 78); simpa using h1)
  clear hl hev hnow cnow hes hd
  go_enter Tryd.func54, Tryd.ntmps54
  go_wp2_with fail
  refine (CN.out _ HB2.out).mono ?_
  rintro e w2 ⟨rfl, hb⟩
  have B2 := Lib.hid (below_call HB2.out hb)
  have HS3 := Lib.hid (heap_call HS2.out hb)
  have HR3 := Lib.hid (heap_call HR2.out hb)
  have HLW2 := Lib.hid (heap_lt HR3.out)
  clear hb HS2 HR2 HB2
  have x0 := cell_of HS3.out 0
  have x1 := cell_of HS3.out 1
  have y0 := cell_of HR3.out 0
  have y1 := cell_of HR3.out 1
  have y2 := frozen_of HR3.out 0
  have y3 := frozen_of HR3.out 1
  go_wp2_with fail
  have hrf := heap_set (heap_set HR3.out 0 (.slice A LS.length c)) 1 (.slice Ae ne ce)
  have rc0 : World.cell? _ ⟨w.heap.size + 1, 0, none⟩ = some (.slice A LS.length c) := cell_of hrf 0
  have rc1 : World.cell? _ ⟨w.heap.size + 1, 1, none⟩ = some (.slice Ae ne ce) := cell_of hrf 1
  refine bodyPost_ret (v := .tuple #[.agg #[.slice A LS.length c, .slice Ae ne ce], .int .i64 0]) (by simp [results, Tryd.results54, go_sem, rc0, rc1]) rfl ?_
  have hbf := below_set (below_set B2.out (p := ⟨w.heap.size + 1, 0, none⟩) (by show w.heap.size ≤ w.heap.size + 1; omega) (.slice A LS.length c)) (p := ⟨w.heap.size + 1, 1, none⟩) (by show w.heap.size ≤ w.heap.size + 1; omega) (.slice Ae ne ce)
  exact ⟨_, _, _, rfl, (H0.out.call hbf).mono (fun b h => Or.inl h), hbf⟩
set_option maxHeartbeats 4000000 in
set_option maxRecDepth 100000 in
theorem ref3_narrow_high (P : Nat → Prop) (v : Value) (LS : List (List (List Int))) (es : List (Int × Int)) (lv ev sd : Value) (d : List Int) (L : List (List Int)) (i : Int) (w : World) (h : R3 P w v LS es lv ev) (hL : LS.getD (LS.length - 1) [] = L) (h0 : 0 < LS.length) (hP : ∀ b, P b → b < w.heap.size) (hd : Rd w sd d) (hi0 : 0 ≤ i) (hi : (L.length : Int) ≤ i) :
    Calls Tryd.prog 54 #[v, .int .i64 i, sd] w (R3C P LS es 0 w) := by
  obtain ⟨snow, hnow, cnow⟩ := ref3_now P v LS es lv ev w h h0
  rw [hL] at hnow
  clear hL
  have HNOW := Lib.hid hnow
  have hlb := hnow.big
  obtain ⟨An, cn, rfl⟩ := hnow.len
  have CN := Lib.hid cnow
  have H0 := Lib.hid h
  obtain ⟨rfl, hl, hev⟩ := h
  have HL := Lib.hid hl
  have HEV := Lib.hid hev
  obtain ⟨A, c, rfl⟩ := hl.len
  obtain ⟨Ae, ce, rfl⟩ := hev.len
  generalize hes : es.length = ne at *
  have HES := Lib.hid hes
  have HD := Lib.hid hd
  have HB2 : Hid (Below w.heap.size w ((w.alloc (.cells #[.slice A LS.length c, .slice Ae ne ce] 78)).alloc (.cells #[.slice none 0 0, .slice none 0 0] 78))) := Lib.hid (below_alloc (below_alloc (Below.refl _ _) _) _)
  have HS2 : Hid (((w.alloc (.cells #[.slice A LS.length c, .slice Ae ne ce] 78)).alloc (.cells #[.slice none 0 0, .slice none 0 0] 78)).heap[w.heap.size]? = some (.cells #[.slice A LS.length c, .slice Ae ne ce] 78 (0, 0))) := Lib.hid (heap_alloc (heap_new w _) _)
  have HR2 : Hid (((w.alloc (.cells #[.slice A LS.length c, .slice Ae ne ce] 78)).alloc (.cells #[.slice none 0 0, .slice none 0 0] 78)).heap[w.heap.size + 1]? = some (.cells #[.slice none 0 0, .slice none 0 0] 78 (0, 0))) := Lib.hid (by have h1 := heap_new (w.alloc (.cells #[.slice A LS.length c, .slice Ae ne ce] 78)) (.cells #[.slice none 0 0, .slice none 0 0] 78); simpa using h1)
  clear hl hev hnow cnow hes hd
  go_enter Tryd.func54, Tryd.ntmps54
  go_wp2_with fail
  refine (CN.out _ HB2.out).mono ?_
  rintro e w2 ⟨rfl, hb⟩
  have B2 := Lib.hid (below_call HB2.out hb)
  have HS3 := Lib.hid (heap_call HS2.out hb)
  have HR3 := Lib.hid (heap_call HR2.out hb)
  have HLW2 := Lib.hid (heap_lt HR3.out)
  clear hb HS2 HR2 HB2
  have x0 := cell_of HS3.out 0
  have x1 := cell_of HS3.out 1
  have y0 := cell_of HR3.out 0
  have y1 := cell_of HR3.out 1
  have y2 := frozen_of HR3.out 0
  have y3 := frozen_of HR3.out 1
  go_wp2_with fail
  have hrf := heap_set (heap_set HR3.out 0 (.slice A LS.length c)) 1 (.slice Ae ne ce)
  have rc0 : World.cell? _ ⟨w.heap.size + 1, 0, none⟩ = some (.slice A LS.length c) := cell_of hrf 0
  have rc1 : World.cell? _ ⟨w.heap.size + 1, 1, none⟩ = some (.slice Ae ne ce) := cell_of hrf 1
  refine bodyPost_ret (v := .tuple #[.agg #[.slice A LS.length c, .slice Ae ne ce], .int .i64 0]) (by simp [results, Tryd.results54, go_sem, rc0, rc1]) rfl ?_
  have hbf := below_set (below_set B2.out (p := ⟨w.heap.size + 1, 0, none⟩) (by show w.heap.size ≤ w.heap.size + 1; omega) (.slice A LS.length c)) (p := ⟨w.heap.size + 1, 1, none⟩) (by show w.heap.size ≤ w.heap.size + 1; omega) (.slice Ae ne ce)
  exact ⟨_, _, _, rfl, (H0.out.call hbf).mono (fun b h => Or.inl h), hbf⟩
set_option maxHeartbeats 4000000 in
set_option maxRecDepth 100000 in
theorem ref3_narrow_same (P : Nat → Prop) (v : Value) (LS : List (List (List Int))) (es : List (Int × Int)) (lv ev sd : Value) (d : List Int) (L : List (List Int)) (i : Nat) (w : World) (h : R3 P w v LS es lv ev) (hL : LS.getD (LS.length - 1) [] = L) (h0 : 0 < LS.length) (hP : ∀ b, P b → b < w.heap.size) (hd : Rd w sd d) (hi : i < L.length) (hlen : ∀ l ∈ L, l.length < 100000000000) (hc : Dm.chg (L.getD i []) ((L.getD i []).filter fun u => decide (u ∈ d)) = 0) :
    Calls Tryd.prog 54 #[v, .int .i64 i, sd] w (R3C P LS es 0 w) := by
  obtain ⟨snow, hnow, cnow⟩ := ref3_now P v LS es lv ev w h h0
  rw [hL] at hnow
  clear hL
  have HNOW := Lib.hid hnow
  have hlb := hnow.big
  obtain ⟨An, cn, rfl⟩ := hnow.len
  have CN := Lib.hid cnow
  have H0 := Lib.hid h
  obtain ⟨rfl, hl, hev⟩ := h
  have HL := Lib.hid hl
  have HEV := Lib.hid hev
  obtain ⟨A, c, rfl⟩ := hl.len
  obtain ⟨Ae, ce, rfl⟩ := hev.len
  generalize hes : es.length = ne at *
  have HES := Lib.hid hes
  have HD := Lib.hid hd
  have HB2 : Hid (Below w.heap.size w ((w.alloc (.cells #[.slice A LS.length c, .slice Ae ne ce] 78)).alloc (.cells #[.slice none 0 0, .slice none 0 0] 78))) := Lib.hid (below_alloc (below_alloc (Below.refl _ _) _) _)
  have HS2 : Hid (((w.alloc (.cells #[.slice A LS.length c, .slice Ae ne ce] 78)).alloc (.cells #[.slice none 0 0, .slice none 0 0] 78)).heap[w.heap.size]? = some (.cells #[.slice A LS.length c, .slice Ae ne ce] 78 (0, 0))) := Lib.hid (heap_alloc (heap_new w _) _)
  have HR2 : Hid (((w.alloc (.cells #[.slice A LS.length c, .slice Ae ne ce] 78)).alloc (.cells #[.slice none 0 0, .slice none 0 0] 78)).heap[w.heap.size + 1]? = some (.cells #[.slice none 0 0, .slice none 0 0] 78 (0, 0))) := Lib.hid (by have h1 := heap_new (w.alloc (.cells #[.slice A LS.length c, .slice Ae ne ce] 78)) (.cells #[.slice none 0 0, .slice none 0 0] 78); simpa using h1)
  clear hl hev hnow cnow hes hd
  have HLN := Lib.hid (show (L.getD i []).length < 17000000000000 from by rw [List.getD_eq_getElem?_getD, List.getElem?_eq_getElem hi]; have := hlen _ (List.getElem_mem hi); show L[i].length < _; omega)
  have HC0 := Lib.hid hc
  clear hlen hc
  go_enter Tryd.func54, Tryd.ntmps54
  go_wp2_with fail
  refine (CN.out _ HB2.out).mono ?_
  rintro e w2 ⟨rfl, hb⟩
  have B2 := Lib.hid (below_call HB2.out hb)
  have HS3 := Lib.hid (heap_call HS2.out hb)
  have HR3 := Lib.hid (heap_call HR2.out hb)
  have HLW2 := Lib.hid (heap_lt HR3.out)
  clear hb HS2 HR2 HB2
  have x0 := cell_of HS3.out 0
  have x1 := cell_of HS3.out 1
  have y0 := cell_of HR3.out 0
  have y1 := cell_of HR3.out 1
  have y2 := frozen_of HR3.out 0
  have y3 := frozen_of HR3.out 1
  have hiL : (i : Int) < (L.length : Int) := by omega
  obtain ⟨bn, on, vi, e, hci, hrd, hpi⟩ := HNOW.out.at B2.out i hi
  cases e
  have HRI := Lib.hid hrd
  have CK := Lib.hid (ref_keep4_rd vi sd (L.getD i []) d 0 w2 hrd (HD.out.call B2.out) HLN.out)
  rw [show ((L.getD i []).filter (Rf.stays 4 0 d)) = (L.getD i []).filter (fun u => decide (u ∈ d)) from rfl] at CK
  generalize hx : (L.getD i []).filter (fun u => decide (u ∈ d)) = x at *
  generalize hli : L.getD i [] = li at *
  generalize hch : Dm.chg li x = ch at *
  have HX := Lib.hid hx
  have HLI := Lib.hid hli
  have HCH := Lib.hid hch
  have CK2 : Hid (Calls Tryd.prog 102 #[vi, .int .i64 4, .int .i64 0, sd] w2 fun e w' => ∃ so, e = .returned (.tuple #[so, .int .i64 ch]) ∧ Ow w' w2.heap.size so x ∧ Below w2.heap.size w2 w') := by
    have h1 := CK.out
    unfold Rf.Kp at h1
    rw [HCH.out] at h1
    exact Lib.hid h1
  clear hx hli hch hrd CK hpi
  go_wp2_with fail
  refine CK2.out.mono ?_
  rintro e w3 ⟨so, rfl, how, hb⟩
  have HOW := Lib.hid how
  obtain ⟨Ao, co, rfl⟩ := how.sl.len
  have B3 := Lib.hid (below_call B2.out hb)
  have B32 := Lib.hid hb
  have HS4 := Lib.hid (heap_call HS3.out hb)
  have HR4 := Lib.hid (heap_call HR3.out hb)
  clear hb how HS3 HR3 x0 x1 y0 y1 y2 y3 hci
  have x0 := cell_of HS4.out 0
  have x1 := cell_of HS4.out 1
  have y0 := cell_of HR4.out 0
  have y1 := cell_of HR4.out 1
  have y2 := frozen_of HR4.out 0
  have y3 := frozen_of HR4.out 1
  have hc0 : (ch == 0) = true := by rw [HC0.out]; rfl
  go_wp2_with fail
  have hrf := heap_set (heap_set HR4.out 0 (.slice A LS.length c)) 1 (.slice Ae ne ce)
  have rc0 : World.cell? _ ⟨w.heap.size + 1, 0, none⟩ = some (.slice A LS.length c) := cell_of hrf 0
  have rc1 : World.cell? _ ⟨w.heap.size + 1, 1, none⟩ = some (.slice Ae ne ce) := cell_of hrf 1
  refine bodyPost_ret (v := .tuple #[.agg #[.slice A LS.length c, .slice Ae ne ce], .int .i64 0]) (by simp [results, Tryd.results54, go_sem, rc0, rc1]) rfl ?_
  have hbf := below_set (below_set B3.out (p := ⟨w.heap.size + 1, 0, none⟩) (by show w.heap.size ≤ w.heap.size + 1; omega) (.slice A LS.length c)) (p := ⟨w.heap.size + 1, 1, none⟩) (by show w.heap.size ≤ w.heap.size + 1; omega) (.slice Ae ne ce)
  exact ⟨_, _, _, rfl, (H0.out.call hbf).mono (fun b h => Or.inl h), hbf⟩
end Go.Proofs.YtdbjljbkneopcaaDoor
/- The reference's Narrow walked: a domain gets less. -/
namespace Go.Proofs.YtdbjljbkneopcaaDoor
open Go.RowKit
set_option linter.unusedSimpArgs false
set_option linter.unusedVariables false
set_option maxHeartbeats 4000000 in
set_option maxRecDepth 100000 in
theorem ref3_narrow_chg (P : Nat → Prop) (v : Value) (LS : List (List (List Int))) (es : List (Int × Int)) (lv ev sd : Value) (d : List Int) (L : List (List Int)) (i : Nat) (w : World) (h : R3 P w v LS es lv ev) (hL : LS.getD (LS.length - 1) [] = L) (h0 : 0 < LS.length) (hP : ∀ b, P b → b < w.heap.size) (hd : Rd w sd d) (hi : i < L.length) (hlen : ∀ l ∈ L, l.length < 100000000000) (hLl : L.length < 100000000000) (hLS : LS.length < 100000000000) (hEs : es.length < 100000000000) (x : List Int) (ch : Int) (hx : (L.getD i []).filter (fun u => decide (u ∈ d)) = x) (hch : Dm.chg (L.getD i []) x = ch) (hc : ch ≠ 0) :
    Calls Tryd.prog 54 #[v, .int .i64 i, sd] w (R3C P (LS.take (LS.length - 1) ++ [L.set i x]) (es ++ [((i : Int), ch)]) ch w) := by
  obtain ⟨snow, hnow, cnow⟩ := ref3_now P v LS es lv ev w h h0
  rw [hL] at hnow
  clear hL
  have HNOW := Lib.hid hnow
  have hlb := hnow.big
  obtain ⟨An, cn, rfl⟩ := hnow.len
  have CN := Lib.hid cnow
  have H0 := Lib.hid h
  obtain ⟨rfl, hl, hev⟩ := h
  have HL := Lib.hid hl
  have HEV := Lib.hid hev
  obtain ⟨A, c, rfl⟩ := hl.len
  obtain ⟨Ae, ce, rfl⟩ := hev.len
  generalize hes : es.length = ne at *
  have HES := Lib.hid hes
  have HD := Lib.hid hd
  have HB2 : Hid (Below w.heap.size w ((w.alloc (.cells #[.slice A LS.length c, .slice Ae ne ce] 78)).alloc (.cells #[.slice none 0 0, .slice none 0 0] 78))) := Lib.hid (below_alloc (below_alloc (Below.refl _ _) _) _)
  have HS2 : Hid (((w.alloc (.cells #[.slice A LS.length c, .slice Ae ne ce] 78)).alloc (.cells #[.slice none 0 0, .slice none 0 0] 78)).heap[w.heap.size]? = some (.cells #[.slice A LS.length c, .slice Ae ne ce] 78 (0, 0))) := Lib.hid (heap_alloc (heap_new w _) _)
  have HR2 : Hid (((w.alloc (.cells #[.slice A LS.length c, .slice Ae ne ce] 78)).alloc (.cells #[.slice none 0 0, .slice none 0 0] 78)).heap[w.heap.size + 1]? = some (.cells #[.slice none 0 0, .slice none 0 0] 78 (0, 0))) := Lib.hid (by have h1 := heap_new (w.alloc (.cells #[.slice A LS.length c, .slice Ae ne ce] 78)) (.cells #[.slice none 0 0, .slice none 0 0] 78); simpa using h1)
  clear hl hev hnow cnow hes hd
  have HLN := Lib.hid (show (L.getD i []).length < 17000000000000 from by rw [List.getD_eq_getElem?_getD, List.getElem?_eq_getElem hi]; have := hlen _ (List.getElem_mem hi); show L[i].length < _; omega)
  have HC0 := Lib.hid hc
  have HX := Lib.hid hx
  have HCH := Lib.hid hch
  clear hlen hc hx hch
  go_enter Tryd.func54, Tryd.ntmps54
  go_wp2_with fail
  refine (CN.out _ HB2.out).mono ?_
  rintro e w2 ⟨rfl, hb⟩
  have B2 := Lib.hid (below_call HB2.out hb)
  have HS3 := Lib.hid (heap_call HS2.out hb)
  have HR3 := Lib.hid (heap_call HR2.out hb)
  have HLW2 := Lib.hid (heap_lt HR3.out)
  clear hb HS2 HR2 HB2
  have x0 := cell_of HS3.out 0
  have x1 := cell_of HS3.out 1
  have y0 := cell_of HR3.out 0
  have y1 := cell_of HR3.out 1
  have y2 := frozen_of HR3.out 0
  have y3 := frozen_of HR3.out 1
  have hiL : (i : Int) < (L.length : Int) := by omega
  obtain ⟨bn, on, vi, e, hci, hrd, hpi⟩ := HNOW.out.at B2.out i hi
  cases e
  have HRI := Lib.hid hrd
  have CK := Lib.hid (ref_keep4_rd vi sd (L.getD i []) d 0 w2 hrd (HD.out.call B2.out) HLN.out)
  rw [show ((L.getD i []).filter (Rf.stays 4 0 d)) = (L.getD i []).filter (fun u => decide (u ∈ d)) from rfl] at CK
  rw [HX.out] at CK
  generalize hli : L.getD i [] = li at *
  have HLI := Lib.hid hli
  have CK2 : Hid (Calls Tryd.prog 102 #[vi, .int .i64 4, .int .i64 0, sd] w2 fun e w' => ∃ so, e = .returned (.tuple #[so, .int .i64 ch]) ∧ Ow w' w2.heap.size so x ∧ Below w2.heap.size w2 w') := by
    have h1 := CK.out
    unfold Rf.Kp at h1
    rw [HCH.out] at h1
    exact Lib.hid h1
  clear hli hrd CK hpi
  go_wp2_with fail
  refine CK2.out.mono ?_
  rintro e w3 ⟨so, rfl, how, hb⟩
  have HOW := Lib.hid how
  obtain ⟨Ao, co, rfl⟩ := how.sl.len
  have B3 := Lib.hid (below_call B2.out hb)
  have B32 := Lib.hid hb
  have HS4 := Lib.hid (heap_call HS3.out hb)
  have HR4 := Lib.hid (heap_call HR3.out hb)
  clear hb how HS3 HR3 x0 x1 y0 y1 y2 y3 hci
  have x0 := cell_of HS4.out 0
  have x1 := cell_of HS4.out 1
  have y0 := cell_of HR4.out 0
  have y1 := cell_of HR4.out 1
  have y2 := frozen_of HR4.out 0
  have y3 := frozen_of HR4.out 1
  have hc0 : (ch == 0) = false := beq_eq_false_iff_ne.2 HC0.out
  have NR : Hid (∀ w', Below w3.heap.size w3 w' → Rr (Or2 P w2 w3) w' (.slice (some ⟨bn, on, none⟩) L.length cn) L) := Lib.hid fun w' hb => (HNOW.out.call (below_call B3.out hb)).mono (fun b h => Or.inl h)
  have EO : Hid (E3i (Or2 P w2 w3) w3 [.slice Ao x.length co] x) := Lib.hid ⟨_, rfl, HOW.out.sl.rd, fun b hb => Or.inr ⟨HOW.out.own b hb, HOW.out.sl.lt hb⟩⟩
  have I1 : Hid (Gw w3.heap.size 22 1 (fun _ => E3i (Or2 P w2 w3) w3) [] w3 (.slice none 0 0) [] ((L.set i x).take 0)) := Lib.hid (Gw.nil _ _ _ _ _ _)
  have hset : Hid ((L.set i x).length = L.length) := Lib.hid List.length_set
  clear y0 y1 y2 y3 x0 x1
  go_wp2_with fail
  go_loopg [11, 12] L.length (fun k s11 s12 wr => ∃ (j : Nat) (us : List (List Value)), s12 = .int .i64 j ∧ k + j = L.length ∧ Gw w3.heap.size 22 1 (fun _ => E3i (Or2 P w2 w3) w3) [] wr s11 us ((L.set i x).take j) ∧ Hid (Below w3.heap.size w3 wr))
  case atStart => exact ⟨0, [], rfl, by omega, I1.out, Lib.hid (Below.refl _ _)⟩
  case round =>
    obtain ⟨j, us, rfl, hj, hg, hbw⟩ := hrel
    have HG := Lib.hid hg
    rcases Nat.lt_or_ge j L.length with hk | hk
    · have TS := Lib.hid (take_snocD (L.set i x) [] j (by rw [hset.out]; exact hk))
      have hml : Hid (((L.set i x).take j).length = j) := Lib.hid (by rw [List.length_take, hset.out]; omega)
      have hsl := hg.sl
      rw [hml.out] at hsl
      have HSL := Lib.hid hsl
      have hjL : (j : Int) < (L.length : Int) := by omega
      clear hg hsl
      by_cases hji : j = i
      · have hjb : ((j : Int) == (i : Int)) = true := beq_iff_eq.2 (by omega)
        have EQ : Hid ((L.set i x).getD j [] = x) := Lib.hid (by rw [hji, List.getD_eq_getElem?_getD, List.getElem?_set_self hi]; rfl)
        clear hji
        go_wp2_with (at_builtin; refine wpList_append_elx wr rfl _ _ 39 22 1 24 (.slice none 0 0) #[.slice Ao x.length co] rfl Tryd.underlying39 infoInts rfl (by decide) rfl (by intro u hu; simp at hu; subst hu; rfl) _ j us.flatten rfl HSL.out _ rfl rfl (by omega) (by decide) ?_; intro b5 f5 c5 w5 ha; have HA := Lib.hid ha; clear ha)
        have F := Lib.hid (HG.out.app hbw.out.size (by rw [hml.out]; exact HA.out) rfl (fun _ _ h => h) EO.out)
        have BF := Lib.hid (HA.out.below hbw.out HG.out.own)
        go_roundg (gk - 1)
        case measure => omega
        case rel => exact ⟨j + 1, _, by go_num, by omega, by rw [TS.out, EQ.out]; exact F.out, BF⟩
      · have hjb : ((j : Int) == (i : Int)) = false := beq_eq_false_iff_ne.2 (by omega)
        have EQ : Hid ((L.set i x).getD j [] = L.getD j []) := Lib.hid (by rw [List.getD_eq_getElem?_getD, List.getElem?_set, if_neg (fun e => hji e.symm), List.getD_eq_getElem?_getD])
        obtain ⟨b', o', v, e, hcv, _, _⟩ := (NR.out _ hbw.out).at (Below.refl _ _) j hk
        obtain ⟨b2', o2', v', e', hcv3, hrd3, hp3⟩ := (NR.out _ (Below.refl _ _)).at (Below.refl _ _) j hk
        cases e
        cases e'
        have hvv : v = v' := by
          have h1 : wr.cell? ⟨bn, on + j, none⟩ = w3.cell? ⟨bn, on + j, none⟩ := (bcell hbw.out).1 bn _ (Rr.blk3 hcv3)
          rw [h1, hcv3] at hcv
          exact (Option.some.inj hcv).symm
        subst hvv
        have EJ : Hid (E3i (Or2 P w2 w3) w3 [v] (L.getD j [])) := Lib.hid ⟨v, rfl, hrd3, hp3⟩
        obtain ⟨Av, cv, rfl⟩ := hrd3.len
        clear hji hcv3 hrd3 hp3
        generalize L.getD j [] = y at *
        go_wp2_with (at_builtin; refine wpList_append_elx wr rfl _ _ 39 22 1 24 (.slice none 0 0) #[.slice Av y.length cv] rfl Tryd.underlying39 infoInts rfl (by decide) rfl (by intro u hu; simp at hu; subst hu; rfl) _ j us.flatten rfl HSL.out _ rfl rfl (by omega) (by decide) ?_; intro b5 f5 c5 w5 ha; have HA := Lib.hid ha; clear ha)
        have F := Lib.hid (HG.out.app hbw.out.size (by rw [hml.out]; exact HA.out) rfl (fun _ _ h => h) EJ.out)
        have BF := Lib.hid (HA.out.below hbw.out HG.out.own)
        go_roundg (gk - 1)
        case measure => omega
        case rel => exact ⟨j + 1, _, by go_num, by omega, by rw [TS.out, EQ.out]; exact F.out, BF⟩
    · have hje : j = L.length := by omega
      subst hje
      have htk : (L.set i x).take L.length = L.set i x := List.take_of_length_le (by rw [hset.out]; exact Nat.le_refl _)
      rw [htk] at HG
      obtain ⟨Ax, cx, hsx⟩ : ∃ Ax cx, u11 = .slice Ax L.length cx := by
        obtain ⟨Ax, cx, e⟩ := HG.out.sl.len
        rw [hset.out] at e
        exact ⟨Ax, cx, e⟩
      subst hsx
      have HW := Lib.hid (below_call B3.out hbw.out)
      have NX : Hid (Rr (Or2 P w2 wr) wr (.slice Ax L.length cx) (L.set i x)) := Lib.hid (Gl.rr ((HG.out.gl (Or2 P w2 wr) (fun b hb => Or.inr ⟨Nat.le_trans B32.out.size (HG.out.own b hb), HG.out.sl.lt hb⟩)).mono (fun b h => h) (fun vs l hE => by obtain ⟨v, e, h1, h2⟩ := hE; exact ⟨v, e, h1.call hbw.out, fun b hb => (h2 b hb).imp id (fun e => ⟨e.1, Nat.lt_of_lt_of_le e.2 hbw.out.size⟩)⟩)))
      have HS5 := Lib.hid (heap_call HS4.out hbw.out)
      have HR5 := Lib.hid (heap_call HR4.out hbw.out)
      have HLN4 : Hid (Gl (Or2 P w2 wr) 1 (E3r (Or2 P w2 wr)) [] wr (.slice A LS.length c) LS) := Lib.hid ((HL.out.call HW.out (E3r.call HW.out)).mono (fun b h => Or.inl h) (E3r.mono (fun b h => Or.inl h)))
      have HEN4 : Hid (Gl (Or2 P w2 wr) 2 E3e (0, 0) wr (.slice Ae ne ce) es) := Lib.hid ((HEV.out.call HW.out (fun _ _ h => h)).mono (fun b h => Or.inl h) (fun _ _ h => h))
      clear hg htk HG I1 EO NR HS4 HR4
      obtain ⟨w4, rfl⟩ : ∃ w4 : World, w4 = wr := ⟨_, rfl⟩
      have hbt : w.heap.size + 1 < w4.heap.size := heap_lt HR5.out
      have hn1 : (LS.length : Int) - 1 = ((LS.length - 1 : Nat) : Int) := by omega
      have HB0 := Lib.hid (below_alloc (Below.refl w4.heap.size w4) (.cells #[.slice none 0 0, .slice none 0 0] 78))
      have HS := Lib.hid (heap_alloc HS5.out (.cells #[.slice none 0 0, .slice none 0 0] 78))
      have H3 := Lib.hid (heap_new w4 (.cells #[.slice none 0 0, .slice none 0 0] 78))
      have HSZ : Hid ((w4.alloc (.cells #[.slice none 0 0, .slice none 0 0] 78)).heap.size = w4.heap.size + 1) := Lib.hid (by simp)
      go_wp2_with fail
      obtain ⟨bt, hbte⟩ : ∃ b, b = w4.heap.size := ⟨_, rfl⟩
      have HBT := Lib.hid hbte
      generalize w4.alloc (.cells #[.slice none 0 0, .slice none 0 0] 78) = W0 at HB0 HS H3 HSZ ⊢
      have I0 : Hid (R3L (Or2 P w2 w4) w4 W0 W0 w4.heap.size (.slice none 0 0) (.slice none 0 0) (LS.take 0)) := Lib.hid ⟨H3.out, ⟨[], Gw.nil _ _ _ _ _ _⟩, Fr.refl _ _, by rw [HSZ.out]; omega, HB0.out, Nat.le_refl _⟩
      clear hbte
      obtain ⟨gko, rfl⟩ : ∃ g : Nat, g = gk := ⟨_, rfl⟩
      go_loopg [14] (LS.length - 1) (fun k s14 wr => ∃ (j : Nat) (sv : Value), s14 = .int .i64 j ∧ k + j = (LS.length - 1) ∧ R3L (Or2 P w2 w4) w4 W0 wr (w4.heap.size) sv (.slice none 0 0) (LS.take j))
      case atStart => exact ⟨0, _, rfl, by omega, I0.out⟩
      case round =>
        obtain ⟨j, sv, rfl, hj, hinv⟩ := hrel
        have H := Lib.hid hinv
        clear hinv
        rcases Nat.lt_or_ge j (LS.length - 1) with hk | hk
        · obtain ⟨b, o, vs, e, hb, _, h1, h2, v, rfl, hr⟩ := HLN4.out.at j (by omega)
          cases e
          obtain ⟨Av, cv, rfl⟩ := hr.len
          have hc := h2 0 (by decide)
          rw [Nat.mul_one, Nat.add_zero] at hc
          have hcr : wr.cell? ⟨b, o + j, none⟩ = some (.slice Av (LS.getD j []).length cv) := by rw [(bcell H.out.bel).1 b _ hb]; exact hc
          have hcra : ∀ o', (wr.alloc o').cell? ⟨b, o + j, none⟩ = some (.slice Av (LS.getD j []).length cv) := fun o' => by rw [(bcell (below_alloc H.out.bel o')).1 b _ hb]; exact hc
          have TS := Lib.hid (take_snocD LS [] j (by omega))
          have hml : Hid ((LS.take j).length = j) := Lib.hid (by rw [List.length_take]; omega)
          have HR := Lib.hid hr
          have hbx := H.out.box
          have y0 := cell_of hbx 0
          have y0a : ∀ o', (wr.alloc o').cell? ⟨w4.heap.size, 0, none⟩ = some sv := fun o' => cell_of (heap_alloc hbx o') 0
          have hsx : wr.heap[w.heap.size]? = some (.cells #[.slice (some ⟨b, o, none⟩) LS.length c, .slice Ae ne ce] 78 (0, 0)) := H.out.fr.heap HS.out (by omega)
          have x0 := cell_of hsx 0
          have x0a : ∀ o', (wr.alloc o').cell? ⟨w.heap.size, 0, none⟩ = some (.slice (some ⟨b, o, none⟩) LS.length c) := fun o' => cell_of (heap_alloc hsx o') 0
          obtain ⟨us, hg⟩ := H.out.us
          have hsl := hg.sl
          rw [hml.out] at hsl
          have HG := Lib.hid hsl
          have HX := Lib.hid hbx
          have HGW := Lib.hid hg
          have hjl : (j : Int) < (LS.length : Int) := by omega
          have hsvn : ∀ b', sv.ownBlock = some b' → W0.heap.size ≤ b' := hg.own
          have HSV := Lib.hid hsvn
          have HLT := Lib.hid H.out.lt
          generalize (LS.getD j []) = Lj at *
          generalize hmm : LS.take j = M at *
          clear hr hbx h1 h2 hc hsx hg hsl hsvn hmm
          go_wp2_with fail
          go_region_law (first
            | (refine step_append_el wr _ rfl _ _ 75 39 1 24 (.slice none 0 0) #[.slice Av Lj.length cv] rfl Tryd.underlying75 infoRows rfl (by decide) rfl (by intro u hu; simp at hu; subst hu; rfl) sv j us.flatten rfl HG.out (by first | exact (below_alloc (Below.refl _ _) _).drew | exact below_alloc (Below.refl _ _) _ | exact below_alloc (Below.refl _ _).drew _) wr.heap.size rfl (by first | exact heap_drew (heap_new wr _) | exact heap_new wr _ | exact heap_new wr.drew _) (by omega) (by decide) ?_; intro b2 f2 c2 w2 ha; have hb2 := ha.fr.heap HX.out (fun e => by have := HSV.out _ e; have := HLT.out; omega); have z0 := cell_of hb2 0; have z1 := frozen_of hb2 0; have HA := Lib.hid ha; clear ha hb2))
          all_goals
            have F := Lib.hid (H.out.app HR.out HGW.out (by rw [hml.out]; exact HA.out))
            clear z0 z1 y0 y0a x0 x0a hcr hcra
            go_wp2_with fail
            go_roundg (gk - 1)
            case measure => omega
            case rel => exact ⟨j + 1, _, by go_num, by omega, by rw [TS.out]; exact F.out⟩
        · have hje : j = (LS.length - 1) := by omega
          subst hje
          have hbx := H.out.box
          have y0 := cell_of hbx 0
          have hsx : wr.heap[w.heap.size]? = some (.cells #[.slice A LS.length c, .slice Ae ne ce] 78 (0, 0)) := H.out.fr.heap HS.out (by omega)
          have x0 := cell_of hsx 0
          clear hsx
          obtain ⟨us2, hg2⟩ := H.out.us
          have hml : Hid ((LS.take (LS.length - 1)).length = LS.length - 1) := Lib.hid (by rw [List.length_take]; omega)
          have HG2 := Lib.hid hg2
          have hsl := hg2.sl
          rw [hml.out] at hsl
          have HSL := Lib.hid hsl
          have HX := Lib.hid hbx
          have HLT := Lib.hid H.out.lt
          clear hbx hg2 hsl
          go_wp2_with (at_builtin; refine wpList_append_elx wr rfl _ _ 75 39 1 24 (.slice none 0 0) #[.slice Ax L.length cx] rfl Tryd.underlying75 infoRows rfl (by decide) rfl (by intro u hu; simp at hu; subst hu; rfl) sv (LS.length - 1) us2.flatten rfl HSL.out _ rfl rfl (by omega) (by decide) ?_; intro b6 f6 c6 w6 ha; have hb6 := ha.fr.heap HX.out (fun e => by have := HG2.out.own _ e; have := HLT.out; omega); have z0 := cell_of hb6 0; have z1 := frozen_of hb6 0; have HA := Lib.hid ha; clear ha hb6)
          have NX2 : Hid (Rr (Or2 P w2 w4) w4 (.slice Ax (L.set i x).length cx) (L.set i x)) := Lib.hid (by rw [hset.out]; exact NX.out)
          have F := Lib.hid ((H.out.app NX2.out HG2.out (by rw [hml.out, hset.out]; exact HA.out)).events)
          clear z0 z1 y0 x0
          generalize w6.setCell ⟨w4.heap.size, 0, none⟩ (.slice (some ⟨b6, f6, none⟩) (LS.length - 1 + 1) c6) = w7 at F ⊢
          have I2 : Hid (R3F (Or2 P w2 w4) w4 W0 w7 w4.heap.size (.slice (some ⟨b6, f6, none⟩) (LS.length - 1 + 1) c6) (.slice none 0 0) (LS.take (LS.length - 1) ++ [L.set i x]) (es.take 0)) := F
          clear HG2 HSL HX H
          go_wp2_with fail
          go_loopg [15] ne (fun k s15 wr => ∃ (j : Nat) (sv : Value), s15 = .int .i64 j ∧ k + j = ne ∧ R3F (Or2 P w2 w4) w4 W0 wr w4.heap.size (.slice (some ⟨b6, f6, none⟩) (LS.length - 1 + 1) c6) sv (LS.take (LS.length - 1) ++ [L.set i x]) (es.take j))
          case atStart => exact ⟨0, _, rfl, by omega, I2.out⟩
          case round =>
            obtain ⟨j, sv2, rfl, hj2, hinv⟩ := hrel
            have H := Lib.hid hinv
            clear hinv
            rcases Nat.lt_or_ge j ne with hk | hk
            · have hjes : j < es.length := by rw [HES.out]; exact hk
              obtain ⟨b, o, vs, e, hb, _, h1, h2, hr⟩ := HEN4.out.at j hjes
              cases e
              have hq0 := h2 0 (by decide)
              have hq1 := h2 1 (by decide)
              rw [hr] at hq0 hq1
              rw [Nat.add_zero] at hq0
              obtain ⟨ex, hex⟩ : ∃ z, z = (es.getD j (0, 0)).1 := ⟨_, rfl⟩
              obtain ⟨ey, hey⟩ : ∃ z, z = (es.getD j (0, 0)).2 := ⟨_, rfl⟩
              rw [← hex, ← hey] at hq0 hq1
              have hc0 : wr.cell? ⟨b, o + j * 2, none⟩ = some (.int .i64 ex) := by rw [(bcell H.out.bel).1 b _ hb]; exact hq0
              have hc1 : wr.cell? ⟨b, o + j * 2 + 1, none⟩ = some (.int .i64 ey) := by rw [(bcell H.out.bel).1 b _ hb]; exact hq1
              have hc0a : ∀ o', (wr.alloc o').cell? ⟨b, o + j * 2, none⟩ = some (.int .i64 ex) := fun o' => by rw [(bcell (below_alloc H.out.bel o')).1 b _ hb]; exact hq0
              have hc1a : ∀ o', (wr.alloc o').cell? ⟨b, o + j * 2 + 1, none⟩ = some (.int .i64 ey) := fun o' => by rw [(bcell (below_alloc H.out.bel o')).1 b _ hb]; exact hq1
              have TS : Hid (es.take (j + 1) = es.take j ++ [(ex, ey)]) := Lib.hid (by rw [take_snocD es (0, 0) j hjes, hex, hey])
              have hml : Hid ((es.take j).length = j) := Lib.hid (by rw [List.length_take]; omega)
              have hbx := H.out.box
              have y1 := cell_of hbx 1
              have y1a : ∀ o', (wr.alloc o').cell? ⟨w4.heap.size, 1, none⟩ = some sv2 := fun o' => cell_of (heap_alloc hbx o') 1
              have hsx : wr.heap[w.heap.size]? = some (.cells #[.slice A LS.length c, .slice (some ⟨b, o, none⟩) ne ce] 78 (0, 0)) := H.out.fr.heap HS.out (by omega)
              have x1 := cell_of hsx 1
              have x1a : ∀ o', (wr.alloc o').cell? ⟨w.heap.size, 1, none⟩ = some (.slice (some ⟨b, o, none⟩) ne ce) := fun o' => cell_of (heap_alloc hsx o') 1
              obtain ⟨us3, hg⟩ := H.out.evs
              have hsl := hg.sl
              rw [hml.out] at hsl
              have HG := Lib.hid hsl
              have HX := Lib.hid hbx
              have HGW := Lib.hid hg
              have hjl : (j : Int) < (ne : Int) := by omega
              have HSV := Lib.hid hg.own
              have HLT2 := Lib.hid H.out.lt
              have hne6 : ne < 100000000000 := hEs
              clear hr hbx h1 h2 hq0 hq1 hsx hg hsl hex hey
              go_wp2_with fail
              go_region_law (first
                | (refine step_append_el wr _ rfl _ _ 76 159 2 16 (.agg #[.int .i64 0, .int .i64 0]) #[.int .i64 ex, .int .i64 ey] rfl Tryd.underlying76 infoEv3 rfl (by decide) rfl (by intro u hu; simp at hu; rcases hu with rfl | rfl <;> rfl) sv2 j us3.flatten rfl HG.out (by first | exact (below_alloc (Below.refl _ _) _).drew | exact below_alloc (Below.refl _ _) _ | exact below_alloc (Below.refl _ _).drew _) wr.heap.size rfl (by first | exact heap_drew (heap_new wr _) | exact heap_new wr _ | exact heap_new wr.drew _) (by omega) (by decide) ?_; intro b8 f8 c8 w8 ha; have hb8 := ha.fr.heap HX.out (fun e => by have := HSV.out _ e; have := HLT2.out; omega); have z0 := cell_of hb8 1; have z1 := frozen_of hb8 1; have HA := Lib.hid ha; clear ha hb8))
              all_goals
                have F := Lib.hid (H.out.app HGW.out (by rw [hml.out]; exact HA.out))
                clear z0 z1 y1 y1a x1 x1a hc0 hc1 hc0a hc1a
                go_wp2_with fail
                go_roundg (gk - 1)
                case measure => omega
                case rel => exact ⟨j + 1, _, by go_num, by omega, by rw [TS.out]; exact F.out⟩
            · have hje : j = ne := by omega
              subst hje
              have htk : es.take j = es := List.take_of_length_le (by rw [HES.out]; exact Nat.le_refl _)
              rw [htk] at H
              clear htk
              have hbx := H.out.box
              have y1 := cell_of hbx 1
              have y0 := cell_of hbx 0
              have hsx : wr.heap[w.heap.size]? = some (.cells #[.slice A LS.length c, .slice Ae j ce] 78 (0, 0)) := H.out.fr.heap HS.out (by omega)
              have x1 := cell_of hsx 1
              clear hsx
              obtain ⟨us3, hg⟩ := H.out.evs
              have hsl := hg.sl
              rw [HES.out] at hsl
              have HG := Lib.hid hsl
              have HGW := Lib.hid hg
              have HX := Lib.hid hbx
              have HLT2 := Lib.hid H.out.lt
              have hne6 : j < 100000000000 := hEs
              have HR6 := Lib.hid (heap_call HR5.out H.out.bel)
              clear hbx hg hsl
              go_wp2_with (at_builtin; refine wpList_append_elx wr rfl _ _ 76 159 2 16 (.agg #[.int .i64 0, .int .i64 0]) #[.int .i64 (i : Int), .int .i64 ch] rfl Tryd.underlying76 infoEv3 rfl (by decide) rfl (by intro u hu; simp at hu; rcases hu with rfl | rfl <;> rfl) sv2 j us3.flatten rfl HG.out _ rfl rfl (by omega) (by decide) ?_; intro b8 f8 c8 w8 ha; have hb8 := ha.fr.heap HX.out (fun e => by have := HGW.out.own _ e; have := HLT2.out; omega); have z0 := cell_of hb8 1; have z1 := frozen_of hb8 1; have z2 := cell_of hb8 0; have HA := Lib.hid ha; have HR7 := Lib.hid (ha.fr.heap HR6.out (fun e => by have := HGW.out.own _ e; have := HLT2.out; omega)); have t0 := cell_of HR7.out 0; have t1 := cell_of HR7.out 1; have t2 := frozen_of HR7.out 0; have t3 := frozen_of HR7.out 1; clear ha hb8)
              have hw2 : w.heap.size + 1 < w2.heap.size := HLW2.out
              have hw24 : w2.heap.size ≤ w4.heap.size := Nat.le_trans B32.out.size hbw.out.size
              have hrf := heap_set (heap_set (heap_far HR7.out (p := ⟨w4.heap.size, 1, none⟩) (show w.heap.size + 1 ≠ w4.heap.size by omega) (.slice (some ⟨b8, f8, none⟩) (j + 1) c8)) 0 (.slice (some ⟨b6, f6, none⟩) (LS.length - 1 + 1) c6)) 1 (.slice (some ⟨b8, f8, none⟩) (j + 1) c8)
              have rc0 : World.cell? _ ⟨w.heap.size + 1, 0, none⟩ = some (.slice (some ⟨b6, f6, none⟩) (LS.length - 1 + 1) c6) := cell_of hrf 0
              have rc1 : World.cell? _ ⟨w.heap.size + 1, 1, none⟩ = some (.slice (some ⟨b8, f8, none⟩) (j + 1) c8) := cell_of hrf 1
              refine bodyPost_ret (v := .tuple #[.agg #[.slice (some ⟨b6, f6, none⟩) (LS.length - 1 + 1) c6, .slice (some ⟨b8, f8, none⟩) (j + 1) c8], .int .i64 ch]) (by simp [results, Tryd.results54, go_sem, rc0, rc1]) rfl ?_
              have QN : ∀ b, Or2 P w2 w4 b → b ≠ w.heap.size + 1 := fun b hb e => by
                rcases hb with hb | hb
                · have := hP b hb; omega
                · omega
              have F := H.out.app HGW.out (x := (i : Int)) (y := ch) (by rw [HES.out]; exact HA.out)
              have G := F.fin (br := w.heap.size + 1) (u0 := .slice (some ⟨b6, f6, none⟩) (LS.length - 1 + 1) c6) (u1 := .slice (some ⟨b8, f8, none⟩) (j + 1) c8) (by omega) QN
              have hbf := below_set (below_set (below_call HW.out F.bel) (p := ⟨w.heap.size + 1, 0, none⟩) (by show w.heap.size ≤ w.heap.size + 1; omega) (.slice (some ⟨b6, f6, none⟩) (LS.length - 1 + 1) c6)) (p := ⟨w.heap.size + 1, 1, none⟩) (by show w.heap.size ≤ w.heap.size + 1; omega) (.slice (some ⟨b8, f8, none⟩) (j + 1) c8)
              have hsz := F.bel.size
              have MO : ∀ (wf : World), wf.heap.size = w8.heap.size → ∀ b, Or2 (Or2 P w2 w4) w4 wf b → Or2 P w wf b := fun wf hwf b hb => by
                have hs1 : (w8.setCell ⟨w4.heap.size, 1, none⟩ (.slice (some ⟨b8, f8, none⟩) (j + 1) c8)).heap.size = w8.heap.size := by simp [World.setCell]
                rw [hs1] at hsz
                rcases hb with (hb | hb) | hb
                · exact Or.inl hb
                · exact Or.inr ⟨by omega, by omega⟩
                · exact Or.inr ⟨by omega, hb.2⟩
              have hwf : (((w8.setCell ⟨w4.heap.size, 1, none⟩ (.slice (some ⟨b8, f8, none⟩) (j + 1) c8)).setCell ⟨w.heap.size + 1, 0, none⟩ (.slice (some ⟨b6, f6, none⟩) (LS.length - 1 + 1) c6)).setCell ⟨w.heap.size + 1, 1, none⟩ (.slice (some ⟨b8, f8, none⟩) (j + 1) c8)).heap.size = w8.heap.size := by simp [World.setCell]
              exact ⟨_, _, _, rfl, ⟨rfl, G.1.mono (MO _ hwf) (E3r.mono (MO _ hwf)), G.2.mono (MO _ hwf) (fun _ _ h => h)⟩, hbf⟩
end Go.Proofs.YtdbjljbkneopcaaDoor
