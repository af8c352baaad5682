/- The reference's Push, Back walked. -/
import Derived.Test.YtdbjljbkneopcaaDoorRef3A
namespace Go.Proofs.YtdbjljbkneopcaaDoor
open Go.RowKit
set_option linter.unusedSimpArgs false
set_option linter.unusedVariables false

/-- While levels are copied into a store of the call's own, whose block is bt. -/
structure R3L (P : Nat → Prop) (w W0 wr : World) (bt : Nat) (sv ev : Value) (M : List (List (List Int))) : Prop where
  box : wr.heap[bt]? = some (.cells #[sv, ev] 78 (0, 0))
  us : ∃ us, Gw W0.heap.size 39 1 (fun _ vs L => E3r P w vs L) [] wr sv us M
  fr : Fr (fun k => k = bt) W0 wr
  lt : bt < W0.heap.size
  below : Below w.heap.size w W0
  le : w.heap.size ≤ bt
theorem R3L.bel {P : Nat → Prop} {w W0 wr : World} {bt : Nat} {sv ev : Value} {M : List (List (List Int))} (h : R3L P w W0 wr bt sv ev M) : Below w.heap.size w wr :=
  Fr.below h.below h.fr (fun i hi => by rw [hi]; exact h.le)
/-- One level more. -/
theorem R3L.app {P : Nat → Prop} {w W0 wr w2 : World} {bt : Nat} {sv sv' ev v : Value} {M : List (List (List Int))} {L : List (List Int)} (h : R3L P w W0 wr bt sv ev M) (hr : Rr P w v L) {us : List (List Value)} (hg : Gw W0.heap.size 39 1 (fun _ vs L => E3r P w vs L) [] wr sv us M) (a : App 39 1 wr sv M.length us.flatten [v] sv' w2) :
    R3L P w W0 (w2.setCell ⟨bt, 0, none⟩ sv') bt sv' ev (M ++ [L]) := by
  have hb2 := a.fr.heap h.box (fun e => by have := hg.own _ e; have := h.lt; omega)
  have hfr : Fr (fun k => k = bt) W0 (w2.setCell ⟨bt, 0, none⟩ sv') := Fr.set (S := fun k => k = bt) (h.fr.trans2 a.fr (fun k hk e => by have := hg.own _ e; omega)) (p := ⟨bt, 0, none⟩) (fun _ => rfl) _
  have g2 := hg.app h.fr.size a rfl (fun _ _ h => h) ⟨v, rfl, hr⟩
  refine ⟨heap_set hb2 0 sv', ⟨_, g2.kept (S := fun k => k = bt) (Fr.set (S := fun k => k = bt) (Fr.refl _ _) (p := ⟨bt, 0, none⟩) (fun _ => rfl) _) (fun b hb e => by have := g2.own b hb; have := h.lt; omega) (fun _ _ h => h)⟩, hfr, h.lt, h.below, h.le⟩
theorem take_snocD {α : Type} (l : List α) (d : α) (j : Nat) (hj : j < l.length) : l.take (j + 1) = l.take j ++ [l.getD j d] := by
  rw [List.take_succ_eq_append_getElem hj, List.getD_eq_getElem?_getD, List.getElem?_eq_getElem hj]
  rfl
theorem R3L.call {P : Nat → Prop} {w W0 wr w' : World} {bt : Nat} {sv ev : Value} {M : List (List (List Int))} (h : R3L P w W0 wr bt sv ev M) (hb : Below wr.heap.size wr w') : R3L P w W0 w' bt sv ev M := by
  obtain ⟨us, hg⟩ := h.us
  exact ⟨heap_call h.box hb, ⟨us, hg.call hb (fun _ _ h => h)⟩, h.fr.trans (Fr.of_below hb), h.lt, h.below, h.le⟩
theorem R3L.lev {P : Nat → Prop} {w W0 wr : World} {bt : Nat} {sv ev : Value} {M : List (List (List Int))} (h : R3L P w W0 wr bt sv ev M) : Gl (Or2 P w wr) 1 (E3r (Or2 P w wr)) [] wr sv M := by
  obtain ⟨us, hg⟩ := h.us
  refine (hg.gl (Or2 P w wr) (fun b hb => Or.inr ⟨Nat.le_trans h.below.size (hg.own b hb), hg.sl.lt hb⟩)).mono (fun b h => h) (fun vs L hE => ?_)
  exact E3r.mono (fun b hb => Or.inl hb) _ _ (E3r.call h.bel _ _ hE)
theorem R3L.fin {P : Nat → Prop} {w W0 wr : World} {bt br : Nat} {sv ev u0 u1 : Value} {M : List (List (List Int))} (h : R3L P w W0 wr bt sv ev M) (h1 : br < W0.heap.size) (h2 : w.heap.size ≤ br) :
    Below w.heap.size w ((wr.setCell ⟨br, 0, none⟩ u0).setCell ⟨br, 1, none⟩ u1) ∧ Gl (Or2 P w ((wr.setCell ⟨br, 0, none⟩ u0).setCell ⟨br, 1, none⟩ u1)) 1 (E3r (Or2 P w ((wr.setCell ⟨br, 0, none⟩ u0).setCell ⟨br, 1, none⟩ u1))) [] ((wr.setCell ⟨br, 0, none⟩ u0).setCell ⟨br, 1, none⟩ u1) sv M := by
  obtain ⟨us, hg⟩ := h.us
  have FR : Fr (fun k => k = br) wr ((wr.setCell ⟨br, 0, none⟩ u0).setCell ⟨br, 1, none⟩ u1) := by
    refine Fr.set (Fr.set (Fr.refl _ _) ?_ _) ?_ _
    all_goals exact fun _ => rfl
  have hb := Fr.below h.bel FR (fun i hi => by rw [hi]; exact h2)
  have hg2 := hg.kept FR (fun b hb e => by have := hg.own b hb; omega) (fun _ _ h => h)
  refine ⟨hb, (hg2.gl (Or2 P w _) (fun b hb => Or.inr ⟨Nat.le_trans h.below.size (hg2.own b hb), hg2.sl.lt hb⟩)).mono (fun b h => h) (fun vs L hE => ?_)⟩
  exact E3r.mono (fun b hb => Or.inl hb) _ _ (E3r.call hb _ _ hE)
theorem R3L.drew {P : Nat → Prop} {w W0 wr : World} {bt : Nat} {sv ev : Value} {M : List (List (List Int))} (h : R3L P w W0 wr bt sv ev M) : R3L P w W0 wr.drew bt sv ev M := by
  obtain ⟨us, hg⟩ := h.us
  exact ⟨h.box, ⟨us, hg.call (Below.refl _ _).drew (fun _ _ h => h)⟩, h.fr.drew, h.lt, h.below, h.le⟩
set_option maxHeartbeats 4000000 in
set_option maxRecDepth 100000 in
theorem ref3_push (P : Nat → Prop) (v : Value) (LS : List (List (List Int))) (es : List (Int × Int)) (lv ev : Value) (w : World) (h : R3 P w v LS es lv ev) (L : List (List Int)) (hL : LS.getD (LS.length - 1) [] = L) (h0 : 0 < LS.length) (hn : LS.length < 100000000000) :
    Calls Tryd.prog 51 #[v] w (R3V P (LS ++ [L]) es w) := by
  obtain ⟨snow, hnow, cnow⟩ := ref3_now P v LS es lv ev w h h0
  rw [hL] at hnow
  clear hL
  have HNOW := Lib.hid hnow
  obtain ⟨An, cn, rfl⟩ := hnow.len
  have CN := Lib.hid cnow
  clear hnow cnow
  have H0 := Lib.hid h
  obtain ⟨rfl, hl, hev⟩ := h
  have HL := Lib.hid hl
  obtain ⟨A, c, rfl⟩ := hl.len
  obtain ⟨Ae, ce, rfl⟩ := hev.len
  generalize hes : es.length = ne at *
  have HB0 : Hid (Below w.heap.size w (((w.alloc (.cells #[.slice A LS.length c, .slice Ae ne ce] 78)).alloc (.cells #[.slice none 0 0, .slice none 0 0] 78)).alloc (.cells #[.slice none 0 0, .slice Ae ne ce] 78))) := Lib.hid (below_alloc (below_alloc (below_alloc (Below.refl _ _) _) _) _)
  have HS : Hid ((((w.alloc (.cells #[.slice A LS.length c, .slice Ae ne ce] 78)).alloc (.cells #[.slice none 0 0, .slice none 0 0] 78)).alloc (.cells #[.slice none 0 0, .slice Ae ne ce] 78)).heap[w.heap.size]? = some (.cells #[.slice A LS.length c, .slice Ae ne ce] 78 (0, 0))) := Lib.hid (heap_alloc (heap_alloc (heap_new w _) _) _)
  have H2 : Hid ((((w.alloc (.cells #[.slice A LS.length c, .slice Ae ne ce] 78)).alloc (.cells #[.slice none 0 0, .slice none 0 0] 78)).alloc (.cells #[.slice none 0 0, .slice Ae ne ce] 78)).heap[w.heap.size + 1]? = some (.cells #[.slice none 0 0, .slice none 0 0] 78 (0, 0))) := Lib.hid (heap_alloc (by have h1 := heap_new (w.alloc (.cells #[.slice A LS.length c, .slice Ae ne ce] 78)) (.cells #[.slice none 0 0, .slice none 0 0] 78); simpa using h1) _)
  have H3 : Hid ((((w.alloc (.cells #[.slice A LS.length c, .slice Ae ne ce] 78)).alloc (.cells #[.slice none 0 0, .slice none 0 0] 78)).alloc (.cells #[.slice none 0 0, .slice Ae ne ce] 78)).heap[w.heap.size + 1 + 1]? = some (.cells #[.slice none 0 0, .slice Ae ne ce] 78 (0, 0))) := Lib.hid (by have h1 := heap_new ((w.alloc (.cells #[.slice A LS.length c, .slice Ae ne ce] 78)).alloc (.cells #[.slice none 0 0, .slice none 0 0] 78)) (.cells #[.slice none 0 0, .slice Ae ne ce] 78); simpa using h1)
  have HSZ : Hid ((((w.alloc (.cells #[.slice A LS.length c, .slice Ae ne ce] 78)).alloc (.cells #[.slice none 0 0, .slice none 0 0] 78)).alloc (.cells #[.slice none 0 0, .slice Ae ne ce] 78)).heap.size = w.heap.size + 3) := Lib.hid (by simp)
  clear hl hev
  go_enter Tryd.func51, Tryd.ntmps51
  go_wp2_with fail
  generalize ((w.alloc (.cells #[.slice A LS.length c, .slice Ae ne ce] 78)).alloc (.cells #[.slice none 0 0, .slice none 0 0] 78)).alloc (.cells #[.slice none 0 0, .slice Ae ne ce] 78) = W0 at HB0 HS H2 H3 HSZ ⊢
  have I0 : Hid (R3L P w W0 W0 (w.heap.size + 1 + 1) (.slice none 0 0) (.slice Ae ne ce) (LS.take 0)) := Lib.hid ⟨H3.out, ⟨[], Gw.nil _ _ _ _ _ _⟩, Fr.refl _ _, by rw [HSZ.out]; omega, HB0.out, by omega⟩
  go_loopg [4] LS.length (fun k s4 wr => ∃ (j : Nat) (sv : Value), s4 = .int .i64 j ∧ k + j = LS.length ∧ R3L P w W0 wr (w.heap.size + 1 + 1) sv (.slice Ae ne ce) (LS.take j))
  case atStart => exact ⟨0, _, rfl, by omega, I0.out⟩
  case round =>
    obtain ⟨j, sv, rfl, hj, hinv⟩ := hrel
    have H := Lib.hid hinv
    clear hinv
    rcases Nat.lt_or_ge j LS.length with hk | hk
    · obtain ⟨b, o, vs, e, hb, _, h1, h2, v, rfl, hr⟩ := HL.out.at j (by omega)
      cases e
      obtain ⟨Av, cv, rfl⟩ := hr.len
      have hc := h2 0 (by decide)
      rw [Nat.mul_one, Nat.add_zero] at hc
      have hcr : wr.cell? ⟨b, o + j, none⟩ = some (.slice Av (LS.getD j []).length cv) := by rw [(bcell H.out.bel).1 b _ hb]; exact hc
      have hcra : ∀ o', (wr.alloc o').cell? ⟨b, o + j, none⟩ = some (.slice Av (LS.getD j []).length cv) := fun o' => by rw [(bcell (below_alloc H.out.bel o')).1 b _ hb]; exact hc
      have TS := Lib.hid (take_snocD LS [] j (by omega))
      have hml : Hid ((LS.take j).length = j) := Lib.hid (by rw [List.length_take]; omega)
      have HR := Lib.hid hr
      have hbx := H.out.box
      have y0 := cell_of hbx 0
      have y0a : ∀ o', (wr.alloc o').cell? ⟨w.heap.size + 1 + 1, 0, none⟩ = some sv := fun o' => cell_of (heap_alloc hbx o') 0
      have hsx : wr.heap[w.heap.size]? = some (.cells #[.slice (some ⟨b, o, none⟩) LS.length c, .slice Ae ne ce] 78 (0, 0)) := H.out.fr.heap HS.out (by omega)
      have x0 := cell_of hsx 0
      have x0a : ∀ o', (wr.alloc o').cell? ⟨w.heap.size, 0, none⟩ = some (.slice (some ⟨b, o, none⟩) LS.length c) := fun o' => cell_of (heap_alloc hsx o') 0
      obtain ⟨us, hg⟩ := H.out.us
      have hsl := hg.sl
      rw [hml.out] at hsl
      have HG := Lib.hid hsl
      have HX := Lib.hid hbx
      have HGW := Lib.hid hg
      have hjl : (j : Int) < (LS.length : Int) := by omega
      have hsvn : ∀ b', sv.ownBlock = some b' → W0.heap.size ≤ b' := hg.own
      have HSV := Lib.hid hsvn
      have HLT := Lib.hid H.out.lt
      generalize (LS.getD j []) = Lj at *
      generalize hmm : LS.take j = M at *
      clear hr hbx h1 h2 hc hsx hg hsl hsvn hmm
      go_wp2_with fail
      go_region_law (first
        | (refine step_append_el wr _ rfl _ _ 75 39 1 24 (.slice none 0 0) #[.slice Av Lj.length cv] rfl Tryd.underlying75 infoRows rfl (by decide) rfl (by intro u hu; simp at hu; subst hu; rfl) sv j us.flatten rfl HG.out (by first | exact (below_alloc (Below.refl _ _) _).drew | exact below_alloc (Below.refl _ _) _ | exact below_alloc (Below.refl _ _).drew _) wr.heap.size rfl (by first | exact heap_drew (heap_new wr _) | exact heap_new wr _ | exact heap_new wr.drew _) (by omega) (by decide) ?_; intro b2 f2 c2 w2 ha; have hb2 := ha.fr.heap HX.out (fun e => by have := HSV.out _ e; have := HLT.out; omega); have z0 := cell_of hb2 0; have z1 := frozen_of hb2 0; have HA := Lib.hid ha; clear ha hb2))
      all_goals
        have F := Lib.hid (H.out.app HR.out HGW.out (by rw [hml.out]; exact HA.out))
        clear z0 z1 y0 y0a x0 x0a hcr hcra
        go_wp2_with fail
        go_roundg (gk - 1)
        case measure => omega
        case rel => exact ⟨j + 1, _, by go_num, by omega, by rw [TS.out]; exact F.out⟩
    · have hje : j = LS.length := by omega
      subst hje
      rw [List.take_of_length_le (Nat.le_refl _)] at H
      have hsx : wr.heap[w.heap.size]? = some (.cells #[.slice A LS.length c, .slice Ae ne ce] 78 (0, 0)) := H.out.fr.heap HS.out (by omega)
      have h2x := H.out.fr.heap H2.out (by omega)
      have x0 := cell_of hsx 0
      have x1 := cell_of hsx 1
      have H2X := Lib.hid h2x
      clear hsx h2x
      go_wp2_with fail
      refine (CN.out _ H.out.bel).mono ?_
      rintro e w2 ⟨rfl, hb⟩
      have HH := Lib.hid (H.out.call hb)
      have H22 := Lib.hid (heap_call H2X.out hb)
      have hbx := HH.out.box
      have y0 := cell_of hbx 0
      obtain ⟨us, hg⟩ := HH.out.us
      have HG := Lib.hid hg
      have HBX := Lib.hid hbx
      have HOW := Lib.hid hg.own
      have HLT := Lib.hid HH.out.lt
      clear x0 x1 hb hbx hg
      go_wp2_with (at_builtin; refine wpList_append_elx w2 rfl _ _ 75 39 1 24 (.slice none 0 0) #[.slice An L.length cn] rfl Tryd.underlying75 infoRows rfl (by decide) rfl (by intro u hu; simp at hu; subst hu; rfl) sv LS.length us.flatten rfl HG.out.sl _ rfl rfl (by omega) (by decide) ?_; intro b3 f3 c3 w3 ha; have hb3 := ha.fr.heap HBX.out (fun e => by have := HOW.out _ e; have := HLT.out; omega); have z0 := cell_of hb3 0; have z1 := frozen_of hb3 0; have z2 := cell_of hb3 1; have HA := Lib.hid ha; have H23 := Lib.hid (ha.fr.heap H22.out (fun e => by have := HOW.out _ e; have := HSZ.out; omega)); have t0 := cell_of H23.out 0; have t1 := cell_of H23.out 1; have t2 := frozen_of H23.out 0; have t3 := frozen_of H23.out 1; clear ha hb3)
      have hrf := heap_set (heap_set (heap_far H23.out (p := ⟨w.heap.size + 1 + 1, 0, none⟩) (show w.heap.size + 1 ≠ w.heap.size + 1 + 1 by omega) (.slice (some ⟨b3, f3, none⟩) (LS.length + 1) c3)) 0 (.slice (some ⟨b3, f3, none⟩) (LS.length + 1) c3)) 1 (.slice Ae ne ce)
      have rc0 : World.cell? _ ⟨w.heap.size + 1, 0, none⟩ = some (.slice (some ⟨b3, f3, none⟩) (LS.length + 1) c3) := cell_of hrf 0
      have rc1 : World.cell? _ ⟨w.heap.size + 1, 1, none⟩ = some (.slice Ae ne ce) := cell_of hrf 1
      refine bodyPost_ret (v := .agg #[.slice (some ⟨b3, f3, none⟩) (LS.length + 1) c3, .slice Ae ne ce]) (by simp [results, Tryd.results51, go_sem, rc0, rc1]) rfl ?_
      have F := (HH.out.app HNOW.out HG.out HA.out).fin (br := w.heap.size + 1) (u0 := .slice (some ⟨b3, f3, none⟩) (LS.length + 1) c3) (u1 := .slice Ae ne ce) (by rw [HSZ.out]; omega) (by omega)
      exact ⟨_, _, _, rfl, ⟨rfl, F.2, (H0.out.evs.call F.1 (fun _ _ h => h)).mono (fun b h => Or.inl h) (fun _ _ h => h)⟩, F.1⟩
set_option maxHeartbeats 4000000 in
set_option maxRecDepth 100000 in
theorem ref3_back_out (P : Nat → Prop) (v : Value) (LS : List (List (List Int))) (es : List (Int × Int)) (lv ev : Value) (i : Int) (w : World) (h : R3 P w v LS es lv ev) (h0 : 0 < LS.length) (hi : i < 0 ∨ (LS.length : Int) - 1 < i) :
    Calls Tryd.prog 52 #[v, .int .i64 i] w (R3C P LS es 2 w) := by
  have H0 := Lib.hid h
  obtain ⟨rfl, hl, hev⟩ := h
  have hbig := hl.big
  obtain ⟨A, c, rfl⟩ := hl.len
  obtain ⟨Ae, ce, rfl⟩ := hev.len
  generalize hes : es.length = ne at *
  generalize hls : LS.length = n at *
  have hn1 : (n : Int) - 1 = ((n - 1 : Nat) : Int) := by omega
  clear hl hev
  rcases hi with hi | hi
  · go_enter Tryd.func52, Tryd.ntmps52
    go_wp2_with fail
    refine bodyPost_ret (v := .tuple #[.agg #[.slice A n c, .slice Ae ne ce], .int .i64 2]) (by simp [results, Tryd.results52, go_sem]) rfl ?_
    have hb : Below w.heap.size w ((w.alloc (.cells #[.slice A n c, .slice Ae ne ce] 78)).alloc (.cells #[.slice A n c, .slice Ae ne ce] 78)) := below_alloc (below_alloc (Below.refl _ _) _) _
    exact ⟨_, _, _, rfl, (H0.out.call hb).mono (fun b h => Or.inl h), hb⟩
  · have hi0 : ¬ i < 0 := by omega
    go_enter Tryd.func52, Tryd.ntmps52
    go_wp2_with fail
    refine bodyPost_ret (v := .tuple #[.agg #[.slice A n c, .slice Ae ne ce], .int .i64 2]) (by simp [results, Tryd.results52, go_sem]) rfl ?_
    have hb : Below w.heap.size w ((w.alloc (.cells #[.slice A n c, .slice Ae ne ce] 78)).alloc (.cells #[.slice A n c, .slice Ae ne ce] 78)) := below_alloc (below_alloc (Below.refl _ _) _) _
    exact ⟨_, _, _, rfl, (H0.out.call hb).mono (fun b h => Or.inl h), hb⟩
set_option maxHeartbeats 4000000 in
set_option maxRecDepth 100000 in
theorem ref3_back_in (P : Nat → Prop) (v : Value) (LS : List (List (List Int))) (es : List (Int × Int)) (lv ev : Value) (q : Nat) (w : World) (h : R3 P w v LS es lv ev) (hn : LS.length < 100000000000) (hi : q < LS.length) :
    Calls Tryd.prog 52 #[v, .int .i64 q] w (R3C P (LS.take (q + 1)) [] 0 w) := by
  have H0 := Lib.hid h
  obtain ⟨rfl, hl, hev⟩ := h
  have HL := Lib.hid hl
  obtain ⟨A, c, rfl⟩ := hl.len
  obtain ⟨Ae, ce, rfl⟩ := hev.len
  generalize hes : es.length = ne at *
  have hn1 : (LS.length : Int) - 1 = ((LS.length - 1 : Nat) : Int) := by omega
  have hq1 : (q : Int) ≤ ((LS.length - 1 : Nat) : Int) := by omega
  have hq2 : ¬ ((LS.length - 1 : Nat) : Int) < (q : Int) := by omega
  have hq3 : q ≤ LS.length - 1 := by omega
  have HB0 : Hid (Below w.heap.size w (((w.alloc (.cells #[.slice A LS.length c, .slice Ae ne ce] 78)).alloc (.cells #[.slice none 0 0, .slice none 0 0] 78)).alloc (.cells #[.slice none 0 0, .slice none 0 0] 78))) := Lib.hid (below_alloc (below_alloc (below_alloc (Below.refl _ _) _) _) _)
  have HS : Hid ((((w.alloc (.cells #[.slice A LS.length c, .slice Ae ne ce] 78)).alloc (.cells #[.slice none 0 0, .slice none 0 0] 78)).alloc (.cells #[.slice none 0 0, .slice none 0 0] 78)).heap[w.heap.size]? = some (.cells #[.slice A LS.length c, .slice Ae ne ce] 78 (0, 0))) := Lib.hid (heap_alloc (heap_alloc (heap_new w _) _) _)
  have H2 : Hid ((((w.alloc (.cells #[.slice A LS.length c, .slice Ae ne ce] 78)).alloc (.cells #[.slice none 0 0, .slice none 0 0] 78)).alloc (.cells #[.slice none 0 0, .slice none 0 0] 78)).heap[w.heap.size + 1]? = some (.cells #[.slice none 0 0, .slice none 0 0] 78 (0, 0))) := Lib.hid (heap_alloc (by have h1 := heap_new (w.alloc (.cells #[.slice A LS.length c, .slice Ae ne ce] 78)) (.cells #[.slice none 0 0, .slice none 0 0] 78); simpa using h1) _)
  have H3 : Hid ((((w.alloc (.cells #[.slice A LS.length c, .slice Ae ne ce] 78)).alloc (.cells #[.slice none 0 0, .slice none 0 0] 78)).alloc (.cells #[.slice none 0 0, .slice none 0 0] 78)).heap[w.heap.size + 1 + 1]? = some (.cells #[.slice none 0 0, .slice none 0 0] 78 (0, 0))) := Lib.hid (by have h1 := heap_new ((w.alloc (.cells #[.slice A LS.length c, .slice Ae ne ce] 78)).alloc (.cells #[.slice none 0 0, .slice none 0 0] 78)) (.cells #[.slice none 0 0, .slice none 0 0] 78); simpa using h1)
  have HSZ : Hid ((((w.alloc (.cells #[.slice A LS.length c, .slice Ae ne ce] 78)).alloc (.cells #[.slice none 0 0, .slice none 0 0] 78)).alloc (.cells #[.slice none 0 0, .slice none 0 0] 78)).heap.size = w.heap.size + 3) := Lib.hid (by simp)
  clear hl hev
  go_enter Tryd.func52, Tryd.ntmps52
  go_wp2_with fail
  generalize ((w.alloc (.cells #[.slice A LS.length c, .slice Ae ne ce] 78)).alloc (.cells #[.slice none 0 0, .slice none 0 0] 78)).alloc (.cells #[.slice none 0 0, .slice none 0 0] 78) = W0 at HB0 HS H2 H3 HSZ ⊢
  have I0 : Hid (R3L P w W0 W0 (w.heap.size + 1 + 1) (.slice none 0 0) (.slice none 0 0) (LS.take 0)) := Lib.hid ⟨H3.out, ⟨[], Gw.nil _ _ _ _ _ _⟩, Fr.refl _ _, by rw [HSZ.out]; omega, HB0.out, by omega⟩
  go_loopg [8] (q + 1) (fun k s8 wr => ∃ (j : Nat) (sv : Value), s8 = .int .i64 j ∧ k + j = (q + 1) ∧ R3L P w W0 wr (w.heap.size + 1 + 1) sv (.slice none 0 0) (LS.take j))
  case atStart => exact ⟨0, _, rfl, by omega, I0.out⟩
  case round =>
    obtain ⟨j, sv, rfl, hj, hinv⟩ := hrel
    have H := Lib.hid hinv
    clear hinv
    rcases Nat.lt_or_ge j (q + 1) with hk | hk
    · obtain ⟨b, o, vs, e, hb, _, h1, h2, v, rfl, hr⟩ := HL.out.at j (by omega)
      cases e
      obtain ⟨Av, cv, rfl⟩ := hr.len
      have hc := h2 0 (by decide)
      rw [Nat.mul_one, Nat.add_zero] at hc
      have hcr : wr.cell? ⟨b, o + j, none⟩ = some (.slice Av (LS.getD j []).length cv) := by rw [(bcell H.out.bel).1 b _ hb]; exact hc
      have hcra : ∀ o', (wr.alloc o').cell? ⟨b, o + j, none⟩ = some (.slice Av (LS.getD j []).length cv) := fun o' => by rw [(bcell (below_alloc H.out.bel o')).1 b _ hb]; exact hc
      have TS := Lib.hid (take_snocD LS [] j (by omega))
      have hml : Hid ((LS.take j).length = j) := Lib.hid (by rw [List.length_take]; omega)
      have HR := Lib.hid hr
      have hbx := H.out.box
      have y0 := cell_of hbx 0
      have y0a : ∀ o', (wr.alloc o').cell? ⟨w.heap.size + 1 + 1, 0, none⟩ = some sv := fun o' => cell_of (heap_alloc hbx o') 0
      have hsx : wr.heap[w.heap.size]? = some (.cells #[.slice (some ⟨b, o, none⟩) LS.length c, .slice Ae ne ce] 78 (0, 0)) := H.out.fr.heap HS.out (by omega)
      have x0 := cell_of hsx 0
      have x0a : ∀ o', (wr.alloc o').cell? ⟨w.heap.size, 0, none⟩ = some (.slice (some ⟨b, o, none⟩) LS.length c) := fun o' => cell_of (heap_alloc hsx o') 0
      obtain ⟨us, hg⟩ := H.out.us
      have hsl := hg.sl
      rw [hml.out] at hsl
      have HG := Lib.hid hsl
      have HX := Lib.hid hbx
      have HGW := Lib.hid hg
      have hjl : (j : Int) < (LS.length : Int) := by omega
      have hsvn : ∀ b', sv.ownBlock = some b' → W0.heap.size ≤ b' := hg.own
      have HSV := Lib.hid hsvn
      have HLT := Lib.hid H.out.lt
      generalize (LS.getD j []) = Lj at *
      generalize hmm : LS.take j = M at *
      clear hr hbx h1 h2 hc hsx hg hsl hsvn hmm
      go_wp2_with fail
      go_region_law (first
        | (refine step_append_el wr _ rfl _ _ 75 39 1 24 (.slice none 0 0) #[.slice Av Lj.length cv] rfl Tryd.underlying75 infoRows rfl (by decide) rfl (by intro u hu; simp at hu; subst hu; rfl) sv j us.flatten rfl HG.out (by first | exact (below_alloc (Below.refl _ _) _).drew | exact below_alloc (Below.refl _ _) _ | exact below_alloc (Below.refl _ _).drew _) wr.heap.size rfl (by first | exact heap_drew (heap_new wr _) | exact heap_new wr _ | exact heap_new wr.drew _) (by omega) (by decide) ?_; intro b2 f2 c2 w2 ha; have hb2 := ha.fr.heap HX.out (fun e => by have := HSV.out _ e; have := HLT.out; omega); have z0 := cell_of hb2 0; have z1 := frozen_of hb2 0; have HA := Lib.hid ha; clear ha hb2))
      all_goals
        have F := Lib.hid (H.out.app HR.out HGW.out (by rw [hml.out]; exact HA.out))
        clear z0 z1 y0 y0a x0 x0a hcr hcra
        go_wp2_with fail
        go_roundg (gk - 1)
        case measure => omega
        case rel => exact ⟨j + 1, _, by go_num, by omega, by rw [TS.out]; exact F.out⟩
    · have hje : j = (q + 1) := by omega
      subst hje
      have hb1 : ¬ ((q : Int) + 1 ≤ (q : Int)) := by omega
      have hb2 : ¬ (((q + 1 : Nat) : Int) ≤ (q : Int)) := by omega
      have hbx := H.out.box
      have y0 := cell_of hbx 0
      have y1 := cell_of hbx 1
      have HR2 := Lib.hid (H.out.fr.heap H2.out (by omega))
      have t0 := cell_of HR2.out 0
      have t1 := cell_of HR2.out 1
      have t2 := frozen_of HR2.out 0
      have t3 := frozen_of HR2.out 1
      obtain ⟨As, cs, hsv⟩ : ∃ As cs, sv = .slice As (q + 1) cs := by
        obtain ⟨us, hg⟩ := H.out.us
        obtain ⟨As, cs, e⟩ := hg.sl.len
        rw [List.length_take, Nat.min_eq_left (by omega)] at e
        exact ⟨As, cs, e⟩
      subst hsv
      clear hbx
      go_wp2_with fail
      have hrf := heap_set (heap_set HR2.out 0 (.slice As (q + 1) cs)) 1 (.slice none 0 0)
      have rc0 : World.cell? _ ⟨w.heap.size + 1, 0, none⟩ = some (.slice As (q + 1) cs) := cell_of hrf 0
      have rc1 : World.cell? _ ⟨w.heap.size + 1, 1, none⟩ = some (.slice none 0 0) := cell_of hrf 1
      refine bodyPost_ret (v := .tuple #[.agg #[.slice As (q + 1) cs, .slice none 0 0], .int .i64 0]) (by simp [results, Tryd.results52, go_sem, rc0, rc1]) rfl ?_
      have F := H.out.fin (br := w.heap.size + 1) (u0 := .slice As (q + 1) cs) (u1 := .slice none 0 0) (by rw [HSZ.out]; omega) (by omega)
      exact ⟨_, _, _, rfl, ⟨rfl, F.2, Gl.nil _ _ _ _ _⟩, F.1⟩
end Go.Proofs.YtdbjljbkneopcaaDoor
