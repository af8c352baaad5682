/- Narrow of a store. -/
import Derived.Test.YtdbjljbkneopcaaDoorStoreE
import Derived.Test.YtdbjljbkneopcaaDoorDomG
import Derived.Deep.RegionHeld3
namespace Go.Proofs.YtdbjljbkneopcaaDoor
open Go.RowKit
set_option linter.unusedSimpArgs false
set_option linter.unusedVariables false

theorem box5_set {w' : World} {b : Nat} {a0 a1 a2 a3 a4 v0 v1 v2 v3 v4 : Value} {v : Value} {l : List Int} (h : w'.heap[b]? = some (.cells #[a0, a1, a2, a3, a4] 25 (0, 0))) (hr : Dm.Rep w' v l) {w0 : World} (hb : Below w0.heap.size w0 w') (hle : w0.heap.size ≤ b) :
    (((((w'.setCell ⟨b, 0, none⟩ v0).setCell ⟨b, 1, none⟩ v1).setCell ⟨b, 2, none⟩ v2).setCell ⟨b, 3, none⟩ v3).setCell ⟨b, 4, none⟩ v4).heap[b]? = some (.cells #[v0, v1, v2, v3, v4] 25 (0, 0)) ∧
    Below w0.heap.size w0 (((((w'.setCell ⟨b, 0, none⟩ v0).setCell ⟨b, 1, none⟩ v1).setCell ⟨b, 2, none⟩ v2).setCell ⟨b, 3, none⟩ v3).setCell ⟨b, 4, none⟩ v4) ∧
    Dm.Rep (((((w'.setCell ⟨b, 0, none⟩ v0).setCell ⟨b, 1, none⟩ v1).setCell ⟨b, 2, none⟩ v2).setCell ⟨b, 3, none⟩ v3).setCell ⟨b, 4, none⟩ v4) v l := by
  refine ⟨heap_set (heap_set (heap_set (heap_set (heap_set h 0 v0) 1 v1) 2 v2) 3 v3) 4 v4, below_set (below_set (below_set (below_set (below_set hb hle _) hle _) hle _) hle _) hle _, ?_⟩
  refine hr.keep (S := fun k => k = b) (Fr.set (Fr.set (Fr.set (Fr.set (Fr.set (Fr.refl _ _) ?_ _) ?_ _) ?_ _) ?_ _) ?_ _) (fun b' hb' e => (hr.typed hb').ne ⟨_, h⟩ (by decide) e)
  all_goals exact fun _ => rfl
theorem Su.Mem.fp_lt {w : World} {S : Nat} {p : Su.Parts} {m : Su.M} (h : Su.Mem w S p m) {k : Nat} (hk : p.fp S k) : k < w.heap.size := by
  rcases hk with e | e | e | e | e | e
  · rw [e]; exact h.tyS.lt
  · exact (h.tyd e).lt
  · exact (h.tys e).lt
  · exact (h.tyt e).lt
  · exact (h.tym e).lt
  · exact (h.tye e).lt
theorem Su.Mem.fp_nw {w : World} {S : Nat} {p : Su.Parts} {m : Su.M} (h : Su.Mem w S p m) {k : Nat} (hk : p.fp S k) (ht : Ty w k 140) : False := by
  rcases hk with e | e | e | e | e | e
  · exact ht.ne h.tyS (by decide) e
  · exact ht.ne (h.tyd e) (by decide) rfl
  · exact ht.ne (h.tys e) (by decide) rfl
  · exact ht.ne (h.tyt e) (by decide) rfl
  · exact ht.ne (h.tym e) (by decide) rfl
  · exact ht.ne (h.tye e) (by decide) rfl
theorem Su.St.rep {w w' : World} {S : Nat} {p p' : Su.Parts} {m m' : Su.M} (h : Su.Mem w S p m) (st : Su.St w w' S p p' m') {v : Value} {l : List Int} (hr : Dm.Rep w v l) : Dm.Rep w' v l :=
  hr.keep st.fr (fun b hb hk => h.fp_nw hk (hr.typed hb))
theorem Su.Mem.dcells {w : World} {S : Nat} {p : Su.Parts} {m : Su.M} (h : Su.Mem w S p m) {b o n c : Nat} (hA : p.ds = .slice (some ⟨b, o, none⟩) n c) (i : Nat) (hi : i < m.cur.length) :
    ∃ v0 v1 v2 v3 v4 : Value, w.cell? ⟨b, o + i * 5, none⟩ = some v0 ∧ w.cell? ⟨b, o + i * 5 + 1, none⟩ = some v1 ∧ w.cell? ⟨b, o + i * 5 + 2, none⟩ = some v2 ∧ w.cell? ⟨b, o + i * 5 + 3, none⟩ = some v3 ∧ w.cell? ⟨b, o + i * 5 + 4, none⟩ = some v4 ∧ ∀ j, w.frozen? ⟨b, j, none⟩ = false := by
  have hD := h.doms
  have hn : n = p.vs.length := by
    obtain ⟨A', c', e⟩ := h.doms.sl.len
    rw [hA] at e
    cases e; rfl
  subst hn
  rw [hA] at hD
  obtain ⟨b', o', off, As, q, cs, lo, hh, z, e, _, _, _, c0, c1, c2, c3, c4⟩ := hD.at i hi
  cases e
  rw [Nat.add_zero] at c0
  rw [← Nat.add_assoc] at c1 c2 c3 c4
  exact ⟨_, _, _, _, _, c0, c1, c2, c3, c4, fun j => hD.sl.frozen j⟩
theorem Su.Mem.dvals {w : World} {S : Nat} {p : Su.Parts} {m : Su.M} (h : Su.Mem w S p m) {b o n c : Nat} (hA : p.ds = .slice (some ⟨b, o, none⟩) n c) (i : Nat) (hi : i < m.cur.length) {v0 v1 v2 v3 v4 : Value} (hv : p.vs.getD i undef = .agg #[v0, v1, v2, v3, v4]) :
    w.cell? ⟨b, o + i * 5, none⟩ = some v0 ∧ w.cell? ⟨b, o + i * 5 + 1, none⟩ = some v1 ∧ w.cell? ⟨b, o + i * 5 + 2, none⟩ = some v2 ∧ w.cell? ⟨b, o + i * 5 + 3, none⟩ = some v3 ∧ w.cell? ⟨b, o + i * 5 + 4, none⟩ = some v4 := by
  have hD := h.doms
  have hn : n = p.vs.length := by
    obtain ⟨A', c', e⟩ := h.doms.sl.len
    rw [hA] at e
    cases e; rfl
  subst hn
  rw [hA] at hD
  obtain ⟨b', o', off, As, q, cs, lo, hh, z, e, hv', _, _, c0, c1, c2, c3, c4⟩ := hD.at i hi
  cases e
  rw [hv] at hv'
  cases hv'
  rw [Nat.add_zero] at c0
  rw [← Nat.add_assoc] at c1 c2 c3 c4
  exact ⟨c0, c1, c2, c3, c4⟩
theorem Su.Mem.setDom' {w : World} {S : Nat} {p : Su.Parts} {m : Su.M} (h : Su.Mem w S p m) {b o n c : Nat} (hA : p.ds = .slice (some ⟨b, o, none⟩) n c) (i : Nat) (hi : i < m.cur.length) (off : Int) (As : Option Addr) (q cs : Nat) (lo hh : Int) (z : Nat) (l : List Int)
    (hr : Dm.Rep w (.agg #[.int .i64 off, .slice As q cs, .int .i64 lo, .int .i64 hh, .int .i64 z]) l) :
    Su.St w (((((w.setCell ⟨b, o + i * 5, none⟩ (.int .i64 off)).setCell ⟨b, o + i * 5 + 1, none⟩ (.slice As q cs)).setCell ⟨b, o + i * 5 + 2, none⟩ (.int .i64 lo)).setCell ⟨b, o + i * 5 + 3, none⟩ (.int .i64 hh)).setCell ⟨b, o + i * 5 + 4, none⟩ (.int .i64 z))
      S p { p with vs := p.vs.set i (.agg #[.int .i64 off, .slice As q cs, .int .i64 lo, .int .i64 hh, .int .i64 z]) } { m with cur := m.cur.set i l } := by
  have := h.setDom hA i hi off As q cs lo hh z l hr
  simpa only [Nat.add_zero, ← Nat.add_assoc] using this
theorem Su.narrow_old (m : Su.M) (i : Nat) (x : List Int) (ch : Int) (h : m.stamps[i]? = some m.time) : Su.narrow m i x ch = { m with cur := m.cur.set i x, events := m.events ++ [((i : Int), ch)] } := by
  unfold Su.narrow
  rw [if_pos h]
  have e : m.stamps.set i m.time = m.stamps := by
    obtain ⟨hi, e⟩ := List.getElem?_eq_some_iff.1 h
    rw [← e]
    exact List.set_getElem_self hi
  rw [e]
theorem Su.narrow_new (m : Su.M) (i : Nat) (x : List Int) (ch : Int) (h : ¬ m.stamps[i]? = some m.time) : Su.narrow m i x ch = { m with cur := m.cur.set i x, trail := m.trail ++ [(i, m.cur.getD i [])], stamps := m.stamps.set i m.time, events := m.events ++ [((i : Int), ch)] } := by
  unfold Su.narrow
  rw [if_neg h]
theorem infoSaved : (Tryd.prog.info? 153).map (fun i => (i.zero, i.size, i.bytes)) = some (some (.agg #[.int .i64 0, .int .i64 0, .slice none 0 0, .int .i64 0, .int .i64 0, .int .i64 0]), 6, 64) := by kernel_rfl
theorem infoEvent : (Tryd.prog.info? 155).map (fun i => (i.zero, i.size, i.bytes)) = some (some (.agg #[.int .i64 0, .int .i64 0]), 2, 16) := by kernel_rfl
theorem store_narrow_out (pv : Value) (n : Nat) (i : Int) (d : Value) (dl : List Int) (w : World) (h : Su.Has pv n w) (hd : Dm.Rep w d dl) (hn : n ≤ 1000000) (hi : ¬ (0 ≤ i ∧ i < n)) : Calls Tryd.prog 34 #[pv, .int .i64 i, d] w (Rf.Tells 0 w) := by
  have H := Lib.hid (fun o => store_is pv n i (w.alloc o) (fun w' hb => h w' (below_call (below_alloc (Below.refl _ _) o) hb)) hn)
  rw [decide_eq_false hi] at H
  obtain ⟨off, sv, ws, rfl, hx⟩ := hd
  unfold Dm.val
  generalize dl.headD 0 = lo at *
  generalize dl.getLastD 0 = hh at *
  generalize dl.length = sz at *
  clear h hi hx
  go_enter Tryd.func34, Tryd.ntmps34
  go_wp2_with fail
  refine (H.out _).mono ?_
  rintro e w2 ⟨rfl, rfl⟩
  go_wp2_with fail
  go_ret
  exact ⟨rfl, below_alloc (Below.refl _ _) _⟩
set_option maxHeartbeats 4000000 in
set_option maxRecDepth 100000 in
theorem store_narrow_same (S : Nat) (p : Su.Parts) (m : Su.M) (i : Nat) (d : Value) (dl : List Int) (w : World) (h : Su.Mem w S p m) (hd : Dm.Rep w d dl) (hn : m.cur.length ≤ 1000000) (hi : i < m.cur.length) (hT : Tab w) (hc : Dm.chg (m.cur.getD i []) ((m.cur.getD i []).filter fun u => decide (u ∈ dl)) = 0) :
    Calls Tryd.prog 34 #[.pointer (some ⟨S, 0, none⟩), .int .i64 i, d] w (Rf.Tells 0 w) := by
  have H := Lib.hid (fun o => store_is _ m.cur.length i (w.alloc o) (fun w' hb => h.has w' (below_call (below_alloc (Below.refl _ _) o) hb)) hn)
  rw [decide_eq_true ⟨by omega, by omega⟩] at H
  have HM := Lib.hid h
  obtain ⟨A, c, hds⟩ := h.doms.sl.len
  have hD := h.doms
  rw [hds] at hD
  obtain ⟨b, o, off, As, q, cs, lo, hh, z, rfl, hv, hn2, hr, c0, c1, c2, c3, c4⟩ := hD.at i hi
  have HDS := Lib.hid hds
  have HVI := Lib.hid hv
  have hbx := h.box
  rw [hds, hD.len] at hbx
  have hii : (i : Int) < (m.cur.length : Int) := by omega
  have hbl : b < w.heap.size := h.doms.sl.lt (b := b) (by rw [hds]; rfl)
  have hSl : S < w.heap.size := heap_lt hbx
  have HR := Lib.hid hr
  obtain ⟨offd, svd, wsd, rfl, hxd⟩ := hd
  have HRD : Hid (Dm.Rep w (Dm.val offd svd dl) dl) := ⟨offd, svd, wsd, rfl, hxd⟩
  unfold Dm.val at *
  generalize dl.headD 0 = lod at *
  generalize dl.getLastD 0 = hid at *
  generalize dl.length = szd at *
  rw [Nat.add_zero] at c0
  rw [← Nat.add_assoc] at c1 c2 c3 c4
  have hE := Dl.len hD
  generalize hl : m.cur.getD i [] = l at *
  generalize hnl : m.cur.length = nl at *
  have HL := Lib.hid hl
  have HNL := Lib.hid hnl
  have HE := Lib.hid hE
  have BE0 := Lib.hid (Below.refl (w.alloc (.cells #[.int .i64 offd, svd, .int .i64 lod, .int .i64 hid, .int .i64 szd] 25)).heap.size (w.alloc (.cells #[.int .i64 offd, svd, .int .i64 lod, .int .i64 hid, .int .i64 szd] 25)))
  have SIX : Hid (∀ w', Below (w.alloc (.cells #[.int .i64 offd, svd, .int .i64 lod, .int .i64 hid, .int .i64 szd] 25)).heap.size (w.alloc (.cells #[.int .i64 offd, svd, .int .i64 lod, .int .i64 hid, .int .i64 szd] 25)) w' → w'.cell? ⟨S, 0, none⟩ = some (.slice (some ⟨b, o, none⟩) nl c) ∧ w'.cell? ⟨b, o + i * 5, none⟩ = some (.int .i64 off) ∧ w'.cell? ⟨b, o + i * 5 + 1, none⟩ = some (.slice As q cs) ∧ w'.cell? ⟨b, o + i * 5 + 2, none⟩ = some (.int .i64 lo) ∧ w'.cell? ⟨b, o + i * 5 + 3, none⟩ = some (.int .i64 hh) ∧ w'.cell? ⟨b, o + i * 5 + 4, none⟩ = some (.int .i64 z) ∧ w'.cell? ⟨w.heap.size, 0, none⟩ = some (.int .i64 offd) ∧ w'.cell? ⟨w.heap.size, 1, none⟩ = some (svd) ∧ w'.cell? ⟨w.heap.size, 2, none⟩ = some (.int .i64 lod) ∧ w'.cell? ⟨w.heap.size, 3, none⟩ = some (.int .i64 hid) ∧ w'.cell? ⟨w.heap.size, 4, none⟩ = some (.int .i64 szd) ∧ Hid (Below (w.alloc (.cells #[.int .i64 offd, svd, .int .i64 lod, .int .i64 hid, .int .i64 szd] 25)).heap.size (w.alloc (.cells #[.int .i64 offd, svd, .int .i64 lod, .int .i64 hid, .int .i64 szd] 25)) w')) := Lib.hid fun w' hb => by
    have hb' := below_call (below_alloc (Below.refl _ w) _) hb
    have HN := heap_call (heap_new w (.cells #[.int .i64 offd, svd, .int .i64 lod, .int .i64 hid, .int .i64 szd] 25)) hb
    refine ⟨cell_of (heap_call hbx hb') 0, ?_, ?_, ?_, ?_, ?_, cell_of HN 0, cell_of HN 1, cell_of HN 2, cell_of HN 3, cell_of HN 4, Lib.hid hb⟩
    all_goals (rw [(bcell hb').1 b _ hbl]; assumption)
  have CA := Lib.hid (fun w' (hb : Below (w.alloc (.cells #[.int .i64 offd, svd, .int .i64 lod, .int .i64 hid, .int .i64 szd] 25)).heap.size (w.alloc (.cells #[.int .i64 offd, svd, .int .i64 lod, .int .i64 hid, .int .i64 szd] 25)) w') => dom_and _ _ l dl w' (HR.out.call (below_call (below_alloc (Below.refl _ w) _) hb)) (HRD.out.call (below_call (below_alloc (Below.refl _ w) _) hb)) (hT.call (below_call (below_alloc (Below.refl _ w) _) hb)))
  generalize hch : Dm.chg l (l.filter fun u => decide (u ∈ dl)) = ch at *
  subst hc
  have HCH := Lib.hid hch
  clear hch
  clear h hds hD hv hn2 hr hbx hxd hT hl hnl hE c0 c1 c2 c3 c4
  go_enter Tryd.func34, Tryd.ntmps34
  go_wp2_with fail
  refine (H.out _).mono ?_
  rintro e w2 ⟨rfl, rfl⟩
  go_wp2_with fail
  go_region_held3 (fun w' => w'.cell? ⟨S, 0, none⟩ = some (.slice (some ⟨b, o, none⟩) nl c) ∧ w'.cell? ⟨b, o + i * 5, none⟩ = some (.int .i64 off) ∧ w'.cell? ⟨b, o + i * 5 + 1, none⟩ = some (.slice As q cs) ∧ w'.cell? ⟨b, o + i * 5 + 2, none⟩ = some (.int .i64 lo) ∧ w'.cell? ⟨b, o + i * 5 + 3, none⟩ = some (.int .i64 hh) ∧ w'.cell? ⟨b, o + i * 5 + 4, none⟩ = some (.int .i64 z) ∧ w'.cell? ⟨w.heap.size, 0, none⟩ = some (.int .i64 offd) ∧ w'.cell? ⟨w.heap.size, 1, none⟩ = some (svd) ∧ w'.cell? ⟨w.heap.size, 2, none⟩ = some (.int .i64 lod) ∧ w'.cell? ⟨w.heap.size, 3, none⟩ = some (.int .i64 hid) ∧ w'.cell? ⟨w.heap.size, 4, none⟩ = some (.int .i64 szd) ∧ Hid (Below (w.alloc (.cells #[.int .i64 offd, svd, .int .i64 lod, .int .i64 hid, .int .i64 szd] 25)).heap.size (w.alloc (.cells #[.int .i64 offd, svd, .int .i64 lod, .int .i64 hid, .int .i64 szd] 25)) w'))
    (first | exact SIX.out _ (by (repeat (first | with_reducible exact hs11.out | with_reducible exact BE0.out | with_reducible refine Below.drew ?_ | with_reducible refine below_alloc ?_ _ | with_reducible refine below_set ?_ (by first | (simp; done) | (have := hs11.out.size; simp at this ⊢; omega)) _)); done) | exact ⟨hs0, hs1, hs2, hs3, hs4, hs5, hs6, hs7, hs8, hs9, hs10, hs11⟩)
    (first | (go_at_call 17; ((with_reducible refine (CA.out _ (by (repeat (first | with_reducible exact hs11.out | with_reducible exact BE0.out | with_reducible refine Below.drew ?_ | with_reducible refine below_alloc ?_ _ | with_reducible refine below_set ?_ (by first | (simp; done) | (have := hs11.out.size; simp at this ⊢; omega)) _)); done)).mono ?_)); rintro e w' ⟨v', rfl, hrep, hb, hwb⟩; rw [HCH.out]; (try (have z9 : w'.heap[w.heap.size + 1]? = some (.cells #[.int .i64 0, .slice none 0 0, .int .i64 0, .int .i64 0, .int .i64 0] 25) := (by have := heap_call (heap_new (w.alloc (.cells #[.int .i64 offd, svd, .int .i64 lod, .int .i64 hid, .int .i64 szd] 25)).drew (.cells #[.int .i64 0, .slice none 0 0, .int .i64 0, .int .i64 0, .int .i64 0] 25)) hb; simpa using this); have z0 := cell_of z9 0; have z1 := cell_of z9 1; have z2 := cell_of z9 2; have z3 := cell_of z9 3; have z4 := cell_of z9 4; have y0 := frozen_of z9 0; have y1 := frozen_of z9 1; have y2 := frozen_of z9 2; have y3 := frozen_of z9 3; have y4 := frozen_of z9 4; have Z9 := Lib.hid z9; clear z9)); have hzz := below_call (w0 := w.alloc (.cells #[.int .i64 offd, svd, .int .i64 lod, .int .i64 hid, .int .i64 szd] 25)) (by (repeat (first | with_reducible exact hs11.out | with_reducible exact BE0.out | with_reducible refine Below.drew ?_ | with_reducible refine below_alloc ?_ _ | with_reducible refine below_set ?_ (by first | (simp; done) | (have := hs11.out.size; simp at this ⊢; omega)) _)); done) hb; clear hb; obtain ⟨hs0, hs1, hs2, hs3, hs4, hs5, hs6, hs7, hs8, hs9, hs10, hs11⟩ := SIX.out w' hzz; clear hzz; have HWB := Lib.hid hwb; clear hwb; have HREP := Lib.hid hrep; obtain ⟨off3, sv3, ws3, rfl, hx3⟩ := hrep; obtain ⟨A3, c3, rfl⟩ := hx3.sl.len; generalize ws3.length = n3 at *; clear hx3; unfold Dm.val at *; generalize (List.filter (fun u => decide (u ∈ dl)) l).headD 0 = lo3 at *; generalize (List.filter (fun u => decide (u ∈ dl)) l).getLastD 0 = hi3 at *; generalize (List.filter (fun u => decide (u ∈ dl)) l).length = sz3 at *))
  all_goals
    go_wp2_with fail
    go_ret
    exact ⟨rfl, below_call (below_alloc (Below.refl _ w) _) (by (repeat (first | with_reducible exact hs11.out | with_reducible exact BE0.out | with_reducible refine Below.drew ?_ | with_reducible refine below_alloc ?_ _ | with_reducible refine below_set ?_ (by first | (simp; done) | (have := hs11.out.size; simp at this ⊢; omega)) _)); done)⟩
set_option maxHeartbeats 4000000 in
set_option maxRecDepth 100000 in
theorem store_narrow_chg (S : Nat) (p : Su.Parts) (m : Su.M) (i : Nat) (d : Value) (dl : List Int) (N : Nat) (w : World) (h : Su.Mem w S p m) (hd : Dm.Rep w d dl) (hn : m.cur.length ≤ 1000000) (hi : i < m.cur.length) (hT : Tab w) (hz : Su.Sz m N) (hN : N ≤ 100000000000) (hst : m.stamps.length = m.cur.length) (hc : Dm.chg (m.cur.getD i []) ((m.cur.getD i []).filter fun u => decide (u ∈ dl)) ≠ 0) :
    Calls Tryd.prog 34 #[.pointer (some ⟨S, 0, none⟩), .int .i64 i, d] w (Su.Gv w S p (Su.narrow m i ((m.cur.getD i []).filter fun u => decide (u ∈ dl)) (Dm.chg (m.cur.getD i []) ((m.cur.getD i []).filter fun u => decide (u ∈ dl)))) (.int .i64 (Dm.chg (m.cur.getD i []) ((m.cur.getD i []).filter fun u => decide (u ∈ dl))))) := by
  have H := Lib.hid (fun o => store_is _ m.cur.length i (w.alloc o) (fun w' hb => h.has w' (below_call (below_alloc (Below.refl _ _) o) hb)) hn)
  rw [decide_eq_true ⟨by omega, by omega⟩] at H
  have HM := Lib.hid h
  obtain ⟨A, c, hds⟩ := h.doms.sl.len
  have hD := h.doms
  rw [hds] at hD
  obtain ⟨b, o, off, As, q, cs, lo, hh, z, rfl, hv, hn2, hr, c0, c1, c2, c3, c4⟩ := hD.at i hi
  have HDS := Lib.hid hds
  have HVI := Lib.hid hv
  have hbx := h.box
  rw [hds, hD.len] at hbx
  have hii : (i : Int) < (m.cur.length : Int) := by omega
  have hbl : b < w.heap.size := h.doms.sl.lt (b := b) (by rw [hds]; rfl)
  have hSl : S < w.heap.size := heap_lt hbx
  have HR := Lib.hid hr
  obtain ⟨offd, svd, wsd, rfl, hxd⟩ := hd
  have HRD : Hid (Dm.Rep w (Dm.val offd svd dl) dl) := ⟨offd, svd, wsd, rfl, hxd⟩
  unfold Dm.val at *
  generalize dl.headD 0 = lod at *
  generalize dl.getLastD 0 = hid at *
  generalize dl.length = szd at *
  rw [Nat.add_zero] at c0
  rw [← Nat.add_assoc] at c1 c2 c3 c4
  have hE := Dl.len hD
  generalize hl : m.cur.getD i [] = l at *
  generalize hnl : m.cur.length = nl at *
  have HL := Lib.hid hl
  have HNL := Lib.hid hnl
  have HE := Lib.hid hE
  have BE0 := Lib.hid (Below.refl (w.alloc (.cells #[.int .i64 offd, svd, .int .i64 lod, .int .i64 hid, .int .i64 szd] 25)).heap.size (w.alloc (.cells #[.int .i64 offd, svd, .int .i64 lod, .int .i64 hid, .int .i64 szd] 25)))
  have SIX : Hid (∀ w', Below (w.alloc (.cells #[.int .i64 offd, svd, .int .i64 lod, .int .i64 hid, .int .i64 szd] 25)).heap.size (w.alloc (.cells #[.int .i64 offd, svd, .int .i64 lod, .int .i64 hid, .int .i64 szd] 25)) w' → w'.cell? ⟨S, 0, none⟩ = some (.slice (some ⟨b, o, none⟩) nl c) ∧ w'.cell? ⟨b, o + i * 5, none⟩ = some (.int .i64 off) ∧ w'.cell? ⟨b, o + i * 5 + 1, none⟩ = some (.slice As q cs) ∧ w'.cell? ⟨b, o + i * 5 + 2, none⟩ = some (.int .i64 lo) ∧ w'.cell? ⟨b, o + i * 5 + 3, none⟩ = some (.int .i64 hh) ∧ w'.cell? ⟨b, o + i * 5 + 4, none⟩ = some (.int .i64 z) ∧ w'.cell? ⟨w.heap.size, 0, none⟩ = some (.int .i64 offd) ∧ w'.cell? ⟨w.heap.size, 1, none⟩ = some (svd) ∧ w'.cell? ⟨w.heap.size, 2, none⟩ = some (.int .i64 lod) ∧ w'.cell? ⟨w.heap.size, 3, none⟩ = some (.int .i64 hid) ∧ w'.cell? ⟨w.heap.size, 4, none⟩ = some (.int .i64 szd) ∧ Hid (Below (w.alloc (.cells #[.int .i64 offd, svd, .int .i64 lod, .int .i64 hid, .int .i64 szd] 25)).heap.size (w.alloc (.cells #[.int .i64 offd, svd, .int .i64 lod, .int .i64 hid, .int .i64 szd] 25)) w')) := Lib.hid fun w' hb => by
    have hb' := below_call (below_alloc (Below.refl _ w) _) hb
    have HN := heap_call (heap_new w (.cells #[.int .i64 offd, svd, .int .i64 lod, .int .i64 hid, .int .i64 szd] 25)) hb
    refine ⟨cell_of (heap_call hbx hb') 0, ?_, ?_, ?_, ?_, ?_, cell_of HN 0, cell_of HN 1, cell_of HN 2, cell_of HN 3, cell_of HN 4, Lib.hid hb⟩
    all_goals (rw [(bcell hb').1 b _ hbl]; assumption)
  have CA := Lib.hid (fun w' (hb : Below (w.alloc (.cells #[.int .i64 offd, svd, .int .i64 lod, .int .i64 hid, .int .i64 szd] 25)).heap.size (w.alloc (.cells #[.int .i64 offd, svd, .int .i64 lod, .int .i64 hid, .int .i64 szd] 25)) w') => dom_and _ _ l dl w' (HR.out.call (below_call (below_alloc (Below.refl _ w) _) hb)) (HRD.out.call (below_call (below_alloc (Below.refl _ w) _) hb)) (hT.call (below_call (below_alloc (Below.refl _ w) _) hb)))
  generalize hch : Dm.chg l (l.filter fun u => decide (u ∈ dl)) = ch at *
  have HCH := Lib.hid hch
  have hcb : (ch == 0) = false := beq_eq_false_iff_ne.2 hc
  have HST := Lib.hid hst
  have HZ := Lib.hid hz
  have HC0 := Lib.hid hc
  clear hst hz hc
  clear hch
  clear h hds hD hv hn2 hr hbx hxd hT hl hnl hE c0 c1 c2 c3 c4
  go_enter Tryd.func34, Tryd.ntmps34
  go_wp2_with fail
  refine (H.out _).mono ?_
  rintro e w2 ⟨rfl, rfl⟩
  go_wp2_with fail
  go_region_held3 (fun w' => w'.cell? ⟨S, 0, none⟩ = some (.slice (some ⟨b, o, none⟩) nl c) ∧ w'.cell? ⟨b, o + i * 5, none⟩ = some (.int .i64 off) ∧ w'.cell? ⟨b, o + i * 5 + 1, none⟩ = some (.slice As q cs) ∧ w'.cell? ⟨b, o + i * 5 + 2, none⟩ = some (.int .i64 lo) ∧ w'.cell? ⟨b, o + i * 5 + 3, none⟩ = some (.int .i64 hh) ∧ w'.cell? ⟨b, o + i * 5 + 4, none⟩ = some (.int .i64 z) ∧ w'.cell? ⟨w.heap.size, 0, none⟩ = some (.int .i64 offd) ∧ w'.cell? ⟨w.heap.size, 1, none⟩ = some (svd) ∧ w'.cell? ⟨w.heap.size, 2, none⟩ = some (.int .i64 lod) ∧ w'.cell? ⟨w.heap.size, 3, none⟩ = some (.int .i64 hid) ∧ w'.cell? ⟨w.heap.size, 4, none⟩ = some (.int .i64 szd) ∧ Hid (Below (w.alloc (.cells #[.int .i64 offd, svd, .int .i64 lod, .int .i64 hid, .int .i64 szd] 25)).heap.size (w.alloc (.cells #[.int .i64 offd, svd, .int .i64 lod, .int .i64 hid, .int .i64 szd] 25)) w'))
    (first | exact SIX.out _ (by (repeat (first | with_reducible exact hs11.out | with_reducible exact BE0.out | with_reducible refine Below.drew ?_ | with_reducible refine below_alloc ?_ _ | with_reducible refine below_set ?_ (by first | (simp; done) | (have := hs11.out.size; simp at this ⊢; omega)) _)); done) | exact ⟨hs0, hs1, hs2, hs3, hs4, hs5, hs6, hs7, hs8, hs9, hs10, hs11⟩)
    (first | (go_at_call 17; ((with_reducible refine (CA.out _ (by (repeat (first | with_reducible exact hs11.out | with_reducible exact BE0.out | with_reducible refine Below.drew ?_ | with_reducible refine below_alloc ?_ _ | with_reducible refine below_set ?_ (by first | (simp; done) | (have := hs11.out.size; simp at this ⊢; omega)) _)); done)).mono ?_)); rintro e w' ⟨v', rfl, hrep, hb, hwb⟩; rw [HCH.out]; (try (have z9 : w'.heap[w.heap.size + 1]? = some (.cells #[.int .i64 0, .slice none 0 0, .int .i64 0, .int .i64 0, .int .i64 0] 25) := (by have := heap_call (heap_new (w.alloc (.cells #[.int .i64 offd, svd, .int .i64 lod, .int .i64 hid, .int .i64 szd] 25)).drew (.cells #[.int .i64 0, .slice none 0 0, .int .i64 0, .int .i64 0, .int .i64 0] 25)) hb; simpa using this); have z0 := cell_of z9 0; have z1 := cell_of z9 1; have z2 := cell_of z9 2; have z3 := cell_of z9 3; have z4 := cell_of z9 4; have y0 := frozen_of z9 0; have y1 := frozen_of z9 1; have y2 := frozen_of z9 2; have y3 := frozen_of z9 3; have y4 := frozen_of z9 4; have Z9 := Lib.hid z9; clear z9)); have hzz := below_call (w0 := w.alloc (.cells #[.int .i64 offd, svd, .int .i64 lod, .int .i64 hid, .int .i64 szd] 25)) (by (repeat (first | with_reducible exact hs11.out | with_reducible exact BE0.out | with_reducible refine Below.drew ?_ | with_reducible refine below_alloc ?_ _ | with_reducible refine below_set ?_ (by first | (simp; done) | (have := hs11.out.size; simp at this ⊢; omega)) _)); done) hb; clear hb; obtain ⟨hs0, hs1, hs2, hs3, hs4, hs5, hs6, hs7, hs8, hs9, hs10, hs11⟩ := SIX.out w' hzz; clear hzz; have HWB := Lib.hid hwb; clear hwb; have HREP := Lib.hid hrep; obtain ⟨off3, sv3, ws3, rfl, hx3⟩ := hrep; obtain ⟨A3, c3, rfl⟩ := hx3.sl.len; generalize ws3.length = n3 at *; clear hx3; unfold Dm.val at *; generalize (List.filter (fun u => decide (u ∈ dl)) l).headD 0 = lo3 at *; generalize (List.filter (fun u => decide (u ∈ dl)) l).getLastD 0 = hi3 at *; generalize (List.filter (fun u => decide (u ∈ dl)) l).length = sz3 at *))
  all_goals
    first
      | (obtain ⟨X1, X2, X3⟩ := box5_set (v0 := .int .i64 off3) (v1 := .slice A3 n3 c3) (v2 := .int .i64 lo3) (v3 := .int .i64 hi3) (v4 := .int .i64 sz3) Z9.out HREP.out hs11.out (by simp)
         have BX0 := Nat.le_succ w.heap.size
         have BX1 := heap_lt X1
         clear z0 z1 z2 z3 z4 y0 y1 y2 y3 y4 Z9
         generalize (((((w'.setCell ⟨w.heap.size + 1, 0, none⟩ (.int .i64 off3)).setCell ⟨w.heap.size + 1, 1, none⟩ (.slice A3 n3 c3)).setCell ⟨w.heap.size + 1, 2, none⟩ (.int .i64 lo3)).setCell ⟨w.heap.size + 1, 3, none⟩ (.int .i64 hi3)).setCell ⟨w.heap.size + 1, 4, none⟩ (.int .i64 sz3)) = wx at X1 X2 X3 BX1 ⊢
         have e9 : w.heap.size.succ = w.heap.size + 1 := rfl
         rw [e9] at BX0
         generalize w.heap.size + 1 = BX at X1 BX0 BX1 ⊢)
      | (have X1 := heap_new w' (.cells #[.int .i64 off3, .slice A3 n3 c3, .int .i64 lo3, .int .i64 hi3, .int .i64 sz3] 25)
         have BX0 : w.heap.size ≤ w'.heap.size := (below_call (below_alloc (Below.refl _ w) _) hs11.out).size
         have BX1 := heap_lt X1
         have X2 := below_alloc hs11.out (.cells #[.int .i64 off3, .slice A3 n3 c3, .int .i64 lo3, .int .i64 hi3, .int .i64 sz3] 25)
         have X3 := HREP.out.call (below_alloc (Below.refl _ w') (.cells #[.int .i64 off3, .slice A3 n3 c3, .int .i64 lo3, .int .i64 hi3, .int .i64 sz3] 25))
         generalize w'.alloc (.cells #[.int .i64 off3, .slice A3 n3 c3, .int .i64 lo3, .int .i64 hi3, .int .i64 sz3] 25) = wx at X1 X2 X3 BX1 ⊢
         generalize w'.heap.size = BX at X1 BX0 BX1 ⊢)
    replace BX0 := Lib.hid BX0
    replace BX1 := Lib.hid BX1
    replace X1 := Lib.hid X1
    replace X2 := Lib.hid (below_call (below_alloc (Below.refl _ w) _) X2)
    replace X3 := Lib.hid X3
    clear hs0 hs1 hs2 hs3 hs4 hs5 hs6 hs7 hs8 hs9 hs10 hs11 HREP HWB
    have M1 := Lib.hid (HM.out.call X2.out)
    clear BE0 SIX CA H HRD
    obtain ⟨i1, hi1, hy0, hy1, hy2⟩ := info_parts infoEvent
    obtain ⟨i2, hi2, hw0, hw1, hw2⟩ := info_parts infoSaved
    have hml := HZ.out.trail
    have hel := HZ.out.events
    obtain ⟨As1, cs1, hss⟩ := HM.out.stamps.len
    obtain ⟨At1, ct1, hts⟩ := HM.out.trail.len
    obtain ⟨Ae1, ce1, hes⟩ := HM.out.events.len
    have hbx := M1.out.box
    rw [hss, hts, hes, HDS.out, HE.out, HST.out] at hbx
    have HSS := Lib.hid hss
    have HTS := Lib.hid hts
    have HES := Lib.hid hes
    have hsl := M1.out.stamps
    rw [hss] at hsl
    have hil : i < m.stamps.length := by rw [HST.out]; exact hi
    obtain ⟨bs, os, rfl, hsc⟩ := Iv.at hsl i hil
    rw [HST.out] at HSS
    generalize hti : m.stamps.getD i 0 = ti at *
    generalize htm : m.time = tm at *
    have HTI := Lib.hid hti
    have HTM := Lib.hid htm
    generalize htl : m.trail.length = tl at *
    generalize hevl : m.events.length = el at *
    have HTL := Lib.hid htl
    have HEL := Lib.hid hevl
    have HBX := Lib.hid hbx
    have e0 := cell_of hbx 0
    have e1 := cell_of hbx 1
    have e2 := cell_of hbx 2
    have e4 := cell_of hbx 4
    clear hti htm htl hevl hbx hss hts hes hsl hil
    by_cases hs : ti = tm
    · have HS := Lib.hid hs
      subst hs
      have hneq : (ti != ti) = false := by simp
      go_wp2_with fail
      go_quiet (fail)
      have STx := Lib.hid ((Su.St.refl M1.out).call (below_drewN (Below.refl _ _) nq))
      generalize wx.drewN nq = w8 at STx ⊢
      clear e0 e1 e2 e4 hsc
      have hbk := STx.out.fr.heap X1.out (fun hk => Nat.lt_irrefl _ (Nat.lt_of_lt_of_le (HM.out.fp_lt hk) BX0.out))
      have k0 := cell_of hbk 0
      have k1 := cell_of hbk 1
      have k2 := cell_of hbk 2
      have k3 := cell_of hbk 3
      have k4 := cell_of hbk 4
      have X8 := Lib.hid (STx.out.rep M1.out X3.out)
      obtain ⟨u0, u1, u2, u3, u4, d0, d1, d2, d3, d4, fz⟩ := STx.out.mem.dcells HDS.out i (by show i < m.cur.length; rw [HNL.out]; exact hi)
      have e0 : w8.cell? ⟨S, 0, none⟩ = some (.slice (some ⟨b, o, none⟩) nl c) := (cell_of STx.out.mem.box 0).trans (congrArg some (by rw [← HE.out]; exact HDS.out))
      clear hbk
      go_wp2_with fail
      go_region
      all_goals
        clear k0 k1 k2 k3 k4 d0 d1 d2 d3 d4 fz e0
        have ST9 := Lib.hid (STx.out.trans ((Su.Mem.setDom' STx.out.mem HDS.out i (by show i < m.cur.length; rw [HNL.out]; exact hi) off3 A3 n3 c3 lo3 hi3 sz3 _ X8.out).call ((Below.refl _ _).drew)))
        generalize (((((w8.setCell ⟨b, o + i * 5, none⟩ (.int .i64 off3)).setCell ⟨b, o + i * 5 + 1, none⟩ (.slice A3 n3 c3)).setCell ⟨b, o + i * 5 + 2, none⟩ (.int .i64 lo3)).setCell ⟨b, o + i * 5 + 3, none⟩ (.int .i64 hi3)).setCell ⟨b, o + i * 5 + 4, none⟩ (.int .i64 sz3)).drew = w9 at ST9 ⊢
        have HSE : Hid (Sl w9 155 2 (.slice Ae1 el ce1) el (Su.ecells m.events)) := by
          have h1 := ST9.out.mem.events
          have h2 : Sl w9 155 2 p.es m.events.length (Su.ecells m.events) := h1
          rw [HES.out, HEL.out] at h2
          exact Lib.hid h2
        have e5 : w9.cell? ⟨S, 5, none⟩ = some (.slice Ae1 el ce1) := (cell_of ST9.out.mem.box 5).trans (congrArg some HES.out)
        go_wp2_with (at_builtin; refine wpList_append_sl _ rfl _ _ 61 rfl 155 i1 (.agg #[.int .i64 0, .int .i64 0]) 2 16 Tryd.underlying61 hi1 hy0 hy1 hy2 rfl (by decide) (.slice Ae1 el ce1) _ _ rfl (HSE.out.alloc _) ⟨w9.heap.size, 0, none⟩ 1 1 [.int .i64 (i : Int), .int .i64 ch] rfl rfl (World.news_of_block (heap_new w9 _)) (by intro u hu; simp at hu; rcases hu with rfl | rfl <;> rfl) (by decide) (by unfold maxLen; omega) (by omega) _ rfl ?_; intro b2 f2 c2 w10 hs2 hf2 hb2; have HB2 := hf2.heap (heap_alloc ST9.out.mem.box _) (fun k => (ST9.out.mem.tyS).ne (ST9.out.mem.tye (by rw [← k]; exact congrArg Value.ownBlock HES.out)) (by decide) rfl); have s0 := cell_of HB2 5; have s1 := frozen_of HB2 5; clear HB2)
        have ST10 := Lib.hid (ST9.out.trans (ST9.out.mem.addEvent ((i : Int), ch) (b := b2) (f := f2) (c := c2) (by show Sl w10 _ 2 (.slice _ (m.events.length + 1) _) (m.events.length + 1) (Su.ecells m.events ++ _); rw [HEL.out]; exact hs2) (by show Fr (fun k => p.es.ownBlock = some k) w9 w10; rw [HES.out]; exact (Fr.of_below (below_alloc (Below.refl _ _) _)).trans2 hf2 (fun k _ e => e)) (by show p.es.ownBlock = some b2 ∨ _; rw [HES.out]; exact hb2.imp id (fun e => by have := e.1; simp at this; omega))))
        go_ret
        have F := Su.St.before X2.out ST10.out
        try rw [← HTM.out] at F
        rw [Su.narrow_old _ _ _ _ (by have hil : i < m.stamps.length := (by rw [HST.out]; exact hi); rw [HTM.out, ← HTI.out, List.getD_eq_getElem?_getD, List.getElem?_eq_getElem hil]; rfl), ← HEL.out]
        exact ⟨rfl, _, F⟩
    · have HS := Lib.hid hs
      have hneq : (ti != tm) = true := bne_iff_ne.2 hs
      clear hs
      go_wp2_with fail
      go_quiet (fail)
      have STq := Lib.hid ((Su.St.refl M1.out).call (below_drewN (Below.refl _ _) nq))
      generalize wx.drewN nq = wq at STq ⊢
      clear e0 e1 e2 e4 hsc
      have e0 : wq.cell? ⟨S, 0, none⟩ = some (.slice (some ⟨b, o, none⟩) nl c) := (cell_of STq.out.mem.box 0).trans (congrArg some (by rw [← HE.out]; exact HDS.out))
      have e2 : wq.cell? ⟨S, 2, none⟩ = some (.slice At1 tl ct1) := (cell_of STq.out.mem.box 2).trans (congrArg some HTS.out)
      have e2a : ∀ o : Obj, (wq.alloc o).cell? ⟨S, 2, none⟩ = some (.slice At1 tl ct1) := fun o => (cell_of (heap_alloc STq.out.mem.box o) 2).trans (congrArg some HTS.out)
      obtain ⟨d0, d1, d2, d3, d4⟩ := STq.out.mem.dvals HDS.out i (by rw [HNL.out]; exact hi) HVI.out
      have HSE : Hid (Sl wq 153 6 (.slice At1 tl ct1) tl (Su.tcells m.trail p.tv)) := by
        have h2 := STq.out.mem.trail
        rw [HTS.out, HTL.out] at h2
        exact Lib.hid h2
      have XQ := Lib.hid (STq.out.rep M1.out (HR.out.call X2.out))
      go_wp2_with fail
      go_region_law (first
        | (refine step_append_sl _ rfl _ _ 149 rfl 153 i2 (.agg #[.int .i64 0, .int .i64 0, .slice none 0 0, .int .i64 0, .int .i64 0, .int .i64 0]) 6 64 Tryd.underlying149 hi2 hw0 hw1 hw2 rfl (by decide) (.slice At1 tl ct1) _ _ rfl (by first | exact Sl.drew (Sl.alloc HSE.out _) | exact Sl.alloc HSE.out _) ⟨wq.heap.size, 0, none⟩ 1 1 [.int .i64 (i : Int), .int .i64 off, .slice As q cs, .int .i64 lo, .int .i64 hh, .int .i64 z] rfl rfl (by first | exact World.news_of_block (heap_drew (heap_new wq _)) | exact World.news_of_block (heap_new wq _) | exact World.news_of_block (heap_new wq.drew _)) (by intro u hu; simp at hu; rcases hu with rfl | rfl | rfl | rfl | rfl | rfl <;> rfl) (by decide) (by unfold maxLen; omega) (by omega) _ rfl ?_; intro b7 f7 c7 w7 hs7 hf7 hb7; have HB7 := hf7.heap (by first | exact heap_drew (heap_alloc STq.out.mem.box _) | exact heap_alloc STq.out.mem.box _) (fun k => (STq.out.mem.tyS).ne (STq.out.mem.tyt (by rw [← k]; exact congrArg Value.ownBlock HTS.out)) (by decide) rfl); have s0 := cell_of HB7 2; have s1 := frozen_of HB7 2; clear HB7))
      all_goals
        have ST7 := Lib.hid (STq.out.trans (STq.out.mem.addSaved i _ l XQ.out (by rw [HNL.out]; exact hi) (b := b7) (f := f7) (c := c7) (by rw [HTL.out]; exact hs7) (by rw [HTS.out]; exact (Fr.of_below (by first | exact (below_alloc (Below.refl _ _) _).drew | exact below_alloc (Below.refl _ _) _)).trans2 hf7 (fun k _ e => e)) (by rw [HTS.out]; exact hb7.imp id (fun e => by have := e.1; simp at this; omega))))
        rw [HTL.out] at ST7
        clear hs7 hf7 hb7 s0 s1
        generalize w7.setCell ⟨S, 2, none⟩ (.slice (some ⟨b7, f7, none⟩) (tl + 1) c7) = w7b at ST7 ⊢
        clear e0 e2 e2a d0 d1 d2 d3 d4
        have t1 : w7b.cell? ⟨S, 1, none⟩ = some (.slice (some ⟨bs, os, none⟩) nl cs1) := (cell_of ST7.out.mem.box 1).trans (congrArg some HSS.out)
        have t4 : w7b.cell? ⟨S, 4, none⟩ = some (.int .i64 tm) := (cell_of ST7.out.mem.box 4).trans (congrArg some (by show Value.int .i64 m.time = _; rw [HTM.out]))
        have hil : i < m.stamps.length := by rw [HST.out]; exact hi
        have hsl : Sl w7b 3 1 (.slice (some ⟨bs, os, none⟩) nl cs1) nl (Iv m.stamps) := by
          have h2 := ST7.out.mem.stamps
          have h3 : Sl w7b 3 1 p.ss m.stamps.length (Iv m.stamps) := h2
          rw [HSS.out, HST.out] at h3
          exact h3
        have hsl2 := hsl
        rw [← HST.out] at hsl2
        have t5 := Iv.cell hsl2 i hil
        have t6 : w7b.frozen? ⟨bs, os + i, none⟩ = false := hsl.frozen _
        clear hsl hsl2
        go_wp2_with fail
        go_region
        all_goals
          have STx := Lib.hid (ST7.out.trans ((ST7.out.mem.setStamp HSS.out i hil tm).call ((Below.refl _ _).drew)))
          generalize ((w7b.setCell ⟨bs, os + i, none⟩ (.int .i64 tm)).drew) = w8 at STx ⊢
          clear t1 t4 t5 t6 hil
          have hbk := STx.out.fr.heap X1.out (fun hk => Nat.lt_irrefl _ (Nat.lt_of_lt_of_le (HM.out.fp_lt hk) BX0.out))
          have k0 := cell_of hbk 0
          have k1 := cell_of hbk 1
          have k2 := cell_of hbk 2
          have k3 := cell_of hbk 3
          have k4 := cell_of hbk 4
          have X8 := Lib.hid (STx.out.rep M1.out X3.out)
          obtain ⟨u0, u1, u2, u3, u4, d0, d1, d2, d3, d4, fz⟩ := STx.out.mem.dcells HDS.out i (by show i < m.cur.length; rw [HNL.out]; exact hi)
          have e0 : w8.cell? ⟨S, 0, none⟩ = some (.slice (some ⟨b, o, none⟩) nl c) := (cell_of STx.out.mem.box 0).trans (congrArg some (by rw [← HE.out]; exact HDS.out))
          clear hbk
          go_wp2_with fail
          go_region
          all_goals
            clear k0 k1 k2 k3 k4 d0 d1 d2 d3 d4 fz e0
            have ST9 := Lib.hid (STx.out.trans ((Su.Mem.setDom' STx.out.mem HDS.out i (by show i < m.cur.length; rw [HNL.out]; exact hi) off3 A3 n3 c3 lo3 hi3 sz3 _ X8.out).call ((Below.refl _ _).drew)))
            generalize (((((w8.setCell ⟨b, o + i * 5, none⟩ (.int .i64 off3)).setCell ⟨b, o + i * 5 + 1, none⟩ (.slice A3 n3 c3)).setCell ⟨b, o + i * 5 + 2, none⟩ (.int .i64 lo3)).setCell ⟨b, o + i * 5 + 3, none⟩ (.int .i64 hi3)).setCell ⟨b, o + i * 5 + 4, none⟩ (.int .i64 sz3)).drew = w9 at ST9 ⊢
            have HSE : Hid (Sl w9 155 2 (.slice Ae1 el ce1) el (Su.ecells m.events)) := by
              have h1 := ST9.out.mem.events
              have h2 : Sl w9 155 2 p.es m.events.length (Su.ecells m.events) := h1
              rw [HES.out, HEL.out] at h2
              exact Lib.hid h2
            have e5 : w9.cell? ⟨S, 5, none⟩ = some (.slice Ae1 el ce1) := (cell_of ST9.out.mem.box 5).trans (congrArg some HES.out)
            go_wp2_with (at_builtin; refine wpList_append_sl _ rfl _ _ 61 rfl 155 i1 (.agg #[.int .i64 0, .int .i64 0]) 2 16 Tryd.underlying61 hi1 hy0 hy1 hy2 rfl (by decide) (.slice Ae1 el ce1) _ _ rfl (HSE.out.alloc _) ⟨w9.heap.size, 0, none⟩ 1 1 [.int .i64 (i : Int), .int .i64 ch] rfl rfl (World.news_of_block (heap_new w9 _)) (by intro u hu; simp at hu; rcases hu with rfl | rfl <;> rfl) (by decide) (by unfold maxLen; omega) (by omega) _ rfl ?_; intro b2 f2 c2 w10 hs2 hf2 hb2; have HB2 := hf2.heap (heap_alloc ST9.out.mem.box _) (fun k => (ST9.out.mem.tyS).ne (ST9.out.mem.tye (by rw [← k]; exact congrArg Value.ownBlock HES.out)) (by decide) rfl); have s0 := cell_of HB2 5; have s1 := frozen_of HB2 5; clear HB2)
            have ST10 := Lib.hid (ST9.out.trans (ST9.out.mem.addEvent ((i : Int), ch) (b := b2) (f := f2) (c := c2) (by show Sl w10 _ 2 (.slice _ (m.events.length + 1) _) (m.events.length + 1) (Su.ecells m.events ++ _); rw [HEL.out]; exact hs2) (by show Fr (fun k => p.es.ownBlock = some k) w9 w10; rw [HES.out]; exact (Fr.of_below (below_alloc (Below.refl _ _) _)).trans2 hf2 (fun k _ e => e)) (by show p.es.ownBlock = some b2 ∨ _; rw [HES.out]; exact hb2.imp id (fun e => by have := e.1; simp at this; omega))))
            go_ret
            have F := Su.St.before X2.out ST10.out
            try rw [← HTM.out] at F
            rw [Su.narrow_new _ _ _ _ (fun e => HS.out (by rw [← HTI.out, List.getD_eq_getElem?_getD, e]; exact HTM.out)), HL.out, ← HEL.out]
            exact ⟨rfl, _, F⟩
end Go.Proofs.YtdbjljbkneopcaaDoor
