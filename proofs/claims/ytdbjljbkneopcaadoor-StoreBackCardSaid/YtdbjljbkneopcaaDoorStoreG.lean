/- Back of a store. -/
import Derived.Test.YtdbjljbkneopcaaDoorStoreF
namespace Go.Proofs.YtdbjljbkneopcaaDoor
open Go.RowKit
set_option linter.unusedSimpArgs false
set_option linter.unusedVariables false

theorem store_back_nil (lv : Int) (w : World) : Calls Tryd.prog 39 #[.pointer none, .int .i64 lv] w fun e w' => e = .returned (.int .i64 1) ∧ w = w' := by
  go_enter Tryd.func39, Tryd.ntmps39
  go_wp2_with fail
  go_ret
  exact ⟨rfl, rfl⟩
theorem store_back_out (S : Nat) (p : Su.Parts) (m : Su.M) (lv : Int) (w : World) (h : Su.Mem w S p m) (hl : lv < 0 ∨ (m.marks.length : Int) < lv) :
    Calls Tryd.prog 39 #[.pointer (some ⟨S, 0, none⟩), .int .i64 lv] w fun e w' => e = .returned (.int .i64 2) ∧ w = w' := by
  have e3 := cell_of h.box 3
  obtain ⟨A, c, hms⟩ := h.marks.len
  rw [hms] at e3
  generalize m.marks.length = n at *
  clear h hms
  rcases hl with hl | hl
  · go_enter Tryd.func39, Tryd.ntmps39
    go_wp2_with fail
    go_ret
    exact ⟨rfl, rfl⟩
  · have h0 : ¬ lv < 0 := by omega
    go_enter Tryd.func39, Tryd.ntmps39
    go_wp2_with fail
    go_ret
    exact ⟨rfl, rfl⟩
theorem store_back_top (S : Nat) (p : Su.Parts) (m : Su.M) (w : World) (h : Su.Mem w S p m) :
    Calls Tryd.prog 39 #[.pointer (some ⟨S, 0, none⟩), .int .i64 m.marks.length] w (Su.Gv w S p { m with events := [] } (.int .i64 0)) := by
  have HM := Lib.hid h
  have e3 := cell_of h.box 3
  have e5 := cell_of h.box 5
  have f5 := frozen_of h.box 5
  have hne : (3 : Nat) ≠ 5 := by decide
  obtain ⟨A, c, hms⟩ := h.marks.len
  rw [hms] at e3
  have ST := Lib.hid h.noEvents
  have g3 : (w.setCell ⟨S, 5, none⟩ (.slice none 0 0)).cell? ⟨S, 3, none⟩ = some (.slice A m.marks.length c) := (cell_of ST.out.mem.box 3).trans (congrArg some hms)
  have hbig := h.marks.big
  generalize hn : m.marks.length = n at *
  have hb : ((n : Int) == (n : Int)) = true := beq_self_eq_true _
  clear h hms hn
  go_enter Tryd.func39, Tryd.ntmps39
  go_wp2_with fail
  go_ret
  exact ⟨rfl, _, ST.out⟩
theorem Su.Mem.tcell {w : World} {S : Nat} {p : Su.Parts} {m : Su.M} (h : Su.Mem w S p m) {b o n c : Nat} (hA : p.ts = .slice (some ⟨b, o, none⟩) n c) (j : Nat) (hj : j < m.trail.length) :
    ∃ (off : Int) (As : Option Addr) (q cs : Nat) (lo hh : Int) (z : Nat), Dm.Rep w (.agg #[.int .i64 off, .slice As q cs, .int .i64 lo, .int .i64 hh, .int .i64 z]) (m.trail.getD j (0, [])).2 ∧ p.tv.getD j undef = .agg #[.int .i64 off, .slice As q cs, .int .i64 lo, .int .i64 hh, .int .i64 z] ∧
      w.cell? ⟨b, o + j * 6, none⟩ = some (.int .i64 ((m.trail.getD j (0, [])).1 : Int)) ∧ w.cell? ⟨b, o + j * 6 + 1, none⟩ = some (.int .i64 off) ∧ w.cell? ⟨b, o + j * 6 + 1 + 1, none⟩ = some (.slice As q cs) ∧ w.cell? ⟨b, o + j * 6 + 1 + 2, none⟩ = some (.int .i64 lo) ∧ w.cell? ⟨b, o + j * 6 + 1 + 3, none⟩ = some (.int .i64 hh) ∧ w.cell? ⟨b, o + j * 6 + 1 + 4, none⟩ = some (.int .i64 z) := by
  have hr := h.trep j hj
  have hn : n = m.trail.length := by
    obtain ⟨A', c', e⟩ := h.trail.len
    rw [hA] at e
    cases e; rfl
  subst hn
  have hs := h.trail
  rw [hA] at hs
  have hr' := hr
  obtain ⟨off, sv, ws, ev, hx⟩ := hr
  obtain ⟨As, cs', rfl⟩ := hx.sl.len
  have h6 : ∀ y ∈ m.trail.zip p.tv, (Value.int .i64 (y.1.1 : Int) :: Dm.cells y.2).length = 6 := fun y hy => by
    rw [List.length_cons, h.tv5 y.2 (List.of_mem_zip hy).2]
  have hget : (m.trail.zip p.tv)[j]? = some (m.trail.getD j (0, []), p.tv.getD j undef) := by
    have hj2 : j < p.tv.length := by rw [h.tlen]; exact hj
    rw [List.getD_eq_getElem?_getD, List.getD_eq_getElem?_getD, List.getElem?_eq_getElem hj, List.getElem?_eq_getElem hj2, List.getElem?_zip_eq_some]
    exact ⟨List.getElem?_eq_getElem hj, List.getElem?_eq_getElem hj2⟩
  have C : ∀ q, q < 6 → w.cell? ⟨b, o + j * 6 + q, none⟩ = (Value.int .i64 ((m.trail.getD j (0, [])).1 : Int) :: Dm.cells (p.tv.getD j undef))[q]? := fun q hq => by
    rw [Nat.add_assoc, hs.cell _ (by omega)]
    exact flat_get (fun e : (Nat × List Int) × Value => Value.int .i64 (e.1.1 : Int) :: Dm.cells e.2) 6 q hq _ j _ h6 hget
  rw [ev] at C hr'
  exact ⟨off, As, ws.length, cs', _, _, _, hr', ev, C 0 (by decide), C 1 (by decide), C 2 (by decide), C 3 (by decide), C 4 (by decide), C 5 (by decide)⟩
theorem Su.Mem.relevel {w : World} {S : Nat} {p : Su.Parts} {m : Su.M} (h : Su.Mem w S p m) (L : List (List (List Int))) : Su.Mem w S p { m with levels := L } :=
  ⟨h.box, h.doms, h.stamps, h.trail, h.tlen, h.trep, h.tat, h.marks, h.events, h.apart⟩
theorem Su.St.relevel {w w' : World} {S : Nat} {p p' : Su.Parts} {m : Su.M} (h : Su.St w w' S p p' m) (L : List (List (List Int))) : Su.St w w' S p p' { m with levels := L } :=
  ⟨h.mem.relevel L, h.fr, h.fp⟩
/-- While the trail is laid back. -/
def Su.Bk (w : World) (S : Nat) (p : Su.Parts) (m : Su.M) (j : Nat) (wr : World) : Prop := ∃ vs, Su.St w wr S p { p with es := .slice none 0 0, vs := vs } { m with cur := Su.undo (m.trail.drop j) m.cur, events := [] }
theorem Su.undo_drop (tr : List (Nat × List Int)) (cur : List (List Int)) (j : Nat) (hj : j < tr.length) : Su.undo (tr.drop j) cur = (Su.undo (tr.drop (j + 1)) cur).set (tr.getD j (0, [])).1 (tr.getD j (0, [])).2 := by
  rw [List.drop_eq_getElem_cons hj, List.getD_eq_getElem?_getD, List.getElem?_eq_getElem hj]
  rfl
set_option maxHeartbeats 4000000 in
set_option maxRecDepth 100000 in
theorem store_back_down (S : Nat) (p : Su.Parts) (m : Su.M) (N lv : Nat) (w : World) (h : Su.At w S p m) (hz : Su.Sz m N) (hN : N ≤ 100000000000) (hn : m.cur.length ≤ 1000000) (hl : lv < m.marks.length) :
    Calls Tryd.prog 39 #[.pointer (some ⟨S, 0, none⟩), .int .i64 lv] w (Su.Gv w S p (Su.back m lv) (.int .i64 0)) := by
  have HM := Lib.hid h.toMem
  have HZ := Lib.hid hz
  obtain ⟨Am, cm, hms⟩ := h.marks.len
  obtain ⟨At, ct, hts⟩ := h.trail.len
  obtain ⟨Ad, cd, hds⟩ := h.doms.sl.len
  have ht0 := hz.t0
  have ht1 := hz.t1
  have hml := hz.marks
  have htl := hz.trail
  obtain ⟨q, hq⟩ : ∃ q, m.marks[lv]? = some q := ⟨_, List.getElem?_eq_getElem hl⟩
  have hqd : m.marks.getD lv 0 = q := by rw [List.getD_eq_getElem?_getD, hq]; rfl
  have hqt : q ≤ m.trail.length := h.ok.le q (List.mem_of_getElem? hq)
  have hmk := h.marks
  rw [hms] at hmk
  have hmk' : Sl w 3 1 (.slice Am (m.marks.map Int.ofNat).length cm) (m.marks.map Int.ofNat).length (Iv (m.marks.map Int.ofNat)) := by rw [List.length_map]; exact hmk
  obtain ⟨bm, om, rfl, cmk⟩ := Iv.at hmk' lv (by rw [List.length_map]; exact hl)
  have hmv : (m.marks.map Int.ofNat).getD lv 0 = (q : Int) := by rw [List.getD_eq_getElem?_getD, List.getElem?_map, hq]; rfl
  rw [hmv] at cmk
  have HMS := Lib.hid hms
  have HTS := Lib.hid hts
  have HDS := Lib.hid hds
  have HQD := Lib.hid hqd
  have ST0 := Lib.hid h.toMem.noEvents
  have hbl : bm < w.heap.size := h.marks.lt (b := bm) (by rw [hms]; rfl)
  have hSm : bm ≠ S := (h.toMem.tym (b := bm) (by rw [hms]; rfl)).ne h.toMem.tyS (by decide)
  have e3 : w.cell? ⟨S, 3, none⟩ = some (.slice (some ⟨bm, om, none⟩) m.marks.length cm) := (cell_of h.box 3).trans (congrArg some hms)
  have e5 := cell_of h.box 5
  have f5 := frozen_of h.box 5
  have g3 : (w.setCell ⟨S, 5, none⟩ (.slice none 0 0)).cell? ⟨S, 3, none⟩ = some (.slice (some ⟨bm, om, none⟩) m.marks.length cm) := (cell_of ST0.out.mem.box 3).trans (congrArg some hms)
  have g2 : (w.setCell ⟨S, 5, none⟩ (.slice none 0 0)).cell? ⟨S, 2, none⟩ = some (.slice At m.trail.length ct) := (cell_of ST0.out.mem.box 2).trans (congrArg some hts)
  have gm : (w.setCell ⟨S, 5, none⟩ (.slice none 0 0)).cell? ⟨bm, om + lv, none⟩ = some (.int .i64 (q : Int)) := by
    rw [← cmk]
    have := heap_far (w := w) (b := bm) (p := ⟨S, 5, none⟩) (o := _) (Classical.choose_spec (h.toMem.tym (b := bm) (by rw [hms]; rfl))) hSm (.slice none 0 0)
    rw [cell_of this, cell_of (Classical.choose_spec (h.toMem.tym (b := bm) (by rw [hms]; rfl)))]
  have BK0 : Hid (Su.Bk w S p m m.trail.length (w.setCell ⟨S, 5, none⟩ (.slice none 0 0))) := by
    refine Lib.hid ⟨p.vs, ?_⟩
    rw [List.drop_of_length_le (Nat.le_refl _)]
    exact ST0.out
  have HTAT := Lib.hid h.tat
  have HOK := Lib.hid h.ok
  generalize hnm : m.marks.length = nm at *
  generalize hnt : m.trail.length = nt at *
  generalize htm : m.time = tm at *
  have HNM := Lib.hid hnm
  have HNT := Lib.hid hnt
  have HTM := Lib.hid htm
  have hl1 : (lv : Int) < (nm : Int) := by omega
  have hl2 : ((lv : Int) == (nm : Int)) = false := beq_eq_false_iff_ne.2 (by omega)
  have hl3 : ¬ ((nm : Int) < (lv : Int)) := by omega
  have hl4 : ¬ ((lv : Int) < 0) := by omega
  clear h hz hms hts hds hq hqd hmk hmk' hmv hnm hnt htm
  go_enter Tryd.func39, Tryd.ntmps39
  go_wp2_with fail
  generalize w.setCell ⟨S, 5, none⟩ (.slice none 0 0) = w1 at BK0 g2 g3 gm ⊢
  clear e3 e5 f5 cmk g2 gm g3
  go_loopg [6] (nt - q) (fun k s6 wr => ∃ j : Nat, s6 = .int .i64 ((j : Int) - 1) ∧ k + q = j ∧ j ≤ nt ∧ Su.Bk w S p m j wr)
  case atStart => exact ⟨nt, rfl, by omega, Nat.le_refl _, BK0.out⟩
  case round =>
    obtain ⟨j, rfl, hj, hjn, vs, st⟩ := hrel
    have ST := Lib.hid st
    clear st
    by_cases hk : q < j
    · obtain ⟨i, rfl⟩ : ∃ i, j = i + 1 := ⟨j - 1, by omega⟩
      rw [show ((i + 1 : Nat) : Int) - 1 = (i : Int) from by omega]
      have hin : i < m.trail.length := by rw [HNT.out]; omega
      obtain ⟨bt, ot, ct', cst, hft, _⟩ := ST.out.mem.trail.form (by show 0 < m.trail.length; omega)
      have hft' : p.ts = .slice (some ⟨bt, ot, none⟩) m.trail.length ct' := hft
      obtain ⟨off, As, qs, cs, lo, hh, z, hr, htv, t0, t1, t2, t3, t4, t5⟩ := ST.out.mem.tcell hft i hin
      have hat : (m.trail.getD i (0, [])).1 < m.cur.length := HTAT.out _ (by rw [List.getD_eq_getElem?_getD, List.getElem?_eq_getElem hin]; exact List.getElem_mem hin)
      have hlc : (Su.undo (m.trail.drop (i + 1)) m.cur).length = m.cur.length := Su.undo_length _ _
      have hvl : vs.length = m.cur.length := ST.out.mem.doms.len.trans hlc
      obtain ⟨bd, od, cd', csd, hfd, _⟩ := ST.out.mem.doms.sl.form (by show 0 < vs.length; omega)
      have hfd' : p.ds = .slice (some ⟨bd, od, none⟩) m.cur.length cd' := by rw [← hvl]; exact hfd
      obtain ⟨u0, u1, u2, u3, u4, d0, d1, d2, d3, d4, fz⟩ := ST.out.mem.dcells hfd' (m.trail.getD i (0, [])).1 (by rw [hlc]; exact hat)
      have e0 : wr.cell? ⟨S, 0, none⟩ = some (.slice (some ⟨bd, od, none⟩) m.cur.length cd') := (cell_of ST.out.mem.box 0).trans (congrArg some hfd')
      have e2 : wr.cell? ⟨S, 2, none⟩ = some (.slice (some ⟨bt, ot, none⟩) nt ct') := (cell_of ST.out.mem.box 2).trans (congrArg some (by rw [← HNT.out]; exact hft'))
      have UD := Lib.hid (Su.undo_drop m.trail m.cur i hin)
      have HR := Lib.hid hr
      have HFD := Lib.hid hfd'
      have HLC := Lib.hid hlc
      have hat1 : ((m.trail.getD i (0, [])).1 : Int) < (m.cur.length : Int) := by omega
      have hit : (i : Int) < (nt : Int) := by omega
      have hqi : (q : Int) ≤ (i : Int) := by omega
      have EI := Lib.hid (show (i : Int) - 1 = (i : Int) - 1 from rfl)
      clear hft hft' hfd hfd' htv hr hlc hvl
      obtain ⟨at_, hat_⟩ : ∃ a, a = (m.trail.getD i (0, [])).1 := ⟨_, rfl⟩
      have HAT := Lib.hid hat_
      rw [← hat_] at t0 d0 d1 d2 d3 d4 hat hat1
      clear hat_
      generalize hcl : m.cur.length = nc at *
      have HCL := Lib.hid hcl
      clear hcl
      go_wp2_with fail
      go_region
      all_goals
        clear t0 t1 t2 t3 t4 t5 d0 d1 d2 d3 d4 fz e0 e2
        have ST9 := Lib.hid (ST.out.trans ((Su.Mem.setDom' ST.out.mem HFD.out at_ (by rw [HLC.out]; exact hat) off As qs cs lo hh z _ HR.out).call ((Below.refl _ _).drew)))
        generalize (((((wr.setCell ⟨bd, od + at_ * 5, none⟩ (.int .i64 off)).setCell ⟨bd, od + at_ * 5 + 1, none⟩ (.slice As qs cs)).setCell ⟨bd, od + at_ * 5 + 2, none⟩ (.int .i64 lo)).setCell ⟨bd, od + at_ * 5 + 3, none⟩ (.int .i64 hh)).setCell ⟨bd, od + at_ * 5 + 4, none⟩ (.int .i64 z)).drew = w9 at ST9 ⊢
        go_wp2_with fail
        go_roundg (gk - 1)
        case measure => omega
        case rel =>
          have F := ST9.out
          rw [HAT.out] at F
          rw [← UD.out] at F
          exact ⟨i, by go_num, by omega, by omega, _, F⟩
    · obtain rfl : j = q := by omega
      have hq1 : ¬ ((j : Int) ≤ (j : Int) - 1) := by omega
      have e2 : wr.cell? ⟨S, 2, none⟩ = some (.slice At nt ct) := (cell_of ST.out.mem.box 2).trans (congrArg some HTS.out)
      have e3 : wr.cell? ⟨S, 3, none⟩ = some (.slice (some ⟨bm, om, none⟩) nm cm) := (cell_of ST.out.mem.box 3).trans (congrArg some HMS.out)
      have f2 := frozen_of ST.out.mem.box 2
      have f3 := frozen_of ST.out.mem.box 3
      have hct : nt ≤ ct := by
        have h1 := ST.out.mem.trail
        have h2 : Sl wr 153 6 p.ts m.trail.length (Su.tcells m.trail p.tv) := h1
        rw [HTS.out, HNT.out] at h2
        obtain ⟨_, ⟨h3, h4⟩ | ⟨_, _, _, _, h3, _, h4, _⟩⟩ := h2
        · omega
        · cases h3; exact h4
      have hcm : nm ≤ cm := by
        have h1 := ST.out.mem.marks
        have h2 : Sl wr 3 1 p.ms m.marks.length (Iv (m.marks.map Int.ofNat)) := h1
        rw [HMS.out, HNM.out] at h2
        obtain ⟨_, ⟨h3, h4⟩ | ⟨_, _, _, _, h3, _, h4, _⟩⟩ := h2
        · cases h3
        · cases h3; exact h4
      have k1 : (j : Int) ≤ (ct : Int) := by omega
      have k2 : (lv : Int) ≤ (cm : Int) := by omega
      have k3 : j ≤ ct := by omega
      have k4 : lv ≤ cm := by omega
      go_wp2_with fail
      go_region
      all_goals
        clear e2 e3 f2 f3
        have ST1 := ST.out.trans (ST.out.mem.cutTrail (A := At) (c := ct) (by show p.ts = .slice At m.trail.length ct; rw [HNT.out]; exact HTS.out) j (by show j ≤ m.trail.length; rw [HNT.out]; exact hqt))
        have ST2 := Lib.hid ((ST1.trans (ST1.mem.cutMarks (A := some ⟨bm, om, none⟩) (c := cm) (by show p.ms = .slice _ m.marks.length cm; rw [HNM.out]; exact HMS.out) lv (by show lv ≤ m.marks.length; rw [HNM.out]; omega))).call ((Below.refl _ _).drew))
        clear ST1
        generalize ((wr.setCell ⟨S, 2, none⟩ (.slice At j ct)).setCell ⟨S, 3, none⟩ (.slice (some ⟨bm, om, none⟩) lv cm)).drew = w5 at ST2 ⊢
        have t4 : w5.cell? ⟨S, 4, none⟩ = some (.int .i64 tm) := (cell_of ST2.out.mem.box 4).trans (congrArg some (by show Value.int .i64 m.time = _; rw [HTM.out]))
        have f4 := frozen_of ST2.out.mem.box 4
        go_wp2_with fail
        go_ret
        have F := (ST2.out.trans (ST2.out.mem.setTime (tm + 1))).relevel (m.levels.take lv)
        rw [← HTM.out, ← HQD.out] at F
        rw [← HTM.out, ← HQD.out]
        exact ⟨rfl, _, F⟩
/-- What Back makes of a store, and its code. -/
def Su.bk (m : Su.M) (lv : Int) : Su.M × Int :=
  if lv < 0 ∨ (m.marks.length : Int) < lv then (m, 2) else if lv = m.marks.length then ({ m with events := [] }, 0) else (Su.back m lv.toNat, 0)
theorem store_back (S : Nat) (p : Su.Parts) (m : Su.M) (N : Nat) (lv : Int) (w : World) (h : Su.At w S p m) (hz : Su.Sz m N) (hN : N ≤ 100000000000) (hn : m.cur.length ≤ 1000000) :
    Calls Tryd.prog 39 #[.pointer (some ⟨S, 0, none⟩), .int .i64 lv] w (Su.Gv w S p (Su.bk m lv).1 (.int .i64 (Su.bk m lv).2)) := by
  unfold Su.bk
  by_cases h1 : lv < 0 ∨ (m.marks.length : Int) < lv
  · rw [if_pos h1]
    refine (store_back_out S p m lv w h.toMem h1).mono ?_
    rintro e w' ⟨rfl, rfl⟩
    exact ⟨rfl, p, Su.St.refl h.toMem⟩
  · rw [if_neg h1]
    by_cases h2 : lv = m.marks.length
    · rw [if_pos h2]
      subst h2
      exact store_back_top S p m w h.toMem
    · rw [if_neg h2]
      obtain ⟨k, rfl⟩ : ∃ k : Nat, lv = k := ⟨lv.toNat, by omega⟩
      exact store_back_down S p m N k w h hz hN hn (by omega)
/-- What Narrow makes of a store, and what became of the domain. -/
def Su.nar (m : Su.M) (i : Int) (dl : List Int) : Su.M × Int :=
  if 0 ≤ i ∧ i < m.cur.length then
    if Dm.chg (m.cur.getD i.toNat []) ((m.cur.getD i.toNat []).filter fun u => decide (u ∈ dl)) = 0 then (m, 0)
    else (Su.narrow m i.toNat ((m.cur.getD i.toNat []).filter fun u => decide (u ∈ dl)) (Dm.chg (m.cur.getD i.toNat []) ((m.cur.getD i.toNat []).filter fun u => decide (u ∈ dl))), Dm.chg (m.cur.getD i.toNat []) ((m.cur.getD i.toNat []).filter fun u => decide (u ∈ dl)))
  else (m, 0)
theorem store_narrow (S : Nat) (p : Su.Parts) (m : Su.M) (N : Nat) (i : Int) (d : Value) (dl : List Int) (w : World) (h : Su.At w S p m) (hd : Dm.Rep w d dl) (hz : Su.Sz m N) (hN : N ≤ 100000000000) (hn : m.cur.length ≤ 1000000) (hT : Tab w) :
    Calls Tryd.prog 34 #[.pointer (some ⟨S, 0, none⟩), .int .i64 i, d] w (Su.Gv w S p (Su.nar m i dl).1 (.int .i64 (Su.nar m i dl).2)) := by
  unfold Su.nar
  by_cases h1 : 0 ≤ i ∧ i < m.cur.length
  · rw [if_pos h1]
    obtain ⟨k, rfl⟩ : ∃ k : Nat, i = k := ⟨i.toNat, by omega⟩
    rw [Int.toNat_natCast]
    by_cases h2 : Dm.chg (m.cur.getD k []) ((m.cur.getD k []).filter fun u => decide (u ∈ dl)) = 0
    · rw [if_pos h2]
      refine (store_narrow_same S p m k d dl w h.toMem hd hn (by omega) hT h2).mono ?_
      rintro e w' ⟨rfl, hb⟩
      exact ⟨rfl, p, (Su.St.refl h.toMem).call hb⟩
    · rw [if_neg h2]
      exact store_narrow_chg S p m k d dl N w h.toMem hd hn (by omega) hT hz hN h.ok.len h2
  · rw [if_neg h1]
    refine (store_narrow_out _ _ i d dl w h.toMem.has hd hn h1).mono ?_
    rintro e w' ⟨rfl, hb⟩
    exact ⟨rfl, p, (Su.St.refl h.toMem).call hb⟩
theorem store_pushes (S : Nat) (p : Su.Parts) (m : Su.M) (N : Nat) (w : World) (h : Su.Mem w S p m) (hz : Su.Sz m N) (hN : N ≤ 100000000000) :
    Calls Tryd.prog 35 #[.pointer (some ⟨S, 0, none⟩)] w (Su.Gv w S p (Su.push m) (.tuple #[])) := by
  refine (store_push S p m N w h hz hN).mono ?_
  rintro e w' ⟨rfl, p', st⟩
  exact ⟨rfl, p', st.relevel (m.levels ++ [m.cur])⟩
theorem Su.Ok.events {m : Su.M} (h : Su.Ok m) (es : List (Int × Int)) : Su.Ok { m with events := es } := ⟨h.len, h.lens, h.mono, h.le, h.back, h.old, h.has⟩
theorem Su.bk_ok (m : Su.M) (lv : Int) (h : Su.Ok m) : Su.Ok (Su.bk m lv).1 := by
  unfold Su.bk
  split
  · exact h
  · split
    · exact h.events []
    · exact (Su.back_ok m h lv.toNat (by omega)).1
theorem Su.nar_ok (m : Su.M) (i : Int) (dl : List Int) (h : Su.Ok m) : Su.Ok (Su.nar m i dl).1 := by
  unfold Su.nar
  split
  · split
    · exact h
    · exact Su.narrow_ok m h _ _ _ (by omega)
  · exact h
theorem Su.push_sz {m : Su.M} {N : Nat} (h : Su.Sz m N) : Su.Sz (Su.push m) (N + 1) :=
  ⟨by show (m.marks ++ [_]).length ≤ _; rw [List.length_append]; have := h.marks; simp; omega, by have := h.trail; show m.trail.length ≤ _; omega, by have := h.events; show m.events.length ≤ _; omega, by have := h.t0; show 0 ≤ m.time + 1; omega, by have := h.t1; show m.time + 1 ≤ _; omega⟩
theorem Su.nar_sz {m : Su.M} {N : Nat} (h : Su.Sz m N) (i : Int) (dl : List Int) : Su.Sz (Su.nar m i dl).1 (N + 1) := by
  unfold Su.nar
  split
  · split
    · exact h.mono (by omega)
    · refine ⟨Nat.le_succ_of_le h.marks, ?_, ?_, h.t0, by have := h.t1; show m.time ≤ _; omega⟩
      · show (if m.stamps[i.toNat]? = some m.time then m.trail else m.trail ++ [_]).length ≤ _
        have := h.trail
        split
        · omega
        · rw [List.length_append]; simp; omega
      · show (m.events ++ [_]).length ≤ _
        have := h.events
        rw [List.length_append]; simp; omega
  · exact h.mono (by omega)
theorem Su.bk_sz {m : Su.M} {N : Nat} (h : Su.Sz m N) (lv : Int) : Su.Sz (Su.bk m lv).1 (N + 1) := by
  have a1 := h.marks
  have a2 := h.trail
  have a3 := h.events
  have a4 := h.t0
  have a5 := h.t1
  unfold Su.bk
  split
  · exact h.mono (by omega)
  · split
    · exact ⟨by show m.marks.length ≤ _; omega, by show m.trail.length ≤ _; omega, Nat.zero_le _, a4, by show m.time ≤ _; omega⟩
    · refine ⟨?_, ?_, Nat.zero_le _, by show 0 ≤ m.time + 1; omega, by show m.time + 1 ≤ _; omega⟩
      · show (m.marks.take _).length ≤ _
        rw [List.length_take]; omega
      · show (m.trail.take _).length ≤ _
        rw [List.length_take]; omega
theorem Su.events_sz {m : Su.M} {N : Nat} (h : Su.Sz m N) : Su.Sz { m with events := [] } N := ⟨h.marks, h.trail, Nat.zero_le _, h.t0, h.t1⟩
theorem Su.nar_len (m : Su.M) (i : Int) (dl : List Int) : (Su.nar m i dl).1.cur.length = m.cur.length := by
  unfold Su.nar
  split
  · split
    · rfl
    · exact List.length_set
  · rfl
theorem Su.bk_len (m : Su.M) (lv : Int) : (Su.bk m lv).1.cur.length = m.cur.length := by
  unfold Su.bk
  split
  · rfl
  · split
    · rfl
    · exact Su.undo_length _ _
end Go.Proofs.YtdbjljbkneopcaaDoor
