import Derived.Test.YtdbjljbkneopcaaDoorStoreO
import Derived.Test.YtdbjljbkneopcaaDoorRef3D
/- The two stores side by side: what each step keeps; sameEvents. -/
namespace Go.Proofs.YtdbjljbkneopcaaDoor
open Go.RowKit
set_option linter.unusedSimpArgs false
set_option linter.unusedVariables false

theorem Gl.of_sl {α : Type} {P : Nat → Prop} {k e : Nat} {E : World → List Value → α → Prop} {d : α} {w : World} {sv : Value} {l : List α} (f : α → List Value) (hk : ∀ x ∈ l, (f x).length = k) (h : Sl w e k sv l.length (l.flatMap f)) (hp : ∀ b, sv.ownBlock = some b → P b) (hE : ∀ x ∈ l, E w (f x) x) : Gl P k E d w sv l := by
  refine ⟨h.len, h.big, ?_, fun h0 => ?_⟩
  · obtain ⟨_, ⟨rfl, h2⟩ | ⟨b, o, c', cs, rfl, _, h3, _⟩⟩ := h
    · intro A n c e
      cases e
      exact ⟨Nat.le_refl _, fun _ => ⟨rfl, rfl⟩⟩
    · intro A n c e
      cases e
      exact ⟨h3, fun e => by cases e⟩
  · obtain ⟨b, o, c', cs, e0, hc, _⟩ := h.form h0
    have hs := h
    rw [e0] at hs
    refine ⟨b, o, c', e0, heap_lt hc, hp b (by rw [e0]; rfl), fun j hj => ?_⟩
    have hg : l[j]? = some (l.getD j d) := by rw [List.getD_eq_getElem?_getD, List.getElem?_eq_getElem hj]; rfl
    have hm : l.getD j d ∈ l := List.mem_of_getElem? hg
    refine ⟨f (l.getD j d), hk _ hm, fun q hq => ?_, hE _ hm⟩
    rw [Nat.add_assoc, hs.cell (j * k + q) (by have : j * k + k ≤ l.length * k := by rw [← Nat.succ_mul]; exact Nat.mul_le_mul_right k hj
                                               omega)]
    by_cases hall : ∀ y ∈ l, (f y).length = k
    · exact flat_get f k q hq l j _ hall hg
    · exact absurd hk hall
set_option maxHeartbeats 1000000 in
theorem law3_events (P Q : Nat → Prop) (s1 s2 : Value) (es : List (Int × Int)) (w : World) (h1 : Gl P 2 E3e (0, 0) w s1 es) (h2 : Gl Q 2 E3e (0, 0) w s2 es) : Calls Tryd.prog 53 #[s1, s2] w (Rf.Says true w) := by
  have H1 := Lib.hid h1
  have H2 := Lib.hid h2
  obtain ⟨A1, c1, rfl⟩ := h1.len
  obtain ⟨A2, c2, rfl⟩ := h2.len
  have hbig := h1.big
  clear h1 h2
  generalize hn : es.length = n at *
  have HN := Lib.hid hn
  have hb : ((n : Int) != (n : Int)) = false := by simp
  clear hn
  go_enter Tryd.func53, Tryd.ntmps53
  go_wp2_with fail
  go_loopg [13] n (fun k s13 wr => ∃ j : Nat, s13 = .int .i64 j ∧ k + j = n ∧ Hid (Below w.heap.size w wr))
  case atStart => exact ⟨0, rfl, by omega, Lib.hid (Below.refl _ _)⟩
  case round =>
    obtain ⟨j, rfl, hj, hbw⟩ := hrel
    rcases Nat.lt_or_ge j n with hk | hk
    · have hje : j < es.length := by rw [HN.out]; exact hk
      obtain ⟨b1, o1, v1, e1, hb1, _, _, k1, r1⟩ := H1.out.at j hje
      obtain ⟨b2, o2, v2, e2, hb2, _, _, k2, r2⟩ := H2.out.at j hje
      cases e1
      cases e2
      rw [r1] at k1
      rw [r2] at k2
      generalize (es.getD j (0, 0)).1 = x at *
      generalize (es.getD j (0, 0)).2 = y at *
      have a0 : wr.cell? ⟨b1, o1 + j * 2, none⟩ = some (.int .i64 x) := by rw [(bcell hbw.out).1 b1 _ hb1]; exact k1 0 (by decide)
      have a1 : wr.cell? ⟨b1, o1 + j * 2 + 1, none⟩ = some (.int .i64 y) := by rw [(bcell hbw.out).1 b1 _ hb1]; exact k1 1 (by decide)
      have d0 : wr.cell? ⟨b2, o2 + j * 2, none⟩ = some (.int .i64 x) := by rw [(bcell hbw.out).1 b2 _ hb2]; exact k2 0 (by decide)
      have d1 : wr.cell? ⟨b2, o2 + j * 2 + 1, none⟩ = some (.int .i64 y) := by rw [(bcell hbw.out).1 b2 _ hb2]; exact k2 1 (by decide)
      have q1 : (x != x) = false := by simp
      have q2 : (y != y) = false := by simp
      have hjn : (j : Int) < (n : Int) := by omega
      clear k1 k2 r1 r2 hb1 hb2
      go_wp2_with fail
      go_quiet (fail)
      have BQ := Lib.hid (below_drewN hbw.out nq)
      go_wp2_with fail
      go_roundg (gk - 1)
      case measure => omega
      case rel => exact ⟨j + 1, by go_num, by omega, BQ⟩
    · obtain rfl : j = n := by omega
      go_wp2_with fail
      go_ret
      exact ⟨rfl, hbw.out⟩
/-- Blocks apart from a store and from one box. -/
def Su.Pb (p : Su.Parts) (S b8 : Nat) (w : World) (b : Nat) : Prop := ¬ p.fp S b ∧ b ≠ b8 ∧ b < w.heap.size
/-- The program's store, and the document's in its box. -/
structure Su.Pl (wn : World) (S b8 : Nat) (wr : World) (p : Su.Parts) (m : Su.M) (N : Nat) (lv ev : Value) (LS : List (List (List Int))) (es : List (Int × Int)) : Prop where
  own : Su.Own wn wr S p m N
  box : wr.heap[b8]? = some (.cells #[lv, ev] 78 (0, 0))
  far : ¬ p.fp S b8
  le : wn.heap.size ≤ b8
  ref : R3 (Su.Pb p S b8 wr) wr (.agg #[lv, ev]) LS es lv ev
  len : m.cur.length ≤ 6
  small : ∀ l ∈ m.cur, l.length ≤ 8
theorem Su.Pl.call {wn : World} {S b8 : Nat} {wr w' : World} {p : Su.Parts} {m : Su.M} {N : Nat} {lv ev : Value} {LS : List (List (List Int))} {es : List (Int × Int)} (h : Su.Pl wn S b8 wr p m N lv ev LS es) (hb : Below wr.heap.size wr w') : Su.Pl wn S b8 w' p m N lv ev LS es :=
  ⟨h.own.call hb, heap_call h.box hb, h.far, h.le, (h.ref.call hb).mono (fun b hp => ⟨hp.1, hp.2.1, Nat.lt_of_lt_of_le hp.2.2 hb.size⟩), h.len, h.small⟩
/-- The store is turned. -/
theorem Su.Pl.store {wn : World} {S b8 : Nat} {wr w' : World} {p p' : Su.Parts} {m m' : Su.M} {N N' : Nat} {lv ev : Value} {LS : List (List (List Int))} {es : List (Int × Int)} (h : Su.Pl wn S b8 wr p m N lv ev LS es) (ho : Su.Own wn w' S p' m' N') (st : Su.St wr w' S p p' m') (hl : m'.cur.length ≤ 6) (hs : ∀ l ∈ m'.cur, l.length ≤ 8) : Su.Pl wn S b8 w' p' m' N' lv ev LS es :=
  ⟨ho, (st.far h.box h.far).1, (st.far h.box h.far).2, h.le, (h.ref.kept st.fr (fun b hp => hp.1)).mono (fun b hp => ⟨fun hk => (st.fp b hk).elim hp.1 (fun e => by have := hp.2.2; omega), hp.2.1, Nat.lt_of_lt_of_le hp.2.2 st.fr.size⟩), hl, hs⟩
/-- The document's store is turned. -/
theorem Su.Pl.refs {wn : World} {S b8 : Nat} {wr w' : World} {p : Su.Parts} {m : Su.M} {N : Nat} {lv ev lv' ev' v' : Value} {LS LS' : List (List (List Int))} {es es' : List (Int × Int)} (h : Su.Pl wn S b8 wr p m N lv ev LS es) (hr : R3 (Or2 (Su.Pb p S b8 wr) wr w') w' v' LS' es' lv' ev') (hb : Below wr.heap.size wr w') (o : Obj) :
    Su.Pl wn S b8 (((w'.alloc o).setCell ⟨b8, 0, none⟩ lv').setCell ⟨b8, 1, none⟩ ev') p m N lv' ev' LS' es' ∧ Su.Pl wn S b8 ((w'.setCell ⟨b8, 0, none⟩ lv').setCell ⟨b8, 1, none⟩ ev') p m N lv' ev' LS' es' := by
  have hlt := heap_lt h.box
  have G : ∀ W : World, Below w'.heap.size w' W → Su.Pl wn S b8 ((W.setCell ⟨b8, 0, none⟩ lv').setCell ⟨b8, 1, none⟩ ev') p m N lv' ev' LS' es' := fun W hW => by
    have hbW := below_call hb hW
    have FR : Fr (fun k => k = b8) W ((W.setCell ⟨b8, 0, none⟩ lv').setCell ⟨b8, 1, none⟩ ev') := by
      refine Fr.set (Fr.set (Fr.refl _ _) ?_ _) ?_ _
      all_goals exact fun _ => rfl
    have h2 := h.own.call hbW
    have hx := heap_call h.box hbW
    have hm := h2.at_.toMem.keep FR (fun k e => by subst e; exact h.far) (fun k e => by subst e; exact ⟨_, ⟨_, hx⟩, by decide⟩)
    have r2 := (hr.call hW).mono (Q := Su.Pb p S b8 W) (fun b hq => by
      have hs1 := hb.size
      have hs2 := hW.size
      rcases hq with hq | hq
      · exact ⟨hq.1, hq.2.1, by have := hq.2.2; omega⟩
      · exact ⟨fun hk => by have := h.own.at_.toMem.fp_lt hk; omega, by omega, by omega⟩)
    have hev : v' = .agg #[lv', ev'] := hr.val
    subst hev
    refine ⟨⟨⟨hm, h2.at_.ok⟩, h2.sz, Fr.below h2.below FR (fun i e => by rw [e]; exact h.le), h2.fp⟩, heap_set (heap_set hx 0 lv') 1 ev', h.far, h.le, (r2.kept FR (fun b hp e => hp.2.1 e)).mono (fun b hp => ⟨hp.1, hp.2.1, Nat.lt_of_lt_of_le hp.2.2 FR.size⟩), h.len, h.small⟩
  exact ⟨G _ (below_alloc (Below.refl _ _) _), G _ (Below.refl _ _)⟩
end Go.Proofs.YtdbjljbkneopcaaDoor
/- The two stores' steps, in plain lists; the acts of chapter 03. -/
namespace Go.Proofs.YtdbjljbkneopcaaDoor
open Go.RowKit
set_option linter.unusedSimpArgs false
set_option linter.unusedVariables false

/-- The document's levels. -/
def Su.LS (m : Su.M) : List (List (List Int)) := m.levels ++ [m.cur]
theorem Su.LS_len (m : Su.M) : (Su.LS m).length = m.levels.length + 1 := by unfold Su.LS; rw [List.length_append]; rfl
theorem Su.LS_last (m : Su.M) : (Su.LS m).getD ((Su.LS m).length - 1) [] = m.cur := by
  rw [Su.LS_len, List.getD_eq_getElem?_getD]
  unfold Su.LS
  rw [Nat.add_sub_cancel, List.getElem?_append_right (Nat.le_refl _), Nat.sub_self]
  rfl
theorem Su.LS_push (m : Su.M) : Su.LS (Su.push m) = Su.LS m ++ [m.cur] := rfl
theorem Su.bk_in (m : Su.M) (h : Su.Ok m) (q : Nat) (hq : q < (Su.LS m).length) : (Su.bk m q).2 = 0 ∧ Su.LS (Su.bk m q).1 = (Su.LS m).take (q + 1) ∧ (Su.bk m q).1.events = [] := by
  rw [Su.LS_len, ← h.lens] at hq
  unfold Su.bk
  rw [if_neg (by omega)]
  by_cases he : (q : Int) = m.marks.length
  · rw [if_pos he]
    refine ⟨rfl, ?_, rfl⟩
    rw [List.take_of_length_le (by rw [Su.LS_len, ← h.lens]; omega)]
    rfl
  · rw [if_neg he]
    refine ⟨rfl, ?_, rfl⟩
    rw [Int.toNat_natCast]
    have h2 := (Su.back_ok m h q (by omega)).2
    have hql : q < m.levels.length := by rw [← h.lens]; omega
    show m.levels.take q ++ [(Su.back m q).cur] = (m.levels ++ [m.cur]).take (q + 1)
    rw [List.take_append_of_le_length hql, List.take_add_one, h2]
    rfl
theorem Su.bk_out (m : Su.M) (h : Su.Ok m) (i : Int) (hi : i < 0 ∨ ((Su.LS m).length : Int) - 1 < i) : Su.bk m i = (m, 2) := by
  unfold Su.bk
  rw [if_pos]
  rw [Su.LS_len, ← h.lens] at hi
  omega
theorem Su.nar_events (m : Su.M) (i : Nat) (dl x : List Int) (ch : Int) (hi : i < m.cur.length) (hx : (m.cur.getD i []).filter (fun u => decide (u ∈ dl)) = x) (hch : Dm.chg (m.cur.getD i []) x = ch) (hc : ch ≠ 0) :
    (Su.nar m i dl).2 = ch ∧ Su.LS (Su.nar m i dl).1 = (Su.LS m).take ((Su.LS m).length - 1) ++ [m.cur.set i x] ∧ (Su.nar m i dl).1.events = m.events ++ [((i : Int), ch)] ∧ (Su.nar m i dl).1.cur = m.cur.set i x := by
  unfold Su.nar
  rw [if_pos (by omega), Int.toNat_natCast, hx, hch, if_neg hc]
  refine ⟨rfl, ?_, rfl, rfl⟩
  have e : (Su.LS m).take ((Su.LS m).length - 1) = m.levels := by
    rw [Su.LS_len, Nat.add_sub_cancel]
    unfold Su.LS
    rw [List.take_append_of_le_length (Nat.le_refl _), List.take_length]
  rw [e]
  rfl
theorem Su.nar_same (m : Su.M) (i : Nat) (dl : List Int) (hi : i < m.cur.length) (hc : Dm.chg (m.cur.getD i []) ((m.cur.getD i []).filter fun u => decide (u ∈ dl)) = 0) : Su.nar m i dl = (m, 0) := by
  unfold Su.nar
  rw [if_pos (by omega), Int.toNat_natCast, if_pos hc]
theorem Su.nar_out (m : Su.M) (i : Int) (dl : List Int) (hi : ¬ (0 ≤ i ∧ i < m.cur.length)) : Su.nar m i dl = (m, 0) := by
  unfold Su.nar
  rw [if_neg hi]
theorem Su.nar_small (m : Su.M) (i : Int) (dl : List Int) (h : ∀ l ∈ m.cur, l.length ≤ 8) : ∀ l ∈ (Su.nar m i dl).1.cur, l.length ≤ 8 := by
  unfold Su.nar
  split
  · rename_i hi
    split
    · exact h
    · intro l hl
      rcases List.mem_or_eq_of_mem_set hl with hl | rfl
      · exact h l hl
      · refine Nat.le_trans (List.length_filter_le _ _) ?_
        have hk : i.toNat < m.cur.length := by omega
        rw [List.getD_eq_getElem?_getD, List.getElem?_eq_getElem hk]
        exact h _ (List.getElem_mem hk)
  · exact h
/-- The saved ones are small, too. -/
def Su.Sml (m : Su.M) : Prop := (∀ l ∈ m.cur, l.length ≤ 8) ∧ ∀ e ∈ m.trail, e.2.length ≤ 8
theorem Su.undo_small (es : List (Nat × List Int)) (cur : List (List Int)) (h1 : ∀ l ∈ cur, l.length ≤ 8) (h2 : ∀ e ∈ es, e.2.length ≤ 8) : ∀ l ∈ Su.undo es cur, l.length ≤ 8 := by
  induction es with
  | nil => exact h1
  | cons e r ih =>
    intro l hl
    rcases List.mem_or_eq_of_mem_set (show l ∈ (Su.undo r cur).set e.1 e.2 from hl) with hl | rfl
    · exact ih (fun e he => h2 e (List.mem_cons_of_mem _ he)) l hl
    · exact h2 e List.mem_cons_self
theorem Su.nar_sml (m : Su.M) (i : Int) (dl : List Int) (h : Su.Sml m) : Su.Sml (Su.nar m i dl).1 := by
  refine ⟨Su.nar_small m i dl h.1, ?_⟩
  unfold Su.nar
  split
  · rename_i hi
    split
    · exact h.2
    · intro e he
      have he' : e ∈ (if m.stamps[i.toNat]? = some m.time then m.trail else m.trail ++ [(i.toNat, m.cur.getD i.toNat [])]) := he
      split at he'
      · exact h.2 e he'
      · rcases List.mem_append.1 he' with he' | he'
        · exact h.2 e he'
        · rw [List.mem_singleton.1 he']
          have hk : i.toNat < m.cur.length := by omega
          show (m.cur.getD i.toNat []).length ≤ 8
          rw [List.getD_eq_getElem?_getD, List.getElem?_eq_getElem hk]
          exact h.1 _ (List.getElem_mem hk)
  · exact h.2
theorem Su.bk_sml (m : Su.M) (i : Int) (h : Su.Sml m) : Su.Sml (Su.bk m i).1 := by
  unfold Su.bk
  split
  · exact h
  · split
    · exact h
    · exact ⟨Su.undo_small _ _ h.1 (fun e he => h.2 e (List.mem_of_mem_drop he)), fun e he => h.2 e (List.mem_of_mem_take he)⟩
theorem ref3_backs (P : Nat → Prop) (v : Value) (m : Su.M) (lv ev : Value) (i : Int) (w : World) (h : R3 P w v (Su.LS m) m.events lv ev) (ok : Su.Ok m) (hn : (Su.LS m).length < 1000) :
    Calls Tryd.prog 52 #[v, .int .i64 i] w (R3C P (Su.LS (Su.bk m i).1) (Su.bk m i).1.events (Su.bk m i).2 w) := by
  by_cases hi : i < 0 ∨ ((Su.LS m).length : Int) - 1 < i
  · rw [Su.bk_out m ok i hi]
    exact ref3_back_out P v _ _ lv ev i w h (by rw [Su.LS_len]; omega) hi
  · obtain ⟨q, rfl⟩ : ∃ q : Nat, i = q := ⟨i.toNat, by omega⟩
    have hq : q < (Su.LS m).length := by omega
    obtain ⟨e1, e2, e3⟩ := Su.bk_in m ok q hq
    rw [e1, e2, e3]
    exact ref3_back_in P v _ _ lv ev q w h (by omega) hq
theorem ref3_narrows (P : Nat → Prop) (v : Value) (m : Su.M) (lv ev sd : Value) (dl : List Int) (i : Int) (w : World) (h : R3 P w v (Su.LS m) m.events lv ev) (hP : ∀ b, P b → b < w.heap.size) (hd : Rd w sd dl) (hn : (Su.LS m).length < 1000) (he : m.events.length < 1000) (hc : m.cur.length ≤ 6) (hs : ∀ l ∈ m.cur, l.length ≤ 8) :
    Calls Tryd.prog 54 #[v, .int .i64 i, sd] w (R3C P (Su.LS (Su.nar m i dl).1) (Su.nar m i dl).1.events (Su.nar m i dl).2 w) := by
  have h0 : 0 < (Su.LS m).length := by rw [Su.LS_len]; omega
  by_cases h1 : i < 0
  · rw [Su.nar_out m i dl (by omega)]
    exact ref3_narrow_low P v _ _ lv ev sd dl m.cur i w h (Su.LS_last m) h0 hP hd h1
  · by_cases h2 : (m.cur.length : Int) ≤ i
    · rw [Su.nar_out m i dl (by omega)]
      exact ref3_narrow_high P v _ _ lv ev sd dl m.cur i w h (Su.LS_last m) h0 hP hd (by omega) h2
    · obtain ⟨k, rfl⟩ : ∃ k : Nat, i = k := ⟨i.toNat, by omega⟩
      have hk : k < m.cur.length := by omega
      by_cases h3 : Dm.chg (m.cur.getD k []) ((m.cur.getD k []).filter fun u => decide (u ∈ dl)) = 0
      · rw [Su.nar_same m k dl hk h3]
        exact ref3_narrow_same P v _ _ lv ev sd dl m.cur k w h (Su.LS_last m) h0 hP hd hk (fun l hl => by have := hs l hl; omega) h3
      · obtain ⟨e1, e2, e3, _⟩ := Su.nar_events m k dl _ _ hk rfl rfl h3
        rw [e1, e2, e3]
        exact ref3_narrow_chg P v _ _ lv ev sd dl m.cur k w h (Su.LS_last m) h0 hP hd hk (fun l hl => by have := hs l hl; omega) (by omega) (by omega) (by omega) _ _ rfl rfl h3
/-- The document's events are taken. -/
theorem Su.Pl.nilev {wn : World} {S b8 : Nat} {wr : World} {p : Su.Parts} {m : Su.M} {N : Nat} {lv ev : Value} {LS : List (List (List Int))} {es : List (Int × Int)} (h : Su.Pl wn S b8 wr p m N lv ev LS es) : Su.Pl wn S b8 (wr.setCell ⟨b8, 1, none⟩ (.slice none 0 0)) p m N lv (.slice none 0 0) LS [] := by
  have FR : Fr (fun k => k = b8) wr (wr.setCell ⟨b8, 1, none⟩ (.slice none 0 0)) := Fr.set (S := fun k => k = b8) (Fr.refl _ _) (p := ⟨b8, 1, none⟩) (fun _ => rfl) _
  have hm := h.own.at_.toMem.keep FR (fun k e => by subst e; exact h.far) (fun k e => by subst e; exact ⟨_, ⟨_, h.box⟩, by decide⟩)
  refine ⟨⟨⟨hm, h.own.at_.ok⟩, h.own.sz, Fr.below h.own.below FR (fun i e => by rw [e]; exact h.le), h.own.fp⟩, heap_set h.box 1 _, h.far, h.le, ⟨rfl, ?_, Gl.nil _ _ _ _ _⟩, h.len, h.small⟩
  exact (h.ref.lev.kept FR (fun b hp e => hp.2.1 e) (E3r.kept FR (fun b hp e => hp.2.1 e))).mono (fun b hp => ⟨hp.1, hp.2.1, Nat.lt_of_lt_of_le hp.2.2 FR.size⟩) (E3r.mono (fun b hp => ⟨hp.1, hp.2.1, Nat.lt_of_lt_of_le hp.2.2 FR.size⟩))
/-- What else lies apart from the two stores: a list of two numbers, a domain's box, its list. -/
structure Su.Ex (p : Su.Parts) (S b8 bs bd : Nat) (wr : World) (n1 n2 : Int) (cs : Array Value) (dv so : Value) (x : List Int) : Prop where
  sl : wr.heap[bs]? = some (.cells #[.int .i64 n1, .int .i64 n2] 3 (0, 0))
  sf : ¬ p.fp S bs
  s8 : bs ≠ b8
  bx : wr.heap[bd]? = some (.cells cs 25 (0, 0))
  bf : ¬ p.fp S bd
  d8 : bd ≠ b8
  rep : Dm.Rep wr dv x
  rd : Rd wr so x
  so : ∀ b, so.ownBlock = some b → ¬ p.fp S b ∧ b ≠ b8 ∧ b < wr.heap.size
theorem Su.Ex.call {p : Su.Parts} {S b8 bs bd : Nat} {wr w' : World} {n1 n2 : Int} {cs : Array Value} {dv so : Value} {x : List Int} (h : Su.Ex p S b8 bs bd wr n1 n2 cs dv so x) (hb : Below wr.heap.size wr w') : Su.Ex p S b8 bs bd w' n1 n2 cs dv so x :=
  ⟨heap_call h.sl hb, h.sf, h.s8, heap_call h.bx hb, h.bf, h.d8, h.rep.call hb, h.rd.call hb, fun b e => ⟨(h.so b e).1, (h.so b e).2.1, Nat.lt_of_lt_of_le (h.so b e).2.2 hb.size⟩⟩
theorem Su.Ex.st {p p' : Su.Parts} {S b8 bs bd : Nat} {wr w' : World} {n1 n2 : Int} {cs : Array Value} {dv so : Value} {x : List Int} {m m' : Su.M} (h : Su.Ex p S b8 bs bd wr n1 n2 cs dv so x) (hm : Su.Mem wr S p m) (st : Su.St wr w' S p p' m') : Su.Ex p' S b8 bs bd w' n1 n2 cs dv so x :=
  ⟨(st.far h.sl h.sf).1, (st.far h.sl h.sf).2, h.s8, (st.far h.bx h.bf).1, (st.far h.bx h.bf).2, h.d8, st.rep hm h.rep, h.rd.kept st.fr (fun b e => (h.so b e).1), fun b e => ⟨fun hk => (st.fp b hk).elim (h.so b e).1 (fun e2 => by have := (h.so b e).2.2; omega), (h.so b e).2.1, Nat.lt_of_lt_of_le (h.so b e).2.2 st.fr.size⟩⟩
theorem Su.Ex.set {p : Su.Parts} {S b8 bs bd i : Nat} {wr : World} {n1 n2 : Int} {cs cs8 : Array Value} {dv so u : Value} {x : List Int} (h : Su.Ex p S b8 bs bd wr n1 n2 cs dv so x) (h8 : wr.heap[b8]? = some (.cells cs8 78 (0, 0))) : Su.Ex p S b8 bs bd (wr.setCell ⟨b8, i, none⟩ u) n1 n2 cs dv so x := by
  have FR : Fr (fun k => k = b8) wr (wr.setCell ⟨b8, i, none⟩ u) := Fr.set (S := fun k => k = b8) (Fr.refl _ _) (p := ⟨b8, i, none⟩) (fun _ => rfl) _
  exact ⟨FR.heap h.sl h.s8, h.sf, h.s8, FR.heap h.bx h.d8, h.bf, h.d8, h.rep.keep FR (fun b hb e => (h.rep.typed hb).ne ⟨_, h8⟩ (by decide) e), h.rd.kept FR (fun b e e2 => (h.so b e).2.1 e2), fun b e => ⟨(h.so b e).1, (h.so b e).2.1, Nat.lt_of_lt_of_le (h.so b e).2.2 FR.size⟩⟩
/-- Acts that are read. -/
structure Su.Acts (w : World) (A : Option Addr) (len : Nat) (D V N : Nat → Int) (SL : Nat → Value) (LL : Nat → List Int) : Prop where
  at_ : ∀ i, i < len → ∃ b o, A = some ⟨b, o, none⟩ ∧ b < w.heap.size ∧ w.cell? ⟨b, o + i * 4, none⟩ = some (.int .u8 (D i)) ∧ w.cell? ⟨b, o + i * 4 + 1, none⟩ = some (.int .i64 (V i)) ∧ w.cell? ⟨b, o + i * 4 + 2, none⟩ = some (.int .i64 (N i)) ∧ w.cell? ⟨b, o + i * 4 + 3, none⟩ = some (SL i) ∧
    (0 ≤ D i ∧ D i ≤ 255) ∧ (-9223372036854775808 ≤ V i ∧ V i ≤ 9223372036854775807) ∧ (-9223372036854775808 ≤ N i ∧ N i ≤ 9223372036854775807) ∧ Rd w (SL i) (LL i)
/-- Both stores alike. -/
structure Su.Bo (w wn : World) (S b8 : Nat) (wr : World) (m : Su.M) (N : Nat) : Prop where
  pl : ∃ p lv ev, Su.Pl wn S b8 wr p m N lv ev (Su.LS m) m.events
  sml : Su.Sml m
  base : Below w.heap.size w wn
theorem Su.Bo.call {w wn : World} {S b8 : Nat} {wr w' : World} {m : Su.M} {N : Nat} (h : Su.Bo w wn S b8 wr m N) (hb : Below wr.heap.size wr w') : Su.Bo w wn S b8 w' m N := by
  obtain ⟨p, lv, ev, h1⟩ := h.pl
  exact ⟨⟨p, lv, ev, h1.call hb⟩, h.sml, h.base⟩
theorem Su.Bo.bel {w wn : World} {S b8 : Nat} {wr : World} {m : Su.M} {N : Nat} (h : Su.Bo w wn S b8 wr m N) : Below w.heap.size w wr := by
  obtain ⟨p, lv, ev, h1⟩ := h.pl
  exact below_call h.base (h1.own.below.mono (Nat.le_refl _))
theorem Su.Bo.mono {w wn : World} {S b8 : Nat} {wr : World} {m : Su.M} {N N' : Nat} (h : Su.Bo w wn S b8 wr m N) (hn : N ≤ N') : Su.Bo w wn S b8 wr m N' := by
  obtain ⟨p, lv, ev, h1⟩ := h.pl
  exact ⟨⟨p, lv, ev, ⟨⟨h1.own.at_, h1.own.sz.mono hn, h1.own.below, h1.own.fp⟩, h1.box, h1.far, h1.le, h1.ref, h1.len, h1.small⟩⟩, h.sml, h.base⟩
end Go.Proofs.YtdbjljbkneopcaaDoor
