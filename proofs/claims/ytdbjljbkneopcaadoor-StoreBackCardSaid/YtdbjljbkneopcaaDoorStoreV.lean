import Derived.Test.YtdbjljbkneopcaaDoorStoreQ
/- StoreBack: the plain law (what comes after a level is undone, and only takes away). -/
namespace Go.Proofs.YtdbjljbkneopcaaDoor
open Go.RowKit
set_option linter.unusedSimpArgs false
set_option linter.unusedVariables false

theorem Su.nar_levels (m : Su.M) (i : Int) (dl : List Int) : (Su.nar m i dl).1.levels = m.levels ∧ (Su.nar m i dl).1.marks = m.marks := by
  unfold Su.nar
  split
  · split
    · exact ⟨rfl, rfl⟩
    · exact ⟨rfl, rfl⟩
  · exact ⟨rfl, rfl⟩
/-- A domain only gets less. -/
theorem Su.nar_less (m : Su.M) (i : Int) (dl : List Int) (k : Nat) (u : Int) (h : u ∈ (Su.nar m i dl).1.cur.getD k []) : u ∈ m.cur.getD k [] := by
  unfold Su.nar at h
  split at h
  · rename_i hi
    split at h
    · exact h
    · have h' : u ∈ (m.cur.set i.toNat ((m.cur.getD i.toNat []).filter fun u => decide (u ∈ dl))).getD k [] := h
      rw [List.getD_eq_getElem?_getD, List.getElem?_set] at h'
      split at h'
      · rename_i hk
        subst hk
        rw [if_pos (by omega)] at h'
        exact (List.mem_filter.1 h').1
      · rwa [← List.getD_eq_getElem?_getD] at h'
  · exact h
/-- The store m, j levels above the store a. -/
structure Su.Bq (a m : Su.M) (j : Nat) : Prop where
  lev : m.levels.length = a.levels.length + j
  at_ : (Su.LS m)[a.levels.length]? = some a.cur
  len : m.cur.length = a.cur.length
  less : ∀ k u, u ∈ m.cur.getD k [] → u ∈ a.cur.getD k []
theorem Su.Bq.start (a : Su.M) : Su.Bq a a 0 :=
  ⟨rfl, by unfold Su.LS; rw [List.getElem?_append_right (Nat.le_refl _), Nat.sub_self]; rfl, rfl, fun _ _ h => h⟩
theorem Su.Bq.round {a m : Su.M} {j : Nat} (h : Su.Bq a m j) (i : Int) (dl : List Int) : Su.Bq a (Su.nar (Su.push m) i dl).1 (j + 1) := by
  refine ⟨?_, ?_, ?_, fun k u hu => (by have h1 : u ∈ (Su.push m).cur.getD k [] := Su.nar_less (Su.push m) i dl k u hu; exact h.less k u h1)⟩
  · rw [(Su.nar_levels _ _ _).1]
    show (m.levels ++ [m.cur]).length = _
    rw [List.length_append, h.lev]; rfl
  · unfold Su.LS
    rw [(Su.nar_levels _ _ _).1, List.getElem?_append_left (by show _ < (m.levels ++ [m.cur]).length; rw [List.length_append, h.lev]; simp; omega)]
    exact h.at_
  · rw [Su.nar_len]; exact h.len
/-- Back to the level: what was. -/
theorem Su.Bq.back {a m : Su.M} {j : Nat} (h : Su.Bq a m j) (ok : Su.Ok m) (oa : Su.Ok a) : (Su.bk m a.levels.length).2 = 0 ∧ (Su.bk m a.levels.length).1.cur = a.cur ∧ (Su.bk m a.levels.length).1.events = [] ∧ (Su.bk m a.levels.length).1.levels.length = a.levels.length := by
  have hq : a.levels.length < (Su.LS m).length := by rw [Su.LS_len, h.lev]; omega
  obtain ⟨h1, h2, h3⟩ := Su.bk_in m ok a.levels.length hq
  have hl : (Su.LS (Su.bk m a.levels.length).1).length = a.levels.length + 1 := by rw [h2, List.length_take]; omega
  have hl2 : (Su.bk m a.levels.length).1.levels.length = a.levels.length := by rw [Su.LS_len] at hl; omega
  refine ⟨h1, ?_, h3, hl2⟩
  have h4 := Su.LS_last (Su.bk m a.levels.length).1
  rw [hl, Nat.add_sub_cancel, h2, List.getD_eq_getElem?_getD, List.getElem?_take, if_pos (by omega), h.at_] at h4
  exact h4.symm
/-- Nothing is left of what is less. -/
theorem Su.Bq.minus {a m : Su.M} {j : Nat} (h : Su.Bq a m j) (k : Nat) : (m.cur.getD k []).filter (fun u => !decide (u ∈ a.cur.getD k [])) = [] := by
  rw [List.filter_eq_nil_iff]
  intro u hu
  rw [decide_eq_true (h.less k u hu)]; decide
end Go.Proofs.YtdbjljbkneopcaaDoor
/- StoreBack: the store behind a variable's box; the closure 'act'. -/
namespace Go.Proofs.YtdbjljbkneopcaaDoor
open Go.RowKit
set_option linter.unusedSimpArgs false
set_option linter.unusedVariables false

/-- A store whose pointer lies in a box of its own. -/
structure Su.Ba (w0 : World) (S b9 : Nat) (wr : World) (p : Su.Parts) (m : Su.M) (N : Nat) : Prop where
  own : Su.Own w0 wr S p m N
  box : wr.heap[b9]? = some (.cells #[.pointer (some ⟨S, 0, none⟩)] 52 (0, 0))
  far : ¬ p.fp S b9
/-- What lies apart from the store stays. -/
structure Su.Apt (S : Nat) (p p' : Su.Parts) (w w' : World) : Prop where
  size : w.heap.size ≤ w'.heap.size
  at_ : ∀ b o, w.heap[b]? = some o → ¬ p.fp S b → w'.heap[b]? = some o ∧ ¬ p'.fp S b
  rep : ∀ v l, Dm.Rep w v l → Dm.Rep w' v l
  sl : ∀ e size sv n xs, Sl w e size sv n xs → (∀ b, sv.ownBlock = some b → ¬ p.fp S b) → Sl w' e size sv n xs
theorem Su.Apt.trans {S : Nat} {p p1 p2 : Su.Parts} {w w1 w2 : World} (h : Su.Apt S p p1 w w1) (g : Su.Apt S p1 p2 w1 w2) : Su.Apt S p p2 w w2 :=
  ⟨Nat.le_trans h.size g.size, fun b o hb hn => g.at_ b o (h.at_ b o hb hn).1 (h.at_ b o hb hn).2, fun v l hr => g.rep v l (h.rep v l hr), fun e size sv n xs hs hn => g.sl _ _ _ _ _ (h.sl _ _ _ _ _ hs hn) (fun b hb => by
    obtain ⟨cs, hx⟩ := hs.typed hb
    exact (h.at_ b _ hx (hn b hb)).2)⟩
theorem Su.Apt.call {S : Nat} {p : Su.Parts} {w w' : World} (h : Below w.heap.size w w') : Su.Apt S p p w w' := ⟨h.size, fun b o hb hn => ⟨heap_call hb h, hn⟩, fun v l hr => hr.call h, fun _ _ _ _ _ hs _ => hs.call h⟩
theorem Su.Apt.st {S : Nat} {p p' : Su.Parts} {m m' : Su.M} {w w' : World} (hm : Su.Mem w S p m) (h : Su.St w w' S p p' m') : Su.Apt S p p' w w' := ⟨h.fr.size, fun b o hb hn => h.far hb hn, fun v l hr => h.rep hm hr, fun _ _ _ _ _ hs hn => hs.kept h.fr hn⟩
/-- The slice of the domains that were. -/
structure Su.Wa (w0 : World) (S : Nat) (p : Su.Parts) (wr : World) (sv : Value) (vs : List Value) (ls : List (List Int)) : Prop where
  dl : Dl wr sv vs ls
  far : ∀ b, sv.ownBlock = some b → ¬ p.fp S b
  own : ∀ b, sv.ownBlock = some b → w0.heap.size ≤ b
theorem Su.Wa.apt {w0 : World} {S : Nat} {p p' : Su.Parts} {wr w' : World} {sv : Value} {vs : List Value} {ls : List (List Int)} (h : Su.Wa w0 S p wr sv vs ls) (g : Su.Apt S p p' wr w') : Su.Wa w0 S p' w' sv vs ls :=
  ⟨⟨g.sl _ _ _ _ _ h.dl.sl h.far, h.dl.len, fun i hi => g.rep _ _ (h.dl.rep i hi)⟩, fun b hb => by
    obtain ⟨cs, hx⟩ := h.dl.sl.typed hb
    exact (g.at_ b _ hx (h.far b hb)).2, h.own⟩
theorem Su.Wa.call {w0 : World} {S : Nat} {p : Su.Parts} {wr w' : World} {sv : Value} {vs : List Value} {ls : List (List Int)} (h : Su.Wa w0 S p wr sv vs ls) (hb : Below wr.heap.size wr w') : Su.Wa w0 S p w' sv vs ls := ⟨h.dl.call hb, h.far, h.own⟩
theorem Su.Ba.call {w0 : World} {S b9 : Nat} {wr w' : World} {p : Su.Parts} {m : Su.M} {N : Nat} (h : Su.Ba w0 S b9 wr p m N) (hb : Below wr.heap.size wr w') : Su.Ba w0 S b9 w' p m N :=
  ⟨h.own.call hb, heap_call h.box hb, h.far⟩
theorem Su.Ba.st {w0 : World} {S b9 : Nat} {wr w' : World} {p p' : Su.Parts} {m m' : Su.M} {N N' : Nat} (h : Su.Ba w0 S b9 wr p m N) (ho : Su.Own w0 w' S p' m' N') (st : Su.St wr w' S p p' m') : Su.Ba w0 S b9 w' p' m' N' :=
  ⟨ho, (st.far h.box h.far).1, (st.far h.box h.far).2⟩
/-- One domain more. -/
theorem Su.Ba.app {w0 : World} {S b9 : Nat} {wr w' : World} {p : Su.Parts} {m : Su.M} {N : Nat} {sv sv' v : Value} {vs : List Value} {ls : List (List Int)} {l : List Int} (h : Su.Ba w0 S b9 wr p m N) (hw : Su.Wa w0 S p wr sv vs ls) (hr : Dm.Rep wr v l) (ha : App 25 5 wr sv vs.length (vs.flatMap Dm.cells) (Dm.cells v) sv' w') :
    Su.Ba w0 S b9 w' p m N ∧ Su.Wa w0 S p w' sv' (vs ++ [v]) (ls ++ [l]) := by
  have mem := h.own.at_.toMem.keep ha.fr (fun k e => hw.far k e) (fun k e => ⟨_, hw.dl.sl.typed e, by decide⟩)
  have hs := h.own.below.size
  refine ⟨⟨⟨⟨mem, h.own.at_.ok⟩, h.own.sz, Fr.below h.own.below ha.fr (fun i e => hw.own i e), h.own.fp⟩, ha.fr.heap h.box (fun e => ?_), h.far⟩, hw.dl.app hr ha, fun b hb => (ha.own b hb).elim (hw.far b) (fun e hk => ?_), fun b hb => (ha.own b hb).elim (hw.own b) (fun e => Nat.le_trans hs e)⟩
  · exact (hw.dl.sl.typed e).ne ⟨_, h.box⟩ (by decide) rfl
  · have := h.own.at_.toMem.fp_lt hk
    omega
/-- The act's answer. -/
def Su.Ac (w0 : World) (S b9 : Nat) (wr : World) (p : Su.Parts) (m : Su.M) (N : Nat) (e : Ending) (w' : World) : Prop :=
  e = .returned (.tuple #[]) ∧ ∃ p' i dl, Su.Ba w0 S b9 w' p' (Su.nar m i dl).1 (N + 1) ∧ Su.Apt S p p' wr w'
set_option maxHeartbeats 4000000 in
theorem law3_act (w0 : World) (S b9 : Nat) (p : Su.Parts) (m : Su.M) (N : Nat) (dj vj nj : Int) (sl : Value) (lj : List Int) (w : World) (h : Su.Ba w0 S b9 w p m N) (hl : Rd w sl lj) (hN : N ≤ 100000000000) (hn : m.cur.length ≤ 6)
    (hv : -9223372036854775808 ≤ vj ∧ vj ≤ 9223372036854775807) (hT : Tab w) :
    Calls Tryd.prog 32 #[.agg #[.int .u8 dj, .int .i64 vj, .int .i64 nj, sl], .pointer (some ⟨b9, 0, none⟩)] w (Su.Ac w0 S b9 w p m N) := by
  obtain ⟨Aq, cq, rfl⟩ := hl.len
  have hb0 := below_alloc (Below.refl w.heap.size w) (.cells #[.int .u8 dj, .int .i64 vj, .int .i64 nj, .slice Aq lj.length cq] 55)
  have BX0 := Lib.hid (heap_new w (.cells #[.int .u8 dj, .int .i64 vj, .int .i64 nj, .slice Aq lj.length cq] 55))
  have BA0 := Lib.hid (h.call hb0)
  have HRD := Lib.hid (hl.call hb0)
  have HT := Lib.hid (hT.call hb0)
  have FX0 := Lib.hid (Su.Apt.call (S := S) (p := p) hb0)
  clear hb0 h hl hT
  go_enter Tryd.func32, Tryd.ntmps32
  go_wp2_with fail
  generalize w.alloc (.cells #[.int .u8 dj, .int .i64 vj, .int .i64 nj, .slice Aq lj.length cq] 55) = wa at *
  generalize w.heap.size = bx at BX0 ⊢
  have y0 := cell_of BX0.out 0
  have y1 := cell_of BX0.out 1
  have y2 := cell_of BX0.out 2
  have y3 := cell_of BX0.out 3
  have CS := Lib.hid (ref_small _ lj wa HRD.out)
  generalize Rf.small lj = x at *
  go_wp2_with fail
  refine CS.out.mono ?_
  rintro e w2 ⟨so, rfl, hke⟩
  have HK := Lib.hid hke
  have CO := Lib.hid (dom_of so x w2 hke.own.sl (HT.out.call hke.below))
  obtain ⟨Ao, co, rfl⟩ := hke.own.sl.len
  clear hke CS y0 y1 y2 y3
  go_wp2_with fail
  refine CO.out.mono ?_
  rintro e w3 ⟨dv, rfl, hrep, hb, hwb⟩
  have HR := Lib.hid hrep
  generalize Rf.of x = dl at *
  obtain ⟨off3, sv3, ws3, rfl, hx3⟩ := hrep
  obtain ⟨As3, c3, rfl⟩ := hx3.sl.len
  unfold Dm.val at *
  generalize dl.headD 0 = lo3 at *
  generalize dl.getLastD 0 = hi3 at *
  generalize hxn : dl.length = n3 at *
  generalize ws3.length = m3 at *
  have B3 := Lib.hid (below_call HK.out.below hb)
  have hbd := below_alloc (Below.refl w3.heap.size w3) (.cells #[.int .i64 off3, .slice As3 m3 c3, .int .i64 lo3, .int .i64 hi3, .int .i64 n3] 25)
  have B4 := Lib.hid (below_call B3.out hbd)
  have BA4 := Lib.hid (BA0.out.call B4.out)
  have BX4 := Lib.hid (heap_call BX0.out B4.out)
  have BD4 := Lib.hid (heap_new w3 (.cells #[.int .i64 off3, .slice As3 m3 c3, .int .i64 lo3, .int .i64 hi3, .int .i64 n3] 25))
  have HR4 := Lib.hid (HR.out.call hbd)
  have FX4 := Lib.hid (FX0.out.trans (Su.Apt.call B4.out))
  have HT4 := Lib.hid (HT.out.call B4.out)
  have z1 := cell_of BX4.out 1
  have z9 := cell_of BA4.out.box 0
  have d0 := cell_of BD4.out 0
  have d1 := cell_of BD4.out 1
  have d2 := cell_of BD4.out 2
  have d3 := cell_of BD4.out 3
  have d4 := cell_of BD4.out 4
  clear hb hwb hbd hx3 CO
  go_wp2_with fail
  refine (own_narrow BA4.out.own (by omega) (by omega) _ _ dl HR4.out HT4.out).mono ?_
  rintro e w5 ⟨rfl, p2, ho, st⟩
  have BA5 := Lib.hid (BA4.out.st ho st)
  have FX5 := Lib.hid (FX4.out.trans (Su.Apt.st BA4.out.own.at_.toMem st))
  clear ho st
  go_wp2_with fail
  refine bodyPost_ret (results_none rfl _ _ _) rfl ?_
  exact ⟨rfl, _, _, _, BA5.out, FX5.out⟩
end Go.Proofs.YtdbjljbkneopcaaDoor
/- StoreBack walked. -/
namespace Go.Proofs.YtdbjljbkneopcaaDoor
open Go.RowKit
set_option linter.unusedSimpArgs false
set_option linter.unusedVariables false

theorem heap_new_of {w0 X : World} {o : Obj} {B : Nat} (_ : Below B w0 (X.alloc o)) : (X.alloc o).heap[X.heap.size]? = some o := heap_new X o
set_option maxHeartbeats 16000000 in
set_option maxRecDepth 100000 in
theorem law3_back (P : Nat → Prop) (sv : Value) (L : List (List Int)) (AA : Option Addr) (len cap : Nat) (D V NN : Nat → Int) (SL : Nat → Value) (LL : Nat → List Int) (AB : Option Addr) (len2 cap2 : Nat) (D2 V2 N2 : Nat → Int) (SL2 : Nat → Value) (LL2 : Nat → List Int) (w : World) (h : Rr P w sv L) (hlc : len ≤ cap) (hcap : cap ≤ 9223372036854775807) (ha : Su.Acts w AA len D V NN SL LL) (hlc2 : len2 ≤ cap2) (hcap2 : cap2 ≤ 9223372036854775807) (ha2 : Su.Acts w AB len2 D2 V2 N2 SL2 LL2) (hT : Tab w) :
    Calls Tryd.prog 5 #[sv, .slice AA len cap, .slice AB len2 cap2] w (Rf.Says true w) := by
  have HT := Lib.hid hT
  have ACT := Lib.hid ha
  have ACT2 := Lib.hid ha2
  have CL := Lib.hid (law3_lists P sv L w h hT)
  have hlen : Hid ((Rf.smalls L).length ≤ 6) := Lib.hid (by unfold Rf.smalls; rw [List.length_map, List.length_take]; omega)
  generalize Rf.smalls L = M at *
  have hk1 : min (len : Int) 10 = ((min len 10 : Nat) : Int) := by omega
  have hk2 : min len 10 ≤ len := by omega
  have hk3 : min len 10 ≤ cap := by omega
  have hk4 : ((min len 10 : Nat) : Int) ≤ (cap : Int) := by omega
  have hk5 : min len 10 ≤ 10 := by omega
  generalize min len 10 = mm at *
  have hj1 : min (len2 : Int) 10 = ((min len2 10 : Nat) : Int) := by omega
  have hj2 : min len2 10 ≤ len2 := by omega
  have hj3 : min len2 10 ≤ cap2 := by omega
  have hj4 : ((min len2 10 : Nat) : Int) ≤ (cap2 : Int) := by omega
  have hj5 : min len2 10 ≤ 10 := by omega
  generalize min len2 10 = mm2 at *
  clear h hT ha ha2
  go_enter Tryd.func5, Tryd.ntmps5
  go_wp2_with fail
  refine CL.out.mono ?_
  rintro e w4 ⟨sa, sb, vs, rfl, hdl, hnil, hown, hrr, hb⟩
  have B4 := Lib.hid hb
  obtain ⟨A, c, rfl⟩ := hdl.sl.len
  obtain ⟨Ab, cb, rfl⟩ := hrr.len
  have CN := Lib.hid (own_new _ vs M w4 hdl (by have := hlen.out; omega) hnil)
  clear hdl hnil hown hrr hb CL
  go_wp2_with fail
  refine CN.out.mono ?_
  rintro e w5 ⟨S, p, rfl, ho⟩
  have HO := Lib.hid ho
  have I0 : Hid (Su.Ba w4 S w5.heap.size (w5.alloc (.cells #[.pointer (some ⟨S, 0, none⟩)] 52)) p (Su.new M) 0) :=
    Lib.hid ⟨ho.call (below_alloc (Below.refl _ _) _), heap_new _ _, fun hk => by have := ho.at_.toMem.fp_lt hk; omega⟩
  have HL0 : Hid ((Su.new M).cur.length ≤ 6) := hlen
  clear ho CN
  go_wp2_with fail
  generalize w5.alloc (.cells #[.pointer (some ⟨S, 0, none⟩)] 52) = w6 at I0 ⊢
  generalize w5.heap.size = b9 at I0 ⊢
  generalize Su.new M = m0 at I0 HL0
  go_loopg [38] mm (fun k s38 wr => ∃ (j N : Nat) (m : Su.M) (p : Su.Parts), s38 = .int .i64 j ∧ k + j = mm ∧ N ≤ 2 * j ∧ Hid (Su.Ba w4 S b9 wr p m N) ∧ Hid (m.cur.length ≤ 6))
  case atStart => exact ⟨0, 0, _, _, rfl, by omega, by omega, I0, HL0⟩
  case round =>
    obtain ⟨j, N, m, p1, rfl, hj, hNj, hba, hm6⟩ := hrel
    have hbel : Hid (Below w.heap.size w wr) := Lib.hid (below_call B4.out (hba.out.own.below))
    have z9 := cell_of hba.out.box 0
    rcases Nat.lt_or_ge j mm with hk | hk
    · obtain ⟨ba, oa, e, hbx, a0, a1, a2, a3, d0, d1, d2, hrd⟩ := ACT.out.at_ j (by omega)
      cases e
      obtain ⟨Aq, cq, hsl⟩ := hrd.len
      rw [hsl] at a3 hrd
      have HRD := Lib.hid hrd
      rw [← (bcell hbel.out).1 ba _ hbx] at a0 a1 a2 a3
      generalize D j = dj at *
      generalize V j = vj at *
      generalize NN j = nj at *
      generalize LL j = lj at *
      have hjl : (j : Int) < (mm : Int) := by omega
      have hq1 : 0 ≤ dj := d0.1
      have hq2 : dj ≤ 255 := d0.2
      have hb0 := below_alloc (Below.refl wr.heap.size wr) (.cells #[.int .u8 dj, .int .i64 vj, .int .i64 nj, .slice Aq lj.length cq] 55)
      have BX0 := Lib.hid (heap_new wr (.cells #[.int .u8 dj, .int .i64 vj, .int .i64 nj, .slice Aq lj.length cq] 55))
      have BA0 := Lib.hid (hba.out.call hb0)
      have hN20 : N ≤ 20 := by omega
      have y9 := cell_of BA0.out.box 0
      clear hrd hsl d0 hb0
      by_cases c3 : dj % 6 = 3
      · have t3 : (dj % 6 == 3) = true := beq_iff_eq.2 c3
        have CP := Lib.hid (own_push BA0.out.own (by omega))
        go_wp2_with fail
        refine CP.out.mono ?_
        rintro e w7 ⟨rfl, p2, ho, st⟩
        have BA1 := Lib.hid (BA0.out.st ho st)
        have BX1 := Lib.hid ((st.far BX0.out (fun hk => by have := hba.out.own.at_.toMem.fp_lt hk; omega)).1)
        have hb1 : Hid (w7 = w7 ∧ wr.heap.size < w7.heap.size) := Lib.hid ⟨rfl, by have := st.fr.size; simp at this; omega⟩
        have x0 := cell_of BX1.out 0
        have x1 := cell_of BX1.out 1
        have x2 := cell_of BX1.out 2
        have x3 := cell_of BX1.out 3
        have bel1 := below_call B4.out BA1.out.own.below
        have CA := Lib.hid (law3_act w4 S b9 p2 (Su.push m) (N + 1) dj vj nj _ lj w7 BA1.out (HRD.out.call bel1) (by omega) hm6.out d1 (HT.out.call bel1))
        clear bel1 ho st CP
        go_wp2_with fail
        refine CA.out.mono ?_
        rintro e w8 ⟨rfl, p3, i, dl, hba3, hap⟩
        have BA3 := Lib.hid hba3
        have HM3 : Hid ((Su.nar (Su.push m) i dl).1.cur.length ≤ 6) := Lib.hid (by rw [Su.nar_len]; exact hm6.out)
        clear hba3 hap CA
        go_wp2_with fail
        go_roundg (gk - 1)
        case measure => omega
        case rel => exact ⟨j + 1, N + 1 + 1, _, _, by go_num, by omega, by omega, BA3, HM3⟩
      · have t3 : (dj % 6 == 3) = false := beq_eq_false_iff_ne.2 c3
        have bel1 := below_call B4.out BA0.out.own.below
        have CA := Lib.hid (law3_act w4 S b9 p1 m N dj vj nj _ lj _ BA0.out (HRD.out.call bel1) (by omega) hm6.out d1 (HT.out.call bel1))
        have x0 := cell_of BX0.out 0
        have x1 := cell_of BX0.out 1
        have x2 := cell_of BX0.out 2
        have x3 := cell_of BX0.out 3
        clear bel1
        go_wp2_with fail
        refine CA.out.mono ?_
        rintro e w8 ⟨rfl, p3, i, dl, hba3, hap⟩
        have BA3 := Lib.hid hba3
        have HM3 : Hid ((Su.nar m i dl).1.cur.length ≤ 6) := Lib.hid (by rw [Su.nar_len]; exact hm6.out)
        clear hba3 hap CA
        go_wp2_with fail
        go_roundg (gk - 1)
        case measure => omega
        case rel => exact ⟨j + 1, N + 1, _, _, by go_num, by omega, by omega, BA3, HM3⟩
    · have hje : j = mm := by omega
      subst hje
      have CLv := Lib.hid (store_level S p1 m wr hba.out.own.at_.toMem)
      have CLn := Lib.hid (store_len S p1 m wr hba.out.own.at_.toMem)
      have hm6' := hm6.out
      generalize hnn : m.cur.length = nn at CLn hm6'
      have W0 : Hid (Su.Wa w4 S p1 wr (.slice none 0 0) [] (m.cur.take 0)) := Lib.hid ⟨⟨Sl.nil _ _ _, rfl, (fun i hi => by cases hi)⟩, (fun b h => by cases h), (fun b h => by cases h)⟩
      clear hk1 ACT hk2 hk3 hk4
      go_wp2_with fail
      refine CLv.out.mono ?_
      rintro e w7 ⟨rfl, rfl⟩
      go_wp2_with fail
      refine CLn.out.mono ?_
      rintro e w7 ⟨rfl, rfl⟩
      go_wp2_with fail
      go_loopg [14, 56] nn (fun k s14 s56 wr => ∃ (j : Nat) (vs : List Value), s56 = .int .i64 j ∧ k + j = nn ∧ Hid (Su.Ba w4 S b9 wr p1 m N) ∧ Hid (Su.Wa w4 S p1 wr s14 vs (m.cur.take j)))
      case atStart => exact ⟨0, [], rfl, by omega, hba, W0⟩
      case round =>
        clear hba W0 hbel z9 CLn CLv
        obtain ⟨q, vs, rfl, hq, hba, hwa⟩ := hrel
        have z9 := cell_of hba.out.box 0
        rcases Nat.lt_or_ge q nn with hqn | hqn
        · have CG := Lib.hid (store_get S p1 m q _ hba.out.own.at_.toMem (by omega))
          rw [show Su.get m.cur q = m.cur.getD q [] from by unfold Su.get; rw [if_pos (by omega), Int.toNat_natCast]] at CG
          have hvl : Hid (vs.length = q) := Lib.hid (by rw [hwa.out.dl.len, List.length_take]; omega)
          have hqi : (q : Int) < (nn : Int) := by omega
          have TK : Hid (m.cur.take (q + 1) = m.cur.take q ++ [m.cur.getD q []]) := Lib.hid (by rw [List.take_succ_eq_append_getElem (by omega), List.getD_eq_getElem?_getD, List.getElem?_eq_getElem (by omega)]; rfl)
          generalize m.cur.getD q [] = x at *
          go_wp2_with fail
          refine CG.out.mono ?_
          rintro e w7 ⟨dv, rfl, hrep, hb⟩
          have BA7 := Lib.hid (hba.out.call hb)
          have WA7 := Lib.hid (hwa.out.call hb)
          have HR := Lib.hid hrep
          obtain ⟨off3, sv3, ws3, rfl, hx3⟩ := hrep
          obtain ⟨As3, c3, rfl⟩ := hx3.sl.len
          unfold Dm.val at *
          generalize x.headD 0 = lo3 at *
          generalize x.getLastD 0 = hi3 at *
          generalize hxn : x.length = n3 at *
          generalize ws3.length = m3 at *
          clear hx3 hb CG
          go_wp2_with (at_builtin; refine wpList_append_el _ rfl _ _ 49 25 5 56 (.agg #[.int .i64 0, .slice none 0 0, .int .i64 0, .int .i64 0, .int .i64 0]) _ rfl Tryd.underlying49 infoDom rfl (by decide) rfl (by intro u hu; simp at hu; rcases hu with rfl | rfl | rfl | rfl | rfl <;> rfl) u14 q (vs.flatMap Dm.cells) rfl (by rw [← hvl.out]; exact WA7.out.dl.sl) _ rfl (by simp) (by omega) (by decide) ?_; intro s4 w8 ha; have HA := Lib.hid ha; clear ha)
          obtain ⟨ba8, wa8⟩ := BA7.out.app WA7.out HR.out (by rw [hvl.out]; exact HA.out)
          have BA8 := Lib.hid ba8
          have WA8 := Lib.hid wa8
          clear ba8 wa8
          go_roundg (gk - 1)
          case measure => omega
          case rel => exact ⟨q + 1, _, by go_num, by omega, BA8, Lib.hid (by rw [TK.out]; exact WA8.out)⟩
        · have hqe : q = nn := by omega
          subst hqe
          have WA := Lib.hid hwa.out
          rw [← hnn, List.take_length] at WA
          clear hwa
          go_wp2_with fail
          obtain ⟨Aw, cw, rfl⟩ := WA.out.dl.sl.len
          have hvn : vs.length = q := by rw [WA.out.dl.len, hnn]
          rw [hvn] at WA ⊢
          have BQ0 := Lib.hid (Su.Bq.start m)
          have OKA := Lib.hid hba.out.own.at_.ok
          go_loopg [72] mm2 (fun k s72 wr => ∃ (j2 N' : Nat) (m' : Su.M) (p' : Su.Parts), s72 = .int .i64 j2 ∧ k + j2 = mm2 ∧ N' ≤ N + 2 * j2 ∧ Hid (Su.Ba w4 S b9 wr p' m' N') ∧ Hid (Su.Wa w4 S p' wr (.slice Aw q cw) vs m.cur) ∧ Hid (Su.Bq m m' j2))
          case atStart => exact ⟨0, N, m, p1, rfl, by omega, by omega, hba, WA, BQ0⟩
          case round =>
            clear hba WA BQ0 z9
            obtain ⟨j2, N', m', p', rfl, hj2', hN', hba, hwa, hbq⟩ := hrel
            have hbel : Hid (Below w.heap.size w _) := Lib.hid (below_call B4.out (hba.out.own.below))
            have z9 := cell_of hba.out.box 0
            have hm7 : Hid (m'.cur.length ≤ 6) := Lib.hid (by rw [hbq.out.len]; omega)
            rcases Nat.lt_or_ge j2 mm2 with hk | hk
            · obtain ⟨ba, oa, e, hbx, a0, a1, a2, a3, d0, d1, d2, hrd⟩ := ACT2.out.at_ j2 (by omega)
              cases e
              obtain ⟨Aq, cq, hsl⟩ := hrd.len
              rw [hsl] at a3 hrd
              have HRD := Lib.hid hrd
              rw [← (bcell hbel.out).1 ba _ hbx] at a0 a1 a2 a3
              generalize D2 j2 = dj at *
              generalize V2 j2 = vj at *
              generalize N2 j2 = nj at *
              generalize LL2 j2 = lj at *
              have hjl : (j2 : Int) < (mm2 : Int) := by omega
              have hb0 := below_alloc (Below.refl wr.heap.size wr) (.cells #[.int .u8 dj, .int .i64 vj, .int .i64 nj, .slice Aq lj.length cq] 55)
              have BX0 := Lib.hid (heap_new wr (.cells #[.int .u8 dj, .int .i64 vj, .int .i64 nj, .slice Aq lj.length cq] 55))
              have BA0 := Lib.hid (hba.out.call hb0)
              have WA0 := Lib.hid (hwa.out.call hb0)
              have y9 := cell_of BA0.out.box 0
              clear hrd hsl d0 hb0
              have CP := Lib.hid (own_push BA0.out.own (by omega))
              go_wp2_with fail
              refine CP.out.mono ?_
              rintro e w7 ⟨rfl, p2, ho, st⟩
              have BA1 := Lib.hid (BA0.out.st ho st)
              have WA1 := Lib.hid (WA0.out.apt (Su.Apt.st BA0.out.own.at_.toMem st))
              have BX1 := Lib.hid ((st.far BX0.out (fun hk => by have := hba.out.own.at_.toMem.fp_lt hk; omega)).1)
              have x0 := cell_of BX1.out 0
              have x1 := cell_of BX1.out 1
              have x2 := cell_of BX1.out 2
              have x3 := cell_of BX1.out 3
              have bel1 := below_call B4.out BA1.out.own.below
              have CA := Lib.hid (law3_act w4 S b9 p2 (Su.push m') (N' + 1) dj vj nj _ lj w7 BA1.out (HRD.out.call bel1) (by omega) hm7.out d1 (HT.out.call bel1))
              clear bel1 ho st CP
              go_wp2_with fail
              refine CA.out.mono ?_
              rintro e w8 ⟨rfl, p3, i, dl, hba3, hap⟩
              have BA3 := Lib.hid hba3
              have WA3 := Lib.hid (WA1.out.apt hap)
              have BQ3 := Lib.hid (hbq.out.round i dl)
              have hN3 : N' + 1 + 1 ≤ N + 2 * (j2 + 1) := by omega
              clear hba3 hap CA
              generalize (Su.nar (Su.push m') i dl).1 = m3 at *
              generalize N' + 1 + 1 = N3 at *
              go_wp2_with fail
              obtain ⟨gko, rfl⟩ : ∃ g : Nat, g = gk := ⟨_, rfl⟩
              obtain ⟨wo, rfl⟩ : ∃ wo : World, wo = wr := ⟨_, rfl⟩
              clear hba hwa hbq BA0 WA0 BA1 WA1 BX0 BX1 a0 a1 a2 a3 x0 x1 x2 x3 y9 z9 hbel
              go_loopg [83] q (fun k s83 wr => ∃ (q2 : Nat), s83 = .int .i64 q2 ∧ k + q2 = q ∧ Hid (Su.Ba w4 S b9 wr p3 m3 N3) ∧ Hid (Su.Wa w4 S p3 wr (.slice Aw q cw) vs m.cur))
              case atStart => exact ⟨0, rfl, by omega, BA3, WA3⟩
              case round =>
                clear BA3 WA3
                obtain ⟨q2, rfl, hq2, hba, hwa⟩ := hrel
                have z9 := cell_of hba.out.box 0
                rcases Nat.lt_or_ge q2 q with hqn | hqn
                · have hdl := hwa.out.dl
                  rw [← hvn] at hdl
                  obtain ⟨bw, ow, off3, As3, m3c, c3, lo3, hi3, n3, e, hv9, hn9, hrep, c0, c1, c2, c3', c4⟩ := hdl.at q2 (by omega)
                  clear hv9 hn9
                  cases e
                  simp only [Nat.add_zero, ← Nat.add_assoc] at c0 c1 c2 c3' c4
                  have hqi : (q2 : Int) < (q : Int) := by omega
                  have BXD := Lib.hid (heap_new wr (.cells #[.int .i64 off3, .slice As3 m3c c3, .int .i64 lo3, .int .i64 hi3, .int .i64 n3] 25))
                  have hbb := below_alloc (Below.refl wr.heap.size wr) (.cells #[.int .i64 off3, .slice As3 m3c c3, .int .i64 lo3, .int .i64 hi3, .int .i64 n3] 25)
                  have BA4 := Lib.hid (hba.out.call hbb)
                  have WA4 := Lib.hid (hwa.out.call hbb)
                  have REP4 := Lib.hid (hrep.call hbb)
                  have y9 := cell_of BA4.out.box 0
                  clear hdl hrep hbb
                  go_wp2_with fail
                  have hmq : m3.cur.length = q := by rw [BQ3.out.len]; exact hnn
                  generalize wr.alloc (.cells #[.int .i64 off3, .slice As3 m3c c3, .int .i64 lo3, .int .i64 hi3, .int .i64 n3] 25) = wa at *
                  generalize wr.heap.size = bx at *
                  have SIX : Hid (∀ w', Below wa.heap.size wa w' → w'.cell? ⟨b9, 0, none⟩ = some (.pointer (some ⟨S, 0, none⟩)) ∧ w'.cell? ⟨bx, 0, none⟩ = some (.int .i64 off3) ∧ w'.cell? ⟨bx, 1, none⟩ = some (.slice As3 m3c c3) ∧ w'.cell? ⟨bx, 2, none⟩ = some (.int .i64 lo3) ∧ w'.cell? ⟨bx, 3, none⟩ = some (.int .i64 hi3) ∧ w'.cell? ⟨bx, 4, none⟩ = some (.int .i64 n3)) := Lib.hid fun w' hb => ⟨cell_of (BA4.out.call hb).box 0, cell_of (heap_call BXD.out hb) 0, cell_of (heap_call BXD.out hb) 1, cell_of (heap_call BXD.out hb) 2, cell_of (heap_call BXD.out hb) 3, cell_of (heap_call BXD.out hb) 4⟩
                  have CG := Lib.hid (fun w' (hb : Below wa.heap.size wa w') => store_get S p3 m3 q2 w' (BA4.out.call hb).own.at_.toMem (by omega))
                  rw [show Su.get m3.cur q2 = m3.cur.getD q2 [] from by unfold Su.get; rw [if_pos (by omega), Int.toNat_natCast]] at CG
                  have HT4 := Lib.hid (HT.out.call (below_call B4.out BA4.out.own.below))
                  have MN : Hid ((m3.cur.getD q2 []).filter (fun u => !decide (u ∈ m.cur.getD q2 [])) = []) := Lib.hid (BQ3.out.minus q2)
                  generalize m3.cur.getD q2 [] = x at *
                  generalize m.cur.getD q2 [] = y at *
                  have hz := Lib.hid ((Below.refl wa.heap.size wa).drew)
                  clear hmq y9 z9 c0 c1 c2 c3' c4
                  go_upto_region 27 with fail
                  go_cut [21] (fun s21 wx => s21 = .int .i64 (Dm.chg x []) ∧ Hid (Below wa.heap.size wa wx))
                  case first =>
                    refine wp_region_held_drew (S := fun w' => w'.cell? ⟨b9, 0, none⟩ = some (.pointer (some ⟨S, 0, none⟩)) ∧ w'.cell? ⟨bx, 0, none⟩ = some (.int .i64 off3) ∧ w'.cell? ⟨bx, 1, none⟩ = some (.slice As3 m3c c3) ∧ w'.cell? ⟨bx, 2, none⟩ = some (.int .i64 lo3) ∧ w'.cell? ⟨bx, 3, none⟩ = some (.int .i64 hi3) ∧ w'.cell? ⟨bx, 4, none⟩ = some (.int .i64 n3)) (by kernel_rfl) ?_ (fun hHeld => ?_)
                    · exact SIX.out _ hz.out
                    generalize wa.drew = wd at *
                    refine wpAnyH_take (i := 0) (oi := { dst := some 89, op := Op.load 52 (Operand.tmp 9), type := 52, pos := "law.go:145", after := #[], guard := none }) (v := ?_) rfl (by kernel_rfl) (by kernel_rfl) (by kernel_rfl) (fun _ _ _ h => h) (Or.inl ⟨by rfl, ?_⟩) (by assumption) ?_
                    rotate_left
                    · (intro w hSw; (try dsimp only at hSw); go_simp; first | done | with_reducible rfl)
                    try simp only [Act.put, List.setIfInBounds_toArray, List.set_cons_zero, List.set_cons_succ]
                    refine wpAnyH_take (i := 1) (oi := { dst := some 90, op := Op.move (Operand.tmp 18), type := 3, pos := "law.go:145", after := #[], guard := none }) (v := ?_) rfl (by kernel_rfl) (by kernel_rfl) (by kernel_rfl) (fun _ _ _ h => h) (Or.inl ⟨by rfl, ?_⟩) (by assumption) ?_
                    rotate_left
                    · (intro w hSw; (try dsimp only at hSw); go_simp; first | done | with_reducible rfl)
                    try simp only [Act.put, List.setIfInBounds_toArray, List.set_cons_zero, List.set_cons_succ]
                    refine wpAnyH_take (i := 3) (oi := { dst := some 92, op := Op.load 25 (Operand.tmp 19), type := 25, pos := "law.go:145", after := #[], guard := none }) (v := ?_) rfl (by kernel_rfl) (by kernel_rfl) (by kernel_rfl) (fun _ _ _ h => h) (Or.inl ⟨by rfl, ?_⟩) (by assumption) ?_
                    rotate_left
                    · (intro w hSw; (try dsimp only at hSw); go_simp; first | done | with_reducible rfl)
                    try simp only [Act.put, List.setIfInBounds_toArray, List.set_cons_zero, List.set_cons_succ]
                    refine wpAnyH_ready (rs := [2, 8]) (by kernel_rfl) (by simp) ?_
                    refine AllReadyH.cons (o := { dst := some 91, op := Op.call { callee := Callee.value (Operand.func 38), args := #[Operand.tmp 89, Operand.tmp 90], argTypes := #[52, 3] }, type := 25, pos := "law.go:145", after := #[{ on := 0, ground := Ground.data }, { on := 1, ground := Ground.data }], guard := none }) rfl (fun KK hKK => ?_) ?_
                    · go_simp
                      with_reducible refine (CG.out _ hz.out).mono ?_
                      rintro e w' ⟨dv, rfl, hrep, hb⟩
                      replace hz := Lib.hid (below_call (w0 := wa) hz.out hb)
                      try replace hal := Lib.hid (heap_call hal.out hb)
                      have REPX := Lib.hid hrep
                      obtain ⟨wg, rfl⟩ : ∃ z : World, z = w' := ⟨_, rfl⟩
                      have hy := Lib.hid (Below.refl wg.heap.size wg)
                      clear hb hrep
                      go_wp2_with fail
                      refine hKK.out _ _ ?_ (fun hHeld2 => ?_)
                      · exact SIX.out _ hz.out
                      clear hKK KK hHeld
                      have hHeld := hHeld2
                      clear hHeld2
                      try simp only [Act.put, List.setIfInBounds_toArray, List.set_cons_zero, List.set_cons_succ]
                      refine wpAnyH_ready (rs := [4, 8]) (by kernel_rfl) (by simp) ?_
                      refine AllReadyH.cons (o := { dst := some 93, op := Op.call { callee := Callee.value (Operand.func 18), args := #[Operand.tmp 91, Operand.tmp 92], argTypes := #[25, 25] }, type := 31, pos := "law.go:145", after := #[{ on := 2, ground := Ground.data }, { on := 3, ground := Ground.data }, { on := 2, ground := Ground.chain }], guard := none }) rfl (fun KK hKK => ?_) ?_
                      · go_simp
                        with_reducible refine (dom_minus dv _ x y _ (REPX.out.call hy.out) (REP4.out.call hz.out) (HT4.out.call hz.out)).mono ?_
                        rintro e w' ⟨dv2, rfl, hrep, hb, hwb⟩
                        replace hz := Lib.hid (below_call (w0 := wa) hz.out hb)
                        try replace hal := Lib.hid (heap_call hal.out hb)
                        rw [MN.out] at hrep ⊢
                        clear hwb hb hy REPX
                        obtain ⟨off4, sv4, ws4, rfl, hx4⟩ := hrep
                        obtain ⟨As4, c4, rfl⟩ := hx4.sl.len
                        generalize ws4.length = m4c at *
                        clear hx4
                        unfold Dm.val
                        go_wp2_with fail
                        refine hKK.out _ _ ?_ (fun hHeld2 => ?_)
                        · exact SIX.out _ hz.out
                        clear hKK KK hHeld
                        have hHeld := hHeld2
                        clear hHeld2
                        try simp only [Act.put, List.setIfInBounds_toArray, List.set_cons_zero, List.set_cons_succ]
                        refine wpAnyH_take (i := 5) (oi := { dst := some 88, op := Op.move (Operand.tmp 93), type := 31, pos := "law.go:145", after := #[{ on := 4, ground := Ground.data }], guard := none }) (v := ?_) rfl (by kernel_rfl) (by kernel_rfl) (by kernel_rfl) (fun _ _ _ h => h) (Or.inl ⟨by rfl, ?_⟩) (by assumption) ?_
                        rotate_left
                        · (intro w hSw; (try dsimp only at hSw); go_simp; first | done | with_reducible rfl)
                        try simp only [Act.put, List.setIfInBounds_toArray, List.set_cons_zero, List.set_cons_succ]
                        refine wpAnyH_take (i := 6) (oi := { dst := some 94, op := Op.extract (Operand.tmp 88) 0, type := 25, pos := "law.go:145", after := #[{ on := 5, ground := Ground.data }], guard := none }) (v := ?_) rfl (by kernel_rfl) (by kernel_rfl) (by kernel_rfl) (fun _ _ _ h => h) (Or.inl ⟨by rfl, ?_⟩) (by assumption) ?_
                        rotate_left
                        · (intro w hSw; (try dsimp only at hSw); go_simp; first | done | with_reducible rfl)
                        try simp only [Act.put, List.setIfInBounds_toArray, List.set_cons_zero, List.set_cons_succ]
                        refine wpAnyH_take (i := 7) (oi := { dst := some 95, op := Op.extract (Operand.tmp 88) 1, type := 30, pos := "law.go:145", after := #[{ on := 5, ground := Ground.data }, { on := 9, ground := Ground.gcOnly Departure.lateStores }], guard := none }) (v := ?_) rfl (by kernel_rfl) (by kernel_rfl) (by kernel_rfl) (fun _ _ _ h => h) (Or.inl ⟨by rfl, ?_⟩) (by assumption) ?_
                        rotate_left
                        · (intro w hSw; (try dsimp only at hSw); go_simp; first | done | with_reducible rfl)
                        try simp only [Act.put, List.setIfInBounds_toArray, List.set_cons_zero, List.set_cons_succ]
                        refine wpAnyH_ready (rs := [8]) (by kernel_rfl) (by simp) ?_
                        refine AllReadyH.cons (o := { dst := some 20, op := Op.alloc 25, type := 0, pos := "law.go:145", after := #[], guard := none }) rfl (fun KK hKK => ?_) AllReadyH.nil
                        go_simp
                        refine hKK.out _ _ ?_ (fun hHeld2 => ?_)
                        · exact SIX.out _ (below_alloc hz.out _)
                        clear hKK KK hHeld
                        have hHeld := hHeld2
                        clear hHeld2
                        try simp only [Act.put, List.setIfInBounds_toArray, List.set_cons_zero, List.set_cons_succ]
                        have hz0 := hz.out
                        have hge := Lib.hid hz.out.size
                        replace hz := Lib.hid (below_alloc hz.out (.cells #[.int .i64 0, .slice none 0 0, .int .i64 0, .int .i64 0, .int .i64 0] 25))
                        have hal := Lib.hid (heap_new_of hz.out)
                        try replace hy := Lib.hid (below_alloc hy.out (.cells #[.int .i64 0, .slice none 0 0, .int .i64 0, .int .i64 0, .int .i64 0] 25))
                        refine wpAnyH_ready (rs := [9]) (by kernel_rfl) (by simp) ?_
                        refine AllReadyH.cons (o := { dst := none, op := Op.store 25 (Operand.tmp 20) (Operand.tmp 94), type := 0, pos := "law.go:145", after := #[{ on := 8, ground := Ground.data }, { on := 6, ground := Ground.data }, { on := 4, ground := Ground.chain }, { on := 0, ground := Ground.phase }, { on := 1, ground := Ground.phase }, { on := 2, ground := Ground.phase }, { on := 3, ground := Ground.phase }, { on := 4, ground := Ground.phase }, { on := 5, ground := Ground.phase }, { on := 6, ground := Ground.phase }, { on := 7, ground := Ground.textOnly Departure.lateStores }, { on := 8, ground := Ground.phase }], guard := none }) rfl (fun KK hKK => ?_) AllReadyH.nil
                        have q0 := cell_of hal.out 0
                        have q1 := cell_of hal.out 1
                        have q2 := cell_of hal.out 2
                        have q3 := cell_of hal.out 3
                        have q4 := cell_of hal.out 4
                        have r0 := frozen_of hal.out 0
                        have r1 := frozen_of hal.out 1
                        have r2 := frozen_of hal.out 2
                        have r3 := frozen_of hal.out 3
                        have r4 := frozen_of hal.out 4
                        go_simp
                        refine hKK.out _ _ ?_ (fun hHeld2 => ?_)
                        · exact SIX.out _ (by repeat (first | with_reducible exact hz.out | with_reducible exact below_alloc hz0 _ | with_reducible refine Below.setCell ?_ hge.out _))
                        clear hKK KK hHeld
                        have hHeld := hHeld2
                        clear hHeld2
                        try simp only [Act.put, List.setIfInBounds_toArray, List.set_cons_zero, List.set_cons_succ]
                        refine wpAnyH_take (i := 10) (oi := { dst := some 21, op := Op.assign (Operand.tmp 95), type := 30, pos := "law.go:145", after := #[{ on := 7, ground := Ground.data }, { on := 9, ground := Ground.chain }, { on := 0, ground := Ground.phase }, { on := 1, ground := Ground.phase }, { on := 2, ground := Ground.phase }, { on := 3, ground := Ground.phase }, { on := 4, ground := Ground.phase }, { on := 5, ground := Ground.phase }, { on := 6, ground := Ground.phase }, { on := 7, ground := Ground.phase }, { on := 8, ground := Ground.phase }, { on := 9, ground := Ground.phase }], guard := none }) (v := ?_) rfl (by kernel_rfl) (by kernel_rfl) (by kernel_rfl) (fun _ _ _ h => h) (Or.inl ⟨by rfl, ?_⟩) (by assumption) ?_
                        rotate_left
                        · (intro w hSw; (try dsimp only at hSw); go_simp; first | done | with_reducible rfl)
                        try simp only [Act.put, List.setIfInBounds_toArray, List.set_cons_zero, List.set_cons_succ]
                        refine wpAnyH_done (by kernel_rfl) ?_ _
                        go_wp2_with fail
                        go_meet
                        all_goals exact ⟨rfl, Lib.hid (by repeat (first | with_reducible exact hz.out | with_reducible exact below_alloc hz0 _ | with_reducible refine Below.setCell ?_ hge.out _))⟩
                      refine AllReadyH.cons (o := { dst := some 20, op := Op.alloc 25, type := 0, pos := "law.go:145", after := #[], guard := none }) rfl (fun KK hKK => ?_) AllReadyH.nil
                      go_simp
                      refine hKK.out _ _ ?_ (fun hHeld2 => ?_)
                      · exact SIX.out _ (below_alloc hz.out _)
                      clear hKK KK hHeld
                      have hHeld := hHeld2
                      clear hHeld2
                      try simp only [Act.put, List.setIfInBounds_toArray, List.set_cons_zero, List.set_cons_succ]
                      have hz0 := hz.out
                      have hge := Lib.hid hz.out.size
                      replace hz := Lib.hid (below_alloc hz.out (.cells #[.int .i64 0, .slice none 0 0, .int .i64 0, .int .i64 0, .int .i64 0] 25))
                      have hal := Lib.hid (heap_new_of hz.out)
                      try replace hy := Lib.hid (below_alloc hy.out (.cells #[.int .i64 0, .slice none 0 0, .int .i64 0, .int .i64 0, .int .i64 0] 25))
                      refine wpAnyH_ready (rs := [4]) (by kernel_rfl) (by simp) ?_
                      refine AllReadyH.cons (o := { dst := some 93, op := Op.call { callee := Callee.value (Operand.func 18), args := #[Operand.tmp 91, Operand.tmp 92], argTypes := #[25, 25] }, type := 31, pos := "law.go:145", after := #[{ on := 2, ground := Ground.data }, { on := 3, ground := Ground.data }, { on := 2, ground := Ground.chain }], guard := none }) rfl (fun KK hKK => ?_) AllReadyH.nil
                      go_simp
                      with_reducible refine (dom_minus dv _ x y _ (REPX.out.call hy.out) (REP4.out.call hz.out) (HT4.out.call hz.out)).mono ?_
                      rintro e w' ⟨dv2, rfl, hrep, hb, hwb⟩
                      replace hz := Lib.hid (below_call (w0 := wa) hz.out hb)
                      try replace hal := Lib.hid (heap_call hal.out hb)
                      rw [MN.out] at hrep ⊢
                      clear hwb hb hy REPX
                      obtain ⟨off4, sv4, ws4, rfl, hx4⟩ := hrep
                      obtain ⟨As4, c4, rfl⟩ := hx4.sl.len
                      generalize ws4.length = m4c at *
                      clear hx4
                      unfold Dm.val
                      go_wp2_with fail
                      refine hKK.out _ _ ?_ (fun hHeld2 => ?_)
                      · exact SIX.out _ hz.out
                      clear hKK KK hHeld
                      have hHeld := hHeld2
                      clear hHeld2
                      try simp only [Act.put, List.setIfInBounds_toArray, List.set_cons_zero, List.set_cons_succ]
                      refine wpAnyH_take (i := 5) (oi := { dst := some 88, op := Op.move (Operand.tmp 93), type := 31, pos := "law.go:145", after := #[{ on := 4, ground := Ground.data }], guard := none }) (v := ?_) rfl (by kernel_rfl) (by kernel_rfl) (by kernel_rfl) (fun _ _ _ h => h) (Or.inl ⟨by rfl, ?_⟩) (by assumption) ?_
                      rotate_left
                      · (intro w hSw; (try dsimp only at hSw); go_simp; first | done | with_reducible rfl)
                      try simp only [Act.put, List.setIfInBounds_toArray, List.set_cons_zero, List.set_cons_succ]
                      refine wpAnyH_take (i := 6) (oi := { dst := some 94, op := Op.extract (Operand.tmp 88) 0, type := 25, pos := "law.go:145", after := #[{ on := 5, ground := Ground.data }], guard := none }) (v := ?_) rfl (by kernel_rfl) (by kernel_rfl) (by kernel_rfl) (fun _ _ _ h => h) (Or.inl ⟨by rfl, ?_⟩) (by assumption) ?_
                      rotate_left
                      · (intro w hSw; (try dsimp only at hSw); go_simp; first | done | with_reducible rfl)
                      try simp only [Act.put, List.setIfInBounds_toArray, List.set_cons_zero, List.set_cons_succ]
                      refine wpAnyH_take (i := 7) (oi := { dst := some 95, op := Op.extract (Operand.tmp 88) 1, type := 30, pos := "law.go:145", after := #[{ on := 5, ground := Ground.data }, { on := 9, ground := Ground.gcOnly Departure.lateStores }], guard := none }) (v := ?_) rfl (by kernel_rfl) (by kernel_rfl) (by kernel_rfl) (fun _ _ _ h => h) (Or.inl ⟨by rfl, ?_⟩) (by assumption) ?_
                      rotate_left
                      · (intro w hSw; (try dsimp only at hSw); go_simp; first | done | with_reducible rfl)
                      try simp only [Act.put, List.setIfInBounds_toArray, List.set_cons_zero, List.set_cons_succ]
                      refine wpAnyH_ready (rs := [9]) (by kernel_rfl) (by simp) ?_
                      refine AllReadyH.cons (o := { dst := none, op := Op.store 25 (Operand.tmp 20) (Operand.tmp 94), type := 0, pos := "law.go:145", after := #[{ on := 8, ground := Ground.data }, { on := 6, ground := Ground.data }, { on := 4, ground := Ground.chain }, { on := 0, ground := Ground.phase }, { on := 1, ground := Ground.phase }, { on := 2, ground := Ground.phase }, { on := 3, ground := Ground.phase }, { on := 4, ground := Ground.phase }, { on := 5, ground := Ground.phase }, { on := 6, ground := Ground.phase }, { on := 7, ground := Ground.textOnly Departure.lateStores }, { on := 8, ground := Ground.phase }], guard := none }) rfl (fun KK hKK => ?_) AllReadyH.nil
                      have q0 := cell_of hal.out 0
                      have q1 := cell_of hal.out 1
                      have q2 := cell_of hal.out 2
                      have q3 := cell_of hal.out 3
                      have q4 := cell_of hal.out 4
                      have r0 := frozen_of hal.out 0
                      have r1 := frozen_of hal.out 1
                      have r2 := frozen_of hal.out 2
                      have r3 := frozen_of hal.out 3
                      have r4 := frozen_of hal.out 4
                      go_simp
                      refine hKK.out _ _ ?_ (fun hHeld2 => ?_)
                      · exact SIX.out _ (by repeat (first | with_reducible exact hz.out | with_reducible exact below_alloc hz0 _ | with_reducible refine Below.setCell ?_ hge.out _))
                      clear hKK KK hHeld
                      have hHeld := hHeld2
                      clear hHeld2
                      try simp only [Act.put, List.setIfInBounds_toArray, List.set_cons_zero, List.set_cons_succ]
                      refine wpAnyH_take (i := 10) (oi := { dst := some 21, op := Op.assign (Operand.tmp 95), type := 30, pos := "law.go:145", after := #[{ on := 7, ground := Ground.data }, { on := 9, ground := Ground.chain }, { on := 0, ground := Ground.phase }, { on := 1, ground := Ground.phase }, { on := 2, ground := Ground.phase }, { on := 3, ground := Ground.phase }, { on := 4, ground := Ground.phase }, { on := 5, ground := Ground.phase }, { on := 6, ground := Ground.phase }, { on := 7, ground := Ground.phase }, { on := 8, ground := Ground.phase }, { on := 9, ground := Ground.phase }], guard := none }) (v := ?_) rfl (by kernel_rfl) (by kernel_rfl) (by kernel_rfl) (fun _ _ _ h => h) (Or.inl ⟨by rfl, ?_⟩) (by assumption) ?_
                      rotate_left
                      · (intro w hSw; (try dsimp only at hSw); go_simp; first | done | with_reducible rfl)
                      try simp only [Act.put, List.setIfInBounds_toArray, List.set_cons_zero, List.set_cons_succ]
                      refine wpAnyH_done (by kernel_rfl) ?_ _
                      go_wp2_with fail
                      go_meet
                      all_goals exact ⟨rfl, Lib.hid (by repeat (first | with_reducible exact hz.out | with_reducible exact below_alloc hz0 _ | with_reducible refine Below.setCell ?_ hge.out _))⟩
                    refine AllReadyH.cons (o := { dst := some 20, op := Op.alloc 25, type := 0, pos := "law.go:145", after := #[], guard := none }) rfl (fun KK hKK => ?_) AllReadyH.nil
                    go_simp
                    refine hKK.out _ _ ?_ (fun hHeld2 => ?_)
                    · exact SIX.out _ (below_alloc hz.out _)
                    clear hKK KK hHeld
                    have hHeld := hHeld2
                    clear hHeld2
                    try simp only [Act.put, List.setIfInBounds_toArray, List.set_cons_zero, List.set_cons_succ]
                    have hz0 := hz.out
                    have hge := Lib.hid hz.out.size
                    replace hz := Lib.hid (below_alloc hz.out (.cells #[.int .i64 0, .slice none 0 0, .int .i64 0, .int .i64 0, .int .i64 0] 25))
                    have hal := Lib.hid (heap_new_of hz.out)
                    try replace hy := Lib.hid (below_alloc hy.out (.cells #[.int .i64 0, .slice none 0 0, .int .i64 0, .int .i64 0, .int .i64 0] 25))
                    refine wpAnyH_ready (rs := [2]) (by kernel_rfl) (by simp) ?_
                    refine AllReadyH.cons (o := { dst := some 91, op := Op.call { callee := Callee.value (Operand.func 38), args := #[Operand.tmp 89, Operand.tmp 90], argTypes := #[52, 3] }, type := 25, pos := "law.go:145", after := #[{ on := 0, ground := Ground.data }, { on := 1, ground := Ground.data }], guard := none }) rfl (fun KK hKK => ?_) AllReadyH.nil
                    go_simp
                    with_reducible refine (CG.out _ hz.out).mono ?_
                    rintro e w' ⟨dv, rfl, hrep, hb⟩
                    replace hz := Lib.hid (below_call (w0 := wa) hz.out hb)
                    try replace hal := Lib.hid (heap_call hal.out hb)
                    have REPX := Lib.hid hrep
                    obtain ⟨wg, rfl⟩ : ∃ z : World, z = w' := ⟨_, rfl⟩
                    have hy := Lib.hid (Below.refl wg.heap.size wg)
                    clear hb hrep
                    go_wp2_with fail
                    refine hKK.out _ _ ?_ (fun hHeld2 => ?_)
                    · exact SIX.out _ hz.out
                    clear hKK KK hHeld
                    have hHeld := hHeld2
                    clear hHeld2
                    try simp only [Act.put, List.setIfInBounds_toArray, List.set_cons_zero, List.set_cons_succ]
                    refine wpAnyH_ready (rs := [4]) (by kernel_rfl) (by simp) ?_
                    refine AllReadyH.cons (o := { dst := some 93, op := Op.call { callee := Callee.value (Operand.func 18), args := #[Operand.tmp 91, Operand.tmp 92], argTypes := #[25, 25] }, type := 31, pos := "law.go:145", after := #[{ on := 2, ground := Ground.data }, { on := 3, ground := Ground.data }, { on := 2, ground := Ground.chain }], guard := none }) rfl (fun KK hKK => ?_) AllReadyH.nil
                    go_simp
                    with_reducible refine (dom_minus dv _ x y _ (REPX.out.call hy.out) (REP4.out.call hz.out) (HT4.out.call hz.out)).mono ?_
                    rintro e w' ⟨dv2, rfl, hrep, hb, hwb⟩
                    replace hz := Lib.hid (below_call (w0 := wa) hz.out hb)
                    try replace hal := Lib.hid (heap_call hal.out hb)
                    rw [MN.out] at hrep ⊢
                    clear hwb hb hy REPX
                    obtain ⟨off4, sv4, ws4, rfl, hx4⟩ := hrep
                    obtain ⟨As4, c4, rfl⟩ := hx4.sl.len
                    generalize ws4.length = m4c at *
                    clear hx4
                    unfold Dm.val
                    go_wp2_with fail
                    refine hKK.out _ _ ?_ (fun hHeld2 => ?_)
                    · exact SIX.out _ hz.out
                    clear hKK KK hHeld
                    have hHeld := hHeld2
                    clear hHeld2
                    try simp only [Act.put, List.setIfInBounds_toArray, List.set_cons_zero, List.set_cons_succ]
                    refine wpAnyH_take (i := 5) (oi := { dst := some 88, op := Op.move (Operand.tmp 93), type := 31, pos := "law.go:145", after := #[{ on := 4, ground := Ground.data }], guard := none }) (v := ?_) rfl (by kernel_rfl) (by kernel_rfl) (by kernel_rfl) (fun _ _ _ h => h) (Or.inl ⟨by rfl, ?_⟩) (by assumption) ?_
                    rotate_left
                    · (intro w hSw; (try dsimp only at hSw); go_simp; first | done | with_reducible rfl)
                    try simp only [Act.put, List.setIfInBounds_toArray, List.set_cons_zero, List.set_cons_succ]
                    refine wpAnyH_take (i := 6) (oi := { dst := some 94, op := Op.extract (Operand.tmp 88) 0, type := 25, pos := "law.go:145", after := #[{ on := 5, ground := Ground.data }], guard := none }) (v := ?_) rfl (by kernel_rfl) (by kernel_rfl) (by kernel_rfl) (fun _ _ _ h => h) (Or.inl ⟨by rfl, ?_⟩) (by assumption) ?_
                    rotate_left
                    · (intro w hSw; (try dsimp only at hSw); go_simp; first | done | with_reducible rfl)
                    try simp only [Act.put, List.setIfInBounds_toArray, List.set_cons_zero, List.set_cons_succ]
                    refine wpAnyH_take (i := 7) (oi := { dst := some 95, op := Op.extract (Operand.tmp 88) 1, type := 30, pos := "law.go:145", after := #[{ on := 5, ground := Ground.data }, { on := 9, ground := Ground.gcOnly Departure.lateStores }], guard := none }) (v := ?_) rfl (by kernel_rfl) (by kernel_rfl) (by kernel_rfl) (fun _ _ _ h => h) (Or.inl ⟨by rfl, ?_⟩) (by assumption) ?_
                    rotate_left
                    · (intro w hSw; (try dsimp only at hSw); go_simp; first | done | with_reducible rfl)
                    try simp only [Act.put, List.setIfInBounds_toArray, List.set_cons_zero, List.set_cons_succ]
                    refine wpAnyH_ready (rs := [9]) (by kernel_rfl) (by simp) ?_
                    refine AllReadyH.cons (o := { dst := none, op := Op.store 25 (Operand.tmp 20) (Operand.tmp 94), type := 0, pos := "law.go:145", after := #[{ on := 8, ground := Ground.data }, { on := 6, ground := Ground.data }, { on := 4, ground := Ground.chain }, { on := 0, ground := Ground.phase }, { on := 1, ground := Ground.phase }, { on := 2, ground := Ground.phase }, { on := 3, ground := Ground.phase }, { on := 4, ground := Ground.phase }, { on := 5, ground := Ground.phase }, { on := 6, ground := Ground.phase }, { on := 7, ground := Ground.textOnly Departure.lateStores }, { on := 8, ground := Ground.phase }], guard := none }) rfl (fun KK hKK => ?_) AllReadyH.nil
                    have q0 := cell_of hal.out 0
                    have q1 := cell_of hal.out 1
                    have q2 := cell_of hal.out 2
                    have q3 := cell_of hal.out 3
                    have q4 := cell_of hal.out 4
                    have r0 := frozen_of hal.out 0
                    have r1 := frozen_of hal.out 1
                    have r2 := frozen_of hal.out 2
                    have r3 := frozen_of hal.out 3
                    have r4 := frozen_of hal.out 4
                    go_simp
                    refine hKK.out _ _ ?_ (fun hHeld2 => ?_)
                    · exact SIX.out _ (by repeat (first | with_reducible exact hz.out | with_reducible exact below_alloc hz0 _ | with_reducible refine Below.setCell ?_ hge.out _))
                    clear hKK KK hHeld
                    have hHeld := hHeld2
                    clear hHeld2
                    try simp only [Act.put, List.setIfInBounds_toArray, List.set_cons_zero, List.set_cons_succ]
                    refine wpAnyH_take (i := 10) (oi := { dst := some 21, op := Op.assign (Operand.tmp 95), type := 30, pos := "law.go:145", after := #[{ on := 7, ground := Ground.data }, { on := 9, ground := Ground.chain }, { on := 0, ground := Ground.phase }, { on := 1, ground := Ground.phase }, { on := 2, ground := Ground.phase }, { on := 3, ground := Ground.phase }, { on := 4, ground := Ground.phase }, { on := 5, ground := Ground.phase }, { on := 6, ground := Ground.phase }, { on := 7, ground := Ground.phase }, { on := 8, ground := Ground.phase }, { on := 9, ground := Ground.phase }], guard := none }) (v := ?_) rfl (by kernel_rfl) (by kernel_rfl) (by kernel_rfl) (fun _ _ _ h => h) (Or.inl ⟨by rfl, ?_⟩) (by assumption) ?_
                    rotate_left
                    · (intro w hSw; (try dsimp only at hSw); go_simp; first | done | with_reducible rfl)
                    try simp only [Act.put, List.setIfInBounds_toArray, List.set_cons_zero, List.set_cons_succ]
                    refine wpAnyH_done (by kernel_rfl) ?_ _
                    go_wp2_with fail
                    go_meet
                    all_goals exact ⟨rfl, Lib.hid (by repeat (first | with_reducible exact hz.out | with_reducible exact below_alloc hz0 _ | with_reducible refine Below.setCell ?_ hge.out _))⟩
                  case rest =>
                    obtain ⟨rfl, hz⟩ := hcut
                    have BA5 := Lib.hid (BA4.out.call hz.out)
                    have WA5 := Lib.hid (WA4.out.call hz.out)
                    have u9 := cell_of BA5.out.box 0
                    have CG2 := Lib.hid (CG.out _ hz.out)
                    have X0 : Hid (x.length = 0 → Dm.chg x [] = 0) := Lib.hid fun e => by unfold Dm.chg; rw [List.length_nil, if_pos e.symm]
                    have X1 : Hid (x.length ≠ 0 → Dm.chg x [] = 4) := Lib.hid fun e => by unfold Dm.chg; rw [List.length_nil, if_neg (Ne.symm e), if_pos rfl]
                    generalize Dm.chg x [] = ch at *
                    clear CG SIX hba hwa
                    by_cases hx0 : x.length = 0
                    · obtain rfl := X0.out hx0
                      have HX0 := Lib.hid hx0
                      clear hx0 X0 X1
                      go_wp2_with fail
                      refine CG2.out.mono ?_
                      rintro e w7 ⟨dv, rfl, hrep, hb⟩
                      have BA6 := Lib.hid (BA5.out.call hb)
                      have WA6 := Lib.hid (WA5.out.call hb)
                      have CS := Lib.hid (dom_size dv x _ hrep)
                      rw [HX0.out] at CS
                      clear hb hrep
                      go_wp2_with fail
                      refine CS.out.mono ?_
                      rintro e w8 ⟨rfl, hb⟩
                      have BA7 := Lib.hid (BA6.out.call hb)
                      have WA7 := Lib.hid (WA6.out.call hb)
                      clear hb
                      go_wp2_with fail
                      go_roundg (gk - 1)
                      case measure => omega
                      case rel => exact ⟨q2 + 1, by go_num, by omega, BA7, WA7⟩
                    · obtain rfl := X1.out hx0
                      clear X0 X1 CG2
                      go_wp2_with fail
                      go_roundg (gk - 1)
                      case measure => omega
                      case rel => exact ⟨q2 + 1, by go_num, by omega, BA5, WA5⟩
                · have hqe : q2 = q := by omega
                  subst hqe
                  go_wp2_with fail
                  go_roundg (gko - 1)
                  case measure => omega
                  case rel => exact ⟨j2 + 1, N3, m3, p3, by go_num, by omega, by omega, hba, hwa, BQ3⟩
            · have hje2 : j2 = mm2 := by omega
              subst hje2
              go_wp2_with fail
              have LM : Hid (m'.marks.length = m.marks.length + j2) := Lib.hid (by rw [hba.out.own.at_.ok.lens, hbq.out.lev, OKA.out.lens])
              have BK := Lib.hid (hbq.out.back hba.out.own.at_.ok OKA.out)
              rw [← OKA.out.lens] at BK
              have hkf : m.marks.length ≤ 1000 := by have := hba.out.own.sz.marks; have := LM.out; omega
              have LV := Lib.hid (store_level S p' m' _ hba.out.own.at_.toMem)
              rw [LM.out] at LV
              have CB := Lib.hid (own_back hba.out.own (by omega) (by have := hm7.out; omega) (m.marks.length : Int))
              generalize m.marks.length = kf at *
              have hw : (((kf + j2 : Nat) : Int) != (kf : Int) + (j2 : Int)) = false := by simp
              clear LM hbel
              go_wp2_with fail
              refine LV.out.mono ?_
              rintro e w7 ⟨rfl, rfl⟩
              clear LV
              go_wp2_with fail
              refine CB.out.mono ?_
              rintro e w7 ⟨rfl, p2, ho, st⟩
              have BA2 := Lib.hid (hba.out.st ho st)
              have WA2 := Lib.hid (hwa.out.apt (Su.Apt.st hba.out.own.at_.toMem st))
              rw [BK.out.1]
              clear ho st CB
              have y9 := cell_of BA2.out.box 0
              generalize (Su.bk m' (kf : Int)).1 = m2 at *
              have CE := Lib.hid (own_events BA2.out.own)
              go_wp2_with fail
              refine CE.out.mono ?_
              rintro e w8 ⟨p3, se, rfl, ho, hsl, hse, st⟩
              have BA3 := Lib.hid (BA2.out.st ho st)
              have WA3 := Lib.hid (WA2.out.apt (Su.Apt.st BA2.out.own.at_.toMem st))
              obtain ⟨As, cs, rfl⟩ := hsl.len
              rw [BK.out.2.2.1]
              generalize hm3 : ({ m2 with events := [] } : Su.M) = m3 at *
              have CUR : Hid (m3.cur = m.cur) := Lib.hid (by rw [← hm3]; exact BK.out.2.1)
              have MK3 : Hid (m3.marks.length = kf) := Lib.hid (by
                have h1 := BA2.out.own.at_.ok.lens
                rw [← hm3]
                show m2.marks.length = kf
                rw [h1]; exact BK.out.2.2.2)
              clear hm3 ho hsl hse st CE BA2 WA2 hba hwa y9 z9 BK hw
              go_wp2_with fail
              generalize N' + 1 = N1 at *
              obtain ⟨gko, rfl⟩ : ∃ g : Nat, g = gk := ⟨_, rfl⟩
              obtain ⟨wo, rfl⟩ : ∃ wo : World, wo = wr := ⟨_, rfl⟩
              go_loopg [129] q (fun k s129 wr => ∃ (q2 : Nat), s129 = .int .i64 q2 ∧ k + q2 = q ∧ Hid (Su.Ba w4 S b9 wr p3 m3 N1) ∧ Hid (Su.Wa w4 S p3 wr (.slice Aw q cw) vs m.cur))
              case atStart => exact ⟨0, rfl, by omega, BA3, WA3⟩
              case round =>
                clear BA3 WA3
                obtain ⟨q2, rfl, hq2, hba, hwa⟩ := hrel
                have z9 := cell_of hba.out.box 0
                rcases Nat.lt_or_ge q2 q with hqn | hqn
                · have hdl := hwa.out.dl
                  rw [← hvn] at hdl
                  obtain ⟨bw, ow, off3, As3, m3c, c3, lo3, hi3, n3, e, hv9, hn9, hrep, c0, c1, c2, c3', c4⟩ := hdl.at q2 (by omega)
                  clear hv9 hn9
                  cases e
                  simp only [Nat.add_zero, ← Nat.add_assoc] at c0 c1 c2 c3' c4
                  have hqi : (q2 : Int) < (q : Int) := by omega
                  have BXD := Lib.hid (heap_new wr (.cells #[.int .i64 off3, .slice As3 m3c c3, .int .i64 lo3, .int .i64 hi3, .int .i64 n3] 25))
                  have hbb := below_alloc (Below.refl wr.heap.size wr) (.cells #[.int .i64 off3, .slice As3 m3c c3, .int .i64 lo3, .int .i64 hi3, .int .i64 n3] 25)
                  have BA4 := Lib.hid (hba.out.call hbb)
                  have WA4 := Lib.hid (hwa.out.call hbb)
                  have REP4 := Lib.hid (hrep.call hbb)
                  have y9 := cell_of BA4.out.box 0
                  clear hdl hrep hbb
                  go_wp2_with fail
                  have hmq : m3.cur.length = q := by rw [CUR.out]; exact hnn
                  generalize wr.alloc (.cells #[.int .i64 off3, .slice As3 m3c c3, .int .i64 lo3, .int .i64 hi3, .int .i64 n3] 25) = wa at *
                  generalize wr.heap.size = bx at *
                  have SIX : Hid (∀ w', Below wa.heap.size wa w' → w'.cell? ⟨b9, 0, none⟩ = some (.pointer (some ⟨S, 0, none⟩)) ∧ w'.cell? ⟨bx, 0, none⟩ = some (.int .i64 off3) ∧ w'.cell? ⟨bx, 1, none⟩ = some (.slice As3 m3c c3) ∧ w'.cell? ⟨bx, 2, none⟩ = some (.int .i64 lo3) ∧ w'.cell? ⟨bx, 3, none⟩ = some (.int .i64 hi3) ∧ w'.cell? ⟨bx, 4, none⟩ = some (.int .i64 n3)) := Lib.hid fun w' hb => ⟨cell_of (BA4.out.call hb).box 0, cell_of (heap_call BXD.out hb) 0, cell_of (heap_call BXD.out hb) 1, cell_of (heap_call BXD.out hb) 2, cell_of (heap_call BXD.out hb) 3, cell_of (heap_call BXD.out hb) 4⟩
                  have CG := Lib.hid (fun w' (hb : Below wa.heap.size wa w') => store_get S p3 m3 q2 w' (BA4.out.call hb).own.at_.toMem (by omega))
                  rw [show Su.get m3.cur q2 = m3.cur.getD q2 [] from by unfold Su.get; rw [if_pos (by omega), Int.toNat_natCast]] at CG
                  have HT4 := Lib.hid (HT.out.call (below_call B4.out BA4.out.own.below))
                  rw [CUR.out] at CG
                  generalize m.cur.getD q2 [] = y at *
                  have hz := Lib.hid ((Below.refl wa.heap.size wa).drew)
                  clear hmq y9 z9 c0 c1 c2 c3' c4
                  refine wp_region_held_drew (S := fun w' => w'.cell? ⟨b9, 0, none⟩ = some (.pointer (some ⟨S, 0, none⟩)) ∧ w'.cell? ⟨bx, 0, none⟩ = some (.int .i64 off3) ∧ w'.cell? ⟨bx, 1, none⟩ = some (.slice As3 m3c c3) ∧ w'.cell? ⟨bx, 2, none⟩ = some (.int .i64 lo3) ∧ w'.cell? ⟨bx, 3, none⟩ = some (.int .i64 hi3) ∧ w'.cell? ⟨bx, 4, none⟩ = some (.int .i64 n3)) (by kernel_rfl) ?_ (fun hHeld => ?_)
                  · exact SIX.out _ hz.out
                  refine wpAnyH_take (i := 0) (oi := { dst := some 134, op := Op.load 52 (Operand.tmp 9), type := 52, pos := "law.go:154", after := #[], guard := none }) (v := ?_) rfl (by kernel_rfl) (by kernel_rfl) (by kernel_rfl) (fun _ _ _ h => h) (Or.inl ⟨by rfl, ?_⟩) (by assumption) ?_
                  rotate_left
                  · (intro w hSw; (try dsimp only at hSw); go_simp; first | done | with_reducible rfl)
                  try simp only [Act.put, List.setIfInBounds_toArray, List.set_cons_zero, List.set_cons_succ]
                  refine wpAnyH_take (i := 1) (oi := { dst := some 135, op := Op.move (Operand.tmp 22), type := 3, pos := "law.go:154", after := #[], guard := none }) (v := ?_) rfl (by kernel_rfl) (by kernel_rfl) (by kernel_rfl) (fun _ _ _ h => h) (Or.inl ⟨by rfl, ?_⟩) (by assumption) ?_
                  rotate_left
                  · (intro w hSw; (try dsimp only at hSw); go_simp; first | done | with_reducible rfl)
                  try simp only [Act.put, List.setIfInBounds_toArray, List.set_cons_zero, List.set_cons_succ]
                  refine wpAnyH_take (i := 3) (oi := { dst := some 137, op := Op.load 25 (Operand.tmp 23), type := 25, pos := "law.go:154", after := #[], guard := none }) (v := ?_) rfl (by kernel_rfl) (by kernel_rfl) (by kernel_rfl) (fun _ _ _ h => h) (Or.inl ⟨by rfl, ?_⟩) (by assumption) ?_
                  rotate_left
                  · (intro w hSw; (try dsimp only at hSw); go_simp; first | done | with_reducible rfl)
                  try simp only [Act.put, List.setIfInBounds_toArray, List.set_cons_zero, List.set_cons_succ]
                  refine wpAnyH_ready (rs := [2]) (by kernel_rfl) (by simp) ?_
                  refine AllReadyH.cons (o := { dst := some 136, op := Op.call { callee := Callee.value (Operand.func 38), args := #[Operand.tmp 134, Operand.tmp 135], argTypes := #[52, 3] }, type := 25, pos := "law.go:154", after := #[{ on := 0, ground := Ground.data }, { on := 1, ground := Ground.data }], guard := none }) rfl (fun KK hKK => ?_) AllReadyH.nil
                  go_simp
                  with_reducible refine (CG.out _ hz.out).mono ?_
                  rintro e w' ⟨dv, rfl, hrep, hb⟩
                  replace hz := Lib.hid (below_call (w0 := wa) hz.out hb)
                  have REPX := Lib.hid hrep
                  obtain ⟨wg, rfl⟩ : ∃ z : World, z = w' := ⟨_, rfl⟩
                  clear hb hrep
                  go_wp2_with fail
                  refine hKK.out _ _ ?_ (fun hHeld2 => ?_)
                  · exact SIX.out _ hz.out
                  clear hKK KK hHeld
                  have hHeld := hHeld2
                  clear hHeld2
                  try simp only [Act.put, List.setIfInBounds_toArray, List.set_cons_zero, List.set_cons_succ]
                  refine wpAnyH_ready (rs := [4]) (by kernel_rfl) (by simp) ?_
                  refine AllReadyH.cons (o := { dst := some 138, op := Op.call { callee := Callee.value (Operand.func 23), args := #[Operand.tmp 136, Operand.tmp 137], argTypes := #[25, 25] }, type := 4, pos := "law.go:154", after := #[{ on := 2, ground := Ground.data }, { on := 3, ground := Ground.data }, { on := 2, ground := Ground.chain }], guard := none }) rfl (fun KK hKK => ?_) AllReadyH.nil
                  go_simp
                  with_reducible refine (dom_equal dv _ y y _ REPX.out (REP4.out.call hz.out) (HT4.out.call hz.out)).mono ?_
                  rintro e w' ⟨rfl, hb⟩
                  replace hz := Lib.hid (below_call (w0 := wa) hz.out hb)
                  clear hb
                  rw [decide_eq_true rfl]
                  go_wp2_with fail
                  refine hKK.out _ _ ?_ (fun hHeld2 => ?_)
                  · exact SIX.out _ hz.out
                  clear hKK KK hHeld
                  have hHeld := hHeld2
                  clear hHeld2
                  try simp only [Act.put, List.setIfInBounds_toArray, List.set_cons_zero, List.set_cons_succ]
                  refine wpAnyH_take (i := 5) (oi := { dst := some 139, op := Op.unOp UnOp.not 4 (Operand.tmp 138), type := 4, pos := "law.go:154", after := #[{ on := 4, ground := Ground.data }], guard := none }) (v := ?_) rfl (by kernel_rfl) (by kernel_rfl) (by kernel_rfl) (fun _ _ _ h => h) (Or.inl ⟨by rfl, ?_⟩) (by assumption) ?_
                  rotate_left
                  · (intro w hSw; (try dsimp only at hSw); go_simp; first | done | with_reducible rfl)
                  try simp only [Act.put, List.setIfInBounds_toArray, List.set_cons_zero, List.set_cons_succ]
                  refine wpAnyH_done (by kernel_rfl) ?_ _
                  have BA5 := Lib.hid (BA4.out.call hz.out)
                  have WA5 := Lib.hid (WA4.out.call hz.out)
                  go_wp2_with fail
                  go_roundg (gk - 1)
                  case measure => omega
                  case rel => exact ⟨q2 + 1, by go_num, by omega, BA5, WA5⟩
                · have hqe : q2 = q := by omega
                  subst hqe
                  have CW := Lib.hid (law3_wakes wr (HT.out.call (below_call B4.out hba.out.own.below)))
                  go_wp2_with fail
                  refine CW.out.mono ?_
                  rintro e w8 ⟨rfl, hb⟩
                  have BA7 := Lib.hid (hba.out.call hb)
                  have LV := Lib.hid (store_level S p3 m3 w8 BA7.out.own.at_.toMem)
                  rw [MK3.out] at LV
                  have x9 := cell_of BA7.out.box 0
                  have hw2 : ((kf : Int) == (kf : Int)) = true := by simp
                  clear hb CW z9
                  go_wp2_with fail
                  refine LV.out.mono ?_
                  rintro e w9 ⟨rfl, rfl⟩
                  go_wp2_with fail
                  go_ret
                  exact ⟨rfl, below_call B4.out BA7.out.own.below⟩
end Go.Proofs.YtdbjljbkneopcaaDoor
