import Derived.Test.YtdbjljbkneopcaaDoorStoreK
/- A store of the call's own; wakes (law) of chapter 03. -/
namespace Go.Proofs.YtdbjljbkneopcaaDoor
open Go.RowKit
set_option linter.unusedSimpArgs false
set_option linter.unusedVariables false

/-- A store all of whose blocks lie from w0's end on. -/
structure Su.Own (w0 w : World) (S : Nat) (p : Su.Parts) (m : Su.M) (N : Nat) : Prop where
  at_ : Su.At w S p m
  sz : Su.Sz m N
  below : Below w0.heap.size w0 w
  fp : ∀ k, p.fp S k → w0.heap.size ≤ k
theorem Su.Own.step {w0 w w' : World} {S : Nat} {p p' : Su.Parts} {m m' : Su.M} {N N' : Nat} (h : Su.Own w0 w S p m N) (st : Su.St w w' S p p' m') (ok : Su.Ok m') (sz : Su.Sz m' N') : Su.Own w0 w' S p' m' N' :=
  ⟨⟨st.mem, ok⟩, sz, Fr.below h.below st.fr h.fp, fun k hk => (st.fp k hk).elim (h.fp k) (fun e => Nat.le_trans h.below.size e)⟩
theorem Su.Own.call {w0 w w' : World} {S : Nat} {p : Su.Parts} {m : Su.M} {N : Nat} (h : Su.Own w0 w S p m N) (hb : Below w.heap.size w w') : Su.Own w0 w' S p m N :=
  ⟨h.at_.call hb, h.sz, below_call h.below hb, h.fp⟩
/-- What lies apart from a store stays, and apart. -/
theorem Su.St.far {w w' : World} {S : Nat} {p p' : Su.Parts} {m' : Su.M} (st : Su.St w w' S p p' m') {b : Nat} {o : Obj} (h : w.heap[b]? = some o) (hn : ¬ p.fp S b) : w'.heap[b]? = some o ∧ ¬ p'.fp S b :=
  ⟨st.fr.heap h hn, fun hk => (st.fp b hk).elim hn (fun e => by have := heap_lt h; omega)⟩
/-- A call that turns such a store. -/
def Su.OwnV (w0 w : World) (S : Nat) (p : Su.Parts) (m' : Su.M) (N' : Nat) (r : Value) (e : Ending) (w' : World) : Prop := e = .returned r ∧ ∃ p', Su.Own w0 w' S p' m' N' ∧ Su.St w w' S p p' m'
theorem Su.push_ok' {m : Su.M} (h : Su.Ok m) : Su.Ok (Su.push m) := Su.push_ok m h
theorem own_push {w0 w : World} {S : Nat} {p : Su.Parts} {m : Su.M} {N : Nat} (h : Su.Own w0 w S p m N) (hN : N ≤ 100000000000) :
    Calls Tryd.prog 35 #[.pointer (some ⟨S, 0, none⟩)] w (Su.OwnV w0 w S p (Su.push m) (N + 1) (.tuple #[])) := by
  refine (store_pushes S p m N w h.at_.toMem h.sz hN).mono ?_
  rintro e w' ⟨rfl, p', st⟩
  exact ⟨rfl, p', h.step st (Su.push_ok m h.at_.ok) (Su.push_sz h.sz), st⟩
theorem own_narrow {w0 w : World} {S : Nat} {p : Su.Parts} {m : Su.M} {N : Nat} (h : Su.Own w0 w S p m N) (hN : N ≤ 100000000000) (hn : m.cur.length ≤ 1000000) (i : Int) (d : Value) (dl : List Int) (hd : Dm.Rep w d dl) (hT : Tab w) :
    Calls Tryd.prog 34 #[.pointer (some ⟨S, 0, none⟩), .int .i64 i, d] w (Su.OwnV w0 w S p (Su.nar m i dl).1 (N + 1) (.int .i64 (Su.nar m i dl).2)) := by
  refine (store_narrow S p m N i d dl w h.at_ hd h.sz hN hn hT).mono ?_
  rintro e w' ⟨rfl, p', st⟩
  exact ⟨rfl, p', h.step st (Su.nar_ok m i dl h.at_.ok) (Su.nar_sz h.sz i dl), st⟩
theorem own_back {w0 w : World} {S : Nat} {p : Su.Parts} {m : Su.M} {N : Nat} (h : Su.Own w0 w S p m N) (hN : N ≤ 100000000000) (hn : m.cur.length ≤ 1000000) (lv : Int) :
    Calls Tryd.prog 39 #[.pointer (some ⟨S, 0, none⟩), .int .i64 lv] w (Su.OwnV w0 w S p (Su.bk m lv).1 (N + 1) (.int .i64 (Su.bk m lv).2)) := by
  refine (store_back S p m N lv w h.at_ h.sz hN hn).mono ?_
  rintro e w' ⟨rfl, p', st⟩
  exact ⟨rfl, p', h.step st (Su.bk_ok m lv h.at_.ok) (Su.bk_sz h.sz lv), st⟩
/-- The events are told: in a slice that is the caller's from then on. -/
def Su.OwnE (w0 w : World) (S : Nat) (p : Su.Parts) (m : Su.M) (N : Nat) (e : Ending) (w' : World) : Prop :=
  ∃ p' se, e = .returned se ∧ Su.Own w0 w' S p' { m with events := [] } N ∧ Sl w' 155 2 se m.events.length (Su.ecells m.events) ∧ (∀ b, se.ownBlock = some b → ¬ p'.fp S b) ∧ Su.St w w' S p p' { m with events := [] }
theorem own_events {w0 w : World} {S : Nat} {p : Su.Parts} {m : Su.M} {N : Nat} (h : Su.Own w0 w S p m N) :
    Calls Tryd.prog 40 #[.pointer (some ⟨S, 0, none⟩)] w (Su.OwnE w0 w S p m N) := by
  have HM := h.at_.toMem
  have e5 := cell_of HM.box 5
  have f5 := frozen_of HM.box 5
  have H := Lib.hid h
  have HMM := Lib.hid HM
  have K : Hid (∀ b, p.es.ownBlock = some b → ¬ ({ p with es := .slice none 0 0 } : Su.Parts).fp S b) := Lib.hid fun b hb hk => by
    rcases hk with e | e | e | e | e | e
    · exact (HM.tye hb).ne HM.tyS (by decide) e
    · exact (HM.tye hb).ne (HM.tyd e) (by decide) rfl
    · exact (HM.tye hb).ne (HM.tys e) (by decide) rfl
    · exact (HM.tye hb).ne (HM.tyt e) (by decide) rfl
    · exact (HM.tye hb).ne (HM.tym e) (by decide) rfl
    · cases e
  clear h HM
  go_enter Tryd.func40, Tryd.ntmps40
  go_wp2_with fail
  go_ret
  have st := HMM.out.noEvents
  refine ⟨_, p.es, rfl, H.out.step st (H.out.at_.ok.events []) (Su.events_sz H.out.sz), ?_, K.out, st⟩
  exact HMM.out.events.kept (S := fun k => k = S) (Fr.set (S := fun k => k = S) (Fr.refl _ w) (p := ⟨S, 5, none⟩) (fun _ => rfl) _) (fun b hb e => (HMM.out.tye hb).ne HMM.out.tyS (by decide) e)
theorem own_made {ls : List (List Int)} {w w' : World} {e : Ending} (h : Su.Made ls w e w') : ∃ S p, e = .returned (.pointer (some ⟨S, 0, none⟩)) ∧ Su.Own w w' S p (Su.new ls) 0 := by
  obtain ⟨S, p, rfl, hm, hb, hf⟩ := h
  exact ⟨S, p, rfl, ⟨hm, Su.new_ok ls⟩, ⟨Nat.le_refl _, Nat.le_refl _, Nat.le_refl _, Int.le_refl _, Int.le_refl _⟩, hb, hf⟩
theorem own_new (sv : Value) (vs : List Value) (ls : List (List Int)) (w : World) (h : Dl w sv vs ls) (hn : ls.length ≤ 1000000) (h0 : vs.length = 0 → sv = .slice none 0 0) :
    Calls Tryd.prog 31 #[sv] w fun e w' => ∃ S p, e = .returned (.pointer (some ⟨S, 0, none⟩)) ∧ Su.Own w w' S p (Su.new ls) 0 :=
  (store_new sv vs ls w h hn h0).mono fun _ _ h => own_made h
end Go.Proofs.YtdbjljbkneopcaaDoor
/- wakes (law) of chapter 03. -/
namespace Go.Proofs.YtdbjljbkneopcaaDoor
open Go.RowKit
set_option linter.unusedSimpArgs false
set_option linter.unusedVariables false

def Su.w1 : Su.M := Su.push (Su.new [[1, 2, 3]])
def Su.w2 : Su.M := (Su.nar Su.w1 0 [2]).1
def Su.w3 : Su.M := { Su.w2 with events := [] }
def Su.w4 : Su.M := (Su.bk Su.w3 0).1
theorem Su.w2a : (Su.nar Su.w1 0 [2]).2 = 3 := by decide +kernel
theorem Su.w2b : Su.w2.cur = [[2]] := by decide +kernel
theorem Su.w2c : Su.w2.events = [(0, 3)] := by decide +kernel
theorem Su.w4a : (Su.bk Su.w3 0).2 = 0 := by decide +kernel
theorem Su.w4b : Su.w4.cur = [[1, 2, 3]] := by decide +kernel
theorem wakes3_of : Rf.of [1, 2, 3] = [1, 2, 3] ∧ Rf.code [1, 2, 3] = 0 ∧ Rf.of [2] = [2] ∧ Rf.code [2] = 0 := by decide +kernel
set_option maxHeartbeats 4000000 in
set_option maxRecDepth 100000 in
theorem law3_wakes (w : World) (hT : Tab w) : Calls Tryd.prog 41 #[] w (Rf.Says true w) := by
  have RT := Lib.hid hT
  have BEL := Lib.hid (Below.refl w.heap.size w)
  have N1 : Hid ([1, 2, 3].length = 3) := Lib.hid rfl
  clear hT
  go_enter Tryd.func41, Tryd.ntmps41
  go_wp2_with fail
  refine (dom_of _ [1, 2, 3] _ (Sl.lit (heap_new w (.cells #[.int .i64 1, .int .i64 2, .int .i64 3] 3)) 3 rfl (by decide)) (RT.out.call (by repeat (first | with_reducible exact Below.refl _ _ | with_reducible refine below_alloc ?_ _ | with_reducible refine below_drewN ?_ _ | with_reducible refine Below.drew ?_)))).mono ?_
  rintro e w2 ⟨v', rfl, hrep, hb, hown⟩
  have K := below_call (w0 := w) (by repeat (first | with_reducible exact Below.refl _ _ | with_reducible refine below_alloc ?_ _ | with_reducible refine below_drewN ?_ _ | with_reducible refine Below.drew ?_)) hb
  replace RT := Lib.hid (RT.out.call K)
  replace BEL := Lib.hid (below_call (w0 := w) BEL.out K)
  clear hb K
  rw [wakes3_of.1] at hrep
  rw [wakes3_of.2.1]
  obtain ⟨off1, sv1, ws1, rfl, hx1⟩ := hrep
  obtain ⟨A1, c1, rfl⟩ := hx1.sl.len
  generalize hm1 : ws1.length = m1 at *
  have e1 : Dm.val off1 (.slice A1 m1 c1) [1, 2, 3] = .agg #[.int .i64 off1, .slice A1 m1 c1, .int .i64 1, .int .i64 3, .int .i64 3] := rfl
  have RD1 : Hid (Dm.Rep w2 (.agg #[.int .i64 off1, .slice A1 m1 c1, .int .i64 1, .int .i64 3, .int .i64 3]) [1, 2, 3]) := by
    rw [← e1, ← hm1]
    exact ⟨off1, _, ws1, rfl, by rw [hm1]; exact hx1⟩
  rw [e1]
  clear hx1 hm1 e1 hown
  have HB1 := Lib.hid (heap_new w2 (.cells #[.int .i64 off1, .slice A1 m1 c1, .int .i64 1, .int .i64 3, .int .i64 3] 25))
  have HB1_0 := cell_of HB1.out 0
  have HB1_1 := cell_of HB1.out 1
  have HB1_2 := cell_of HB1.out 2
  have HB1_3 := cell_of HB1.out 3
  have HB1_4 := cell_of HB1.out 4
  go_wp2_with fail
  have SL2 : Hid (Sl ((w2.alloc (.cells #[.int .i64 off1, .slice A1 m1 c1, .int .i64 1, .int .i64 3, .int .i64 3] 25)).alloc (.cells #[.int .i64 2] 3)) 3 1 (.slice (some ⟨w2.heap.size + 1, 0, none⟩) 1 1) 1 (Iv [2])) := Lib.hid (Sl.lit (b := w2.heap.size + 1) (cs := #[.int .i64 2]) (by have h1 := heap_new (w2.alloc (.cells #[.int .i64 off1, .slice A1 m1 c1, .int .i64 1, .int .i64 3, .int .i64 3] 25)) (.cells #[.int .i64 2] 3); simpa using h1) 1 rfl (by decide))
  refine (dom_of _ [2] _ SL2.out (RT.out.call (by repeat (first | with_reducible exact Below.refl _ _ | with_reducible refine below_alloc ?_ _ | with_reducible refine below_drewN ?_ _ | with_reducible refine Below.drew ?_)))).mono ?_
  rintro e w3 ⟨v', rfl, hrep, hb, hown⟩
  clear HB1_0 HB1_1 HB1_2 HB1_3 HB1_4
  replace HB1 := Lib.hid (heap_call (b := w2.heap.size) (o := .cells #[.int .i64 off1, .slice A1 m1 c1, .int .i64 1, .int .i64 3, .int .i64 3] 25) (by repeat (first | with_reducible exact HB1.out | with_reducible refine heap_alloc ?_ _ | with_reducible refine heap_drewN ?_ _ | with_reducible refine heap_drew ?_)) hb)
  have HB1_0 := cell_of HB1.out 0
  have HB1_1 := cell_of HB1.out 1
  have HB1_2 := cell_of HB1.out 2
  have HB1_3 := cell_of HB1.out 3
  have HB1_4 := cell_of HB1.out 4
  have K := below_call (w0 := w2) (by repeat (first | with_reducible exact Below.refl _ _ | with_reducible refine below_alloc ?_ _ | with_reducible refine below_drewN ?_ _ | with_reducible refine Below.drew ?_)) hb
  replace RT := Lib.hid (RT.out.call K)
  replace RD1 := Lib.hid (RD1.out.call K)
  replace BEL := Lib.hid (below_call (w0 := w) BEL.out K)
  clear hb K
  rw [wakes3_of.2.2.1] at hrep
  rw [wakes3_of.2.2.2]
  obtain ⟨off2, sv2, ws2, rfl, hx2⟩ := hrep
  obtain ⟨A2, c2, rfl⟩ := hx2.sl.len
  generalize hm2 : ws2.length = m2 at *
  have e2 : Dm.val off2 (.slice A2 m2 c2) [2] = .agg #[.int .i64 off2, .slice A2 m2 c2, .int .i64 2, .int .i64 2, .int .i64 1] := rfl
  have RD2 : Hid (Dm.Rep w3 (.agg #[.int .i64 off2, .slice A2 m2 c2, .int .i64 2, .int .i64 2, .int .i64 1]) [2]) := by
    rw [← e2, ← hm2]
    exact ⟨off2, _, ws2, rfl, by rw [hm2]; exact hx2⟩
  rw [e2]
  clear hx2 hm2 e2 hown
  have HB2 := Lib.hid (heap_new w3 (.cells #[.int .i64 off2, .slice A2 m2 c2, .int .i64 2, .int .i64 2, .int .i64 1] 25))
  clear HB1_0 HB1_1 HB1_2 HB1_3 HB1_4
  replace HB1 := Lib.hid (heap_alloc HB1.out (.cells #[.int .i64 off2, .slice A2 m2 c2, .int .i64 2, .int .i64 2, .int .i64 1] 25))
  have HB1_0 := cell_of HB1.out 0
  have HB1_1 := cell_of HB1.out 1
  have HB1_2 := cell_of HB1.out 2
  have HB1_3 := cell_of HB1.out 3
  have HB1_4 := cell_of HB1.out 4
  have HB2_0 := cell_of HB2.out 0
  have HB2_1 := cell_of HB2.out 1
  have HB2_2 := cell_of HB2.out 2
  have HB2_3 := cell_of HB2.out 3
  have HB2_4 := cell_of HB2.out 4
  go_wp2_with fail
  have DL : Hid (Dl ((w3.alloc (.cells #[.int .i64 off2, .slice A2 m2 c2, .int .i64 2, .int .i64 2, .int .i64 1] 25)).alloc (.cells #[.int .i64 off1, .slice A1 m1 c1, .int .i64 1, .int .i64 3, .int .i64 3] 25)) (.slice (some ⟨w3.heap.size + 1, 0, none⟩) 1 1) [.agg #[.int .i64 off1, .slice A1 m1 c1, .int .i64 1, .int .i64 3, .int .i64 3]] [[1, 2, 3]]) := by
    refine Lib.hid ⟨⟨rfl, .inr ⟨w3.heap.size + 1, 0, 1, _, rfl, by have h1 := heap_new (w3.alloc (.cells #[.int .i64 off2, .slice A2 m2 c2, .int .i64 2, .int .i64 2, .int .i64 1] 25)) (.cells #[.int .i64 off1, .slice A1 m1 c1, .int .i64 1, .int .i64 3, .int .i64 3] 25); simpa using h1, Nat.le_refl _, by decide, by simp, fun j hj => ?_⟩⟩, rfl, fun i hi => ?_⟩
    · rw [Nat.zero_add, ← Array.getElem?_toList]; rfl
    · obtain rfl : i = 0 := by simpa using hi
      exact RD1.out.call (below_alloc (below_alloc (Below.refl _ _) _) _)
  have F5 : Hid (∀ w', Below ((w3.alloc (.cells #[.int .i64 off2, .slice A2 m2 c2, .int .i64 2, .int .i64 2, .int .i64 1] 25)).alloc (.cells #[.int .i64 off1, .slice A1 m1 c1, .int .i64 1, .int .i64 3, .int .i64 3] 25)).heap.size ((w3.alloc (.cells #[.int .i64 off2, .slice A2 m2 c2, .int .i64 2, .int .i64 2, .int .i64 1] 25)).alloc (.cells #[.int .i64 off1, .slice A1 m1 c1, .int .i64 1, .int .i64 3, .int .i64 3] 25)) w' → w'.heap[w3.heap.size]? = some (.cells #[.int .i64 off2, .slice A2 m2 c2, .int .i64 2, .int .i64 2, .int .i64 1] 25) ∧ Tab w' ∧ Dm.Rep w' (.agg #[.int .i64 off2, .slice A2 m2 c2, .int .i64 2, .int .i64 2, .int .i64 1]) [2]) := Lib.hid fun w' hb =>
    ⟨heap_call (heap_alloc HB2.out _) hb, RT.out.call (below_call (below_alloc (below_alloc (Below.refl _ _) _) _) hb), RD2.out.call (below_call (below_alloc (below_alloc (Below.refl _ _) _) _) hb)⟩
  replace BEL := Lib.hid (below_call BEL.out (below_alloc (below_alloc (Below.refl w3.heap.size w3) (.cells #[.int .i64 off2, .slice A2 m2 c2, .int .i64 2, .int .i64 2, .int .i64 1] 25)) (.cells #[.int .i64 off1, .slice A1 m1 c1, .int .i64 1, .int .i64 3, .int .i64 3] 25)))
  clear HB1_0 HB1_1 HB1_2 HB1_3 HB1_4 HB2_0 HB2_1 HB2_2 HB2_3 HB2_4 HB1 HB2 RT RD1 RD2
  refine (own_new _ _ _ _ DL.out (by decide) (fun h => by cases h)).mono ?_
  rintro e w5 ⟨S, p, rfl, ho⟩
  generalize ((w3.alloc (.cells #[.int .i64 off2, .slice A2 m2 c2, .int .i64 2, .int .i64 2, .int .i64 1] 25)).alloc (.cells #[.int .i64 off1, .slice A1 m1 c1, .int .i64 1, .int .i64 3, .int .i64 3] 25)) = w4 at F5 ho BEL ⊢
  have HO := Lib.hid ho
  clear ho DL
  go_wp2_with fail
  refine (own_push HO.out (by decide)).mono ?_
  rintro e w6 ⟨rfl, p1, ho, _⟩
  obtain ⟨k, hT, hr⟩ := F5.out w6 ho.below
  have k0 := cell_of k 0
  have k1 := cell_of k 1
  have k2 := cell_of k 2
  have k3 := cell_of k 3
  have k4 := cell_of k 4
  replace HO : Hid (Su.Own w4 w6 S p1 Su.w1 1) := Lib.hid ho
  have CN := Lib.hid (own_narrow HO.out (by decide) (by decide) 0 _ [2] hr hT)
  clear k hT hr ho
  go_wp2_with fail
  refine CN.out.mono ?_
  rintro e w7 ⟨rfl, p2, ho, _⟩
  rw [Su.w2a]
  replace HO : Hid (Su.Own w4 w7 S p2 Su.w2 2) := Lib.hid ho
  clear ho k0 k1 k2 k3 k4 CN
  have CF := Lib.hid (store_fixed (.pointer (some ⟨S, 0, none⟩)) ((0 : Nat) : Int) [2] w7 (by have h := store_get_in S p2 Su.w2 0 w7 HO.out.at_.toMem (by rw [Su.w2b]; decide) (by rw [Su.w2b]; decide); rw [Su.w2b] at h; exact h))
  go_wp2_with fail
  refine CF.out.mono ?_
  rintro e w8 ⟨rfl, hb⟩
  replace HO := Lib.hid (HO.out.call hb)
  clear hb CF
  go_wp2_with fail
  refine (own_events HO.out).mono ?_
  rintro e w9 ⟨p3, se, rfl, ho, hs, hse, _⟩
  replace HO : Hid (Su.Own w4 w9 S p3 Su.w3 2) := Lib.hid ho
  rw [Su.w2c] at hs
  obtain ⟨be, oe, ce, cse, rfl, hce, h1, h2, h3, h4⟩ := hs.form (by decide)
  have HE := Lib.hid hce
  have HEI := Lib.hid h4
  have HEF := Lib.hid (hse be rfl)
  clear ho hs hse hce h4 h1 h2 h3
  go_wp2_with fail
  refine (own_back HO.out (by decide) (by have h : Su.w3.cur = [[2]] := Su.w2b; rw [h]; decide) 0).mono ?_
  rintro e w10 ⟨rfl, p4, ho, st⟩
  rw [Su.w4a]
  replace HO : Hid (Su.Own w4 w10 S p4 Su.w4 3) := Lib.hid ho
  have HE2 := Lib.hid (st.far HE.out HEF.out).1
  clear ho st
  have CF := Lib.hid (store_fixed (.pointer (some ⟨S, 0, none⟩)) ((0 : Nat) : Int) [1, 2, 3] w10 (by have h := store_get_in S p4 Su.w4 0 w10 HO.out.at_.toMem (by rw [Su.w4b]; decide) (by rw [Su.w4b]; decide); rw [Su.w4b] at h; exact h))
  go_wp2_with fail
  refine CF.out.mono ?_
  rintro e w11 ⟨rfl, hb⟩
  replace HO := Lib.hid (HO.out.call hb)
  have HE3 := Lib.hid (heap_call HE2.out hb)
  have ec0 : w11.cell? ⟨be, oe, none⟩ = some (.int .i64 0) := by rw [cell_of HE3.out, ← Nat.add_zero oe, HEI.out 0 (by decide)]; rfl
  have ec1 : w11.cell? ⟨be, oe + 1, none⟩ = some (.int .i64 3) := by rw [cell_of HE3.out, HEI.out 1 (by decide)]; rfl
  clear hb CF
  have CG := Lib.hid (store_get_in S p4 Su.w4 0 w11 HO.out.at_.toMem (by rw [Su.w4b]; decide) (by rw [Su.w4b]; decide))
  rw [Su.w4b] at CG
  have heq : ∀ w : World, (binOp .eql 155 (.agg #[.int .i64 0, .int .i64 3]) (.agg #[.int .i64 0, .int .i64 3])).run Tryd.prog w = .ok (.bool true) w := fun w => by kernel_rfl
  go_wp2_with fail
  refine CG.out.mono ?_
  rintro e w12 ⟨dv, rfl, hrep, hb⟩
  replace HO := Lib.hid (HO.out.call hb)
  have CS := Lib.hid (dom_size dv _ w12 hrep)
  clear hb CG hrep
  go_wp2_with fail
  refine CS.out.mono ?_
  rintro e w13 ⟨rfl, hb⟩
  replace HO := Lib.hid (HO.out.call hb)
  clear hb
  go_wp2_with fail
  go_ret
  exact ⟨rfl, below_call BEL.out HO.out.below⟩

end Go.Proofs.YtdbjljbkneopcaaDoor
/- StoreNil walked. -/
namespace Go.Proofs.YtdbjljbkneopcaaDoor
open Go.RowKit
set_option linter.unusedSimpArgs false
set_option linter.unusedVariables false

theorem Su.Mem.keep {F : Nat → Prop} {w w' : World} {S : Nat} {p : Su.Parts} {m : Su.M} (h : Su.Mem w S p m) (hf : Fr F w w') (h1 : ∀ k, F k → ¬ p.fp S k) (h2 : ∀ k, F k → ∃ T, Ty w k T ∧ T ≠ 140) : Su.Mem w' S p m := by
  have K : ∀ b, Ty w b 140 → ¬ F b := fun b hb hk => by obtain ⟨T, h3, h4⟩ := h2 b hk; exact hb.ne h3 (fun e => h4 e.symm) rfl
  refine ⟨hf.heap h.box (fun hk => h1 _ hk (Or.inl rfl)), h.doms.keep hf (fun b hb hk => h1 b hk (Or.inr (Or.inl hb))) K, h.stamps.kept hf (fun b hb hk => h1 b hk (Or.inr (Or.inr (Or.inl hb)))), h.trail.kept hf (fun b hb hk => h1 b hk (Or.inr (Or.inr (Or.inr (Or.inl hb))))), h.tlen, fun i hi => (h.trep i hi).keep hf (fun b hb => K b ((h.trep i hi).typed hb)), h.tat, h.marks.kept hf (fun b hb hk => h1 b hk (Or.inr (Or.inr (Or.inr (Or.inr (Or.inl hb)))))), h.events.kept hf (fun b hb hk => h1 b hk (Or.inr (Or.inr (Or.inr (Or.inr (Or.inr hb)))))), h.apart⟩
set_option maxHeartbeats 4000000 in
set_option maxRecDepth 100000 in
theorem law3_nil (P : Nat → Prop) (sv : Value) (L : List (List Int)) (i : Int) (w : World) (h : Rr P w sv L) (hT : Tab w) : Calls Tryd.prog 9 #[sv, .int .i64 i] w (Rf.Says true w) := by
  have HT := Lib.hid hT
  have CL := Lib.hid (fun w' (hb : Below w.heap.size w w') => law3_lists P sv L w' (h.call hb) (hT.call hb))
  have CF := Lib.hid (fun w => store_fixed (.pointer none) i [] w (store_get_nil i w))
  have hlen : Hid ((Rf.smalls L).length ≤ 1000000) := Lib.hid (by unfold Rf.smalls; rw [List.length_map, List.length_take]; omega)
  generalize Rf.smalls L = M at *
  clear h hT
  go_enter Tryd.func9, Tryd.ntmps9
  go_wp2_with fail
  refine (store_push_nil _).mono ?_
  rintro e w2 ⟨rfl, rfl⟩
  go_wp2_with fail
  refine (CF.out _).mono ?_
  rintro e w2 ⟨rfl, hb⟩
  have B2 := Lib.hid hb
  clear hb
  go_wp2_with fail
  refine (store_failed_nil _).mono ?_
  rintro e w3 ⟨rfl, hb⟩
  have B3 := Lib.hid (below_call B2.out hb)
  clear hb B2
  go_wp2_with fail
  refine (CL.out _ B3.out).mono ?_
  rintro e w4 ⟨sa, sb, vs, rfl, hdl, hnil, hown, hrr, hb⟩
  have B4 := Lib.hid (below_call B3.out hb)
  have HDL := Lib.hid hdl
  have HRR := Lib.hid hrr
  have HOWN : Hid (∀ b, sa.ownBlock = some b → w.heap.size ≤ b) := Lib.hid fun b hb => Nat.le_trans B3.out.size (hown b hb)
  obtain ⟨A, c, rfl⟩ := hdl.sl.len
  have CN := Lib.hid (own_new _ vs M w4 hdl hlen.out hnil)
  clear hdl hnil hown hrr hb B3
  go_wp2_with fail
  refine CN.out.mono ?_
  rintro e w5 ⟨S, p, rfl, ho⟩
  have HO := Lib.hid ho
  have B5 := Lib.hid (below_call B4.out ho.below)
  have HDL5 := Lib.hid (HDL.out.sl.call ho.below)
  have HRR5 := Lib.hid (HRR.out.call ho.below)
  have HFP : Hid (∀ k, (Value.slice A vs.length c).ownBlock = some k → ¬ p.fp S k) := Lib.hid fun k hk hf => by have h1 := ho.fp k hf; have h2 := HDL.out.sl.lt hk; omega
  clear ho CN
  have hvl : vs.length ≤ 1000000 := by rw [HDL.out.len]; exact hlen.out
  obtain ⟨n, hnn⟩ : ∃ n, n = vs.length := ⟨_, rfl⟩
  have HNN := Lib.hid hnn
  rw [← hnn] at HDL5 HFP HOWN hvl HRR5 ⊢
  clear hnn
  go_wp2_with fail
  go_loopg [36] n (fun k s36 wr => ∃ (j : Nat) (xs : List Value), s36 = .int .i64 j ∧ k + j = n ∧ Hid (Sl wr 25 5 (.slice A n c) n xs) ∧ Hid (Fr (fun k => (Value.slice A n c).ownBlock = some k) w5 wr))
  case atStart => exact ⟨0, _, rfl, by omega, HDL5, Lib.hid (Fr.refl _ _)⟩
  case round =>
    obtain ⟨j, xs, rfl, hj, hs, hf⟩ := hrel
    rcases Nat.lt_or_ge j n with hk | hk
    · obtain ⟨b, o, c', cs, e, hc, h1, h2, h3, h4⟩ := hs.out.form (by omega)
      cases e
      have hcl : ∀ q, q < 5 → ∃ v, wr.cell? ⟨b, o + j * 5 + q, none⟩ = some v := fun q hq => by
        rw [cell_of hc]
        have : o + j * 5 + q < cs.size := by have : j * 5 + 5 ≤ n * 5 := by omega
                                             have : n * 5 ≤ c * 5 := Nat.mul_le_mul_right 5 h1
                                             omega
        exact ⟨_, Array.getElem?_eq_getElem this⟩
      obtain ⟨v0, c0⟩ := hcl 0 (by decide)
      obtain ⟨v1, c1⟩ := hcl 1 (by decide)
      obtain ⟨v2, c2⟩ := hcl 2 (by decide)
      obtain ⟨v3, c3⟩ := hcl 3 (by decide)
      obtain ⟨v4, c4⟩ := hcl 4 (by decide)
      rw [Nat.add_zero] at c0
      have fz : ∀ q, wr.frozen? ⟨b, q, none⟩ = false := fun q => frozen_of hc q
      have S5 := Lib.hid ((((((hs.out.setk (j * 5 + 0) (by omega) (.int .i64 0)).setk (j * 5 + 1) (by omega) (.slice none 0 0)).setk (j * 5 + 2) (by omega) (.int .i64 0)).setk (j * 5 + 3) (by omega) (.int .i64 0)).setk (j * 5 + 4) (by omega) (.int .i64 0)))
      have F5 : Hid (Fr (fun k => (Value.slice (some ⟨b, o, none⟩) n c).ownBlock = some k) w5 (((((wr.setCell ⟨b, o + (j * 5 + 0), none⟩ (.int .i64 0)).setCell ⟨b, o + (j * 5 + 1), none⟩ (.slice none 0 0)).setCell ⟨b, o + (j * 5 + 2), none⟩ (.int .i64 0)).setCell ⟨b, o + (j * 5 + 3), none⟩ (.int .i64 0)).setCell ⟨b, o + (j * 5 + 4), none⟩ (.int .i64 0))) :=
        by
          refine Lib.hid (Fr.set (Fr.set (Fr.set (Fr.set (Fr.set hf.out ?_ _) ?_ _) ?_ _) ?_ _) ?_ _)
          all_goals exact fun _ => rfl
      simp only [Nat.add_zero, ← Nat.add_assoc] at S5 F5
      have hjn : (j : Int) < (n : Int) := by omega
      clear hcl hc h1 h2 h3 h4
      go_wp2_with fail
      go_roundg (gk - 1)
      case measure => omega
      case rel => exact ⟨j + 1, _, by go_num, by omega, S5, F5⟩
    · obtain rfl : j = n := by omega
      have B8 := Lib.hid (Fr.below B5.out hf.out (fun b hb => HOWN.out b hb))
      have MEM := Lib.hid (HO.out.at_.toMem.keep hf.out HFP.out (fun k hk => ⟨_, HDL5.out.typed hk, by decide⟩))
      have RRw := Lib.hid (HRR5.out.kept hf.out (fun b hb e => hb.2.1 e))
      have CW := Lib.hid (law3_wakes wr (HT.out.call B8.out))
      clear hs hf
      go_wp2_with fail
      refine CW.out.mono ?_
      rintro e w9 ⟨rfl, hb⟩
      have B9 := Lib.hid (below_call B8.out hb)
      have CS := Lib.hid (law3_same _ S p _ _ M w9 (MEM.out.call hb) (RRw.out.call hb) hlen.out (HT.out.call B9.out))
      rw [decide_eq_true (show (Su.new M).cur = M from rfl)] at CS
      clear hb CW
      go_wp2_with fail
      refine CS.out.mono ?_
      rintro e w10 ⟨rfl, hb⟩
      have B10 := Lib.hid (below_call B9.out hb)
      clear hb CS
      go_wp2_with fail
      refine (store_len_nil _).mono ?_
      rintro e w11 ⟨rfl, rfl⟩
      go_wp2_with fail
      refine (store_get_nil i _).mono ?_
      rintro e w11 ⟨dv, rfl, hr, hb⟩
      have B11 := Lib.hid (below_call B10.out hb)
      have CZ := Lib.hid (dom_size dv [] w11 hr)
      clear hb hr
      go_wp2_with fail
      refine CZ.out.mono ?_
      rintro e w12 ⟨rfl, hb⟩
      have B12 := Lib.hid (below_call B11.out hb)
      clear hb CZ
      go_wp2_with fail
      refine (store_narrow_out (.pointer none) 0 i _ [] _ (Su.has_nil _) (Dm.none_ _) (by decide) (by omega)).mono ?_
      rintro e w13 ⟨rfl, hb⟩
      have B13 := Lib.hid (below_call B12.out hb)
      clear hb
      go_wp2_with fail
      refine (store_level_nil _).mono ?_
      rintro e w14 ⟨rfl, rfl⟩
      go_wp2_with fail
      refine (store_back_nil 0 _).mono ?_
      rintro e w14 ⟨rfl, rfl⟩
      go_wp2_with fail
      refine (store_events_nil _).mono ?_
      rintro e w14 ⟨rfl, rfl⟩
      go_wp2_with fail
      go_ret
      exact ⟨rfl, B13.out⟩
end Go.Proofs.YtdbjljbkneopcaaDoor
