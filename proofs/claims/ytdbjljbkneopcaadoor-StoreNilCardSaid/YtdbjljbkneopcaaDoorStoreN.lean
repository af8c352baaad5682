/- wakes (law) of chapter 03. -/
import Derived.Test.YtdbjljbkneopcaaDoorStoreL
namespace Go.Proofs.YtdbjljbkneopcaaDoor
open Go.RowKit
set_option linter.unusedSimpArgs false
set_option linter.unusedVariables false

def Su.w1 : Su.M := Su.push (Su.new [[1, 2, 3]])
def Su.w2 : Su.M := (Su.nar Su.w1 0 [2]).1
def Su.w3 : Su.M := { Su.w2 with events := [] }
def Su.w4 : Su.M := (Su.bk Su.w3 0).1
theorem Su.w2a : (Su.nar Su.w1 0 [2]).2 = 3 := by decide +kernel
theorem Su.w2b : Su.w2.cur = [[2]] := by decide +kernel
theorem Su.w2c : Su.w2.events = [(0, 3)] := by decide +kernel
theorem Su.w4a : (Su.bk Su.w3 0).2 = 0 := by decide +kernel
theorem Su.w4b : Su.w4.cur = [[1, 2, 3]] := by decide +kernel
theorem wakes3_of : Rf.of [1, 2, 3] = [1, 2, 3] ∧ Rf.code [1, 2, 3] = 0 ∧ Rf.of [2] = [2] ∧ Rf.code [2] = 0 := by decide +kernel
set_option maxHeartbeats 4000000 in
set_option maxRecDepth 100000 in
theorem law3_wakes (w : World) (hT : Tab w) : Calls Tryd.prog 41 #[] w (Rf.Says true w) := by
  have RT := Lib.hid hT
  have BEL := Lib.hid (Below.refl w.heap.size w)
  have N1 : Hid ([1, 2, 3].length = 3) := Lib.hid rfl
  clear hT
  go_enter Tryd.func41, Tryd.ntmps41
  go_wp2_with fail
  refine (dom_of _ [1, 2, 3] _ (Sl.lit (heap_new w (.cells #[.int .i64 1, .int .i64 2, .int .i64 3] 3)) 3 rfl (by decide)) (RT.out.call (by repeat (first | with_reducible exact Below.refl _ _ | with_reducible refine below_alloc ?_ _ | with_reducible refine below_drewN ?_ _ | with_reducible refine Below.drew ?_)))).mono ?_
  rintro e w2 ⟨v', rfl, hrep, hb, hown⟩
  have K := below_call (w0 := w) (by repeat (first | with_reducible exact Below.refl _ _ | with_reducible refine below_alloc ?_ _ | with_reducible refine below_drewN ?_ _ | with_reducible refine Below.drew ?_)) hb
  replace RT := Lib.hid (RT.out.call K)
  replace BEL := Lib.hid (below_call (w0 := w) BEL.out K)
  clear hb K
  rw [wakes3_of.1] at hrep
  rw [wakes3_of.2.1]
  obtain ⟨off1, sv1, ws1, rfl, hx1⟩ := hrep
  obtain ⟨A1, c1, rfl⟩ := hx1.sl.len
  generalize hm1 : ws1.length = m1 at *
  have e1 : Dm.val off1 (.slice A1 m1 c1) [1, 2, 3] = .agg #[.int .i64 off1, .slice A1 m1 c1, .int .i64 1, .int .i64 3, .int .i64 3] := rfl
  have RD1 : Hid (Dm.Rep w2 (.agg #[.int .i64 off1, .slice A1 m1 c1, .int .i64 1, .int .i64 3, .int .i64 3]) [1, 2, 3]) := by
    rw [← e1, ← hm1]
    exact ⟨off1, _, ws1, rfl, by rw [hm1]; exact hx1⟩
  rw [e1]
  clear hx1 hm1 e1 hown
  have HB1 := Lib.hid (heap_new w2 (.cells #[.int .i64 off1, .slice A1 m1 c1, .int .i64 1, .int .i64 3, .int .i64 3] 25))
  have HB1_0 := cell_of HB1.out 0
  have HB1_1 := cell_of HB1.out 1
  have HB1_2 := cell_of HB1.out 2
  have HB1_3 := cell_of HB1.out 3
  have HB1_4 := cell_of HB1.out 4
  go_wp2_with fail
  have SL2 : Hid (Sl ((w2.alloc (.cells #[.int .i64 off1, .slice A1 m1 c1, .int .i64 1, .int .i64 3, .int .i64 3] 25)).alloc (.cells #[.int .i64 2] 3)) 3 1 (.slice (some ⟨w2.heap.size + 1, 0, none⟩) 1 1) 1 (Iv [2])) := Lib.hid (Sl.lit (b := w2.heap.size + 1) (cs := #[.int .i64 2]) (by have h1 := heap_new (w2.alloc (.cells #[.int .i64 off1, .slice A1 m1 c1, .int .i64 1, .int .i64 3, .int .i64 3] 25)) (.cells #[.int .i64 2] 3); simpa using h1) 1 rfl (by decide))
  refine (dom_of _ [2] _ SL2.out (RT.out.call (by repeat (first | with_reducible exact Below.refl _ _ | with_reducible refine below_alloc ?_ _ | with_reducible refine below_drewN ?_ _ | with_reducible refine Below.drew ?_)))).mono ?_
  rintro e w3 ⟨v', rfl, hrep, hb, hown⟩
  clear HB1_0 HB1_1 HB1_2 HB1_3 HB1_4
  replace HB1 := Lib.hid (heap_call (b := w2.heap.size) (o := .cells #[.int .i64 off1, .slice A1 m1 c1, .int .i64 1, .int .i64 3, .int .i64 3] 25) (by repeat (first | with_reducible exact HB1.out | with_reducible refine heap_alloc ?_ _ | with_reducible refine heap_drewN ?_ _ | with_reducible refine heap_drew ?_)) hb)
  have HB1_0 := cell_of HB1.out 0
  have HB1_1 := cell_of HB1.out 1
  have HB1_2 := cell_of HB1.out 2
  have HB1_3 := cell_of HB1.out 3
  have HB1_4 := cell_of HB1.out 4
  have K := below_call (w0 := w2) (by repeat (first | with_reducible exact Below.refl _ _ | with_reducible refine below_alloc ?_ _ | with_reducible refine below_drewN ?_ _ | with_reducible refine Below.drew ?_)) hb
  replace RT := Lib.hid (RT.out.call K)
  replace RD1 := Lib.hid (RD1.out.call K)
  replace BEL := Lib.hid (below_call (w0 := w) BEL.out K)
  clear hb K
  rw [wakes3_of.2.2.1] at hrep
  rw [wakes3_of.2.2.2]
  obtain ⟨off2, sv2, ws2, rfl, hx2⟩ := hrep
  obtain ⟨A2, c2, rfl⟩ := hx2.sl.len
  generalize hm2 : ws2.length = m2 at *
  have e2 : Dm.val off2 (.slice A2 m2 c2) [2] = .agg #[.int .i64 off2, .slice A2 m2 c2, .int .i64 2, .int .i64 2, .int .i64 1] := rfl
  have RD2 : Hid (Dm.Rep w3 (.agg #[.int .i64 off2, .slice A2 m2 c2, .int .i64 2, .int .i64 2, .int .i64 1]) [2]) := by
    rw [← e2, ← hm2]
    exact ⟨off2, _, ws2, rfl, by rw [hm2]; exact hx2⟩
  rw [e2]
  clear hx2 hm2 e2 hown
  have HB2 := Lib.hid (heap_new w3 (.cells #[.int .i64 off2, .slice A2 m2 c2, .int .i64 2, .int .i64 2, .int .i64 1] 25))
  clear HB1_0 HB1_1 HB1_2 HB1_3 HB1_4
  replace HB1 := Lib.hid (heap_alloc HB1.out (.cells #[.int .i64 off2, .slice A2 m2 c2, .int .i64 2, .int .i64 2, .int .i64 1] 25))
  have HB1_0 := cell_of HB1.out 0
  have HB1_1 := cell_of HB1.out 1
  have HB1_2 := cell_of HB1.out 2
  have HB1_3 := cell_of HB1.out 3
  have HB1_4 := cell_of HB1.out 4
  have HB2_0 := cell_of HB2.out 0
  have HB2_1 := cell_of HB2.out 1
  have HB2_2 := cell_of HB2.out 2
  have HB2_3 := cell_of HB2.out 3
  have HB2_4 := cell_of HB2.out 4
  go_wp2_with fail
  have DL : Hid (Dl ((w3.alloc (.cells #[.int .i64 off2, .slice A2 m2 c2, .int .i64 2, .int .i64 2, .int .i64 1] 25)).alloc (.cells #[.int .i64 off1, .slice A1 m1 c1, .int .i64 1, .int .i64 3, .int .i64 3] 25)) (.slice (some ⟨w3.heap.size + 1, 0, none⟩) 1 1) [.agg #[.int .i64 off1, .slice A1 m1 c1, .int .i64 1, .int .i64 3, .int .i64 3]] [[1, 2, 3]]) := by
    refine Lib.hid ⟨⟨rfl, .inr ⟨w3.heap.size + 1, 0, 1, _, rfl, by have h1 := heap_new (w3.alloc (.cells #[.int .i64 off2, .slice A2 m2 c2, .int .i64 2, .int .i64 2, .int .i64 1] 25)) (.cells #[.int .i64 off1, .slice A1 m1 c1, .int .i64 1, .int .i64 3, .int .i64 3] 25); simpa using h1, Nat.le_refl _, by decide, by simp, fun j hj => ?_⟩⟩, rfl, fun i hi => ?_⟩
    · rw [Nat.zero_add, ← Array.getElem?_toList]; rfl
    · obtain rfl : i = 0 := by simpa using hi
      exact RD1.out.call (below_alloc (below_alloc (Below.refl _ _) _) _)
  have F5 : Hid (∀ w', Below ((w3.alloc (.cells #[.int .i64 off2, .slice A2 m2 c2, .int .i64 2, .int .i64 2, .int .i64 1] 25)).alloc (.cells #[.int .i64 off1, .slice A1 m1 c1, .int .i64 1, .int .i64 3, .int .i64 3] 25)).heap.size ((w3.alloc (.cells #[.int .i64 off2, .slice A2 m2 c2, .int .i64 2, .int .i64 2, .int .i64 1] 25)).alloc (.cells #[.int .i64 off1, .slice A1 m1 c1, .int .i64 1, .int .i64 3, .int .i64 3] 25)) w' → w'.heap[w3.heap.size]? = some (.cells #[.int .i64 off2, .slice A2 m2 c2, .int .i64 2, .int .i64 2, .int .i64 1] 25) ∧ Tab w' ∧ Dm.Rep w' (.agg #[.int .i64 off2, .slice A2 m2 c2, .int .i64 2, .int .i64 2, .int .i64 1]) [2]) := Lib.hid fun w' hb =>
    ⟨heap_call (heap_alloc HB2.out _) hb, RT.out.call (below_call (below_alloc (below_alloc (Below.refl _ _) _) _) hb), RD2.out.call (below_call (below_alloc (below_alloc (Below.refl _ _) _) _) hb)⟩
  replace BEL := Lib.hid (below_call BEL.out (below_alloc (below_alloc (Below.refl w3.heap.size w3) (.cells #[.int .i64 off2, .slice A2 m2 c2, .int .i64 2, .int .i64 2, .int .i64 1] 25)) (.cells #[.int .i64 off1, .slice A1 m1 c1, .int .i64 1, .int .i64 3, .int .i64 3] 25)))
  clear HB1_0 HB1_1 HB1_2 HB1_3 HB1_4 HB2_0 HB2_1 HB2_2 HB2_3 HB2_4 HB1 HB2 RT RD1 RD2
  refine (own_new _ _ _ _ DL.out (by decide) (fun h => by cases h)).mono ?_
  rintro e w5 ⟨S, p, rfl, ho⟩
  generalize ((w3.alloc (.cells #[.int .i64 off2, .slice A2 m2 c2, .int .i64 2, .int .i64 2, .int .i64 1] 25)).alloc (.cells #[.int .i64 off1, .slice A1 m1 c1, .int .i64 1, .int .i64 3, .int .i64 3] 25)) = w4 at F5 ho BEL ⊢
  have HO := Lib.hid ho
  clear ho DL
  go_wp2_with fail
  refine (own_push HO.out (by decide)).mono ?_
  rintro e w6 ⟨rfl, p1, ho, _⟩
  obtain ⟨k, hT, hr⟩ := F5.out w6 ho.below
  have k0 := cell_of k 0
  have k1 := cell_of k 1
  have k2 := cell_of k 2
  have k3 := cell_of k 3
  have k4 := cell_of k 4
  replace HO : Hid (Su.Own w4 w6 S p1 Su.w1 1) := Lib.hid ho
  have CN := Lib.hid (own_narrow HO.out (by decide) (by decide) 0 _ [2] hr hT)
  clear k hT hr ho
  go_wp2_with fail
  refine CN.out.mono ?_
  rintro e w7 ⟨rfl, p2, ho, _⟩
  rw [Su.w2a]
  replace HO : Hid (Su.Own w4 w7 S p2 Su.w2 2) := Lib.hid ho
  clear ho k0 k1 k2 k3 k4 CN
  have CF := Lib.hid (store_fixed (.pointer (some ⟨S, 0, none⟩)) ((0 : Nat) : Int) [2] w7 (by have h := store_get_in S p2 Su.w2 0 w7 HO.out.at_.toMem (by rw [Su.w2b]; decide) (by rw [Su.w2b]; decide); rw [Su.w2b] at h; exact h))
  go_wp2_with fail
  refine CF.out.mono ?_
  rintro e w8 ⟨rfl, hb⟩
  replace HO := Lib.hid (HO.out.call hb)
  clear hb CF
  go_wp2_with fail
  refine (own_events HO.out).mono ?_
  rintro e w9 ⟨p3, se, rfl, ho, hs, hse, _⟩
  replace HO : Hid (Su.Own w4 w9 S p3 Su.w3 2) := Lib.hid ho
  rw [Su.w2c] at hs
  obtain ⟨be, oe, ce, cse, rfl, hce, h1, h2, h3, h4⟩ := hs.form (by decide)
  have HE := Lib.hid hce
  have HEI := Lib.hid h4
  have HEF := Lib.hid (hse be rfl)
  clear ho hs hse hce h4 h1 h2 h3
  go_wp2_with fail
  refine (own_back HO.out (by decide) (by have h : Su.w3.cur = [[2]] := Su.w2b; rw [h]; decide) 0).mono ?_
  rintro e w10 ⟨rfl, p4, ho, st⟩
  rw [Su.w4a]
  replace HO : Hid (Su.Own w4 w10 S p4 Su.w4 3) := Lib.hid ho
  have HE2 := Lib.hid (st.far HE.out HEF.out).1
  clear ho st
  have CF := Lib.hid (store_fixed (.pointer (some ⟨S, 0, none⟩)) ((0 : Nat) : Int) [1, 2, 3] w10 (by have h := store_get_in S p4 Su.w4 0 w10 HO.out.at_.toMem (by rw [Su.w4b]; decide) (by rw [Su.w4b]; decide); rw [Su.w4b] at h; exact h))
  go_wp2_with fail
  refine CF.out.mono ?_
  rintro e w11 ⟨rfl, hb⟩
  replace HO := Lib.hid (HO.out.call hb)
  have HE3 := Lib.hid (heap_call HE2.out hb)
  have ec0 : w11.cell? ⟨be, oe, none⟩ = some (.int .i64 0) := by rw [cell_of HE3.out, ← Nat.add_zero oe, HEI.out 0 (by decide)]; rfl
  have ec1 : w11.cell? ⟨be, oe + 1, none⟩ = some (.int .i64 3) := by rw [cell_of HE3.out, HEI.out 1 (by decide)]; rfl
  clear hb CF
  have CG := Lib.hid (store_get_in S p4 Su.w4 0 w11 HO.out.at_.toMem (by rw [Su.w4b]; decide) (by rw [Su.w4b]; decide))
  rw [Su.w4b] at CG
  have heq : ∀ w : World, (binOp .eql 155 (.agg #[.int .i64 0, .int .i64 3]) (.agg #[.int .i64 0, .int .i64 3])).run Tryd.prog w = .ok (.bool true) w := fun w => by kernel_rfl
  go_wp2_with fail
  refine CG.out.mono ?_
  rintro e w12 ⟨dv, rfl, hrep, hb⟩
  replace HO := Lib.hid (HO.out.call hb)
  have CS := Lib.hid (dom_size dv _ w12 hrep)
  clear hb CG hrep
  go_wp2_with fail
  refine CS.out.mono ?_
  rintro e w13 ⟨rfl, hb⟩
  replace HO := Lib.hid (HO.out.call hb)
  clear hb
  go_wp2_with fail
  go_ret
  exact ⟨rfl, below_call BEL.out HO.out.below⟩

end Go.Proofs.YtdbjljbkneopcaaDoor
