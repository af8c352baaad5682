/- DomMade walked. -/
import Derived.Test.YtdbjljbkneopcaaDoorDomT
namespace Go.Proofs.YtdbjljbkneopcaaDoor
open Go.RowKit
set_option linter.unusedSimpArgs false
set_option linter.unusedVariables false

theorem Rd.cut {w : World} {A : Option Addr} {c : Nat} {l : List Int} (h : Rd w (.slice A l.length c) l) (k : Nat) (hk : k ≤ l.length) : Rd w (.slice A k c) (l.take k) := by
  have e : (l.take k).length = k := by rw [List.length_take]; omega
  have hc := h.cap _ _ _ rfl
  refine ⟨⟨A, c, by rw [e]⟩, by rw [e]; have := h.big; omega, fun A' n c' e' => by cases e'; exact ⟨by omega, fun e2 => by have := hc.2 e2; omega⟩, fun h0 => ?_⟩
  rw [e] at h0 ⊢
  obtain ⟨b, o, c', e1, h1, h2⟩ := h.form (by omega)
  cases e1
  refine ⟨b, o, c, rfl, h1, fun j hj => ?_⟩
  rw [h2 j (by omega), List.getD_eq_getElem?_getD, List.getD_eq_getElem?_getD, List.getElem?_take, if_pos hj]
theorem tmod300 (v : Int) : -299 ≤ v.tmod 300 ∧ v.tmod 300 ≤ 299 := by
  rcases Int.lt_or_le v 0 with h | h
  · have := Int.neg_tmod (-v) 300
    rw [Int.neg_neg] at this
    rw [this, Int.tmod_eq_emod_of_nonneg (by omega)]
    omega
  · rw [Int.tmod_eq_emod_of_nonneg h]; omega
theorem mid_in (lo hi : Int) (h : lo ≤ hi) : lo ≤ (lo + hi).tdiv 2 ∧ (lo + hi).tdiv 2 ≤ hi := by
  rcases Int.lt_or_le (lo + hi) 0 with h0 | h0
  · have := Int.neg_tdiv (-(lo + hi)) 2
    rw [Int.neg_neg] at this
    rw [this, Int.tdiv_eq_ediv_of_nonneg (by omega)]
    omega
  · rw [Int.tdiv_eq_ediv_of_nonneg h0]; omega
/-- The rows of two that are made: what the first two slices are. -/
structure Rd.Two (w : World) (b : Nat) (S : Nat → Value) (M : Nat → List Int) : Prop where
  cell : ∀ j, j < 2 → ∀ w', Below w.heap.size w w' → w'.cell? ⟨b, j, none⟩ = some (S j)
  rd : ∀ j, j < 2 → Rd w (S j) (M j)
  len : ∀ j, j < 2 → (M j).length ≤ 40
set_option maxHeartbeats 8000000 in
set_option maxRecDepth 100000 in
theorem law2_made (sx : Value) (x : List Int) (low high : Int) (w : World) (hx : Rd w sx x) (b1 : -9223372036854775808 ≤ low ∧ low ≤ 9223372036854775807) (b2 : -9223372036854775808 ≤ high ∧ high ≤ 9223372036854775807) (hT : Tab w) :
    Calls Tryd.prog 4 #[sx, .int .i64 low, .int .i64 high] w (Rf.Says true w) := by
  have RT := Lib.hid hT
  have RX := Lib.hid hx
  have BEL := Lib.hid (Below.refl w.heap.size w)
  obtain ⟨A, c, rfl⟩ := hx.len
  have hcap := (hx.cap _ _ _ rfl).1
  have hbig := hx.big
  have hk1 : min (x.length : Int) 40 = ((min x.length 40 : Nat) : Int) := by omega
  have hk2 : min x.length 40 ≤ x.length := by omega
  have hk3 : min x.length 40 ≤ c := by omega
  have hk4 : ((min x.length 40 : Nat) : Int) ≤ (c : Int) := by omega
  have CUT := Lib.hid (hx.cut (min x.length 40) (by omega))
  have CL : Hid ((x.take (min x.length 40)).length ≤ 40) := by have := List.length_take_le (min x.length 40) x; exact Lib.hid (by omega)
  have CN := Lib.hid (fun w' (hb : Below w.heap.size w w') => law2_near_rd _ x w' (hx.call hb))
  generalize x.take (min x.length 40) = xt at *
  generalize min x.length 40 = m at *
  generalize x.length = n at *
  have t1 := tmod3000 high
  clear hx hT
  go_enter Tryd.func4, Tryd.ntmps4
  go_wp2_with fail
  have hz := Lib.hid (Below.refl w.heap.size w).drew
  refine wp_region_held_drew (S := fun w' => Hid (Below w.heap.size w w')) (by kernel_rfl) ?_ (fun hHeld => ?_)
  · exact hz
  refine wpAnyH_take (i := 0) (oi := { dst := some 17, op := Op.move (Operand.tmp 0), type := 22, pos := "law.go:45", after := #[], guard := none }) (v := ?_) rfl (by kernel_rfl) (by kernel_rfl) (by kernel_rfl) (fun _ _ _ h => h) (Or.inl ⟨by rfl, ?_⟩) (by assumption) ?_
  rotate_left
  · (intro w hSw; (try dsimp only at hSw); go_simp; first | done | with_reducible rfl)
  try simp only [Act.put, List.setIfInBounds_toArray, List.set_cons_zero, List.set_cons_succ]
  refine wpAnyH_take (i := 1) (oi := { dst := some 18, op := Op.move (Operand.tmp 0), type := 22, pos := "law.go:45", after := #[], guard := none }) (v := ?_) rfl (by kernel_rfl) (by kernel_rfl) (by kernel_rfl) (fun _ _ _ h => h) (Or.inl ⟨by rfl, ?_⟩) (by assumption) ?_
  rotate_left
  · (intro w hSw; (try dsimp only at hSw); go_simp; first | done | with_reducible rfl)
  try simp only [Act.put, List.setIfInBounds_toArray, List.set_cons_zero, List.set_cons_succ]
  refine wpAnyH_take (i := 2) (oi := { dst := some 19, op := Op.call { callee := Callee.builtin Builtin.len, args := #[Operand.tmp 18], argTypes := #[22] }, type := 3, pos := "law.go:45", after := #[{ on := 1, ground := Ground.data }], guard := none }) (v := ?_) rfl (by kernel_rfl) (by kernel_rfl) (by kernel_rfl) (fun _ _ _ h => h) (Or.inl ⟨by rfl, ?_⟩) (by assumption) ?_
  rotate_left
  · (intro w hSw; (try dsimp only at hSw); go_simp; first | done | with_reducible rfl)
  try simp only [Act.put, List.setIfInBounds_toArray, List.set_cons_zero, List.set_cons_succ]
  refine wpAnyH_take (i := 3) (oi := { dst := some 20, op := Op.call { callee := Callee.builtin Builtin.min, args := #[Operand.tmp 19, Operand.const (Value.int IntKind.i64 40)], argTypes := #[3, 3] }, type := 3, pos := "law.go:45", after := #[{ on := 2, ground := Ground.data }], guard := none }) (v := ?_) rfl (by kernel_rfl) (by kernel_rfl) (by kernel_rfl) (fun _ _ _ h => h) (Or.inl ⟨by rfl, ?_⟩) (by assumption) ?_
  rotate_left
  · (intro w hSw; (try dsimp only at hSw); go_simp; first | done | with_reducible rfl)
  try simp only [Act.put, List.setIfInBounds_toArray, List.set_cons_zero, List.set_cons_succ]
  refine wpAnyH_take (i := 4) (oi := { dst := some 21, op := Op.slice 22 (Operand.tmp 17) none (some (Operand.tmp 20)) none, type := 22, pos := "law.go:45", after := #[{ on := 0, ground := Ground.data }, { on := 3, ground := Ground.data }], guard := none }) (v := ?_) rfl (by kernel_rfl) (by kernel_rfl) (by kernel_rfl) (fun _ _ _ h => h) (Or.inl ⟨by rfl, ?_⟩) (by assumption) ?_
  rotate_left
  · (intro w hSw; (try dsimp only at hSw); go_simp; first | done | with_reducible rfl)
  try simp only [Act.put, List.setIfInBounds_toArray, List.set_cons_zero, List.set_cons_succ]
  refine wpAnyH_take (i := 5) (oi := { dst := some 22, op := Op.move (Operand.tmp 0), type := 22, pos := "law.go:45", after := #[], guard := none }) (v := ?_) rfl (by kernel_rfl) (by kernel_rfl) (by kernel_rfl) (fun _ _ _ h => h) (Or.inl ⟨by rfl, ?_⟩) (by assumption) ?_
  rotate_left
  · (intro w hSw; (try dsimp only at hSw); go_simp; first | done | with_reducible rfl)
  try simp only [Act.put, List.setIfInBounds_toArray, List.set_cons_zero, List.set_cons_succ]
  refine wpAnyH_take (i := 9) (oi := { dst := some 26, op := Op.move (Operand.const (Value.int IntKind.i64 0)), type := 3, pos := "law.go:45", after := #[], guard := none }) (v := ?_) rfl (by kernel_rfl) (by kernel_rfl) (by kernel_rfl) (fun _ _ _ h => h) (Or.inl ⟨by rfl, ?_⟩) (by assumption) ?_
  rotate_left
  · (intro w hSw; (try dsimp only at hSw); go_simp; first | done | with_reducible rfl)
  try simp only [Act.put, List.setIfInBounds_toArray, List.set_cons_zero, List.set_cons_succ]
  refine wpAnyH_ready (rs := [6]) (by kernel_rfl) (by simp) ?_
  refine AllReadyH.cons (o := { dst := some 23, op := Op.call { callee := Callee.value (Operand.func 16), args := #[Operand.tmp 22], argTypes := #[22] }, type := 22, pos := "law.go:45", after := #[{ on := 5, ground := Ground.data }], guard := none }) rfl (fun KK hKK => ?_) AllReadyH.nil
  go_simp
  refine (CN.out _ hz.out).mono ?_
  rintro e w' ⟨so, rfl, ⟨hso, hb⟩⟩
  obtain ⟨w2, rfl⟩ : ∃ z : World, z = w' := ⟨_, rfl⟩
  obtain ⟨A2, c2, hso2⟩ := hso.sl.len
  subst hso2
  replace hz := Lib.hid (below_call (w0 := w) hz.out hb)
  go_wp2_with fail
  refine hKK.out _ _ ?_ (fun hHeld2 => ?_)
  · exact hz
  clear hKK KK hHeld
  have hHeld := hHeld2
  clear hHeld2
  try simp only [Act.put, List.setIfInBounds_toArray, List.set_cons_zero, List.set_cons_succ]
  refine wpAnyH_ready (rs := [7]) (by kernel_rfl) (by simp) ?_
  refine AllReadyH.cons (o := { dst := some 24, op := Op.buildSlice 39 2 #[(0, Operand.tmp 21), (1, Operand.tmp 23)], type := 39, pos := "law.go:45", after := #[{ on := 4, ground := Ground.data }, { on := 6, ground := Ground.data }], guard := none }) rfl (fun KK hKK => ?_) AllReadyH.nil
  go_simp
  refine hKK.out _ _ ?_ (fun hHeld2 => ?_)
  · exact Lib.hid (below_alloc hz.out _)
  clear hKK KK hHeld
  have hHeld := hHeld2
  clear hHeld2
  try simp only [Act.put, List.setIfInBounds_toArray, List.set_cons_zero, List.set_cons_succ]
  refine wpAnyH_take (i := 8) (oi := { dst := some 25, op := Op.call { callee := Callee.builtin Builtin.len, args := #[Operand.tmp 24], argTypes := #[39] }, type := 3, pos := "law.go:45", after := #[{ on := 7, ground := Ground.data }], guard := none }) (v := ?_) rfl (by kernel_rfl) (by kernel_rfl) (by kernel_rfl) (fun _ _ _ h => h) (Or.inl ⟨by rfl, ?_⟩) (by assumption) ?_
  rotate_left
  · (intro w hSw; (try dsimp only at hSw); go_simp; first | done | with_reducible rfl)
  try simp only [Act.put, List.setIfInBounds_toArray, List.set_cons_zero, List.set_cons_succ]
  refine wpAnyH_done (by kernel_rfl) ?_ _
  go_wp2_with fail
  have hb1 := hz.out
  have HSO := Lib.hid hso.sl
  have hw2 : w.heap.size ≤ w2.heap.size := hb1.size
  have hnew := heap_new w2 (.cells #[.slice A m c, .slice A2 (Rf.near x).length c2] 22)
  have TWO : Hid (Rd.Two (w2.alloc (.cells #[.slice A m c, .slice A2 (Rf.near x).length c2] 22)) w2.heap.size (fun j => if j = 0 then .slice A m c else .slice A2 (Rf.near x).length c2) (fun j => if j = 0 then xt else Rf.near x)) := by
    refine Lib.hid ⟨fun j hj w' hb => ?_, fun j hj => ?_, fun j hj => ?_⟩
    · have h1 := cell_of (heap_call hnew hb) j
      rw [h1]
      rcases (show j = 0 ∨ j = 1 by omega) with rfl | rfl <;> rfl
    · rcases (show j = 0 ∨ j = 1 by omega) with rfl | rfl
      · exact CUT.out.call (below_alloc hb1 _)
      · exact HSO.out.rd.alloc _
    · rcases (show j = 0 ∨ j = 1 by omega) with rfl | rfl
      · exact CL.out
      · exact Rf.near_length x
  replace BEL := Lib.hid (below_alloc hb1 (.cells #[.slice A m c, .slice A2 (Rf.near x).length c2] 22))
  replace RT := Lib.hid (RT.out.call BEL.out)
  generalize (fun j : Nat => if j = 0 then Value.slice A m c else .slice A2 (Rf.near x).length c2) = SS at *
  generalize (fun j : Nat => if j = 0 then xt else Rf.near x) = MM at *
  generalize hwB : w2.alloc (.cells #[.slice A m c, .slice A2 (Rf.near x).length c2] 22) = wB at *
  generalize w2.heap.size = bB at *
  clear hnew hwB hso hb hb1 hw2 CUT CL CN RX HSO
  go_loopg [26] 2 (fun k s26 wr => ∃ j : Nat, s26 = .int .i64 j ∧ k + j = 2 ∧ Hid (Below wB.heap.size wB wr))
  case atStart => exact ⟨0, rfl, by omega, Lib.hid (Below.refl _ _)⟩
  case round =>
    obtain ⟨j, rfl, hj, HBR⟩ := hrel
    rcases Nat.lt_or_ge j 2 with hk | hk
    · have hcell := TWO.out.cell j hk wr HBR.out
      have RM := Lib.hid ((TWO.out.rd j hk).call HBR.out)
      have ML := Lib.hid (TWO.out.len j hk)
      generalize SS j = sm at *
      generalize MM j = dm at *
      obtain ⟨d, hd⟩ : ∃ p, p = Rf.of dm := ⟨_, rfl⟩
      have HD := Lib.hid hd
      obtain ⟨n1, hn1⟩ : ∃ n, n = d.length := ⟨_, rfl⟩
      have N1 := Lib.hid hn1
      obtain ⟨ce, hce⟩ : ∃ p, p = Rf.code dm := ⟨_, rfl⟩
      have HCE := Lib.hid hce
      clear hd hn1 hce
      have RT2 := Lib.hid (RT.out.call HBR.out)
      have BE2 := Lib.hid (below_call BEL.out HBR.out)
      go_wp2_with fail
      refine (dom_of_rd sm dm _ (RM.out.call (by repeat (first | exact Below.refl _ _ | refine below_alloc ?_ _ | refine below_drewN ?_ _ | refine Below.drew ?_))) (RT2.out.call (by repeat (first | exact Below.refl _ _ | refine below_alloc ?_ _ | refine below_drewN ?_ _ | refine Below.drew ?_)))).mono ?_
      rintro e w2 ⟨v, rfl, hrep, hb, hown⟩
      have K := below_call (w0 := wr) (by repeat (first | exact Below.refl _ _ | refine below_alloc ?_ _ | refine below_drewN ?_ _ | refine Below.drew ?_)) hb
      replace RT2 := Lib.hid (RT2.out.call K)
      replace RM := Lib.hid (RM.out.call K)
      replace BE2 := Lib.hid (below_call (w0 := w) BE2.out K)
      replace HBR := Lib.hid (below_call (w0 := wB) HBR.out K)
      clear hb K
      rw [← HD.out] at hrep
      rw [← HCE.out]
      obtain ⟨off1, sv1, ws1, rfl, hx1⟩ := hrep
      obtain ⟨A1, c1, rfl⟩ := hx1.sl.len
      generalize hm1 : ws1.length = m1 at *
      obtain ⟨lo1, hlo1⟩ : ∃ x, x = d.headD 0 := ⟨_, rfl⟩
      obtain ⟨hi1, hhi1⟩ : ∃ x, x = d.getLastD 0 := ⟨_, rfl⟩
      have e1 : Dm.val off1 (.slice A1 m1 c1) d = .agg #[.int .i64 off1, .slice A1 m1 c1, .int .i64 lo1, .int .i64 hi1, .int .i64 n1] := by unfold Dm.val; rw [hlo1, hhi1, N1.out]
      have RD1 : Hid (Dm.Rep w2 (.agg #[.int .i64 off1, .slice A1 m1 c1, .int .i64 lo1, .int .i64 hi1, .int .i64 n1]) d) := by
        rw [← e1, ← hm1]
        exact ⟨off1, _, ws1, rfl, by rw [hm1]; exact hx1⟩
      rw [e1]
      clear hx1 hm1 e1 hlo1 hhi1 hown
      have HB1 := Lib.hid (heap_new w2 (.cells #[.int .i64 off1, .slice A1 m1 c1, .int .i64 lo1, .int .i64 hi1, .int .i64 n1] 25))
      have HB1_0 := cell_of HB1.out 0
      have HB1_1 := cell_of HB1.out 1
      have HB1_2 := cell_of HB1.out 2
      have HB1_3 := cell_of HB1.out 3
      have HB1_4 := cell_of HB1.out 4
      go_wp2_with fail
      refine (ref_of_rd sm dm _ (RM.out.call (by repeat (first | exact Below.refl _ _ | refine below_alloc ?_ _ | refine below_drewN ?_ _ | refine Below.drew ?_))) (by have := ML.out; omega)).mono ?_
      rintro e w3 ⟨so2, rfl, ⟨hso, hb⟩⟩
      clear HB1_0 HB1_1 HB1_2 HB1_3 HB1_4
      replace HB1 := Lib.hid (heap_call (b := w2.heap.size) (o := .cells #[.int .i64 off1, .slice A1 m1 c1, .int .i64 lo1, .int .i64 hi1, .int .i64 n1] 25) (by repeat (first | exact HB1.out | refine heap_alloc ?_ _ | refine heap_drewN ?_ _ | refine heap_drew ?_)) hb)
      have HB1_0 := cell_of HB1.out 0
      have HB1_1 := cell_of HB1.out 1
      have HB1_2 := cell_of HB1.out 2
      have HB1_3 := cell_of HB1.out 3
      have HB1_4 := cell_of HB1.out 4
      have K := below_call (w0 := w2) (by repeat (first | exact Below.refl _ _ | refine below_alloc ?_ _ | refine below_drewN ?_ _ | refine Below.drew ?_)) hb
      replace RT2 := Lib.hid (RT2.out.call K)
      replace RM := Lib.hid (RM.out.call K)
      replace RD1 := Lib.hid (RD1.out.call K)
      replace BE2 := Lib.hid (below_call (w0 := w) BE2.out K)
      replace HBR := Lib.hid (below_call (w0 := wB) HBR.out K)
      clear hb K
      rw [← HD.out] at hso
      rw [← HCE.out]
      have HSO := Lib.hid hso.sl
      clear hso
      go_wp2_with fail
      refine (law2_same _ so2 d low _ (RD1.out.call (by repeat (first | exact Below.refl _ _ | refine below_alloc ?_ _ | refine below_drewN ?_ _ | refine Below.drew ?_))) (HSO.out.call (by repeat (first | exact Below.refl _ _ | refine below_alloc ?_ _ | refine below_drewN ?_ _ | refine Below.drew ?_))) (RT2.out.call (by repeat (first | exact Below.refl _ _ | refine below_alloc ?_ _ | refine below_drewN ?_ _ | refine Below.drew ?_)))).mono ?_
      rintro e w4 ⟨rfl, hb⟩
      clear HB1_0 HB1_1 HB1_2 HB1_3 HB1_4
      replace HB1 := Lib.hid (heap_call (b := w2.heap.size) (o := .cells #[.int .i64 off1, .slice A1 m1 c1, .int .i64 lo1, .int .i64 hi1, .int .i64 n1] 25) (by repeat (first | exact HB1.out | refine heap_alloc ?_ _ | refine heap_drewN ?_ _ | refine heap_drew ?_)) hb)
      have HB1_0 := cell_of HB1.out 0
      have HB1_1 := cell_of HB1.out 1
      have HB1_2 := cell_of HB1.out 2
      have HB1_3 := cell_of HB1.out 3
      have HB1_4 := cell_of HB1.out 4
      have K := below_call (w0 := w3) (by repeat (first | exact Below.refl _ _ | refine below_alloc ?_ _ | refine below_drewN ?_ _ | refine Below.drew ?_)) hb
      replace RT2 := Lib.hid (RT2.out.call K)
      replace RM := Lib.hid (RM.out.call K)
      replace RD1 := Lib.hid (RD1.out.call K)
      replace HSO := Lib.hid (HSO.out.call K)
      replace BE2 := Lib.hid (below_call (w0 := w) BE2.out K)
      replace HBR := Lib.hid (below_call (w0 := wB) HBR.out K)
      clear hb K
      go_wp2_with fail
      refine (law2_same _ so2 d (high.tmod 3000) _ (RD1.out.call (by repeat (first | exact Below.refl _ _ | refine below_alloc ?_ _ | refine below_drewN ?_ _ | refine Below.drew ?_))) (HSO.out.call (by repeat (first | exact Below.refl _ _ | refine below_alloc ?_ _ | refine below_drewN ?_ _ | refine Below.drew ?_))) (RT2.out.call (by repeat (first | exact Below.refl _ _ | refine below_alloc ?_ _ | refine below_drewN ?_ _ | refine Below.drew ?_)))).mono ?_
      rintro e w5 ⟨rfl, hb⟩
      clear HB1_0 HB1_1 HB1_2 HB1_3 HB1_4
      replace HB1 := Lib.hid (heap_call (b := w2.heap.size) (o := .cells #[.int .i64 off1, .slice A1 m1 c1, .int .i64 lo1, .int .i64 hi1, .int .i64 n1] 25) (by repeat (first | exact HB1.out | refine heap_alloc ?_ _ | refine heap_drewN ?_ _ | refine heap_drew ?_)) hb)
      have HB1_0 := cell_of HB1.out 0
      have HB1_1 := cell_of HB1.out 1
      have HB1_2 := cell_of HB1.out 2
      have HB1_3 := cell_of HB1.out 3
      have HB1_4 := cell_of HB1.out 4
      have K := below_call (w0 := w4) (by repeat (first | exact Below.refl _ _ | refine below_alloc ?_ _ | refine below_drewN ?_ _ | refine Below.drew ?_)) hb
      replace RT2 := Lib.hid (RT2.out.call K)
      replace RM := Lib.hid (RM.out.call K)
      replace RD1 := Lib.hid (RD1.out.call K)
      replace HSO := Lib.hid (HSO.out.call K)
      replace BE2 := Lib.hid (below_call (w0 := w) BE2.out K)
      replace HBR := Lib.hid (below_call (w0 := wB) HBR.out K)
      clear hb K
      go_wp2_with fail
      go_roundg (gk - 1)
      case measure => omega
      case rel => exact ⟨j + 1, by go_num, by omega, HBR⟩
    · obtain rfl : j = 2 := by omega
      have q1 := tmod300 low
      have q2 := tmod300 high
      replace BEL := Lib.hid (below_alloc (below_call BEL.out HBR.out) (.cells #[.int .i64 low, .int .i64 high, .int .i64 (low.tmod 300), .int .i64 (high.tmod 300)] 43))
      have RT3 := Lib.hid ((RT.out.call HBR.out).alloc (.cells #[.int .i64 low, .int .i64 high, .int .i64 (low.tmod 300), .int .i64 (high.tmod 300)] 43))
      have PR := Lib.hid (heap_new wr (.cells #[.int .i64 low, .int .i64 high, .int .i64 (low.tmod 300), .int .i64 (high.tmod 300)] 43))
      clear TWO HBR
      go_wp2_with fail
      generalize hwC : wr.alloc (.cells #[.int .i64 low, .int .i64 high, .int .i64 (low.tmod 300), .int .i64 (high.tmod 300)] 43) = wC at *
      generalize wr.heap.size = bC at *
      clear hwC
      go_loopg [69] 2 (fun k s69 wr => ∃ j : Nat, s69 = .int .i64 j ∧ k + j = 2 ∧ Hid (Below wC.heap.size wC wr))
      case atStart => exact ⟨0, rfl, by omega, Lib.hid (Below.refl _ _)⟩
      case round =>
        obtain ⟨j, rfl, hj, HBR⟩ := hrel
        rcases Nat.lt_or_ge j 2 with hk | hk
        · obtain ⟨lo, hi, hlo, hhi, l1, l2, g1, g2⟩ : ∃ lo hi : Int, wr.cell? ⟨bC, j * 2, none⟩ = some (.int .i64 lo) ∧ wr.cell? ⟨bC, j * 2 + 1, none⟩ = some (.int .i64 hi) ∧ -9223372036854775808 ≤ lo ∧ lo ≤ 9223372036854775807 ∧ -9223372036854775808 ≤ hi ∧ hi ≤ 9223372036854775807 := by
            have h1 := cell_of (heap_call PR.out HBR.out) (j * 2)
            have h2 := cell_of (heap_call PR.out HBR.out) (j * 2 + 1)
            rcases (show j = 0 ∨ j = 1 by omega) with rfl | rfl
            · exact ⟨_, _, h1, h2, b1.1, b1.2, b2.1, b2.2⟩
            · exact ⟨_, _, h1, h2, by omega, by omega, by omega, by omega⟩
          obtain ⟨cr, hcr⟩ : ∃ p, p = Rf.range lo hi := ⟨_, rfl⟩
          have HCR := Lib.hid hcr
          clear hcr
          have RT4 := Lib.hid (RT3.out.call HBR.out)
          have HBA := Lib.hid (heap_new wr (.cells #[.int .i64 lo, .int .i64 hi] 43))
          go_wp2_with fail
          have BEX := Lib.hid (below_call BEL.out HBR.out)
          refine (dom_range lo hi _ (RT4.out.call (by repeat (first | exact Below.refl _ _ | refine below_alloc ?_ _ | refine below_drewN ?_ _ | refine Below.drew ?_)))).mono ?_
          rintro e w2 ⟨l, ⟨v, rfl, hrep, hb, hown⟩, hsr, hme⟩
          replace HBA := Lib.hid (heap_call (b := wr.heap.size) (o := .cells #[.int .i64 lo, .int .i64 hi] 43) (by repeat (first | exact HBA.out | refine heap_alloc ?_ _ | refine heap_drewN ?_ _ | refine heap_drew ?_)) hb)
          have HBA_0 := cell_of HBA.out 0
          have HBA_1 := cell_of HBA.out 1
          have K := below_call (w0 := wr) (by repeat (first | exact Below.refl _ _ | refine below_alloc ?_ _ | refine below_drewN ?_ _ | refine Below.drew ?_)) hb
          replace RT4 := Lib.hid (RT4.out.call K)
          replace BEX := Lib.hid (below_call (w0 := w) BEX.out K)
          replace HBR := Lib.hid (below_call (w0 := wC) HBR.out K)
          clear hb K
          rw [← HCR.out] at hme ⊢
          have HSR := Lib.hid hsr
          have HME := Lib.hid hme
          clear hsr hme
          obtain ⟨n2, hn2⟩ : ∃ n, n = l.length := ⟨_, rfl⟩
          have N2 := Lib.hid hn2
          clear hn2
          obtain ⟨off2, sv2, ws2, rfl, hx2⟩ := hrep
          obtain ⟨A2, c2, rfl⟩ := hx2.sl.len
          generalize hm2 : ws2.length = m2 at *
          obtain ⟨lo2, hlo2⟩ : ∃ x, x = l.headD 0 := ⟨_, rfl⟩
          obtain ⟨hi2, hhi2⟩ : ∃ x, x = l.getLastD 0 := ⟨_, rfl⟩
          have e2 : Dm.val off2 (.slice A2 m2 c2) l = .agg #[.int .i64 off2, .slice A2 m2 c2, .int .i64 lo2, .int .i64 hi2, .int .i64 n2] := by unfold Dm.val; rw [hlo2, hhi2, N2.out]
          have RD2 : Hid (Dm.Rep w2 (.agg #[.int .i64 off2, .slice A2 m2 c2, .int .i64 lo2, .int .i64 hi2, .int .i64 n2]) l) := by
            rw [← e2, ← hm2]
            exact ⟨off2, _, ws2, rfl, by rw [hm2]; exact hx2⟩
          rw [e2]
          clear hx2 hm2 e2 hlo2 hhi2 hown
          have HB2 := Lib.hid (heap_new w2 (.cells #[.int .i64 off2, .slice A2 m2 c2, .int .i64 lo2, .int .i64 hi2, .int .i64 n2] 25))
          clear HBA_0 HBA_1
          replace HBA := Lib.hid (heap_alloc HBA.out (.cells #[.int .i64 off2, .slice A2 m2 c2, .int .i64 lo2, .int .i64 hi2, .int .i64 n2] 25))
          have HBA_0 := cell_of HBA.out 0
          have HBA_1 := cell_of HBA.out 1
          have HB2_0 := cell_of HB2.out 0
          have HB2_1 := cell_of HB2.out 1
          have HB2_2 := cell_of HB2.out 2
          have HB2_3 := cell_of HB2.out 3
          have HB2_4 := cell_of HB2.out 4
          by_cases hc : cr = 0
          · have hcb : (cr != 0) = false := by simpa using hc
            have RNG := Lib.hid (show (-1000000 ≤ lo ∧ lo ≤ 1000000) ∧ (-1000000 ≤ hi ∧ hi ≤ 1000000) ∧ lo ≤ hi ∧ hi - lo < 65536 from by
              have h := HCR.out
              rw [hc] at h
              unfold Rf.range at h
              split at h
              · omega
              · split at h
                · omega
                · split at h <;> omega)
            have hme : ∀ u, u ∈ l ↔ lo ≤ u ∧ u ≤ hi := fun u => (HME.out u).trans ⟨fun h => h.2, fun h => ⟨hc, h⟩⟩
            obtain ⟨⟨r1, r2⟩, ⟨r3, r4⟩, r5, r6⟩ := RNG.out
            have hn : (n2 : Int) = hi - lo + 1 := by
              have := Rf.range_length lo (hi - lo + 1).toNat l HSR.out (fun u => (hme u).trans ⟨fun h => ⟨h.1, by omega⟩, fun h => ⟨h.1, by omega⟩⟩)
              rw [← N2.out] at this
              omega
            have hne : l ≠ [] := fun e => by have := (hme lo).2 ⟨by omega, r5⟩; rw [e] at this; cases this
            have hlo : l.headD 0 = lo := by
              have h1 := Rf.head_le l HSR.out lo ((hme lo).2 ⟨by omega, r5⟩)
              have h2 := (hme _).1 (Rf.head_mem l hne)
              omega
            have hhi : l.getLastD 0 = hi := by
              have h1 := Rf.le_last l HSR.out hi ((hme hi).2 ⟨r5, by omega⟩)
              have h2 := (hme _).1 (Rf.last_mem l hne)
              omega
            have hmid : (lo + hi).tdiv 2 ∈ l := (hme _).2 (mid_in lo hi r5)
            have hlow : lo - 1 ∉ l := fun h => by have := (hme _).1 h; omega
            have hhigh : hi + 1 ∉ l := fun h => by have := (hme _).1 h; omega
            have CR := Lib.hid (fun w' => ref_range lo hi w' l1 l2 g1 g2)
            rw [← HCR.out] at CR
            have START : Hid (Below (w2.alloc (.cells #[.int .i64 off2, .slice A2 m2 c2, .int .i64 lo2, .int .i64 hi2, .int .i64 n2] 25)).heap.size (w2.alloc (.cells #[.int .i64 off2, .slice A2 m2 c2, .int .i64 lo2, .int .i64 hi2, .int .i64 n2] 25)) (w2.alloc (.cells #[.int .i64 off2, .slice A2 m2 c2, .int .i64 lo2, .int .i64 hi2, .int .i64 n2] 25))) := Lib.hid (Below.refl _ _)
            have CM := Lib.hid (fun w' (hb0 : Below (w2.alloc (.cells #[.int .i64 off2, .slice A2 m2 c2, .int .i64 lo2, .int .i64 hi2, .int .i64 n2] 25)).heap.size (w2.alloc (.cells #[.int .i64 off2, .slice A2 m2 c2, .int .i64 lo2, .int .i64 hi2, .int .i64 n2] 25)) w') => dom_min _ l w' (RD2.out.call (below_call (w0 := w2) (below_alloc (Below.refl _ _) _) hb0)))
            have CX := Lib.hid (fun w' (hb0 : Below (w2.alloc (.cells #[.int .i64 off2, .slice A2 m2 c2, .int .i64 lo2, .int .i64 hi2, .int .i64 n2] 25)).heap.size (w2.alloc (.cells #[.int .i64 off2, .slice A2 m2 c2, .int .i64 lo2, .int .i64 hi2, .int .i64 n2] 25)) w') => dom_max _ l w' (RD2.out.call (below_call (w0 := w2) (below_alloc (Below.refl _ _) _) hb0)))
            have CS := Lib.hid (fun w' (hb0 : Below (w2.alloc (.cells #[.int .i64 off2, .slice A2 m2 c2, .int .i64 lo2, .int .i64 hi2, .int .i64 n2] 25)).heap.size (w2.alloc (.cells #[.int .i64 off2, .slice A2 m2 c2, .int .i64 lo2, .int .i64 hi2, .int .i64 n2] 25)) w') => dom_size _ l w' (RD2.out.call (below_call (w0 := w2) (below_alloc (Below.refl _ _) _) hb0)))
            have H1 := Lib.hid (fun w' (hb0 : Below (w2.alloc (.cells #[.int .i64 off2, .slice A2 m2 c2, .int .i64 lo2, .int .i64 hi2, .int .i64 n2] 25)).heap.size (w2.alloc (.cells #[.int .i64 off2, .slice A2 m2 c2, .int .i64 lo2, .int .i64 hi2, .int .i64 n2] 25)) w') => dom_has_yes _ l ((lo + hi).tdiv 2) w' (RD2.out.call (below_call (w0 := w2) (below_alloc (Below.refl _ _) _) hb0)) hmid)
            have H2 := Lib.hid (fun w' (hb0 : Below (w2.alloc (.cells #[.int .i64 off2, .slice A2 m2 c2, .int .i64 lo2, .int .i64 hi2, .int .i64 n2] 25)).heap.size (w2.alloc (.cells #[.int .i64 off2, .slice A2 m2 c2, .int .i64 lo2, .int .i64 hi2, .int .i64 n2] 25)) w') => dom_has_not _ l (lo - 1) w' (RD2.out.call (below_call (w0 := w2) (below_alloc (Below.refl _ _) _) hb0)) hlow)
            have H3 := Lib.hid (fun w' (hb0 : Below (w2.alloc (.cells #[.int .i64 off2, .slice A2 m2 c2, .int .i64 lo2, .int .i64 hi2, .int .i64 n2] 25)).heap.size (w2.alloc (.cells #[.int .i64 off2, .slice A2 m2 c2, .int .i64 lo2, .int .i64 hi2, .int .i64 n2] 25)) w') => dom_has_not _ l (hi + 1) w' (RD2.out.call (below_call (w0 := w2) (below_alloc (Below.refl _ _) _) hb0)) hhigh)
            rw [hlo] at CM
            rw [hhi] at CX
            rw [← N2.out] at CS
            have SIX : Hid (∀ w', Below (w2.alloc (.cells #[.int .i64 off2, .slice A2 m2 c2, .int .i64 lo2, .int .i64 hi2, .int .i64 n2] 25)).heap.size (w2.alloc (.cells #[.int .i64 off2, .slice A2 m2 c2, .int .i64 lo2, .int .i64 hi2, .int .i64 n2] 25)) w' → w'.cell? ⟨wr.heap.size, 0, none⟩ = some (.int .i64 lo) ∧ w'.cell? ⟨wr.heap.size, 1, none⟩ = some (.int .i64 hi) ∧ w'.cell? ⟨w2.heap.size, 0, none⟩ = some (.int .i64 off2) ∧ w'.cell? ⟨w2.heap.size, 1, none⟩ = some (.slice A2 m2 c2) ∧ w'.cell? ⟨w2.heap.size, 2, none⟩ = some (.int .i64 lo2) ∧ w'.cell? ⟨w2.heap.size, 3, none⟩ = some (.int .i64 hi2) ∧ w'.cell? ⟨w2.heap.size, 4, none⟩ = some (.int .i64 n2) ∧ Hid (Below (w2.alloc (.cells #[.int .i64 off2, .slice A2 m2 c2, .int .i64 lo2, .int .i64 hi2, .int .i64 n2] 25)).heap.size (w2.alloc (.cells #[.int .i64 off2, .slice A2 m2 c2, .int .i64 lo2, .int .i64 hi2, .int .i64 n2] 25)) w')) := fun w' hb => ⟨cell_of (heap_call HBA.out hb) 0, cell_of (heap_call HBA.out hb) 1, cell_of (heap_call HB2.out hb) 0, cell_of (heap_call HB2.out hb) 1, cell_of (heap_call HB2.out hb) 2, cell_of (heap_call HB2.out hb) 3, cell_of (heap_call HB2.out hb) 4, Lib.hid hb⟩
            have hw1 : IntKind.i64.wrap (hi - lo) = hi - lo := by rw [IntKind.wrap_i64]; omega
            have hw2 : IntKind.i64.wrap (hi - lo + 1) = hi - lo + 1 := by rw [IntKind.wrap_i64]; omega
            have hw3 : IntKind.i64.wrap (lo + hi) = lo + hi := by rw [IntKind.wrap_i64]; omega
            have hmb := mid_in lo hi r5
            have hw4 : IntKind.i64.wrap ((lo + hi).tdiv 2) = (lo + hi).tdiv 2 := by rw [IntKind.wrap_i64]; omega
            have hw5 : IntKind.i64.wrap (lo - 1) = lo - 1 := by rw [IntKind.wrap_i64]; omega
            have hw6 : IntKind.i64.wrap (hi + 1) = hi + 1 := by rw [IntKind.wrap_i64]; omega
            have hnb : ((n2 : Int) != hi - lo + 1) = false := bne_eq_false_iff_eq.2 hn
            have HZ0 := Lib.hid START.out
            clear hmb hme hn hne hlo hhi hmid hlow hhigh r1 r2 r3 r4 r5 r6 hc
            go_wp2_with fail
            refine (CR.out _).mono ?_
            rintro e w9 ⟨rfl, rfl⟩
            go_wp2_with fail
            have hz := Lib.hid HZ0.out
            replace hz := Lib.hid hz.out.drew
            refine wp_region_held_drew (S := fun w' => w'.cell? ⟨wr.heap.size, 0, none⟩ = some (.int .i64 lo) ∧ w'.cell? ⟨wr.heap.size, 1, none⟩ = some (.int .i64 hi) ∧ w'.cell? ⟨w2.heap.size, 0, none⟩ = some (.int .i64 off2) ∧ w'.cell? ⟨w2.heap.size, 1, none⟩ = some (.slice A2 m2 c2) ∧ w'.cell? ⟨w2.heap.size, 2, none⟩ = some (.int .i64 lo2) ∧ w'.cell? ⟨w2.heap.size, 3, none⟩ = some (.int .i64 hi2) ∧ w'.cell? ⟨w2.heap.size, 4, none⟩ = some (.int .i64 n2) ∧ Hid (Below (w2.alloc (.cells #[.int .i64 off2, .slice A2 m2 c2, .int .i64 lo2, .int .i64 hi2, .int .i64 n2] 25)).heap.size (w2.alloc (.cells #[.int .i64 off2, .slice A2 m2 c2, .int .i64 lo2, .int .i64 hi2, .int .i64 n2] 25)) w')) (by kernel_rfl) ?_ (fun hHeld => ?_)
            · exact SIX.out _ hz.out
            refine wpAnyH_take (i := 0) (oi := { dst := some 93, op := Op.load 25 (Operand.tmp 15), type := 25, pos := "law.go:63", after := #[], guard := none }) (v := ?_) rfl (by kernel_rfl) (by kernel_rfl) (by kernel_rfl) (fun _ _ _ h => h) (Or.inl ⟨by rfl, ?_⟩) (by assumption) ?_
            rotate_left
            · (intro w hSw; (try dsimp only at hSw); go_simp; first | done | with_reducible rfl)
            try simp only [Act.put, List.setIfInBounds_toArray, List.set_cons_zero, List.set_cons_succ]
            refine wpAnyH_take (i := 2) (oi := { dst := some 95, op := Op.indexAddr 43 (Operand.tmp 14) (Operand.const (Value.int IntKind.i64 0)), type := 0, pos := "law.go:63", after := #[], guard := none }) (v := ?_) rfl (by kernel_rfl) (by kernel_rfl) (by kernel_rfl) (fun _ _ _ h => h) (Or.inl ⟨by rfl, ?_⟩) (by assumption) ?_
            rotate_left
            · (intro w hSw; (try dsimp only at hSw); go_simp; first | done | with_reducible rfl)
            try simp only [Act.put, List.setIfInBounds_toArray, List.set_cons_zero, List.set_cons_succ]
            refine wpAnyH_take (i := 3) (oi := { dst := some 96, op := Op.load 3 (Operand.tmp 95), type := 3, pos := "law.go:63", after := #[{ on := 2, ground := Ground.data }], guard := none }) (v := ?_) rfl (by kernel_rfl) (by kernel_rfl) (by kernel_rfl) (fun _ _ _ h => h) (Or.inl ⟨by rfl, ?_⟩) (by assumption) ?_
            rotate_left
            · (intro w hSw; (try dsimp only at hSw); go_simp; first | done | with_reducible rfl)
            try simp only [Act.put, List.setIfInBounds_toArray, List.set_cons_zero, List.set_cons_succ]
            refine wpAnyH_ready (rs := [1]) (by kernel_rfl) (by simp) ?_
            refine AllReadyH.cons (o := { dst := some 94, op := Op.call { callee := Callee.value (Operand.func 28), args := #[Operand.tmp 93], argTypes := #[25] }, type := 3, pos := "law.go:63", after := #[{ on := 0, ground := Ground.data }], guard := none }) rfl (fun KK hKK => ?_) AllReadyH.nil
            go_simp
            refine (CM.out _ hz.out).mono ?_
            rintro e w' ⟨rfl, hb⟩
            replace hz := Lib.hid (below_call (w0 := (w2.alloc (.cells #[.int .i64 off2, .slice A2 m2 c2, .int .i64 lo2, .int .i64 hi2, .int .i64 n2] 25))) hz.out hb)
            clear hb
            go_wp2_with fail
            refine hKK.out _ _ ?_ (fun hHeld2 => ?_)
            · exact SIX.out _ hz.out
            clear hKK KK hHeld
            have hHeld := hHeld2
            clear hHeld2
            try simp only [Act.put, List.setIfInBounds_toArray, List.set_cons_zero, List.set_cons_succ]
            refine wpAnyH_take (i := 4) (oi := { dst := some 97, op := Op.binOp BinOp.neq 3 (Operand.tmp 94) (Operand.tmp 96) 3, type := 4, pos := "law.go:63", after := #[{ on := 1, ground := Ground.data }, { on := 3, ground := Ground.data }], guard := none }) (v := ?_) rfl (by kernel_rfl) (by kernel_rfl) (by kernel_rfl) (fun _ _ _ h => h) (Or.inl ⟨by rfl, ?_⟩) (by assumption) ?_
            rotate_left
            · (intro w hSw; (try dsimp only at hSw); go_simp; first | done | with_reducible rfl)
            try simp only [Act.put, List.setIfInBounds_toArray, List.set_cons_zero, List.set_cons_succ]
            refine wpAnyH_take (i := 5) (oi := { dst := some 98, op := Op.move (Operand.tmp 97), type := 4, pos := "law.go:63", after := #[{ on := 4, ground := Ground.data }, { on := 1, ground := Ground.chain }], guard := none }) (v := ?_) rfl (by kernel_rfl) (by kernel_rfl) (by kernel_rfl) (fun _ _ _ h => h) (Or.inl ⟨by rfl, ?_⟩) (by assumption) ?_
            rotate_left
            · (intro w hSw; (try dsimp only at hSw); go_simp; first | done | with_reducible rfl)
            try simp only [Act.put, List.setIfInBounds_toArray, List.set_cons_zero, List.set_cons_succ]
            refine wpAnyH_take (i := 6) (oi := { dst := some 99, op := Op.load 25 (Operand.tmp 15), type := 25, pos := "law.go:63", after := #[{ on := 5, ground := Ground.guard }], guard := some (5, false) }) (v := ?_) rfl (by kernel_rfl) (by kernel_rfl) (by kernel_rfl) (fun _ _ _ h => h) (Or.inl ⟨by rfl, ?_⟩) (by assumption) ?_
            rotate_left
            · (intro w hSw; (try dsimp only at hSw); go_simp; first | done | with_reducible rfl)
            try simp only [Act.put, List.setIfInBounds_toArray, List.set_cons_zero, List.set_cons_succ]
            refine wpAnyH_take (i := 8) (oi := { dst := some 101, op := Op.indexAddr 43 (Operand.tmp 14) (Operand.const (Value.int IntKind.i64 1)), type := 0, pos := "law.go:63", after := #[{ on := 5, ground := Ground.guard }], guard := some (5, false) }) (v := ?_) rfl (by kernel_rfl) (by kernel_rfl) (by kernel_rfl) (fun _ _ _ h => h) (Or.inl ⟨by rfl, ?_⟩) (by assumption) ?_
            rotate_left
            · (intro w hSw; (try dsimp only at hSw); go_simp; first | done | with_reducible rfl)
            try simp only [Act.put, List.setIfInBounds_toArray, List.set_cons_zero, List.set_cons_succ]
            refine wpAnyH_take (i := 9) (oi := { dst := some 102, op := Op.load 3 (Operand.tmp 101), type := 3, pos := "law.go:63", after := #[{ on := 8, ground := Ground.data }, { on := 5, ground := Ground.guard }], guard := some (5, false) }) (v := ?_) rfl (by kernel_rfl) (by kernel_rfl) (by kernel_rfl) (fun _ _ _ h => h) (Or.inl ⟨by rfl, ?_⟩) (by assumption) ?_
            rotate_left
            · (intro w hSw; (try dsimp only at hSw); go_simp; first | done | with_reducible rfl)
            try simp only [Act.put, List.setIfInBounds_toArray, List.set_cons_zero, List.set_cons_succ]
            refine wpAnyH_ready (rs := [7]) (by kernel_rfl) (by simp) ?_
            refine AllReadyH.cons (o := { dst := some 100, op := Op.call { callee := Callee.value (Operand.func 29), args := #[Operand.tmp 99], argTypes := #[25] }, type := 3, pos := "law.go:63", after := #[{ on := 6, ground := Ground.data }, { on := 5, ground := Ground.chain }, { on := 5, ground := Ground.guard }], guard := some (5, false) }) rfl (fun KK hKK => ?_) AllReadyH.nil
            go_simp
            refine (CX.out _ hz.out).mono ?_
            rintro e w' ⟨rfl, hb⟩
            replace hz := Lib.hid (below_call (w0 := (w2.alloc (.cells #[.int .i64 off2, .slice A2 m2 c2, .int .i64 lo2, .int .i64 hi2, .int .i64 n2] 25))) hz.out hb)
            clear hb
            go_wp2_with fail
            refine hKK.out _ _ ?_ (fun hHeld2 => ?_)
            · exact SIX.out _ hz.out
            clear hKK KK hHeld
            have hHeld := hHeld2
            clear hHeld2
            try simp only [Act.put, List.setIfInBounds_toArray, List.set_cons_zero, List.set_cons_succ]
            refine wpAnyH_take (i := 10) (oi := { dst := some 103, op := Op.binOp BinOp.neq 3 (Operand.tmp 100) (Operand.tmp 102) 3, type := 4, pos := "law.go:63", after := #[{ on := 7, ground := Ground.data }, { on := 9, ground := Ground.data }, { on := 5, ground := Ground.guard }], guard := some (5, false) }) (v := ?_) rfl (by kernel_rfl) (by kernel_rfl) (by kernel_rfl) (fun _ _ _ h => h) (Or.inl ⟨by rfl, ?_⟩) (by assumption) ?_
            rotate_left
            · (intro w hSw; (try dsimp only at hSw); go_simp; first | done | with_reducible rfl)
            try simp only [Act.put, List.setIfInBounds_toArray, List.set_cons_zero, List.set_cons_succ]
            refine wpAnyH_take (i := 11) (oi := { dst := some 104, op := Op.pick (Operand.tmp 98) (Operand.const (Value.bool true)) (Operand.tmp 103), type := 4, pos := "law.go:63", after := #[{ on := 5, ground := Ground.data }, { on := 10, ground := Ground.data }], guard := none }) (v := ?_) rfl (by kernel_rfl) (by kernel_rfl) (by kernel_rfl) (fun _ _ _ h => h) (Or.inl ⟨by rfl, ?_⟩) (by assumption) ?_
            rotate_left
            · (intro w hSw; (try dsimp only at hSw); go_simp; first | done | with_reducible rfl)
            try simp only [Act.put, List.setIfInBounds_toArray, List.set_cons_zero, List.set_cons_succ]
            refine wpAnyH_take (i := 12) (oi := { dst := some 105, op := Op.move (Operand.tmp 104), type := 4, pos := "law.go:63", after := #[{ on := 11, ground := Ground.data }, { on := 7, ground := Ground.chain }], guard := none }) (v := ?_) rfl (by kernel_rfl) (by kernel_rfl) (by kernel_rfl) (fun _ _ _ h => h) (Or.inl ⟨by rfl, ?_⟩) (by assumption) ?_
            rotate_left
            · (intro w hSw; (try dsimp only at hSw); go_simp; first | done | with_reducible rfl)
            try simp only [Act.put, List.setIfInBounds_toArray, List.set_cons_zero, List.set_cons_succ]
            refine wpAnyH_take (i := 13) (oi := { dst := some 106, op := Op.load 25 (Operand.tmp 15), type := 25, pos := "law.go:63", after := #[{ on := 12, ground := Ground.guard }], guard := some (12, false) }) (v := ?_) rfl (by kernel_rfl) (by kernel_rfl) (by kernel_rfl) (fun _ _ _ h => h) (Or.inl ⟨by rfl, ?_⟩) (by assumption) ?_
            rotate_left
            · (intro w hSw; (try dsimp only at hSw); go_simp; first | done | with_reducible rfl)
            try simp only [Act.put, List.setIfInBounds_toArray, List.set_cons_zero, List.set_cons_succ]
            refine wpAnyH_take (i := 15) (oi := { dst := some 108, op := Op.indexAddr 43 (Operand.tmp 14) (Operand.const (Value.int IntKind.i64 1)), type := 0, pos := "law.go:63", after := #[{ on := 12, ground := Ground.guard }], guard := some (12, false) }) (v := ?_) rfl (by kernel_rfl) (by kernel_rfl) (by kernel_rfl) (fun _ _ _ h => h) (Or.inl ⟨by rfl, ?_⟩) (by assumption) ?_
            rotate_left
            · (intro w hSw; (try dsimp only at hSw); go_simp; first | done | with_reducible rfl)
            try simp only [Act.put, List.setIfInBounds_toArray, List.set_cons_zero, List.set_cons_succ]
            refine wpAnyH_take (i := 16) (oi := { dst := some 109, op := Op.load 3 (Operand.tmp 108), type := 3, pos := "law.go:63", after := #[{ on := 15, ground := Ground.data }, { on := 12, ground := Ground.guard }], guard := some (12, false) }) (v := ?_) rfl (by kernel_rfl) (by kernel_rfl) (by kernel_rfl) (fun _ _ _ h => h) (Or.inl ⟨by rfl, ?_⟩) (by assumption) ?_
            rotate_left
            · (intro w hSw; (try dsimp only at hSw); go_simp; first | done | with_reducible rfl)
            try simp only [Act.put, List.setIfInBounds_toArray, List.set_cons_zero, List.set_cons_succ]
            refine wpAnyH_take (i := 17) (oi := { dst := some 110, op := Op.indexAddr 43 (Operand.tmp 14) (Operand.const (Value.int IntKind.i64 0)), type := 0, pos := "law.go:63", after := #[{ on := 12, ground := Ground.guard }], guard := some (12, false) }) (v := ?_) rfl (by kernel_rfl) (by kernel_rfl) (by kernel_rfl) (fun _ _ _ h => h) (Or.inl ⟨by rfl, ?_⟩) (by assumption) ?_
            rotate_left
            · (intro w hSw; (try dsimp only at hSw); go_simp; first | done | with_reducible rfl)
            try simp only [Act.put, List.setIfInBounds_toArray, List.set_cons_zero, List.set_cons_succ]
            refine wpAnyH_take (i := 18) (oi := { dst := some 111, op := Op.load 3 (Operand.tmp 110), type := 3, pos := "law.go:63", after := #[{ on := 17, ground := Ground.data }, { on := 12, ground := Ground.guard }], guard := some (12, false) }) (v := ?_) rfl (by kernel_rfl) (by kernel_rfl) (by kernel_rfl) (fun _ _ _ h => h) (Or.inl ⟨by rfl, ?_⟩) (by assumption) ?_
            rotate_left
            · (intro w hSw; (try dsimp only at hSw); go_simp; first | done | with_reducible rfl)
            try simp only [Act.put, List.setIfInBounds_toArray, List.set_cons_zero, List.set_cons_succ]
            refine wpAnyH_take (i := 19) (oi := { dst := some 112, op := Op.binOp BinOp.sub 3 (Operand.tmp 109) (Operand.tmp 111) 3, type := 3, pos := "law.go:63", after := #[{ on := 16, ground := Ground.data }, { on := 18, ground := Ground.data }, { on := 12, ground := Ground.guard }], guard := some (12, false) }) (v := ?_) rfl (by kernel_rfl) (by kernel_rfl) (by kernel_rfl) (fun _ _ _ h => h) (Or.inl ⟨by rfl, ?_⟩) (by assumption) ?_
            rotate_left
            · (intro w hSw; (try dsimp only at hSw); go_simp; first | done | with_reducible rfl)
            try simp only [Act.put, List.setIfInBounds_toArray, List.set_cons_zero, List.set_cons_succ]
            refine wpAnyH_take (i := 20) (oi := { dst := some 113, op := Op.binOp BinOp.add 3 (Operand.tmp 112) (Operand.const (Value.int IntKind.i64 1)) 3, type := 3, pos := "law.go:63", after := #[{ on := 19, ground := Ground.data }, { on := 12, ground := Ground.guard }], guard := some (12, false) }) (v := ?_) rfl (by kernel_rfl) (by kernel_rfl) (by kernel_rfl) (fun _ _ _ h => h) (Or.inl ⟨by rfl, ?_⟩) (by assumption) ?_
            rotate_left
            · (intro w hSw; (try dsimp only at hSw); go_simp; first | done | with_reducible rfl)
            try simp only [Act.put, List.setIfInBounds_toArray, List.set_cons_zero, List.set_cons_succ]
            refine wpAnyH_ready (rs := [14]) (by kernel_rfl) (by simp) ?_
            refine AllReadyH.cons (o := { dst := some 107, op := Op.call { callee := Callee.value (Operand.func 21), args := #[Operand.tmp 106], argTypes := #[25] }, type := 3, pos := "law.go:63", after := #[{ on := 13, ground := Ground.data }, { on := 12, ground := Ground.chain }, { on := 12, ground := Ground.guard }], guard := some (12, false) }) rfl (fun KK hKK => ?_) AllReadyH.nil
            go_simp
            refine (CS.out _ hz.out).mono ?_
            rintro e w' ⟨rfl, hb⟩
            replace hz := Lib.hid (below_call (w0 := (w2.alloc (.cells #[.int .i64 off2, .slice A2 m2 c2, .int .i64 lo2, .int .i64 hi2, .int .i64 n2] 25))) hz.out hb)
            clear hb
            go_wp2_with fail
            refine hKK.out _ _ ?_ (fun hHeld2 => ?_)
            · exact SIX.out _ hz.out
            clear hKK KK hHeld
            have hHeld := hHeld2
            clear hHeld2
            try simp only [Act.put, List.setIfInBounds_toArray, List.set_cons_zero, List.set_cons_succ]
            refine wpAnyH_take (i := 21) (oi := { dst := some 114, op := Op.binOp BinOp.neq 3 (Operand.tmp 107) (Operand.tmp 113) 3, type := 4, pos := "law.go:63", after := #[{ on := 14, ground := Ground.data }, { on := 20, ground := Ground.data }, { on := 12, ground := Ground.guard }], guard := some (12, false) }) (v := ?_) rfl (by kernel_rfl) (by kernel_rfl) (by kernel_rfl) (fun _ _ _ h => h) (Or.inl ⟨by rfl, ?_⟩) (by assumption) ?_
            rotate_left
            · (intro w hSw; (try dsimp only at hSw); go_simp; first | done | with_reducible rfl)
            try simp only [Act.put, List.setIfInBounds_toArray, List.set_cons_zero, List.set_cons_succ]
            refine wpAnyH_take (i := 22) (oi := { dst := some 115, op := Op.pick (Operand.tmp 105) (Operand.const (Value.bool true)) (Operand.tmp 114), type := 4, pos := "law.go:63", after := #[{ on := 12, ground := Ground.data }, { on := 21, ground := Ground.data }], guard := none }) (v := ?_) rfl (by kernel_rfl) (by kernel_rfl) (by kernel_rfl) (fun _ _ _ h => h) (Or.inl ⟨by rfl, ?_⟩) (by assumption) ?_
            rotate_left
            · (intro w hSw; (try dsimp only at hSw); go_simp; first | done | with_reducible rfl)
            try simp only [Act.put, List.setIfInBounds_toArray, List.set_cons_zero, List.set_cons_succ]
            refine wpAnyH_take (i := 23) (oi := { dst := some 116, op := Op.move (Operand.tmp 115), type := 4, pos := "law.go:63", after := #[{ on := 22, ground := Ground.data }, { on := 14, ground := Ground.chain }], guard := none }) (v := ?_) rfl (by kernel_rfl) (by kernel_rfl) (by kernel_rfl) (fun _ _ _ h => h) (Or.inl ⟨by rfl, ?_⟩) (by assumption) ?_
            rotate_left
            · (intro w hSw; (try dsimp only at hSw); go_simp; first | done | with_reducible rfl)
            try simp only [Act.put, List.setIfInBounds_toArray, List.set_cons_zero, List.set_cons_succ]
            refine wpAnyH_take (i := 24) (oi := { dst := some 117, op := Op.load 25 (Operand.tmp 15), type := 25, pos := "law.go:63", after := #[{ on := 23, ground := Ground.guard }], guard := some (23, false) }) (v := ?_) rfl (by kernel_rfl) (by kernel_rfl) (by kernel_rfl) (fun _ _ _ h => h) (Or.inl ⟨by rfl, ?_⟩) (by assumption) ?_
            rotate_left
            · (intro w hSw; (try dsimp only at hSw); go_simp; first | done | with_reducible rfl)
            try simp only [Act.put, List.setIfInBounds_toArray, List.set_cons_zero, List.set_cons_succ]
            refine wpAnyH_take (i := 25) (oi := { dst := some 118, op := Op.indexAddr 43 (Operand.tmp 14) (Operand.const (Value.int IntKind.i64 0)), type := 0, pos := "law.go:63", after := #[{ on := 23, ground := Ground.guard }], guard := some (23, false) }) (v := ?_) rfl (by kernel_rfl) (by kernel_rfl) (by kernel_rfl) (fun _ _ _ h => h) (Or.inl ⟨by rfl, ?_⟩) (by assumption) ?_
            rotate_left
            · (intro w hSw; (try dsimp only at hSw); go_simp; first | done | with_reducible rfl)
            try simp only [Act.put, List.setIfInBounds_toArray, List.set_cons_zero, List.set_cons_succ]
            refine wpAnyH_take (i := 26) (oi := { dst := some 119, op := Op.load 3 (Operand.tmp 118), type := 3, pos := "law.go:63", after := #[{ on := 25, ground := Ground.data }, { on := 23, ground := Ground.guard }], guard := some (23, false) }) (v := ?_) rfl (by kernel_rfl) (by kernel_rfl) (by kernel_rfl) (fun _ _ _ h => h) (Or.inl ⟨by rfl, ?_⟩) (by assumption) ?_
            rotate_left
            · (intro w hSw; (try dsimp only at hSw); go_simp; first | done | with_reducible rfl)
            try simp only [Act.put, List.setIfInBounds_toArray, List.set_cons_zero, List.set_cons_succ]
            refine wpAnyH_take (i := 27) (oi := { dst := some 120, op := Op.indexAddr 43 (Operand.tmp 14) (Operand.const (Value.int IntKind.i64 1)), type := 0, pos := "law.go:63", after := #[{ on := 23, ground := Ground.guard }], guard := some (23, false) }) (v := ?_) rfl (by kernel_rfl) (by kernel_rfl) (by kernel_rfl) (fun _ _ _ h => h) (Or.inl ⟨by rfl, ?_⟩) (by assumption) ?_
            rotate_left
            · (intro w hSw; (try dsimp only at hSw); go_simp; first | done | with_reducible rfl)
            try simp only [Act.put, List.setIfInBounds_toArray, List.set_cons_zero, List.set_cons_succ]
            refine wpAnyH_take (i := 28) (oi := { dst := some 121, op := Op.load 3 (Operand.tmp 120), type := 3, pos := "law.go:63", after := #[{ on := 27, ground := Ground.data }, { on := 23, ground := Ground.guard }], guard := some (23, false) }) (v := ?_) rfl (by kernel_rfl) (by kernel_rfl) (by kernel_rfl) (fun _ _ _ h => h) (Or.inl ⟨by rfl, ?_⟩) (by assumption) ?_
            rotate_left
            · (intro w hSw; (try dsimp only at hSw); go_simp; first | done | with_reducible rfl)
            try simp only [Act.put, List.setIfInBounds_toArray, List.set_cons_zero, List.set_cons_succ]
            refine wpAnyH_take (i := 29) (oi := { dst := some 122, op := Op.binOp BinOp.add 3 (Operand.tmp 119) (Operand.tmp 121) 3, type := 3, pos := "law.go:63", after := #[{ on := 26, ground := Ground.data }, { on := 28, ground := Ground.data }, { on := 23, ground := Ground.guard }], guard := some (23, false) }) (v := ?_) rfl (by kernel_rfl) (by kernel_rfl) (by kernel_rfl) (fun _ _ _ h => h) (Or.inl ⟨by rfl, ?_⟩) (by assumption) ?_
            rotate_left
            · (intro w hSw; (try dsimp only at hSw); go_simp; first | done | with_reducible rfl)
            try simp only [Act.put, List.setIfInBounds_toArray, List.set_cons_zero, List.set_cons_succ]
            refine wpAnyH_take (i := 30) (oi := { dst := some 123, op := Op.binOp BinOp.quo 3 (Operand.tmp 122) (Operand.const (Value.int IntKind.i64 2)) 3, type := 3, pos := "law.go:63", after := #[{ on := 29, ground := Ground.data }, { on := 23, ground := Ground.guard }], guard := some (23, false) }) (v := ?_) rfl (by kernel_rfl) (by kernel_rfl) (by kernel_rfl) (fun _ _ _ h => h) (Or.inl ⟨by rfl, ?_⟩) (by assumption) ?_
            rotate_left
            · (intro w hSw; (try dsimp only at hSw); go_simp; first | done | with_reducible rfl)
            try simp only [Act.put, List.setIfInBounds_toArray, List.set_cons_zero, List.set_cons_succ]
            refine wpAnyH_ready (rs := [31]) (by kernel_rfl) (by simp) ?_
            refine AllReadyH.cons (o := { dst := some 124, op := Op.call { callee := Callee.value (Operand.func 20), args := #[Operand.tmp 117, Operand.tmp 123], argTypes := #[25, 3] }, type := 4, pos := "law.go:63", after := #[{ on := 24, ground := Ground.data }, { on := 30, ground := Ground.data }, { on := 23, ground := Ground.chain }, { on := 23, ground := Ground.guard }], guard := some (23, false) }) rfl (fun KK hKK => ?_) AllReadyH.nil
            go_simp
            refine (H1.out _ hz.out).mono ?_
            rintro e w' ⟨rfl, hb⟩
            replace hz := Lib.hid (below_call (w0 := (w2.alloc (.cells #[.int .i64 off2, .slice A2 m2 c2, .int .i64 lo2, .int .i64 hi2, .int .i64 n2] 25))) hz.out hb)
            clear hb
            go_wp2_with fail
            refine hKK.out _ _ ?_ (fun hHeld2 => ?_)
            · exact SIX.out _ hz.out
            clear hKK KK hHeld
            have hHeld := hHeld2
            clear hHeld2
            try simp only [Act.put, List.setIfInBounds_toArray, List.set_cons_zero, List.set_cons_succ]
            refine wpAnyH_take (i := 32) (oi := { dst := some 125, op := Op.unOp UnOp.not 4 (Operand.tmp 124), type := 4, pos := "law.go:63", after := #[{ on := 31, ground := Ground.data }, { on := 23, ground := Ground.guard }], guard := some (23, false) }) (v := ?_) rfl (by kernel_rfl) (by kernel_rfl) (by kernel_rfl) (fun _ _ _ h => h) (Or.inl ⟨by rfl, ?_⟩) (by assumption) ?_
            rotate_left
            · (intro w hSw; (try dsimp only at hSw); go_simp; first | done | with_reducible rfl)
            try simp only [Act.put, List.setIfInBounds_toArray, List.set_cons_zero, List.set_cons_succ]
            refine wpAnyH_take (i := 33) (oi := { dst := some 126, op := Op.pick (Operand.tmp 116) (Operand.const (Value.bool true)) (Operand.tmp 125), type := 4, pos := "law.go:63", after := #[{ on := 23, ground := Ground.data }, { on := 32, ground := Ground.data }], guard := none }) (v := ?_) rfl (by kernel_rfl) (by kernel_rfl) (by kernel_rfl) (fun _ _ _ h => h) (Or.inl ⟨by rfl, ?_⟩) (by assumption) ?_
            rotate_left
            · (intro w hSw; (try dsimp only at hSw); go_simp; first | done | with_reducible rfl)
            try simp only [Act.put, List.setIfInBounds_toArray, List.set_cons_zero, List.set_cons_succ]
            refine wpAnyH_take (i := 34) (oi := { dst := some 127, op := Op.move (Operand.tmp 126), type := 4, pos := "law.go:63", after := #[{ on := 33, ground := Ground.data }, { on := 31, ground := Ground.chain }], guard := none }) (v := ?_) rfl (by kernel_rfl) (by kernel_rfl) (by kernel_rfl) (fun _ _ _ h => h) (Or.inl ⟨by rfl, ?_⟩) (by assumption) ?_
            rotate_left
            · (intro w hSw; (try dsimp only at hSw); go_simp; first | done | with_reducible rfl)
            try simp only [Act.put, List.setIfInBounds_toArray, List.set_cons_zero, List.set_cons_succ]
            refine wpAnyH_take (i := 35) (oi := { dst := some 128, op := Op.load 25 (Operand.tmp 15), type := 25, pos := "law.go:63", after := #[{ on := 34, ground := Ground.guard }], guard := some (34, false) }) (v := ?_) rfl (by kernel_rfl) (by kernel_rfl) (by kernel_rfl) (fun _ _ _ h => h) (Or.inl ⟨by rfl, ?_⟩) (by assumption) ?_
            rotate_left
            · (intro w hSw; (try dsimp only at hSw); go_simp; first | done | with_reducible rfl)
            try simp only [Act.put, List.setIfInBounds_toArray, List.set_cons_zero, List.set_cons_succ]
            refine wpAnyH_take (i := 36) (oi := { dst := some 129, op := Op.indexAddr 43 (Operand.tmp 14) (Operand.const (Value.int IntKind.i64 0)), type := 0, pos := "law.go:63", after := #[{ on := 34, ground := Ground.guard }], guard := some (34, false) }) (v := ?_) rfl (by kernel_rfl) (by kernel_rfl) (by kernel_rfl) (fun _ _ _ h => h) (Or.inl ⟨by rfl, ?_⟩) (by assumption) ?_
            rotate_left
            · (intro w hSw; (try dsimp only at hSw); go_simp; first | done | with_reducible rfl)
            try simp only [Act.put, List.setIfInBounds_toArray, List.set_cons_zero, List.set_cons_succ]
            refine wpAnyH_take (i := 37) (oi := { dst := some 130, op := Op.load 3 (Operand.tmp 129), type := 3, pos := "law.go:63", after := #[{ on := 36, ground := Ground.data }, { on := 34, ground := Ground.guard }], guard := some (34, false) }) (v := ?_) rfl (by kernel_rfl) (by kernel_rfl) (by kernel_rfl) (fun _ _ _ h => h) (Or.inl ⟨by rfl, ?_⟩) (by assumption) ?_
            rotate_left
            · (intro w hSw; (try dsimp only at hSw); go_simp; first | done | with_reducible rfl)
            try simp only [Act.put, List.setIfInBounds_toArray, List.set_cons_zero, List.set_cons_succ]
            refine wpAnyH_take (i := 38) (oi := { dst := some 131, op := Op.binOp BinOp.sub 3 (Operand.tmp 130) (Operand.const (Value.int IntKind.i64 1)) 3, type := 3, pos := "law.go:63", after := #[{ on := 37, ground := Ground.data }, { on := 34, ground := Ground.guard }], guard := some (34, false) }) (v := ?_) rfl (by kernel_rfl) (by kernel_rfl) (by kernel_rfl) (fun _ _ _ h => h) (Or.inl ⟨by rfl, ?_⟩) (by assumption) ?_
            rotate_left
            · (intro w hSw; (try dsimp only at hSw); go_simp; first | done | with_reducible rfl)
            try simp only [Act.put, List.setIfInBounds_toArray, List.set_cons_zero, List.set_cons_succ]
            refine wpAnyH_ready (rs := [39]) (by kernel_rfl) (by simp) ?_
            refine AllReadyH.cons (o := { dst := some 132, op := Op.call { callee := Callee.value (Operand.func 20), args := #[Operand.tmp 128, Operand.tmp 131], argTypes := #[25, 3] }, type := 4, pos := "law.go:63", after := #[{ on := 35, ground := Ground.data }, { on := 38, ground := Ground.data }, { on := 34, ground := Ground.chain }, { on := 34, ground := Ground.guard }], guard := some (34, false) }) rfl (fun KK hKK => ?_) AllReadyH.nil
            go_simp
            refine (H2.out _ hz.out).mono ?_
            rintro e w' ⟨rfl, hb⟩
            replace hz := Lib.hid (below_call (w0 := (w2.alloc (.cells #[.int .i64 off2, .slice A2 m2 c2, .int .i64 lo2, .int .i64 hi2, .int .i64 n2] 25))) hz.out hb)
            clear hb
            go_wp2_with fail
            refine hKK.out _ _ ?_ (fun hHeld2 => ?_)
            · exact SIX.out _ hz.out
            clear hKK KK hHeld
            have hHeld := hHeld2
            clear hHeld2
            try simp only [Act.put, List.setIfInBounds_toArray, List.set_cons_zero, List.set_cons_succ]
            refine wpAnyH_take (i := 40) (oi := { dst := some 133, op := Op.pick (Operand.tmp 127) (Operand.const (Value.bool true)) (Operand.tmp 132), type := 4, pos := "law.go:63", after := #[{ on := 34, ground := Ground.data }, { on := 39, ground := Ground.data }], guard := none }) (v := ?_) rfl (by kernel_rfl) (by kernel_rfl) (by kernel_rfl) (fun _ _ _ h => h) (Or.inl ⟨by rfl, ?_⟩) (by assumption) ?_
            rotate_left
            · (intro w hSw; (try dsimp only at hSw); go_simp; first | done | with_reducible rfl)
            try simp only [Act.put, List.setIfInBounds_toArray, List.set_cons_zero, List.set_cons_succ]
            refine wpAnyH_take (i := 41) (oi := { dst := some 134, op := Op.move (Operand.tmp 133), type := 4, pos := "law.go:63", after := #[{ on := 40, ground := Ground.data }, { on := 39, ground := Ground.chain }], guard := none }) (v := ?_) rfl (by kernel_rfl) (by kernel_rfl) (by kernel_rfl) (fun _ _ _ h => h) (Or.inl ⟨by rfl, ?_⟩) (by assumption) ?_
            rotate_left
            · (intro w hSw; (try dsimp only at hSw); go_simp; first | done | with_reducible rfl)
            try simp only [Act.put, List.setIfInBounds_toArray, List.set_cons_zero, List.set_cons_succ]
            refine wpAnyH_take (i := 42) (oi := { dst := some 135, op := Op.load 25 (Operand.tmp 15), type := 25, pos := "law.go:63", after := #[{ on := 41, ground := Ground.guard }], guard := some (41, false) }) (v := ?_) rfl (by kernel_rfl) (by kernel_rfl) (by kernel_rfl) (fun _ _ _ h => h) (Or.inl ⟨by rfl, ?_⟩) (by assumption) ?_
            rotate_left
            · (intro w hSw; (try dsimp only at hSw); go_simp; first | done | with_reducible rfl)
            try simp only [Act.put, List.setIfInBounds_toArray, List.set_cons_zero, List.set_cons_succ]
            refine wpAnyH_take (i := 43) (oi := { dst := some 136, op := Op.indexAddr 43 (Operand.tmp 14) (Operand.const (Value.int IntKind.i64 1)), type := 0, pos := "law.go:63", after := #[{ on := 41, ground := Ground.guard }], guard := some (41, false) }) (v := ?_) rfl (by kernel_rfl) (by kernel_rfl) (by kernel_rfl) (fun _ _ _ h => h) (Or.inl ⟨by rfl, ?_⟩) (by assumption) ?_
            rotate_left
            · (intro w hSw; (try dsimp only at hSw); go_simp; first | done | with_reducible rfl)
            try simp only [Act.put, List.setIfInBounds_toArray, List.set_cons_zero, List.set_cons_succ]
            refine wpAnyH_take (i := 44) (oi := { dst := some 137, op := Op.load 3 (Operand.tmp 136), type := 3, pos := "law.go:63", after := #[{ on := 43, ground := Ground.data }, { on := 41, ground := Ground.guard }], guard := some (41, false) }) (v := ?_) rfl (by kernel_rfl) (by kernel_rfl) (by kernel_rfl) (fun _ _ _ h => h) (Or.inl ⟨by rfl, ?_⟩) (by assumption) ?_
            rotate_left
            · (intro w hSw; (try dsimp only at hSw); go_simp; first | done | with_reducible rfl)
            try simp only [Act.put, List.setIfInBounds_toArray, List.set_cons_zero, List.set_cons_succ]
            refine wpAnyH_take (i := 45) (oi := { dst := some 138, op := Op.binOp BinOp.add 3 (Operand.tmp 137) (Operand.const (Value.int IntKind.i64 1)) 3, type := 3, pos := "law.go:63", after := #[{ on := 44, ground := Ground.data }, { on := 41, ground := Ground.guard }], guard := some (41, false) }) (v := ?_) rfl (by kernel_rfl) (by kernel_rfl) (by kernel_rfl) (fun _ _ _ h => h) (Or.inl ⟨by rfl, ?_⟩) (by assumption) ?_
            rotate_left
            · (intro w hSw; (try dsimp only at hSw); go_simp; first | done | with_reducible rfl)
            try simp only [Act.put, List.setIfInBounds_toArray, List.set_cons_zero, List.set_cons_succ]
            refine wpAnyH_ready (rs := [46]) (by kernel_rfl) (by simp) ?_
            refine AllReadyH.cons (o := { dst := some 139, op := Op.call { callee := Callee.value (Operand.func 20), args := #[Operand.tmp 135, Operand.tmp 138], argTypes := #[25, 3] }, type := 4, pos := "law.go:63", after := #[{ on := 42, ground := Ground.data }, { on := 45, ground := Ground.data }, { on := 41, ground := Ground.chain }, { on := 41, ground := Ground.guard }], guard := some (41, false) }) rfl (fun KK hKK => ?_) AllReadyH.nil
            go_simp
            refine (H3.out _ hz.out).mono ?_
            rintro e w' ⟨rfl, hb⟩
            replace hz := Lib.hid (below_call (w0 := (w2.alloc (.cells #[.int .i64 off2, .slice A2 m2 c2, .int .i64 lo2, .int .i64 hi2, .int .i64 n2] 25))) hz.out hb)
            clear hb
            go_wp2_with fail
            refine hKK.out _ _ ?_ (fun hHeld2 => ?_)
            · exact SIX.out _ hz.out
            clear hKK KK hHeld
            have hHeld := hHeld2
            clear hHeld2
            try simp only [Act.put, List.setIfInBounds_toArray, List.set_cons_zero, List.set_cons_succ]
            refine wpAnyH_take (i := 47) (oi := { dst := some 140, op := Op.pick (Operand.tmp 134) (Operand.const (Value.bool true)) (Operand.tmp 139), type := 4, pos := "law.go:63", after := #[{ on := 41, ground := Ground.data }, { on := 46, ground := Ground.data }], guard := none }) (v := ?_) rfl (by kernel_rfl) (by kernel_rfl) (by kernel_rfl) (fun _ _ _ h => h) (Or.inl ⟨by rfl, ?_⟩) (by assumption) ?_
            rotate_left
            · (intro w hSw; (try dsimp only at hSw); go_simp; first | done | with_reducible rfl)
            try simp only [Act.put, List.setIfInBounds_toArray, List.set_cons_zero, List.set_cons_succ]
            refine wpAnyH_done (by kernel_rfl) ?_ _
            go_wp2_with fail
            go_roundg (gk - 1)
            case measure => omega
            case rel => exact ⟨j + 1, by go_num, by omega, Lib.hid (below_call (w0 := wC) (below_alloc HBR.out _) hz.out)⟩
          · have hcb : (cr != 0) = true := bne_iff_ne.2 hc
            have hl : l = [] := List.eq_nil_iff_forall_not_mem.2 (fun u hu => hc ((HME.out u).1 hu).1)
            have hn : n2 = 0 := by rw [N2.out, hl]; rfl
            have hnb : ((n2 : Int) != 0) = false := by simp; omega
            have CR := Lib.hid (fun w' => ref_range lo hi w' l1 l2 g1 g2)
            rw [← HCR.out] at CR
            clear hl hn hc
            go_wp2_with fail
            refine (CR.out _).mono ?_
            rintro e w9 ⟨rfl, rfl⟩
            go_wp2_with fail
            refine (dom_size _ l _ (RD2.out.call (by repeat (first | exact Below.refl _ _ | refine below_alloc ?_ _ | refine below_drewN ?_ _ | refine Below.drew ?_)))).mono ?_
            rintro e w3 ⟨rfl, hb⟩
            clear HBA_0 HBA_1 HB2_0 HB2_1 HB2_2 HB2_3 HB2_4
            replace HBA := Lib.hid (heap_call (b := wr.heap.size) (o := .cells #[.int .i64 lo, .int .i64 hi] 43) (by repeat (first | exact HBA.out | refine heap_alloc ?_ _ | refine heap_drewN ?_ _ | refine heap_drew ?_)) hb)
            have HBA_0 := cell_of HBA.out 0
            have HBA_1 := cell_of HBA.out 1
            replace HB2 := Lib.hid (heap_call (b := w2.heap.size) (o := .cells #[.int .i64 off2, .slice A2 m2 c2, .int .i64 lo2, .int .i64 hi2, .int .i64 n2] 25) (by repeat (first | exact HB2.out | refine heap_alloc ?_ _ | refine heap_drewN ?_ _ | refine heap_drew ?_)) hb)
            have HB2_0 := cell_of HB2.out 0
            have HB2_1 := cell_of HB2.out 1
            have HB2_2 := cell_of HB2.out 2
            have HB2_3 := cell_of HB2.out 3
            have HB2_4 := cell_of HB2.out 4
            have K := below_call (w0 := w2) (by repeat (first | exact Below.refl _ _ | refine below_alloc ?_ _ | refine below_drewN ?_ _ | refine Below.drew ?_)) hb
            replace RT4 := Lib.hid (RT4.out.call K)
            replace RD2 := Lib.hid (RD2.out.call K)
            replace BEX := Lib.hid (below_call (w0 := w) BEX.out K)
            replace HBR := Lib.hid (below_call (w0 := wC) HBR.out K)
            clear hb K
            rw [← N2.out]
            go_wp2_with fail
            go_roundg (gk - 1)
            case measure => omega
            case rel => exact ⟨j + 1, by go_num, by omega, HBR⟩
        · obtain rfl : j = 2 := by omega
          have CW := Lib.hid (law2_wakes wr (RT3.out.call HBR.out))
          go_wp2_with fail
          refine CW.out.mono ?_
          rintro e w2 ⟨rfl, hb⟩
          go_wp2_with fail
          go_ret
          exact ⟨rfl, below_call (w0 := w) (below_call BEL.out HBR.out) hb⟩
end Go.Proofs.YtdbjljbkneopcaaDoor
