/- DomPlays walked. -/
import Derived.Test.YtdbjljbkneopcaaDoorDomZ
namespace Go.Proofs.YtdbjljbkneopcaaDoor
open Go.RowKit
set_option linter.unusedSimpArgs false
set_option linter.unusedVariables false

/-- The domain's box, and the numbers beside it. -/
structure Rf.Pl (w wr : World) (B : Nat) (l : List Int) (s : Value) : Prop where
  box : ∃ (off : Int) (A : Option Addr) (m c : Nat) (lo hi : Int) (n : Nat), wr.heap[B]? = some (.cells #[.int .i64 off, .slice A m c, .int .i64 lo, .int .i64 hi, .int .i64 n] 25 (0, 0)) ∧ Dm.Rep wr (.agg #[.int .i64 off, .slice A m c, .int .i64 lo, .int .i64 hi, .int .i64 n]) l ∧ ∀ b, (Value.slice A m c).ownBlock = some b → b ≠ B
  sl : Sl wr 3 1 s l.length (Iv l)
  own : ∀ b, s.ownBlock = some b → b ≠ B
  len : l.length ≤ 40
  below : Below w.heap.size w wr
  hB : w.heap.size ≤ B
theorem Rf.Pl.call {w wr wf : World} {B : Nat} {l : List Int} {s : Value} (h : Rf.Pl w wr B l s) (hb : Below wr.heap.size wr wf) : Rf.Pl w wf B l s := by
  obtain ⟨off, A, m, c, lo, hi, n, h1, h2, h3⟩ := h.box
  exact ⟨⟨off, A, m, c, lo, hi, n, heap_call h1 hb, h2.call hb, h3⟩, h.sl.call hb, h.own, h.len, below_call h.below hb, h.hB⟩
theorem Dm.Rep.kept {S : Nat → Prop} {w w' : World} {v : Value} {l : List Int} (h : Dm.Rep w v l) (hf : Fr S w w') (hn : ∀ b, Dm.wb v = some b → ¬ S b) : Dm.Rep w' v l := by
  obtain ⟨off, sv, ws, rfl, hx⟩ := h
  exact ⟨off, sv, ws, rfl, hx.kept hf (fun b hb => hn b hb)⟩

set_option maxHeartbeats 8000000 in
set_option maxRecDepth 100000 in
theorem law2_plays (sx : Value) (x : List Int) (AA : Option Addr) (len cap : Nat) (D V : Nat → Int) (SL : Nat → Value) (LL : Nat → List Int) (w : World) (hx : Rd w sx x) (hlc : len ≤ cap) (hcap : cap ≤ 9223372036854775807) (ha : Rf.Acts w AA len D V SL LL) (hT : Tab w) :
    Calls Tryd.prog 6 #[sx, .slice AA len cap] w (Rf.Says true w) := by
  have RT := Lib.hid hT
  have RT0 := Lib.hid hT
  have RX := Lib.hid hx
  have ACT := Lib.hid ha
  have BEL := Lib.hid (Below.refl w.heap.size w)
  obtain ⟨px, hpx⟩ : ∃ p, p = Rf.near x := ⟨_, rfl⟩
  have PX := Lib.hid hpx
  have PL : Hid (px.length < 16000000000000) := Lib.hid (by rw [hpx]; have := Rf.near_length x; omega)
  obtain ⟨d, hd⟩ : ∃ p, p = Rf.of px := ⟨_, rfl⟩
  have HD := Lib.hid hd
  have DL : Hid (d.length ≤ 40) := Lib.hid (by rw [hd, hpx]; exact Nat.le_trans (Rf.of_length _) (Rf.near_length _))
  obtain ⟨n1, hn1⟩ : ∃ n, n = d.length := ⟨_, rfl⟩
  have N1 := Lib.hid hn1
  have hk1 : min (len : Int) 12 = ((min len 12 : Nat) : Int) := by omega
  have hk2 : min len 12 ≤ len := by omega
  have hk3 : min len 12 ≤ cap := by omega
  have hk4 : ((min len 12 : Nat) : Int) ≤ (cap : Int) := by omega
  have hk5 : min len 12 ≤ 12 := by omega
  generalize min len 12 = m at *
  clear hT hx ha hpx hd hn1
  go_enter Tryd.func6, Tryd.ntmps6
  go_wp2_with fail
  refine (law2_near_rd _ x _ (RX.out.call (by repeat (first | exact Below.refl _ _ | refine below_alloc ?_ _ | refine below_drewN ?_ _ | refine Below.drew ?_)))).mono ?_
  rintro e w2 ⟨so, rfl, ⟨hso, hb⟩⟩
  have K := below_call (w0 := w) (by repeat (first | exact Below.refl _ _ | refine below_alloc ?_ _ | refine below_drewN ?_ _ | refine Below.drew ?_)) hb
  replace RT := Lib.hid (RT.out.call K)
  replace RX := Lib.hid (RX.out.call K)
  replace BEL := Lib.hid (below_call (w0 := w) BEL.out K)
  clear hb K
  rw [← PX.out] at hso
  have HSO := Lib.hid hso.sl
  clear hso
  go_wp2_with fail
  refine (dom_of so px _ (HSO.out.call (by repeat (first | exact Below.refl _ _ | refine below_alloc ?_ _ | refine below_drewN ?_ _ | refine Below.drew ?_))) (RT.out.call (by repeat (first | exact Below.refl _ _ | refine below_alloc ?_ _ | refine below_drewN ?_ _ | refine Below.drew ?_)))).mono ?_
  rintro e w3 ⟨v', rfl, hrep, hb, hown⟩
  have K := below_call (w0 := w2) (by repeat (first | exact Below.refl _ _ | refine below_alloc ?_ _ | refine below_drewN ?_ _ | refine Below.drew ?_)) hb
  replace RT := Lib.hid (RT.out.call K)
  replace RX := Lib.hid (RX.out.call K)
  replace BEL := Lib.hid (below_call (w0 := w) BEL.out K)
  clear hb K
  rw [← HD.out] at hrep
  generalize Rf.code px = c1e at *
  have OW1 := Lib.hid (fun b hb2 => Dm.wb_lt hrep b hb2)
  obtain ⟨off1, sv1, ws1, rfl, hx1⟩ := hrep
  obtain ⟨A1, c1, rfl⟩ := hx1.sl.len
  generalize hm1 : ws1.length = m1 at *
  obtain ⟨lo1, hlo1⟩ : ∃ x, x = d.headD 0 := ⟨_, rfl⟩
  obtain ⟨hi1, hhi1⟩ : ∃ x, x = d.getLastD 0 := ⟨_, rfl⟩
  have e1 : Dm.val off1 (.slice A1 m1 c1) d = .agg #[.int .i64 off1, .slice A1 m1 c1, .int .i64 lo1, .int .i64 hi1, .int .i64 n1] := by unfold Dm.val; rw [hlo1, hhi1, N1.out]
  have RD1 : Hid (Dm.Rep w3 (.agg #[.int .i64 off1, .slice A1 m1 c1, .int .i64 lo1, .int .i64 hi1, .int .i64 n1]) d) := by
    rw [← e1, ← hm1]
    exact ⟨off1, _, ws1, rfl, by rw [hm1]; exact hx1⟩
  rw [e1]
  clear hx1 hm1 e1 hlo1 hhi1 hown
  have HB1 := Lib.hid (heap_new w3 (.cells #[.int .i64 off1, .slice A1 m1 c1, .int .i64 lo1, .int .i64 hi1, .int .i64 n1] 25))
  have HB1_0 := cell_of HB1.out 0
  have HB1_1 := cell_of HB1.out 1
  have HB1_2 := cell_of HB1.out 2
  have HB1_3 := cell_of HB1.out 3
  have HB1_4 := cell_of HB1.out 4
  go_wp2_with fail
  have HW3 : Hid (w.heap.size ≤ w3.heap.size) := Lib.hid BEL.out.size
  refine (law2_near_rd _ x _ (RX.out.call (by repeat (first | exact Below.refl _ _ | refine below_alloc ?_ _ | refine below_drewN ?_ _ | refine Below.drew ?_)))).mono ?_
  rintro e w4 ⟨so2, rfl, ⟨hso, hb⟩⟩
  clear HB1_0 HB1_1 HB1_2 HB1_3 HB1_4
  replace HB1 := Lib.hid (heap_call (b := w3.heap.size) (o := .cells #[.int .i64 off1, .slice A1 m1 c1, .int .i64 lo1, .int .i64 hi1, .int .i64 n1] 25) (by repeat (first | exact HB1.out | refine heap_alloc ?_ _ | refine heap_drewN ?_ _ | refine heap_drew ?_)) hb)
  have HB1_0 := cell_of HB1.out 0
  have HB1_1 := cell_of HB1.out 1
  have HB1_2 := cell_of HB1.out 2
  have HB1_3 := cell_of HB1.out 3
  have HB1_4 := cell_of HB1.out 4
  have K := below_call (w0 := w3) (by repeat (first | exact Below.refl _ _ | refine below_alloc ?_ _ | refine below_drewN ?_ _ | refine Below.drew ?_)) hb
  replace RT := Lib.hid (RT.out.call K)
  replace RX := Lib.hid (RX.out.call K)
  replace RD1 := Lib.hid (RD1.out.call K)
  replace BEL := Lib.hid (below_call (w0 := w) BEL.out K)
  clear hb K
  rw [← PX.out] at hso
  have HSO2 := Lib.hid hso.sl
  clear hso
  go_wp2_with fail
  have hW3 : Hid (w.heap.size ≤ w3.heap.size) := Lib.hid HW3.out
  have hB5 : Hid (w3.heap.size < w4.heap.size) := Lib.hid (heap_lt HB1.out)
  refine (ref_of so2 px _ (HSO2.out.call (by repeat (first | exact Below.refl _ _ | refine below_alloc ?_ _ | refine below_drewN ?_ _ | refine Below.drew ?_))) PL.out).mono ?_
  rintro e w5 ⟨so3, rfl, ⟨hso, hb⟩⟩
  clear HB1_0 HB1_1 HB1_2 HB1_3 HB1_4
  replace HB1 := Lib.hid (heap_call (b := w3.heap.size) (o := .cells #[.int .i64 off1, .slice A1 m1 c1, .int .i64 lo1, .int .i64 hi1, .int .i64 n1] 25) (by repeat (first | exact HB1.out | refine heap_alloc ?_ _ | refine heap_drewN ?_ _ | refine heap_drew ?_)) hb)
  have HB1_0 := cell_of HB1.out 0
  have HB1_1 := cell_of HB1.out 1
  have HB1_2 := cell_of HB1.out 2
  have HB1_3 := cell_of HB1.out 3
  have HB1_4 := cell_of HB1.out 4
  have K := below_call (w0 := w4) (by repeat (first | exact Below.refl _ _ | refine below_alloc ?_ _ | refine below_drewN ?_ _ | refine Below.drew ?_)) hb
  replace RT := Lib.hid (RT.out.call K)
  replace RX := Lib.hid (RX.out.call K)
  replace RD1 := Lib.hid (RD1.out.call K)
  replace BEL := Lib.hid (below_call (w0 := w) BEL.out K)
  clear hb K
  rw [← HD.out] at hso
  generalize Rf.code px = c2e at *
  have HSO3 := Lib.hid hso.sl
  have OS3 : Hid (∀ b, so3.ownBlock = some b → b ≠ w3.heap.size) := Lib.hid fun b hb2 => by have h1 := hso.own b hb2; have h2 := hB5.out; omega
  clear hso
  have HPL : Hid (Rf.Pl w w5 w3.heap.size d so3) := Lib.hid ⟨⟨off1, A1, m1, c1, lo1, hi1, n1, HB1.out, RD1.out, fun b hb2 e => by have h1 := OW1.out b hb2; omega⟩, HSO3.out, OS3.out, DL.out, BEL.out, by have := BEL.out.size; have h1 := hB5.out; have h2 := (Below.refl w3.heap.size w3).size; exact hW3.out⟩
  clear HB1_0 HB1_1 HB1_2 HB1_3 HB1_4 RD1 HB1 HSO HSO2 HSO3 OS3 OW1 DL N1 HD PX RX RT
  go_wp2_with fail
  generalize w3.heap.size = B5 at *
  go_loopg [7, 35] m (fun k s7 s35 wr => ∃ (j : Nat) (l : List Int), s35 = .int .i64 j ∧ k + j = m ∧ Rf.Pl w wr B5 l s7)
  case atStart => exact ⟨0, d, rfl, by omega, HPL.out⟩
  case round =>
    obtain ⟨j, l, rfl, hj, hinv⟩ := hrel
    have H := Lib.hid hinv
    clear hinv
    rcases Nat.lt_or_ge j m with hk | hk
    · obtain ⟨bA, oA, rfl, hbA, a0, a1, a2, bd, bv, hrd⟩ := ACT.out.at_ j (by omega)
      have q0 : wr.cell? ⟨bA, oA + j * 3, none⟩ = some (.int .u8 (D j)) := by rw [(bcell H.out.below).1 _ _ hbA]; exact a0
      have q1 : wr.cell? ⟨bA, oA + j * 3 + 1, none⟩ = some (.int .i64 (V j)) := by rw [(bcell H.out.below).1 _ _ hbA]; exact a1
      have q2 : wr.cell? ⟨bA, oA + j * 3 + 2, none⟩ = some (SL j) := by rw [(bcell H.out.below).1 _ _ hbA]; exact a2
      have RLJ := Lib.hid hrd
      have t3 := tmod3000 (V j)
      clear a0 a1 a2 hrd
      generalize D j = dd at *
      generalize V j = vj at *
      generalize SL j = sL at *
      generalize LL j = L at *
      obtain ⟨AL, cL, hsL⟩ := RLJ.out.len
      subst hsL
      generalize L.length = nL at *
      go_wp2_with fail
      have P48 := heap_new (wr.alloc (.cells #[.int .u8 dd, .int .i64 vj, .slice AL nL cL] 66)) (.cells #[.int .u8 dd, .int .i64 vj, .slice AL nL cL, .int .u8 dd, .int .i64 (vj.tmod 3000), .slice AL nL cL] 66)
      rw [show (wr.alloc (.cells #[.int .u8 dd, .int .i64 vj, .slice AL nL cL] 66)).heap.size = wr.heap.size + 1 from by simp] at P48
      have H48 : Hid (((wr.alloc (.cells #[.int .u8 dd, .int .i64 vj, .slice AL nL cL] 66)).alloc (.cells #[.int .u8 dd, .int .i64 vj, .slice AL nL cL, .int .u8 dd, .int .i64 (vj.tmod 3000), .slice AL nL cL] 66)).heap[wr.heap.size + 1]? = some (.cells #[.int .u8 dd, .int .i64 vj, .slice AL nL cL, .int .u8 dd, .int .i64 (vj.tmod 3000), .slice AL nL cL] 66 (0, 0))) := Lib.hid P48
      have HD0 := Lib.hid (H.out.call (below_alloc (below_alloc (Below.refl _ _) (.cells #[.int .u8 dd, .int .i64 vj, .slice AL nL cL] 66)) (.cells #[.int .u8 dd, .int .i64 vj, .slice AL nL cL, .int .u8 dd, .int .i64 (vj.tmod 3000), .slice AL nL cL] 66)))
      have hlB : Hid (B5 < wr.heap.size + 1) := Lib.hid (by obtain ⟨_, _, _, _, _, _, _, h1, _⟩ := H.out.box; have := heap_lt h1; omega)
      clear P48 q0 q1 q2
      generalize hwD : (wr.alloc (.cells #[.int .u8 dd, .int .i64 vj, .slice AL nL cL] 66)).alloc (.cells #[.int .u8 dd, .int .i64 vj, .slice AL nL cL, .int .u8 dd, .int .i64 (vj.tmod 3000), .slice AL nL cL] 66) = wD at *
      generalize wr.heap.size + 1 = b48 at *
      clear hwD H
      obtain ⟨wo, rfl⟩ : ∃ wo : World, wo = wr := ⟨_, rfl⟩
      obtain ⟨gko, rfl⟩ : ∃ g : Nat, g = gk := ⟨_, rfl⟩
      go_loopg [7, 50] 2 (fun k s7 s50 wr => ∃ (i : Nat) (l : List Int), s50 = .int .i64 i ∧ k + i = 2 ∧ Rf.Pl w wr B5 l s7 ∧ Hid (wr.heap[b48]? = some (.cells #[.int .u8 dd, .int .i64 vj, .slice AL nL cL, .int .u8 dd, .int .i64 (vj.tmod 3000), .slice AL nL cL] 66 (0, 0))))
      case atStart => exact ⟨0, l, rfl, by omega, HD0.out, H48⟩
      case round =>
        clear HD0 H48
        obtain ⟨i, l, rfl, hi2, hinv, HH48⟩ := hrel
        have H := Lib.hid hinv
        obtain ⟨off, Ad, md, cd, lo, hi, nd, hbx, hrp, hown⟩ := hinv.box
        have HB5 := Lib.hid hbx
        have H5 : Hid (B5 < wr.heap.size) := Lib.hid (heap_lt hbx)
        have RD := Lib.hid hrp
        have OWD := Lib.hid hown
        have RS := Lib.hid hinv.sl
        have RTW := Lib.hid (RT0.out.call hinv.below)
        have RLW := Lib.hid (RLJ.out.call hinv.below)
        have BEW := Lib.hid (Below.refl wr.heap.size wr)
        have BELX := Lib.hid hinv.below
        clear hinv hbx hrp hown
        rcases Nat.lt_or_ge i 2 with hk2 | hk2
        · obtain ⟨vv, g0, g1, g2, hvv⟩ : ∃ vv : Int, wr.cell? ⟨b48, i * 3, none⟩ = some (.int .u8 dd) ∧ wr.cell? ⟨b48, i * 3 + 1, none⟩ = some (.int .i64 vv) ∧ wr.cell? ⟨b48, i * 3 + 2, none⟩ = some (.slice AL nL cL) ∧ (-9223372036854775808 ≤ vv ∧ vv ≤ 9223372036854775807) := by
            have h1 := cell_of HH48.out (i * 3)
            have h2 := cell_of HH48.out (i * 3 + 1)
            have h3 := cell_of HH48.out (i * 3 + 2)
            rcases (show i = 0 ∨ i = 1 by omega) with rfl | rfl
            · exact ⟨_, h1, h2, h3, bv⟩
            · exact ⟨_, h1, h2, h3, by omega⟩
          have c0 : ∀ o : Obj, (wr.alloc o).cell? ⟨B5, 0, none⟩ = some (.int .i64 off) := fun o => cell_of (heap_alloc HB5.out o) 0
          have c1 : ∀ o : Obj, (wr.alloc o).cell? ⟨B5, 1, none⟩ = some (.slice Ad md cd) := fun o => cell_of (heap_alloc HB5.out o) 1
          have c2 : ∀ o : Obj, (wr.alloc o).cell? ⟨B5, 2, none⟩ = some (.int .i64 lo) := fun o => cell_of (heap_alloc HB5.out o) 2
          have c3 : ∀ o : Obj, (wr.alloc o).cell? ⟨B5, 3, none⟩ = some (.int .i64 hi) := fun o => cell_of (heap_alloc HB5.out o) 3
          have c4 : ∀ o : Obj, (wr.alloc o).cell? ⟨B5, 4, none⟩ = some (.int .i64 nd) := fun o => cell_of (heap_alloc HB5.out o) 4
          have e0 : ∀ o o' : Obj, ((wr.alloc o).alloc o').cell? ⟨B5, 0, none⟩ = some (.int .i64 off) := fun o o' => cell_of (heap_alloc (heap_alloc HB5.out o) o') 0
          have e1 : ∀ o o' : Obj, ((wr.alloc o).alloc o').cell? ⟨B5, 1, none⟩ = some (.slice Ad md cd) := fun o o' => cell_of (heap_alloc (heap_alloc HB5.out o) o') 1
          have e2 : ∀ o o' : Obj, ((wr.alloc o).alloc o').cell? ⟨B5, 2, none⟩ = some (.int .i64 lo) := fun o o' => cell_of (heap_alloc (heap_alloc HB5.out o) o') 2
          have e3 : ∀ o o' : Obj, ((wr.alloc o).alloc o').cell? ⟨B5, 3, none⟩ = some (.int .i64 hi) := fun o o' => cell_of (heap_alloc (heap_alloc HB5.out o) o') 3
          have e4 : ∀ o o' : Obj, ((wr.alloc o).alloc o').cell? ⟨B5, 4, none⟩ = some (.int .i64 nd) := fun o o' => cell_of (heap_alloc (heap_alloc HB5.out o) o') 4
          have H12 := Lib.hid (heap_alloc (heap_new wr (.cells #[.int .u8 dd, .int .i64 vv, .slice AL nL cL] 66)) (.cells #[.int .i64 off, .slice Ad md cd, .int .i64 lo, .int .i64 hi, .int .i64 nd] 25))
          have h13 := heap_new (wr.alloc (.cells #[.int .u8 dd, .int .i64 vv, .slice AL nL cL] 66)) (.cells #[.int .i64 off, .slice Ad md cd, .int .i64 lo, .int .i64 hi, .int .i64 nd] 25)
          rw [show (wr.alloc (.cells #[.int .u8 dd, .int .i64 vv, .slice AL nL cL] 66)).heap.size = wr.heap.size + 1 from by simp] at h13
          have H13 := Lib.hid h13
          have HB5' := Lib.hid (heap_alloc (heap_alloc HB5.out (.cells #[.int .u8 dd, .int .i64 vv, .slice AL nL cL] 66)) (.cells #[.int .i64 off, .slice Ad md cd, .int .i64 lo, .int .i64 hi, .int .i64 nd] 25))
          have HH48' := Lib.hid (heap_alloc (heap_alloc HH48.out (.cells #[.int .u8 dd, .int .i64 vv, .slice AL nL cL] 66)) (.cells #[.int .i64 off, .slice Ad md cd, .int .i64 lo, .int .i64 hi, .int .i64 nd] 25))
          clear h13
          go_wp2_with fail
          refine (law2_less _ _ _ l L dd vv _ (RD.out.call (by repeat (first | exact Below.refl _ _ | refine below_alloc ?_ _ | refine below_drewN ?_ _ | refine Below.drew ?_))) (RS.out.call (by repeat (first | exact Below.refl _ _ | refine below_alloc ?_ _ | refine below_drewN ?_ _ | refine Below.drew ?_))) (RLW.out.call (by repeat (first | exact Below.refl _ _ | refine below_alloc ?_ _ | refine below_drewN ?_ _ | refine Below.drew ?_))) (by have := H.out.len; omega) bd hvv (RTW.out.call (by repeat (first | exact Below.refl _ _ | refine below_alloc ?_ _ | refine below_drewN ?_ _ | refine Below.drew ?_)))).mono ?_
          rintro e w2 ⟨v', so, rfl, hrep, hso, hb, hwb⟩
          replace HB5' := Lib.hid (heap_call (b := B5) (o := .cells #[.int .i64 off, .slice Ad md cd, .int .i64 lo, .int .i64 hi, .int .i64 nd] 25) (by repeat (first | exact HB5'.out | refine heap_alloc ?_ _ | refine heap_drewN ?_ _ | refine heap_drew ?_)) hb)
          have HB5'_0 := cell_of HB5'.out 0
          have HB5'_1 := cell_of HB5'.out 1
          have HB5'_2 := cell_of HB5'.out 2
          have HB5'_3 := cell_of HB5'.out 3
          have HB5'_4 := cell_of HB5'.out 4
          replace H12 := Lib.hid (heap_call (b := wr.heap.size) (o := .cells #[.int .u8 dd, .int .i64 vv, .slice AL nL cL] 66) (by repeat (first | exact H12.out | refine heap_alloc ?_ _ | refine heap_drewN ?_ _ | refine heap_drew ?_)) hb)
          have H12_0 := cell_of H12.out 0
          have H12_1 := cell_of H12.out 1
          have H12_2 := cell_of H12.out 2
          replace H13 := Lib.hid (heap_call (b := (wr.heap.size + 1)) (o := .cells #[.int .i64 off, .slice Ad md cd, .int .i64 lo, .int .i64 hi, .int .i64 nd] 25) (by repeat (first | exact H13.out | refine heap_alloc ?_ _ | refine heap_drewN ?_ _ | refine heap_drew ?_)) hb)
          have H13_0 := cell_of H13.out 0
          have H13_1 := cell_of H13.out 1
          have H13_2 := cell_of H13.out 2
          have H13_3 := cell_of H13.out 3
          have H13_4 := cell_of H13.out 4
          replace HH48' := Lib.hid (heap_call (b := b48) (o := .cells #[.int .u8 dd, .int .i64 vj, .slice AL nL cL, .int .u8 dd, .int .i64 (vj.tmod 3000), .slice AL nL cL] 66) (by repeat (first | exact HH48'.out | refine heap_alloc ?_ _ | refine heap_drewN ?_ _ | refine heap_drew ?_)) hb)
          have HH48'_0 := cell_of HH48'.out 0
          have K := below_call (w0 := wr) (by repeat (first | exact Below.refl _ _ | refine below_alloc ?_ _ | refine below_drewN ?_ _ | refine Below.drew ?_)) hb
          replace RD := Lib.hid (RD.out.call K)
          replace RS := Lib.hid (RS.out.call K)
          replace RTW := Lib.hid (RTW.out.call K)
          replace RLW := Lib.hid (RLW.out.call K)
          replace BELX := Lib.hid (below_call (w0 := w) BELX.out K)
          replace BEW := Lib.hid (below_call (w0 := wr) BEW.out K)
          clear hb K
          obtain ⟨out, hout⟩ : ∃ p, p = l.filter (Rf.stays (dd % 6).toNat vv (Rf.of (Rf.near L))) := ⟨_, rfl⟩
          rw [← hout] at hrep hso
          have OUTL : Hid (out.length ≤ 40) := Lib.hid (by rw [hout]; exact Nat.le_trans (List.length_filter_le _ _) H.out.len)
          obtain ⟨n7, hn7⟩ : ∃ n, n = out.length := ⟨_, rfl⟩
          have N7 := Lib.hid hn7
          have RSO := Lib.hid hso.sl
          have OSO : Hid (∀ b, so.ownBlock = some b → b ≠ B5) := Lib.hid fun b hb2 e => by
            have h1 := hso.own b hb2
            have h2 := H5.out
            simp at h1
            omega
          have OWE : Hid (∀ b, Dm.wb v' = some b → b ≠ B5) := Lib.hid fun b hb2 e => by
            rcases hwb b hb2 with h | h
            · exact OWD.out b h e
            · have h2 := H5.out
              simp at h
              omega
          obtain ⟨off7, sv7, ws7, rfl, hx7⟩ := hrep
          obtain ⟨A7, c7, rfl⟩ := hx7.sl.len
          generalize hm7 : ws7.length = m7 at *
          obtain ⟨lo7, hlo7⟩ : ∃ x, x = out.headD 0 := ⟨_, rfl⟩
          obtain ⟨hi7, hhi7⟩ : ∃ x, x = out.getLastD 0 := ⟨_, rfl⟩
          have e7 : Dm.val off7 (.slice A7 m7 c7) out = .agg #[.int .i64 off7, .slice A7 m7 c7, .int .i64 lo7, .int .i64 hi7, .int .i64 n7] := by unfold Dm.val; rw [hlo7, hhi7, N7.out]
          have RD7 : Hid (Dm.Rep w2 (.agg #[.int .i64 off7, .slice A7 m7 c7, .int .i64 lo7, .int .i64 hi7, .int .i64 n7]) out) := by
            rw [← e7, ← hm7]
            exact ⟨off7, _, ws7, rfl, by rw [hm7]; exact hx7⟩
          rw [e7]
          clear hx7 hm7 e7 hlo7 hhi7 hwb hso hout hn7
          have HB7 := Lib.hid (heap_new w2 (.cells #[.int .i64 off7, .slice A7 m7 c7, .int .i64 lo7, .int .i64 hi7, .int .i64 n7] 25))
          clear HB5'_0 HB5'_1 HB5'_2 HB5'_3 HB5'_4
          replace HB5' := Lib.hid (heap_alloc HB5'.out (.cells #[.int .i64 off7, .slice A7 m7 c7, .int .i64 lo7, .int .i64 hi7, .int .i64 n7] 25))
          have HB5'_0 := cell_of HB5'.out 0
          have HB5'_1 := cell_of HB5'.out 1
          have HB5'_2 := cell_of HB5'.out 2
          have HB5'_3 := cell_of HB5'.out 3
          have HB5'_4 := cell_of HB5'.out 4
          clear H12_0 H12_1 H12_2
          replace H12 := Lib.hid (heap_alloc H12.out (.cells #[.int .i64 off7, .slice A7 m7 c7, .int .i64 lo7, .int .i64 hi7, .int .i64 n7] 25))
          have H12_0 := cell_of H12.out 0
          have H12_1 := cell_of H12.out 1
          have H12_2 := cell_of H12.out 2
          clear H13_0 H13_1 H13_2 H13_3 H13_4
          replace H13 := Lib.hid (heap_alloc H13.out (.cells #[.int .i64 off7, .slice A7 m7 c7, .int .i64 lo7, .int .i64 hi7, .int .i64 n7] 25))
          have H13_0 := cell_of H13.out 0
          have H13_1 := cell_of H13.out 1
          have H13_2 := cell_of H13.out 2
          have H13_3 := cell_of H13.out 3
          have H13_4 := cell_of H13.out 4
          clear HH48'_0
          replace HH48' := Lib.hid (heap_alloc HH48'.out (.cells #[.int .i64 off7, .slice A7 m7 c7, .int .i64 lo7, .int .i64 hi7, .int .i64 n7] 25))
          have HH48'_0 := cell_of HH48'.out 0
          have HB7_0 := cell_of HB7.out 0
          have HB7_1 := cell_of HB7.out 1
          have HB7_2 := cell_of HB7.out 2
          have HB7_3 := cell_of HB7.out 3
          have HB7_4 := cell_of HB7.out 4
          go_wp2_with fail
          refine (law2_same _ so out vv _ (RD7.out.call (by repeat (first | exact Below.refl _ _ | refine below_alloc ?_ _ | refine below_drewN ?_ _ | refine Below.drew ?_))) (RSO.out.call (by repeat (first | exact Below.refl _ _ | refine below_alloc ?_ _ | refine below_drewN ?_ _ | refine Below.drew ?_))) (RTW.out.call (by repeat (first | exact Below.refl _ _ | refine below_alloc ?_ _ | refine below_drewN ?_ _ | refine Below.drew ?_)))).mono ?_
          rintro e w3 ⟨rfl, hb⟩
          clear HB5'_0 HB5'_1 HB5'_2 HB5'_3 HB5'_4 H12_0 H12_1 H12_2 H13_0 H13_1 H13_2 H13_3 H13_4 HH48'_0 HB7_0 HB7_1 HB7_2 HB7_3 HB7_4
          replace HB5' := Lib.hid (heap_call (b := B5) (o := .cells #[.int .i64 off, .slice Ad md cd, .int .i64 lo, .int .i64 hi, .int .i64 nd] 25) (by repeat (first | exact HB5'.out | refine heap_alloc ?_ _ | refine heap_drewN ?_ _ | refine heap_drew ?_)) hb)
          have HB5'_0 := cell_of HB5'.out 0
          have HB5'_1 := cell_of HB5'.out 1
          have HB5'_2 := cell_of HB5'.out 2
          have HB5'_3 := cell_of HB5'.out 3
          have HB5'_4 := cell_of HB5'.out 4
          replace H12 := Lib.hid (heap_call (b := wr.heap.size) (o := .cells #[.int .u8 dd, .int .i64 vv, .slice AL nL cL] 66) (by repeat (first | exact H12.out | refine heap_alloc ?_ _ | refine heap_drewN ?_ _ | refine heap_drew ?_)) hb)
          have H12_0 := cell_of H12.out 0
          have H12_1 := cell_of H12.out 1
          have H12_2 := cell_of H12.out 2
          replace H13 := Lib.hid (heap_call (b := (wr.heap.size + 1)) (o := .cells #[.int .i64 off, .slice Ad md cd, .int .i64 lo, .int .i64 hi, .int .i64 nd] 25) (by repeat (first | exact H13.out | refine heap_alloc ?_ _ | refine heap_drewN ?_ _ | refine heap_drew ?_)) hb)
          have H13_0 := cell_of H13.out 0
          have H13_1 := cell_of H13.out 1
          have H13_2 := cell_of H13.out 2
          have H13_3 := cell_of H13.out 3
          have H13_4 := cell_of H13.out 4
          replace HH48' := Lib.hid (heap_call (b := b48) (o := .cells #[.int .u8 dd, .int .i64 vj, .slice AL nL cL, .int .u8 dd, .int .i64 (vj.tmod 3000), .slice AL nL cL] 66) (by repeat (first | exact HH48'.out | refine heap_alloc ?_ _ | refine heap_drewN ?_ _ | refine heap_drew ?_)) hb)
          have HH48'_0 := cell_of HH48'.out 0
          replace HB7 := Lib.hid (heap_call (b := w2.heap.size) (o := .cells #[.int .i64 off7, .slice A7 m7 c7, .int .i64 lo7, .int .i64 hi7, .int .i64 n7] 25) (by repeat (first | exact HB7.out | refine heap_alloc ?_ _ | refine heap_drewN ?_ _ | refine heap_drew ?_)) hb)
          have HB7_0 := cell_of HB7.out 0
          have HB7_1 := cell_of HB7.out 1
          have HB7_2 := cell_of HB7.out 2
          have HB7_3 := cell_of HB7.out 3
          have HB7_4 := cell_of HB7.out 4
          have K := below_call (w0 := w2) (by repeat (first | exact Below.refl _ _ | refine below_alloc ?_ _ | refine below_drewN ?_ _ | refine Below.drew ?_)) hb
          replace RD := Lib.hid (RD.out.call K)
          replace RS := Lib.hid (RS.out.call K)
          replace RTW := Lib.hid (RTW.out.call K)
          replace RLW := Lib.hid (RLW.out.call K)
          replace RD7 := Lib.hid (RD7.out.call K)
          replace RSO := Lib.hid (RSO.out.call K)
          replace BELX := Lib.hid (below_call (w0 := w) BELX.out K)
          replace BEW := Lib.hid (below_call (w0 := wr) BEW.out K)
          clear hb K
          go_wp2_with fail
          refine (law2_same _ _ l vv _ (RD.out.call (by repeat (first | exact Below.refl _ _ | refine below_alloc ?_ _ | refine below_drewN ?_ _ | refine Below.drew ?_))) (RS.out.call (by repeat (first | exact Below.refl _ _ | refine below_alloc ?_ _ | refine below_drewN ?_ _ | refine Below.drew ?_))) (RTW.out.call (by repeat (first | exact Below.refl _ _ | refine below_alloc ?_ _ | refine below_drewN ?_ _ | refine Below.drew ?_)))).mono ?_
          rintro e w4 ⟨rfl, hb⟩
          clear HB5'_0 HB5'_1 HB5'_2 HB5'_3 HB5'_4 H12_0 H12_1 H12_2 H13_0 H13_1 H13_2 H13_3 H13_4 HH48'_0 HB7_0 HB7_1 HB7_2 HB7_3 HB7_4
          replace HB5' := Lib.hid (heap_call (b := B5) (o := .cells #[.int .i64 off, .slice Ad md cd, .int .i64 lo, .int .i64 hi, .int .i64 nd] 25) (by repeat (first | exact HB5'.out | refine heap_alloc ?_ _ | refine heap_drewN ?_ _ | refine heap_drew ?_)) hb)
          have HB5'_0 := cell_of HB5'.out 0
          have HB5'_1 := cell_of HB5'.out 1
          have HB5'_2 := cell_of HB5'.out 2
          have HB5'_3 := cell_of HB5'.out 3
          have HB5'_4 := cell_of HB5'.out 4
          replace H12 := Lib.hid (heap_call (b := wr.heap.size) (o := .cells #[.int .u8 dd, .int .i64 vv, .slice AL nL cL] 66) (by repeat (first | exact H12.out | refine heap_alloc ?_ _ | refine heap_drewN ?_ _ | refine heap_drew ?_)) hb)
          have H12_0 := cell_of H12.out 0
          have H12_1 := cell_of H12.out 1
          have H12_2 := cell_of H12.out 2
          replace H13 := Lib.hid (heap_call (b := (wr.heap.size + 1)) (o := .cells #[.int .i64 off, .slice Ad md cd, .int .i64 lo, .int .i64 hi, .int .i64 nd] 25) (by repeat (first | exact H13.out | refine heap_alloc ?_ _ | refine heap_drewN ?_ _ | refine heap_drew ?_)) hb)
          have H13_0 := cell_of H13.out 0
          have H13_1 := cell_of H13.out 1
          have H13_2 := cell_of H13.out 2
          have H13_3 := cell_of H13.out 3
          have H13_4 := cell_of H13.out 4
          replace HH48' := Lib.hid (heap_call (b := b48) (o := .cells #[.int .u8 dd, .int .i64 vj, .slice AL nL cL, .int .u8 dd, .int .i64 (vj.tmod 3000), .slice AL nL cL] 66) (by repeat (first | exact HH48'.out | refine heap_alloc ?_ _ | refine heap_drewN ?_ _ | refine heap_drew ?_)) hb)
          have HH48'_0 := cell_of HH48'.out 0
          replace HB7 := Lib.hid (heap_call (b := w2.heap.size) (o := .cells #[.int .i64 off7, .slice A7 m7 c7, .int .i64 lo7, .int .i64 hi7, .int .i64 n7] 25) (by repeat (first | exact HB7.out | refine heap_alloc ?_ _ | refine heap_drewN ?_ _ | refine heap_drew ?_)) hb)
          have HB7_0 := cell_of HB7.out 0
          have HB7_1 := cell_of HB7.out 1
          have HB7_2 := cell_of HB7.out 2
          have HB7_3 := cell_of HB7.out 3
          have HB7_4 := cell_of HB7.out 4
          have K := below_call (w0 := w3) (by repeat (first | exact Below.refl _ _ | refine below_alloc ?_ _ | refine below_drewN ?_ _ | refine Below.drew ?_)) hb
          replace RD := Lib.hid (RD.out.call K)
          replace RS := Lib.hid (RS.out.call K)
          replace RTW := Lib.hid (RTW.out.call K)
          replace RLW := Lib.hid (RLW.out.call K)
          replace RD7 := Lib.hid (RD7.out.call K)
          replace RSO := Lib.hid (RSO.out.call K)
          replace BELX := Lib.hid (below_call (w0 := w) BELX.out K)
          replace BEW := Lib.hid (below_call (w0 := wr) BEW.out K)
          clear hb K
          rcases (show i = 0 ∨ i = 1 by omega) with rfl | rfl
          · go_wp2_with fail
            go_roundg (gk - 1)
            case measure => omega
            case rel => exact ⟨1, l, by go_num, by omega, H.out.call BEW.out, HH48'⟩
          · have f0 := frozen_of HB5'.out 0
            have f1 := frozen_of HB5'.out 1
            have f2 := frozen_of HB5'.out 2
            have f3 := frozen_of HB5'.out 3
            have f4 := frozen_of HB5'.out 4
            have FR : Hid (Fr (fun k => k = B5) w4 (((((w4.setCell ⟨B5, 0, none⟩ (.int .i64 off7)).setCell ⟨B5, 1, none⟩ (.slice A7 m7 c7)).setCell ⟨B5, 2, none⟩ (.int .i64 lo7)).setCell ⟨B5, 3, none⟩ (.int .i64 hi7)).setCell ⟨B5, 4, none⟩ (.int .i64 n7))) := Lib.hid (by
              refine Fr.set (Fr.set (Fr.set (Fr.set (Fr.set (Fr.refl _ _) ?_ _) ?_ _) ?_ _) ?_ _) ?_ _
              all_goals exact fun _ => rfl)
            have HS : Hid ((((((w4.setCell ⟨B5, 0, none⟩ (.int .i64 off7)).setCell ⟨B5, 1, none⟩ (.slice A7 m7 c7)).setCell ⟨B5, 2, none⟩ (.int .i64 lo7)).setCell ⟨B5, 3, none⟩ (.int .i64 hi7)).setCell ⟨B5, 4, none⟩ (.int .i64 n7)).heap[B5]? = some (.cells #[.int .i64 off7, .slice A7 m7 c7, .int .i64 lo7, .int .i64 hi7, .int .i64 n7] 25 (0, 0))) := Lib.hid (by
              have := heap_set (heap_set (heap_set (heap_set (heap_set HB5'.out 0 (.int .i64 off7)) 1 (.slice A7 m7 c7)) 2 (.int .i64 lo7)) 3 (.int .i64 hi7)) 4 (.int .i64 n7)
              simpa using this)
            have hne : b48 ≠ B5 := by have := hlB.out; omega
            have H48s := Lib.hid (heap_far (heap_far (heap_far (heap_far (heap_far HH48'.out (p := ⟨B5, 0, none⟩) hne (.int .i64 off7)) (p := ⟨B5, 1, none⟩) hne (.slice A7 m7 c7)) (p := ⟨B5, 2, none⟩) hne (.int .i64 lo7)) (p := ⟨B5, 3, none⟩) hne (.int .i64 hi7)) (p := ⟨B5, 4, none⟩) hne (.int .i64 n7))
            have PLS : Hid (Rf.Pl w (((((w4.setCell ⟨B5, 0, none⟩ (.int .i64 off7)).setCell ⟨B5, 1, none⟩ (.slice A7 m7 c7)).setCell ⟨B5, 2, none⟩ (.int .i64 lo7)).setCell ⟨B5, 3, none⟩ (.int .i64 hi7)).setCell ⟨B5, 4, none⟩ (.int .i64 n7)) B5 out so) := Lib.hid ⟨⟨off7, A7, m7, c7, lo7, hi7, n7, HS.out, RD7.out.kept FR.out (fun b hb e => OWE.out b hb e), fun b hb => OWE.out b hb⟩, RSO.out.kept FR.out (fun b hb e => OSO.out b hb e), OSO.out, OUTL.out, Fr.below (c := (((((w4.setCell ⟨B5, 0, none⟩ (.int .i64 off7)).setCell ⟨B5, 1, none⟩ (.slice A7 m7 c7)).setCell ⟨B5, 2, none⟩ (.int .i64 lo7)).setCell ⟨B5, 3, none⟩ (.int .i64 hi7)).setCell ⟨B5, 4, none⟩ (.int .i64 n7))) (below_call H.out.below BEW.out) FR.out (fun i e => by have h1 := H.out.hB; have h2 : i = B5 := e; omega), H.out.hB⟩
            clear hne
            go_wp2_with fail
            go_roundg (gk - 1)
            case measure => omega
            case rel => exact ⟨2, out, by go_num, by omega, PLS.out, H48s⟩
        · obtain rfl : i = 2 := by omega
          go_wp2_with fail
          go_roundg (gko - 1)
          case measure => omega
          case rel => exact ⟨j + 1, l, by go_num, by omega, H.out⟩
    · have CW := Lib.hid (law2_wakes wr (RT0.out.call H.out.below))
      go_wp2_with fail
      refine CW.out.mono ?_
      rintro e w9 ⟨rfl, hb⟩
      go_wp2_with fail
      go_ret
      exact ⟨rfl, below_call H.out.below hb⟩
end Go.Proofs.YtdbjljbkneopcaaDoor
