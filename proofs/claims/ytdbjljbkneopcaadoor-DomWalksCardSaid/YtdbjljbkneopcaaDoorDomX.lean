/- DomWalks walked. -/
import Derived.Test.YtdbjljbkneopcaaDoorWalksB
import Derived.Test.YtdbjljbkneopcaaDoorSetsB
namespace Go.Proofs.YtdbjljbkneopcaaDoor
open Go.RowKit
set_option linter.unusedSimpArgs false
set_option linter.unusedVariables false

set_option maxHeartbeats 8000000 in
set_option maxRecDepth 100000 in
theorem law2_walks (sx : Value) (x : List Int) (v : Int) (w : World) (hx : Rd w sx x) (hT : Tab w) :
    Calls Tryd.prog 7 #[sx, .int .i64 v] w (Rf.Says true w) := by
  have RT := Lib.hid hT
  have RX := Lib.hid hx
  have BEL := Lib.hid (Below.refl w.heap.size w)
  obtain ⟨px, hpx⟩ : ∃ p, p = Rf.near x := ⟨_, rfl⟩
  have PX := Lib.hid hpx
  obtain ⟨d, hd⟩ : ∃ p, p = Rf.of px := ⟨_, rfl⟩
  have HD := Lib.hid hd
  obtain ⟨ce, hce⟩ : ∃ p, p = Rf.code px := ⟨_, rfl⟩
  have HCE := Lib.hid hce
  have SO := Lib.hid (show d.Pairwise (· < ·) by rw [hd]; exact Rf.of_sorted px)
  have DL : Hid (d.length ≤ 40) := by rw [hd, hpx]; exact Lib.hid (Nat.le_trans (Rf.of_length _) (Rf.near_length _))
  have DP : Hid (ce = 0 → 0 < d.length) := Lib.hid fun h => by
    have h0 := Rf.code0 px (by rw [← hce]; exact h)
    obtain ⟨y, r, e⟩ := List.exists_cons_of_ne_nil h0.1
    have : y ∈ d := by
      rw [hd]; unfold Rf.of; rw [if_pos (by rw [← hce]; exact h), Rf.sort_mem, e]; exact List.mem_cons_self
    exact List.length_pos_of_mem this
  obtain ⟨z, hz⟩ : ∃ p, p = v.tmod 3000 := ⟨_, rfl⟩
  have t3 := tmod3000 v
  rw [← hz] at t3
  have HZ := Lib.hid hz
  obtain ⟨a, ha⟩ : ∃ p, p = d.filter fun u => decide (z ≤ u) := ⟨_, rfl⟩
  obtain ⟨b, hb⟩ : ∃ p, p = d.filter fun u => decide (u ≤ z) := ⟨_, rfl⟩
  obtain ⟨o, ho⟩ : ∃ p, p = d.filter fun u => decide (u = z) := ⟨_, rfl⟩
  have HA := Lib.hid ha
  have HB := Lib.hid hb
  have HO := Lib.hid ho
  have BOTH : Hid ((a.filter fun u => decide (u ∈ b)) = o) := by rw [ha, hb, ho]; exact Lib.hid (Rf.both d z)
  have SUM : Hid (a.length + b.length = d.length + o.length) := by rw [ha, hb, ho]; exact Lib.hid (Rf.both_length d z)
  obtain ⟨n1, hn1⟩ : ∃ n, n = d.length := ⟨_, rfl⟩
  have N1 := Lib.hid hn1
  clear hn1
  obtain ⟨n2, hn2⟩ : ∃ n, n = a.length := ⟨_, rfl⟩
  have N2 := Lib.hid hn2
  clear hn2
  obtain ⟨n3, hn3⟩ : ∃ n, n = b.length := ⟨_, rfl⟩
  have N3 := Lib.hid hn3
  clear hn3
  obtain ⟨n4, hn4⟩ : ∃ n, n = o.length := ⟨_, rfl⟩
  have N4 := Lib.hid hn4
  clear hn4
  obtain ⟨n5, hn5⟩ : ∃ n, n = o.length := ⟨_, rfl⟩
  have N5 := Lib.hid hn5
  clear hn5
  clear hT hx hpx hd hce hz ha hb ho
  go_enter Tryd.func7, Tryd.ntmps7
  go_wp2_with fail
  refine (law2_near_rd _ x _ (RX.out.call (by repeat (first | exact Below.refl _ _ | refine below_alloc ?_ _ | refine below_drewN ?_ _ | refine Below.drew ?_)))).mono ?_
  rintro e w2 ⟨so, rfl, ⟨hso, hb⟩⟩
  have K := below_call (w0 := w) (by repeat (first | exact Below.refl _ _ | refine below_alloc ?_ _ | refine below_drewN ?_ _ | refine Below.drew ?_)) hb
  replace RT := Lib.hid (RT.out.call K)
  replace RX := Lib.hid (RX.out.call K)
  replace BEL := Lib.hid (below_call (w0 := w) BEL.out K)
  clear hb K
  rw [← PX.out] at hso
  have HSO := Lib.hid hso.sl
  clear hso
  go_wp2_with fail
  refine (dom_of so px _ (HSO.out.call (by repeat (first | exact Below.refl _ _ | refine below_alloc ?_ _ | refine below_drewN ?_ _ | refine Below.drew ?_))) (RT.out.call (by repeat (first | exact Below.refl _ _ | refine below_alloc ?_ _ | refine below_drewN ?_ _ | refine Below.drew ?_)))).mono ?_
  rintro e w3 ⟨v', rfl, hrep, hb, hown⟩
  have K := below_call (w0 := w2) (by repeat (first | exact Below.refl _ _ | refine below_alloc ?_ _ | refine below_drewN ?_ _ | refine Below.drew ?_)) hb
  replace RT := Lib.hid (RT.out.call K)
  replace RX := Lib.hid (RX.out.call K)
  replace BEL := Lib.hid (below_call (w0 := w) BEL.out K)
  clear hb K
  rw [← HD.out] at hrep
  rw [← HCE.out]
  obtain ⟨off1, sv1, ws1, rfl, hx1⟩ := hrep
  obtain ⟨A1, c1, rfl⟩ := hx1.sl.len
  generalize hm1 : ws1.length = m1 at *
  obtain ⟨lo1, hlo1⟩ : ∃ x, x = d.headD 0 := ⟨_, rfl⟩
  obtain ⟨hi1, hhi1⟩ : ∃ x, x = d.getLastD 0 := ⟨_, rfl⟩
  have e1 : Dm.val off1 (.slice A1 m1 c1) d = .agg #[.int .i64 off1, .slice A1 m1 c1, .int .i64 lo1, .int .i64 hi1, .int .i64 n1] := by unfold Dm.val; rw [hlo1, hhi1, N1.out]
  have RD1 : Hid (Dm.Rep w3 (.agg #[.int .i64 off1, .slice A1 m1 c1, .int .i64 lo1, .int .i64 hi1, .int .i64 n1]) d) := by
    rw [← e1, ← hm1]
    exact ⟨off1, _, ws1, rfl, by rw [hm1]; exact hx1⟩
  rw [e1]
  clear hx1 hm1 e1 hlo1 hhi1 hown
  have HB1 := Lib.hid (heap_new w3 (.cells #[.int .i64 off1, .slice A1 m1 c1, .int .i64 lo1, .int .i64 hi1, .int .i64 n1] 25))
  have HB1_0 := cell_of HB1.out 0
  have HB1_1 := cell_of HB1.out 1
  have HB1_2 := cell_of HB1.out 2
  have HB1_3 := cell_of HB1.out 3
  have HB1_4 := cell_of HB1.out 4
  by_cases hc : ce = 0
  · have hcb : (ce != 0) = false := by simpa using hc
    have hpos := DP.out hc
    have hdl := DL.out
    rw [← N1.out] at hpos hdl
    clear hc
    go_wp2_with fail
    obtain ⟨g, hg⟩ : ∃ g : Nat → Int, ∀ j, g j = d.getD j 0 := ⟨fun j => d.getD j 0, fun _ => rfl⟩
    have G := Lib.hid hg
    clear hg
    have M0 : Hid (d.headD 0 = g 0) := Lib.hid (by rw [G.out]; cases d <;> rfl)
    refine (dom_min _ d _ (RD1.out.call (by repeat (first | exact Below.refl _ _ | refine below_alloc ?_ _ | refine below_drewN ?_ _ | refine Below.drew ?_)))).mono ?_
    rintro e w4 ⟨rfl, hb⟩
    clear HB1_0 HB1_1 HB1_2 HB1_3 HB1_4
    replace HB1 := Lib.hid (heap_call (b := w3.heap.size) (o := .cells #[.int .i64 off1, .slice A1 m1 c1, .int .i64 lo1, .int .i64 hi1, .int .i64 n1] 25) (by repeat (first | exact HB1.out | refine heap_alloc ?_ _ | refine heap_drewN ?_ _ | refine heap_drew ?_)) hb)
    have HB1_0 := cell_of HB1.out 0
    have HB1_1 := cell_of HB1.out 1
    have HB1_2 := cell_of HB1.out 2
    have HB1_3 := cell_of HB1.out 3
    have HB1_4 := cell_of HB1.out 4
    have K := below_call (w0 := w3) (by repeat (first | exact Below.refl _ _ | refine below_alloc ?_ _ | refine below_drewN ?_ _ | refine Below.drew ?_)) hb
    replace RT := Lib.hid (RT.out.call K)
    replace RX := Lib.hid (RX.out.call K)
    replace RD1 := Lib.hid (RD1.out.call K)
    replace BEL := Lib.hid (below_call (w0 := w) BEL.out K)
    clear hb K
    rw [M0.out]
    go_wp2_with fail
    have HI : Hid (Rf.Ke w4 w4 (.slice none 0 0) (d.take 0)) := Lib.hid ⟨Ow.nil _ _, Below.refl _ _⟩
    clear HB1_0 HB1_1 HB1_2 HB1_3 HB1_4
    go_loopg [7, 9, 10] n1 (fun k s7 s9 s10 wr => ∃ j : Nat, k + j = n1 ∧ s9 = .int .i64 (g j) ∧ s10 = .bool (decide (j < n1)) ∧ Rf.Ke w4 wr s7 (d.take j))
    case atStart => exact ⟨0, by omega, rfl, by rw [decide_eq_true hpos], HI.out⟩
    case round =>
      obtain ⟨j, hj, rfl, rfl, hinv⟩ := hrel
      have H := Lib.hid hinv
      obtain ⟨A7, c7, h7⟩ := hinv.own.sl.len
      subst h7
      have hl7 : (d.take j).length = j := by rw [List.length_take, ← N1.out]; omega
      clear hinv
      rcases Nat.lt_or_ge j n1 with hk | hk
      · have hdj : decide (j < n1) = true := decide_eq_true hk
        have TN : Hid ((Rf.next d (g j)).getD 0 = g (j + 1) ∧ (Rf.next d (g j)).isSome = decide (j + 1 < n1)) := Lib.hid (by rw [G.out, G.out, N1.out]; exact Rf.take_next d SO.out j (by rw [← N1.out]; exact hk))
        have TS : Hid (d.take (j + 1) = d.take j ++ [g j]) := Lib.hid (by rw [G.out]; exact take_succ_getD d j (by rw [← N1.out]; exact hk))
        rw [hl7, hdj]
        have hj50 : (j : Int) < 50 := by omega
        have hlt : (d.take j).length < 17000000000000 := by rw [hl7]; omega
        have HL7 := Lib.hid hl7
        have g0 : ∀ w', Below wr.heap.size wr w' → w'.heap[w3.heap.size]? = some (.cells #[.int .i64 off1, .slice A1 m1 c1, .int .i64 lo1, .int .i64 hi1, .int .i64 n1] 25) := fun w' hb => heap_call (heap_call HB1.out H.out.below) hb
        have G0 := Lib.hid g0
        clear g0 hl7 hdj
        go_wp2_with (at_builtin; refine wpList_append_int wr rfl _ _ rfl w4.heap.size _ _ (by show _ = Value.slice A7 (d.take j).length c7; rw [HL7.out]; rfl) (by exact H.out.own) H.out.below.size _ rfl (by exact hlt) ?_; intro s2 w5 happ; have H2 := Lib.hid (H.out.app happ); have hbx := heap_call HB1.out H2.out.below; have k0 := cell_of hbx 0; have k1 := cell_of hbx 1; have k2 := cell_of hbx 2; have k3 := cell_of hbx 3; have k4 := cell_of hbx 4; clear happ hbx)
        refine (dom_next _ d (g j) _ (RD1.out.call H2.out.below)).mono ?_
        rintro e w6 ⟨rfl, hb⟩
        rw [TN.out.1, TN.out.2]
        go_wp2_with fail
        go_roundg (gk - 1)
        case measure => omega
        case rel => exact ⟨j + 1, by omega, rfl, rfl, by rw [TS.out]; exact ⟨H2.out.own.call hb, below_call H2.out.below hb⟩⟩
      · obtain rfl : n1 = j := by omega
        have e7 : d.take n1 = d := List.take_of_length_le (by rw [← N1.out]; omega)
        have RU : Hid (Sl wr 3 1 (.slice A7 n1 c7) d.length (Iv d)) := Lib.hid (by have := H.out.own.sl; rw [e7] at this; rw [N1.out]; exact this)
        rw [hl7, decide_eq_false (Nat.lt_irrefl _)]
        clear e7 hl7
        replace HB1 := Lib.hid (heap_call (b := w3.heap.size) (o := .cells #[.int .i64 off1, .slice A1 m1 c1, .int .i64 lo1, .int .i64 hi1, .int .i64 n1] 25) HB1.out H.out.below)
        have HB1_0 := cell_of HB1.out 0
        have HB1_1 := cell_of HB1.out 1
        have HB1_2 := cell_of HB1.out 2
        have HB1_3 := cell_of HB1.out 3
        have HB1_4 := cell_of HB1.out 4
        replace RT := Lib.hid (RT.out.call H.out.below)
        replace RX := Lib.hid (RX.out.call H.out.below)
        replace RD1 := Lib.hid (RD1.out.call H.out.below)
        replace BEL := Lib.hid (below_call (w0 := w) BEL.out H.out.below)
        clear H
        go_wp2_with fail
        refine (dom_max _ d _ (RD1.out.call (by repeat (first | exact Below.refl _ _ | refine below_alloc ?_ _ | refine below_drewN ?_ _ | refine Below.drew ?_)))).mono ?_
        rintro e w5 ⟨rfl, hb⟩
        clear HB1_0 HB1_1 HB1_2 HB1_3 HB1_4
        replace HB1 := Lib.hid (heap_call (b := w3.heap.size) (o := .cells #[.int .i64 off1, .slice A1 m1 c1, .int .i64 lo1, .int .i64 hi1, .int .i64 n1] 25) (by repeat (first | exact HB1.out | refine heap_alloc ?_ _ | refine heap_drewN ?_ _ | refine heap_drew ?_)) hb)
        have HB1_0 := cell_of HB1.out 0
        have HB1_1 := cell_of HB1.out 1
        have HB1_2 := cell_of HB1.out 2
        have HB1_3 := cell_of HB1.out 3
        have HB1_4 := cell_of HB1.out 4
        have K := below_call (w0 := wr) (by repeat (first | exact Below.refl _ _ | refine below_alloc ?_ _ | refine below_drewN ?_ _ | refine Below.drew ?_)) hb
        replace RT := Lib.hid (RT.out.call K)
        replace RX := Lib.hid (RX.out.call K)
        replace RD1 := Lib.hid (RD1.out.call K)
        replace RU := Lib.hid (RU.out.call K)
        replace BEL := Lib.hid (below_call (w0 := w) BEL.out K)
        clear hb K
        rw [show d.getLastD 0 = Rf.ahead d n1 from by rw [N1.out]; exact (Rf.ahead_last d).symm]
        go_wp2_with fail
        have HI2 : Hid (Rf.Ke w5 w5 (.slice none 0 0) (d.drop n1).reverse) := Lib.hid (by rw [List.drop_of_length_le (by rw [← N1.out]; exact Nat.le_refl _)]; exact ⟨Ow.nil _ _, Below.refl _ _⟩)
        clear HB1_0 HB1_1 HB1_2 HB1_3 HB1_4
        go_loopg [8, 11, 12] n1 (fun k s8 s11 s12 wr => k ≤ n1 ∧ s11 = .int .i64 (Rf.ahead d k) ∧ s12 = .bool (decide (0 < k)) ∧ Rf.Ke w5 wr s8 (d.drop k).reverse)
        case atStart => exact ⟨Nat.le_refl _, rfl, by rw [decide_eq_true hpos], HI2.out⟩
        case round =>
          obtain ⟨hk, rfl, rfl, hinv⟩ := hrel
          have H := Lib.hid hinv
          obtain ⟨A8, c8, h8⟩ := hinv.own.sl.len
          subst h8
          have hl8 : (d.drop gk).reverse.length = n1 - gk := by rw [List.length_reverse, List.length_drop, ← N1.out]
          clear hinv
          rcases Nat.eq_zero_or_pos gk with h0 | h0
          · subst h0
            have RV0 : Hid (Sl wr 3 1 (.slice A8 n1 c8) d.reverse.length (Iv d.reverse)) := Lib.hid (by have := H.out.own.sl; rw [hl8] at this; rw [List.drop_zero] at this; rw [List.length_reverse, ← N1.out]; exact this)
            have hr0 : 0 < d.reverse.length := by rw [List.length_reverse, ← N1.out]; exact hpos
            rw [hl8, show decide (0 < 0) = false from rfl]
            have CR := Lib.hid (go_reverse _ d.reverse wr RV0.out hr0)
            have OWN := Lib.hid H.out.own.own
            rw [hl8] at OWN
            clear hl8 hr0 RV0
            simp only [Nat.sub_zero] at *
            go_wp2_with fail
            refine CR.out.mono ?_
            rintro e w8 ⟨rfl, hsl, hf⟩
            have K8 := Fr.below H.out.below hf (fun i e => OWN.out _ e)
            rw [List.reverse_reverse, List.length_reverse] at hsl
            have RV := Lib.hid hsl
            clear hsl hf H CR OWN
            replace HB1 := Lib.hid (heap_call (b := w3.heap.size) (o := .cells #[.int .i64 off1, .slice A1 m1 c1, .int .i64 lo1, .int .i64 hi1, .int .i64 n1] 25) HB1.out K8)
            have HB1_0 := cell_of HB1.out 0
            have HB1_1 := cell_of HB1.out 1
            have HB1_2 := cell_of HB1.out 2
            have HB1_3 := cell_of HB1.out 3
            have HB1_4 := cell_of HB1.out 4
            replace RT := Lib.hid (RT.out.call K8)
            replace RX := Lib.hid (RX.out.call K8)
            replace RD1 := Lib.hid (RD1.out.call K8)
            replace RU := Lib.hid (RU.out.call K8)
            replace BEL := Lib.hid (below_call (w0 := w) BEL.out K8)
            clear K8
            go_wp2_with fail
            rw [← HZ.out]
            refine (dom_atleast _ d z _ (RD1.out.call (by repeat (first | exact Below.refl _ _ | refine below_alloc ?_ _ | refine below_drewN ?_ _ | refine Below.drew ?_))) (RT.out.call (by repeat (first | exact Below.refl _ _ | refine below_alloc ?_ _ | refine below_drewN ?_ _ | refine Below.drew ?_)))).mono ?_
            rintro e w9 ⟨v', rfl, hrep, hb, hown⟩
            clear HB1_0 HB1_1 HB1_2 HB1_3 HB1_4
            replace HB1 := Lib.hid (heap_call (b := w3.heap.size) (o := .cells #[.int .i64 off1, .slice A1 m1 c1, .int .i64 lo1, .int .i64 hi1, .int .i64 n1] 25) (by repeat (first | exact HB1.out | refine heap_alloc ?_ _ | refine heap_drewN ?_ _ | refine heap_drew ?_)) hb)
            have HB1_0 := cell_of HB1.out 0
            have HB1_1 := cell_of HB1.out 1
            have HB1_2 := cell_of HB1.out 2
            have HB1_3 := cell_of HB1.out 3
            have HB1_4 := cell_of HB1.out 4
            have K := below_call (w0 := w8) (by repeat (first | exact Below.refl _ _ | refine below_alloc ?_ _ | refine below_drewN ?_ _ | refine Below.drew ?_)) hb
            replace RT := Lib.hid (RT.out.call K)
            replace RX := Lib.hid (RX.out.call K)
            replace RD1 := Lib.hid (RD1.out.call K)
            replace RU := Lib.hid (RU.out.call K)
            replace RV := Lib.hid (RV.out.call K)
            replace BEL := Lib.hid (below_call (w0 := w) BEL.out K)
            clear hb K
            rw [← HA.out] at hrep ⊢
            generalize Dm.chg d a = c2e at *
            obtain ⟨off2, sv2, ws2, rfl, hx2⟩ := hrep
            obtain ⟨A2, c2, rfl⟩ := hx2.sl.len
            generalize hm2 : ws2.length = m2 at *
            obtain ⟨lo2, hlo2⟩ : ∃ x, x = a.headD 0 := ⟨_, rfl⟩
            obtain ⟨hi2, hhi2⟩ : ∃ x, x = a.getLastD 0 := ⟨_, rfl⟩
            have e2 : Dm.val off2 (.slice A2 m2 c2) a = .agg #[.int .i64 off2, .slice A2 m2 c2, .int .i64 lo2, .int .i64 hi2, .int .i64 n2] := by unfold Dm.val; rw [hlo2, hhi2, N2.out]
            have RD2 : Hid (Dm.Rep w9 (.agg #[.int .i64 off2, .slice A2 m2 c2, .int .i64 lo2, .int .i64 hi2, .int .i64 n2]) a) := by
              rw [← e2, ← hm2]
              exact ⟨off2, _, ws2, rfl, by rw [hm2]; exact hx2⟩
            rw [e2]
            clear hx2 hm2 e2 hlo2 hhi2 hown
            have HB2 := Lib.hid (heap_new w9 (.cells #[.int .i64 off2, .slice A2 m2 c2, .int .i64 lo2, .int .i64 hi2, .int .i64 n2] 25))
            clear HB1_0 HB1_1 HB1_2 HB1_3 HB1_4
            replace HB1 := Lib.hid (heap_alloc HB1.out (.cells #[.int .i64 off2, .slice A2 m2 c2, .int .i64 lo2, .int .i64 hi2, .int .i64 n2] 25))
            have HB1_0 := cell_of HB1.out 0
            have HB1_1 := cell_of HB1.out 1
            have HB1_2 := cell_of HB1.out 2
            have HB1_3 := cell_of HB1.out 3
            have HB1_4 := cell_of HB1.out 4
            have HB2_0 := cell_of HB2.out 0
            have HB2_1 := cell_of HB2.out 1
            have HB2_2 := cell_of HB2.out 2
            have HB2_3 := cell_of HB2.out 3
            have HB2_4 := cell_of HB2.out 4
            go_wp2_with fail
            refine (dom_atmost _ d z _ (RD1.out.call (by repeat (first | exact Below.refl _ _ | refine below_alloc ?_ _ | refine below_drewN ?_ _ | refine Below.drew ?_))) (RT.out.call (by repeat (first | exact Below.refl _ _ | refine below_alloc ?_ _ | refine below_drewN ?_ _ | refine Below.drew ?_)))).mono ?_
            rintro e w10 ⟨v', rfl, hrep, hb, hown⟩
            clear HB1_0 HB1_1 HB1_2 HB1_3 HB1_4 HB2_0 HB2_1 HB2_2 HB2_3 HB2_4
            replace HB1 := Lib.hid (heap_call (b := w3.heap.size) (o := .cells #[.int .i64 off1, .slice A1 m1 c1, .int .i64 lo1, .int .i64 hi1, .int .i64 n1] 25) (by repeat (first | exact HB1.out | refine heap_alloc ?_ _ | refine heap_drewN ?_ _ | refine heap_drew ?_)) hb)
            have HB1_0 := cell_of HB1.out 0
            have HB1_1 := cell_of HB1.out 1
            have HB1_2 := cell_of HB1.out 2
            have HB1_3 := cell_of HB1.out 3
            have HB1_4 := cell_of HB1.out 4
            replace HB2 := Lib.hid (heap_call (b := w9.heap.size) (o := .cells #[.int .i64 off2, .slice A2 m2 c2, .int .i64 lo2, .int .i64 hi2, .int .i64 n2] 25) (by repeat (first | exact HB2.out | refine heap_alloc ?_ _ | refine heap_drewN ?_ _ | refine heap_drew ?_)) hb)
            have HB2_0 := cell_of HB2.out 0
            have HB2_1 := cell_of HB2.out 1
            have HB2_2 := cell_of HB2.out 2
            have HB2_3 := cell_of HB2.out 3
            have HB2_4 := cell_of HB2.out 4
            have K := below_call (w0 := w9) (by repeat (first | exact Below.refl _ _ | refine below_alloc ?_ _ | refine below_drewN ?_ _ | refine Below.drew ?_)) hb
            replace RT := Lib.hid (RT.out.call K)
            replace RX := Lib.hid (RX.out.call K)
            replace RD1 := Lib.hid (RD1.out.call K)
            replace RU := Lib.hid (RU.out.call K)
            replace RV := Lib.hid (RV.out.call K)
            replace RD2 := Lib.hid (RD2.out.call K)
            replace BEL := Lib.hid (below_call (w0 := w) BEL.out K)
            clear hb K
            rw [← HB.out] at hrep ⊢
            generalize Dm.chg d b = c3e at *
            obtain ⟨off3, sv3, ws3, rfl, hx3⟩ := hrep
            obtain ⟨A3, c3, rfl⟩ := hx3.sl.len
            generalize hm3 : ws3.length = m3 at *
            obtain ⟨lo3, hlo3⟩ : ∃ x, x = b.headD 0 := ⟨_, rfl⟩
            obtain ⟨hi3, hhi3⟩ : ∃ x, x = b.getLastD 0 := ⟨_, rfl⟩
            have e3 : Dm.val off3 (.slice A3 m3 c3) b = .agg #[.int .i64 off3, .slice A3 m3 c3, .int .i64 lo3, .int .i64 hi3, .int .i64 n3] := by unfold Dm.val; rw [hlo3, hhi3, N3.out]
            have RD3 : Hid (Dm.Rep w10 (.agg #[.int .i64 off3, .slice A3 m3 c3, .int .i64 lo3, .int .i64 hi3, .int .i64 n3]) b) := by
              rw [← e3, ← hm3]
              exact ⟨off3, _, ws3, rfl, by rw [hm3]; exact hx3⟩
            rw [e3]
            clear hx3 hm3 e3 hlo3 hhi3 hown
            have HB3 := Lib.hid (heap_new w10 (.cells #[.int .i64 off3, .slice A3 m3 c3, .int .i64 lo3, .int .i64 hi3, .int .i64 n3] 25))
            clear HB1_0 HB1_1 HB1_2 HB1_3 HB1_4
            replace HB1 := Lib.hid (heap_alloc HB1.out (.cells #[.int .i64 off3, .slice A3 m3 c3, .int .i64 lo3, .int .i64 hi3, .int .i64 n3] 25))
            have HB1_0 := cell_of HB1.out 0
            have HB1_1 := cell_of HB1.out 1
            have HB1_2 := cell_of HB1.out 2
            have HB1_3 := cell_of HB1.out 3
            have HB1_4 := cell_of HB1.out 4
            clear HB2_0 HB2_1 HB2_2 HB2_3 HB2_4
            replace HB2 := Lib.hid (heap_alloc HB2.out (.cells #[.int .i64 off3, .slice A3 m3 c3, .int .i64 lo3, .int .i64 hi3, .int .i64 n3] 25))
            have HB2_0 := cell_of HB2.out 0
            have HB2_1 := cell_of HB2.out 1
            have HB2_2 := cell_of HB2.out 2
            have HB2_3 := cell_of HB2.out 3
            have HB2_4 := cell_of HB2.out 4
            have HB3_0 := cell_of HB3.out 0
            have HB3_1 := cell_of HB3.out 1
            have HB3_2 := cell_of HB3.out 2
            have HB3_3 := cell_of HB3.out 3
            have HB3_4 := cell_of HB3.out 4
            go_wp2_with fail
            refine (dom_and _ _ a b _ (RD2.out.call (by repeat (first | exact Below.refl _ _ | refine below_alloc ?_ _ | refine below_drewN ?_ _ | refine Below.drew ?_))) (RD3.out.call (by repeat (first | exact Below.refl _ _ | refine below_alloc ?_ _ | refine below_drewN ?_ _ | refine Below.drew ?_))) (RT.out.call (by repeat (first | exact Below.refl _ _ | refine below_alloc ?_ _ | refine below_drewN ?_ _ | refine Below.drew ?_)))).mono ?_
            rintro e w11 ⟨v', rfl, hrep, hb, hown⟩
            clear HB1_0 HB1_1 HB1_2 HB1_3 HB1_4 HB2_0 HB2_1 HB2_2 HB2_3 HB2_4 HB3_0 HB3_1 HB3_2 HB3_3 HB3_4
            replace HB1 := Lib.hid (heap_call (b := w3.heap.size) (o := .cells #[.int .i64 off1, .slice A1 m1 c1, .int .i64 lo1, .int .i64 hi1, .int .i64 n1] 25) (by repeat (first | exact HB1.out | refine heap_alloc ?_ _ | refine heap_drewN ?_ _ | refine heap_drew ?_)) hb)
            have HB1_0 := cell_of HB1.out 0
            have HB1_1 := cell_of HB1.out 1
            have HB1_2 := cell_of HB1.out 2
            have HB1_3 := cell_of HB1.out 3
            have HB1_4 := cell_of HB1.out 4
            replace HB2 := Lib.hid (heap_call (b := w9.heap.size) (o := .cells #[.int .i64 off2, .slice A2 m2 c2, .int .i64 lo2, .int .i64 hi2, .int .i64 n2] 25) (by repeat (first | exact HB2.out | refine heap_alloc ?_ _ | refine heap_drewN ?_ _ | refine heap_drew ?_)) hb)
            have HB2_0 := cell_of HB2.out 0
            have HB2_1 := cell_of HB2.out 1
            have HB2_2 := cell_of HB2.out 2
            have HB2_3 := cell_of HB2.out 3
            have HB2_4 := cell_of HB2.out 4
            replace HB3 := Lib.hid (heap_call (b := w10.heap.size) (o := .cells #[.int .i64 off3, .slice A3 m3 c3, .int .i64 lo3, .int .i64 hi3, .int .i64 n3] 25) (by repeat (first | exact HB3.out | refine heap_alloc ?_ _ | refine heap_drewN ?_ _ | refine heap_drew ?_)) hb)
            have HB3_0 := cell_of HB3.out 0
            have HB3_1 := cell_of HB3.out 1
            have HB3_2 := cell_of HB3.out 2
            have HB3_3 := cell_of HB3.out 3
            have HB3_4 := cell_of HB3.out 4
            have K := below_call (w0 := w10) (by repeat (first | exact Below.refl _ _ | refine below_alloc ?_ _ | refine below_drewN ?_ _ | refine Below.drew ?_)) hb
            replace RT := Lib.hid (RT.out.call K)
            replace RX := Lib.hid (RX.out.call K)
            replace RD1 := Lib.hid (RD1.out.call K)
            replace RU := Lib.hid (RU.out.call K)
            replace RV := Lib.hid (RV.out.call K)
            replace RD2 := Lib.hid (RD2.out.call K)
            replace RD3 := Lib.hid (RD3.out.call K)
            replace BEL := Lib.hid (below_call (w0 := w) BEL.out K)
            clear hb K
            rw [BOTH.out] at hrep ⊢
            generalize Dm.chg a o = c4e at *
            obtain ⟨off4, sv4, ws4, rfl, hx4⟩ := hrep
            obtain ⟨A4, c4, rfl⟩ := hx4.sl.len
            generalize hm4 : ws4.length = m4 at *
            obtain ⟨lo4, hlo4⟩ : ∃ x, x = o.headD 0 := ⟨_, rfl⟩
            obtain ⟨hi4, hhi4⟩ : ∃ x, x = o.getLastD 0 := ⟨_, rfl⟩
            have e4 : Dm.val off4 (.slice A4 m4 c4) o = .agg #[.int .i64 off4, .slice A4 m4 c4, .int .i64 lo4, .int .i64 hi4, .int .i64 n4] := by unfold Dm.val; rw [hlo4, hhi4, N4.out]
            have RD4 : Hid (Dm.Rep w11 (.agg #[.int .i64 off4, .slice A4 m4 c4, .int .i64 lo4, .int .i64 hi4, .int .i64 n4]) o) := by
              rw [← e4, ← hm4]
              exact ⟨off4, _, ws4, rfl, by rw [hm4]; exact hx4⟩
            rw [e4]
            clear hx4 hm4 e4 hlo4 hhi4 hown
            have HB4 := Lib.hid (heap_new w11 (.cells #[.int .i64 off4, .slice A4 m4 c4, .int .i64 lo4, .int .i64 hi4, .int .i64 n4] 25))
            clear HB1_0 HB1_1 HB1_2 HB1_3 HB1_4
            replace HB1 := Lib.hid (heap_alloc HB1.out (.cells #[.int .i64 off4, .slice A4 m4 c4, .int .i64 lo4, .int .i64 hi4, .int .i64 n4] 25))
            have HB1_0 := cell_of HB1.out 0
            have HB1_1 := cell_of HB1.out 1
            have HB1_2 := cell_of HB1.out 2
            have HB1_3 := cell_of HB1.out 3
            have HB1_4 := cell_of HB1.out 4
            clear HB2_0 HB2_1 HB2_2 HB2_3 HB2_4
            replace HB2 := Lib.hid (heap_alloc HB2.out (.cells #[.int .i64 off4, .slice A4 m4 c4, .int .i64 lo4, .int .i64 hi4, .int .i64 n4] 25))
            have HB2_0 := cell_of HB2.out 0
            have HB2_1 := cell_of HB2.out 1
            have HB2_2 := cell_of HB2.out 2
            have HB2_3 := cell_of HB2.out 3
            have HB2_4 := cell_of HB2.out 4
            clear HB3_0 HB3_1 HB3_2 HB3_3 HB3_4
            replace HB3 := Lib.hid (heap_alloc HB3.out (.cells #[.int .i64 off4, .slice A4 m4 c4, .int .i64 lo4, .int .i64 hi4, .int .i64 n4] 25))
            have HB3_0 := cell_of HB3.out 0
            have HB3_1 := cell_of HB3.out 1
            have HB3_2 := cell_of HB3.out 2
            have HB3_3 := cell_of HB3.out 3
            have HB3_4 := cell_of HB3.out 4
            have HB4_0 := cell_of HB4.out 0
            have HB4_1 := cell_of HB4.out 1
            have HB4_2 := cell_of HB4.out 2
            have HB4_3 := cell_of HB4.out 3
            have HB4_4 := cell_of HB4.out 4
            go_wp2_with fail
            refine (dom_only _ d z _ (RD1.out.call (by repeat (first | exact Below.refl _ _ | refine below_alloc ?_ _ | refine below_drewN ?_ _ | refine Below.drew ?_))) (RT.out.call (by repeat (first | exact Below.refl _ _ | refine below_alloc ?_ _ | refine below_drewN ?_ _ | refine Below.drew ?_))) (by omega) (by omega)).mono ?_
            rintro e w12 ⟨v', rfl, hrep, hb, hown⟩
            clear HB1_0 HB1_1 HB1_2 HB1_3 HB1_4 HB2_0 HB2_1 HB2_2 HB2_3 HB2_4 HB3_0 HB3_1 HB3_2 HB3_3 HB3_4 HB4_0 HB4_1 HB4_2 HB4_3 HB4_4
            replace HB1 := Lib.hid (heap_call (b := w3.heap.size) (o := .cells #[.int .i64 off1, .slice A1 m1 c1, .int .i64 lo1, .int .i64 hi1, .int .i64 n1] 25) (by repeat (first | exact HB1.out | refine heap_alloc ?_ _ | refine heap_drewN ?_ _ | refine heap_drew ?_)) hb)
            have HB1_0 := cell_of HB1.out 0
            have HB1_1 := cell_of HB1.out 1
            have HB1_2 := cell_of HB1.out 2
            have HB1_3 := cell_of HB1.out 3
            have HB1_4 := cell_of HB1.out 4
            replace HB2 := Lib.hid (heap_call (b := w9.heap.size) (o := .cells #[.int .i64 off2, .slice A2 m2 c2, .int .i64 lo2, .int .i64 hi2, .int .i64 n2] 25) (by repeat (first | exact HB2.out | refine heap_alloc ?_ _ | refine heap_drewN ?_ _ | refine heap_drew ?_)) hb)
            have HB2_0 := cell_of HB2.out 0
            have HB2_1 := cell_of HB2.out 1
            have HB2_2 := cell_of HB2.out 2
            have HB2_3 := cell_of HB2.out 3
            have HB2_4 := cell_of HB2.out 4
            replace HB3 := Lib.hid (heap_call (b := w10.heap.size) (o := .cells #[.int .i64 off3, .slice A3 m3 c3, .int .i64 lo3, .int .i64 hi3, .int .i64 n3] 25) (by repeat (first | exact HB3.out | refine heap_alloc ?_ _ | refine heap_drewN ?_ _ | refine heap_drew ?_)) hb)
            have HB3_0 := cell_of HB3.out 0
            have HB3_1 := cell_of HB3.out 1
            have HB3_2 := cell_of HB3.out 2
            have HB3_3 := cell_of HB3.out 3
            have HB3_4 := cell_of HB3.out 4
            replace HB4 := Lib.hid (heap_call (b := w11.heap.size) (o := .cells #[.int .i64 off4, .slice A4 m4 c4, .int .i64 lo4, .int .i64 hi4, .int .i64 n4] 25) (by repeat (first | exact HB4.out | refine heap_alloc ?_ _ | refine heap_drewN ?_ _ | refine heap_drew ?_)) hb)
            have HB4_0 := cell_of HB4.out 0
            have HB4_1 := cell_of HB4.out 1
            have HB4_2 := cell_of HB4.out 2
            have HB4_3 := cell_of HB4.out 3
            have HB4_4 := cell_of HB4.out 4
            have K := below_call (w0 := w11) (by repeat (first | exact Below.refl _ _ | refine below_alloc ?_ _ | refine below_drewN ?_ _ | refine Below.drew ?_)) hb
            replace RT := Lib.hid (RT.out.call K)
            replace RX := Lib.hid (RX.out.call K)
            replace RD1 := Lib.hid (RD1.out.call K)
            replace RU := Lib.hid (RU.out.call K)
            replace RV := Lib.hid (RV.out.call K)
            replace RD2 := Lib.hid (RD2.out.call K)
            replace RD3 := Lib.hid (RD3.out.call K)
            replace RD4 := Lib.hid (RD4.out.call K)
            replace BEL := Lib.hid (below_call (w0 := w) BEL.out K)
            clear hb K
            rw [← HO.out] at hrep ⊢
            generalize Dm.chg d o = c5e at *
            obtain ⟨off5, sv5, ws5, rfl, hx5⟩ := hrep
            obtain ⟨A5, c5, rfl⟩ := hx5.sl.len
            generalize hm5 : ws5.length = m5 at *
            obtain ⟨lo5, hlo5⟩ : ∃ x, x = o.headD 0 := ⟨_, rfl⟩
            obtain ⟨hi5, hhi5⟩ : ∃ x, x = o.getLastD 0 := ⟨_, rfl⟩
            have e5 : Dm.val off5 (.slice A5 m5 c5) o = .agg #[.int .i64 off5, .slice A5 m5 c5, .int .i64 lo5, .int .i64 hi5, .int .i64 n5] := by unfold Dm.val; rw [hlo5, hhi5, N5.out]
            have RD5 : Hid (Dm.Rep w12 (.agg #[.int .i64 off5, .slice A5 m5 c5, .int .i64 lo5, .int .i64 hi5, .int .i64 n5]) o) := by
              rw [← e5, ← hm5]
              exact ⟨off5, _, ws5, rfl, by rw [hm5]; exact hx5⟩
            rw [e5]
            clear hx5 hm5 e5 hlo5 hhi5 hown
            have HB5 := Lib.hid (heap_new w12 (.cells #[.int .i64 off5, .slice A5 m5 c5, .int .i64 lo5, .int .i64 hi5, .int .i64 n5] 25))
            clear HB1_0 HB1_1 HB1_2 HB1_3 HB1_4
            replace HB1 := Lib.hid (heap_alloc HB1.out (.cells #[.int .i64 off5, .slice A5 m5 c5, .int .i64 lo5, .int .i64 hi5, .int .i64 n5] 25))
            have HB1_0 := cell_of HB1.out 0
            have HB1_1 := cell_of HB1.out 1
            have HB1_2 := cell_of HB1.out 2
            have HB1_3 := cell_of HB1.out 3
            have HB1_4 := cell_of HB1.out 4
            clear HB2_0 HB2_1 HB2_2 HB2_3 HB2_4
            replace HB2 := Lib.hid (heap_alloc HB2.out (.cells #[.int .i64 off5, .slice A5 m5 c5, .int .i64 lo5, .int .i64 hi5, .int .i64 n5] 25))
            have HB2_0 := cell_of HB2.out 0
            have HB2_1 := cell_of HB2.out 1
            have HB2_2 := cell_of HB2.out 2
            have HB2_3 := cell_of HB2.out 3
            have HB2_4 := cell_of HB2.out 4
            clear HB3_0 HB3_1 HB3_2 HB3_3 HB3_4
            replace HB3 := Lib.hid (heap_alloc HB3.out (.cells #[.int .i64 off5, .slice A5 m5 c5, .int .i64 lo5, .int .i64 hi5, .int .i64 n5] 25))
            have HB3_0 := cell_of HB3.out 0
            have HB3_1 := cell_of HB3.out 1
            have HB3_2 := cell_of HB3.out 2
            have HB3_3 := cell_of HB3.out 3
            have HB3_4 := cell_of HB3.out 4
            clear HB4_0 HB4_1 HB4_2 HB4_3 HB4_4
            replace HB4 := Lib.hid (heap_alloc HB4.out (.cells #[.int .i64 off5, .slice A5 m5 c5, .int .i64 lo5, .int .i64 hi5, .int .i64 n5] 25))
            have HB4_0 := cell_of HB4.out 0
            have HB4_1 := cell_of HB4.out 1
            have HB4_2 := cell_of HB4.out 2
            have HB4_3 := cell_of HB4.out 3
            have HB4_4 := cell_of HB4.out 4
            have HB5_0 := cell_of HB5.out 0
            have HB5_1 := cell_of HB5.out 1
            have HB5_2 := cell_of HB5.out 2
            have HB5_3 := cell_of HB5.out 3
            have HB5_4 := cell_of HB5.out 4
            have START : Hid (Below (w12.alloc (.cells #[.int .i64 off5, .slice A5 m5 c5, .int .i64 lo5, .int .i64 hi5, .int .i64 n5] 25)).heap.size (w12.alloc (.cells #[.int .i64 off5, .slice A5 m5 c5, .int .i64 lo5, .int .i64 hi5, .int .i64 n5] 25)) (w12.alloc (.cells #[.int .i64 off5, .slice A5 m5 c5, .int .i64 lo5, .int .i64 hi5, .int .i64 n5] 25))) := Lib.hid (Below.refl _ _)
            have C2 := Lib.hid (fun w' (hb0 : Below (w12.alloc (.cells #[.int .i64 off5, .slice A5 m5 c5, .int .i64 lo5, .int .i64 hi5, .int .i64 n5] 25)).heap.size (w12.alloc (.cells #[.int .i64 off5, .slice A5 m5 c5, .int .i64 lo5, .int .i64 hi5, .int .i64 n5] 25)) w') => dom_size _ a w' (RD2.out.call (below_call (w0 := w12) (below_alloc (Below.refl _ _) _) hb0)))
            have C3 := Lib.hid (fun w' (hb0 : Below (w12.alloc (.cells #[.int .i64 off5, .slice A5 m5 c5, .int .i64 lo5, .int .i64 hi5, .int .i64 n5] 25)).heap.size (w12.alloc (.cells #[.int .i64 off5, .slice A5 m5 c5, .int .i64 lo5, .int .i64 hi5, .int .i64 n5] 25)) w') => dom_size _ b w' (RD3.out.call (below_call (w0 := w12) (below_alloc (Below.refl _ _) _) hb0)))
            have C4 := Lib.hid (fun w' (hb0 : Below (w12.alloc (.cells #[.int .i64 off5, .slice A5 m5 c5, .int .i64 lo5, .int .i64 hi5, .int .i64 n5] 25)).heap.size (w12.alloc (.cells #[.int .i64 off5, .slice A5 m5 c5, .int .i64 lo5, .int .i64 hi5, .int .i64 n5] 25)) w') => dom_size _ o w' (RD4.out.call (below_call (w0 := w12) (below_alloc (Below.refl _ _) _) hb0)))
            rw [← N2.out] at C2
            rw [← N3.out] at C3
            rw [← N4.out] at C4
            have SIX : Hid (∀ w', Below (w12.alloc (.cells #[.int .i64 off5, .slice A5 m5 c5, .int .i64 lo5, .int .i64 hi5, .int .i64 n5] 25)).heap.size (w12.alloc (.cells #[.int .i64 off5, .slice A5 m5 c5, .int .i64 lo5, .int .i64 hi5, .int .i64 n5] 25)) w' → w'.cell? ⟨w3.heap.size, 0, none⟩ = some (.int .i64 off1) ∧ w'.cell? ⟨w3.heap.size, 1, none⟩ = some (.slice A1 m1 c1) ∧ w'.cell? ⟨w3.heap.size, 2, none⟩ = some (.int .i64 lo1) ∧ w'.cell? ⟨w3.heap.size, 3, none⟩ = some (.int .i64 hi1) ∧ w'.cell? ⟨w3.heap.size, 4, none⟩ = some (.int .i64 n1) ∧ w'.cell? ⟨w9.heap.size, 0, none⟩ = some (.int .i64 off2) ∧ w'.cell? ⟨w9.heap.size, 1, none⟩ = some (.slice A2 m2 c2) ∧ w'.cell? ⟨w9.heap.size, 2, none⟩ = some (.int .i64 lo2) ∧ w'.cell? ⟨w9.heap.size, 3, none⟩ = some (.int .i64 hi2) ∧ w'.cell? ⟨w9.heap.size, 4, none⟩ = some (.int .i64 n2) ∧ w'.cell? ⟨w10.heap.size, 0, none⟩ = some (.int .i64 off3) ∧ w'.cell? ⟨w10.heap.size, 1, none⟩ = some (.slice A3 m3 c3) ∧ w'.cell? ⟨w10.heap.size, 2, none⟩ = some (.int .i64 lo3) ∧ w'.cell? ⟨w10.heap.size, 3, none⟩ = some (.int .i64 hi3) ∧ w'.cell? ⟨w10.heap.size, 4, none⟩ = some (.int .i64 n3) ∧ w'.cell? ⟨w11.heap.size, 0, none⟩ = some (.int .i64 off4) ∧ w'.cell? ⟨w11.heap.size, 1, none⟩ = some (.slice A4 m4 c4) ∧ w'.cell? ⟨w11.heap.size, 2, none⟩ = some (.int .i64 lo4) ∧ w'.cell? ⟨w11.heap.size, 3, none⟩ = some (.int .i64 hi4) ∧ w'.cell? ⟨w11.heap.size, 4, none⟩ = some (.int .i64 n4) ∧ w'.cell? ⟨w12.heap.size, 0, none⟩ = some (.int .i64 off5) ∧ w'.cell? ⟨w12.heap.size, 1, none⟩ = some (.slice A5 m5 c5) ∧ w'.cell? ⟨w12.heap.size, 2, none⟩ = some (.int .i64 lo5) ∧ w'.cell? ⟨w12.heap.size, 3, none⟩ = some (.int .i64 hi5) ∧ w'.cell? ⟨w12.heap.size, 4, none⟩ = some (.int .i64 n5) ∧ Hid (Below (w12.alloc (.cells #[.int .i64 off5, .slice A5 m5 c5, .int .i64 lo5, .int .i64 hi5, .int .i64 n5] 25)).heap.size (w12.alloc (.cells #[.int .i64 off5, .slice A5 m5 c5, .int .i64 lo5, .int .i64 hi5, .int .i64 n5] 25)) w')) := fun w' hb => ⟨cell_of (heap_call HB1.out hb) 0, cell_of (heap_call HB1.out hb) 1, cell_of (heap_call HB1.out hb) 2, cell_of (heap_call HB1.out hb) 3, cell_of (heap_call HB1.out hb) 4, cell_of (heap_call HB2.out hb) 0, cell_of (heap_call HB2.out hb) 1, cell_of (heap_call HB2.out hb) 2, cell_of (heap_call HB2.out hb) 3, cell_of (heap_call HB2.out hb) 4, cell_of (heap_call HB3.out hb) 0, cell_of (heap_call HB3.out hb) 1, cell_of (heap_call HB3.out hb) 2, cell_of (heap_call HB3.out hb) 3, cell_of (heap_call HB3.out hb) 4, cell_of (heap_call HB4.out hb) 0, cell_of (heap_call HB4.out hb) 1, cell_of (heap_call HB4.out hb) 2, cell_of (heap_call HB4.out hb) 3, cell_of (heap_call HB4.out hb) 4, cell_of (heap_call HB5.out hb) 0, cell_of (heap_call HB5.out hb) 1, cell_of (heap_call HB5.out hb) 2, cell_of (heap_call HB5.out hb) 3, cell_of (heap_call HB5.out hb) 4, Lib.hid hb⟩
            have sum := SUM.out
            rw [← N1.out, ← N2.out, ← N3.out, ← N4.out] at sum
            have hle := DL.out
            rw [← N1.out] at hle
            have hle2 : n4 ≤ n1 := by rw [N4.out, N1.out, HO.out]; exact List.length_filter_le _ _
            have hw1 : IntKind.i64.wrap ((n2 : Int) + (n3 : Int)) = (n2 : Int) + (n3 : Int) := by rw [IntKind.wrap_i64]; omega
            have hw2 : IntKind.i64.wrap ((n2 : Int) + (n3 : Int) - (n4 : Int)) = (n1 : Int) := by rw [IntKind.wrap_i64]; omega
            clear sum hle hle2
            go_wp2_with fail
            have hz := Lib.hid START.out
            replace hz := Lib.hid hz.out.drew
            refine wp_region_held_drew (S := fun w' => w'.cell? ⟨w3.heap.size, 0, none⟩ = some (.int .i64 off1) ∧ w'.cell? ⟨w3.heap.size, 1, none⟩ = some (.slice A1 m1 c1) ∧ w'.cell? ⟨w3.heap.size, 2, none⟩ = some (.int .i64 lo1) ∧ w'.cell? ⟨w3.heap.size, 3, none⟩ = some (.int .i64 hi1) ∧ w'.cell? ⟨w3.heap.size, 4, none⟩ = some (.int .i64 n1) ∧ w'.cell? ⟨w9.heap.size, 0, none⟩ = some (.int .i64 off2) ∧ w'.cell? ⟨w9.heap.size, 1, none⟩ = some (.slice A2 m2 c2) ∧ w'.cell? ⟨w9.heap.size, 2, none⟩ = some (.int .i64 lo2) ∧ w'.cell? ⟨w9.heap.size, 3, none⟩ = some (.int .i64 hi2) ∧ w'.cell? ⟨w9.heap.size, 4, none⟩ = some (.int .i64 n2) ∧ w'.cell? ⟨w10.heap.size, 0, none⟩ = some (.int .i64 off3) ∧ w'.cell? ⟨w10.heap.size, 1, none⟩ = some (.slice A3 m3 c3) ∧ w'.cell? ⟨w10.heap.size, 2, none⟩ = some (.int .i64 lo3) ∧ w'.cell? ⟨w10.heap.size, 3, none⟩ = some (.int .i64 hi3) ∧ w'.cell? ⟨w10.heap.size, 4, none⟩ = some (.int .i64 n3) ∧ w'.cell? ⟨w11.heap.size, 0, none⟩ = some (.int .i64 off4) ∧ w'.cell? ⟨w11.heap.size, 1, none⟩ = some (.slice A4 m4 c4) ∧ w'.cell? ⟨w11.heap.size, 2, none⟩ = some (.int .i64 lo4) ∧ w'.cell? ⟨w11.heap.size, 3, none⟩ = some (.int .i64 hi4) ∧ w'.cell? ⟨w11.heap.size, 4, none⟩ = some (.int .i64 n4) ∧ w'.cell? ⟨w12.heap.size, 0, none⟩ = some (.int .i64 off5) ∧ w'.cell? ⟨w12.heap.size, 1, none⟩ = some (.slice A5 m5 c5) ∧ w'.cell? ⟨w12.heap.size, 2, none⟩ = some (.int .i64 lo5) ∧ w'.cell? ⟨w12.heap.size, 3, none⟩ = some (.int .i64 hi5) ∧ w'.cell? ⟨w12.heap.size, 4, none⟩ = some (.int .i64 n5) ∧ Hid (Below (w12.alloc (.cells #[.int .i64 off5, .slice A5 m5 c5, .int .i64 lo5, .int .i64 hi5, .int .i64 n5] 25)).heap.size (w12.alloc (.cells #[.int .i64 off5, .slice A5 m5 c5, .int .i64 lo5, .int .i64 hi5, .int .i64 n5] 25)) w')) (by kernel_rfl) ?_ (fun hHeld => ?_)
            · exact SIX.out _ hz.out
            refine wpAnyH_take (i := 0) (oi := { dst := some 96, op := Op.load 25 (Operand.tmp 14), type := 25, pos := "law.go:157", after := #[], guard := none }) (v := ?_) rfl (by kernel_rfl) (by kernel_rfl) (by kernel_rfl) (fun _ _ _ h => h) (Or.inl ⟨by rfl, ?_⟩) (by assumption) ?_
            rotate_left
            · (intro w hSw; (try dsimp only at hSw); go_simp; first | done | with_reducible rfl)
            try simp only [Act.put, List.setIfInBounds_toArray, List.set_cons_zero, List.set_cons_succ]
            refine wpAnyH_take (i := 2) (oi := { dst := some 98, op := Op.load 25 (Operand.tmp 16), type := 25, pos := "law.go:157", after := #[], guard := none }) (v := ?_) rfl (by kernel_rfl) (by kernel_rfl) (by kernel_rfl) (fun _ _ _ h => h) (Or.inl ⟨by rfl, ?_⟩) (by assumption) ?_
            rotate_left
            · (intro w hSw; (try dsimp only at hSw); go_simp; first | done | with_reducible rfl)
            try simp only [Act.put, List.setIfInBounds_toArray, List.set_cons_zero, List.set_cons_succ]
            refine wpAnyH_take (i := 5) (oi := { dst := some 101, op := Op.load 25 (Operand.tmp 18), type := 25, pos := "law.go:157", after := #[], guard := none }) (v := ?_) rfl (by kernel_rfl) (by kernel_rfl) (by kernel_rfl) (fun _ _ _ h => h) (Or.inl ⟨by rfl, ?_⟩) (by assumption) ?_
            rotate_left
            · (intro w hSw; (try dsimp only at hSw); go_simp; first | done | with_reducible rfl)
            try simp only [Act.put, List.setIfInBounds_toArray, List.set_cons_zero, List.set_cons_succ]
            refine wpAnyH_ready (rs := [1]) (by kernel_rfl) (by simp) ?_
            refine AllReadyH.cons (o := { dst := some 97, op := Op.call { callee := Callee.value (Operand.func 21), args := #[Operand.tmp 96], argTypes := #[25] }, type := 3, pos := "law.go:157", after := #[{ on := 0, ground := Ground.data }], guard := none }) rfl (fun KK hKK => ?_) AllReadyH.nil
            go_simp
            refine (C2.out _ hz.out).mono ?_
            rintro e w' ⟨rfl, hb⟩
            replace hz := Lib.hid (below_call (w0 := (w12.alloc (.cells #[.int .i64 off5, .slice A5 m5 c5, .int .i64 lo5, .int .i64 hi5, .int .i64 n5] 25))) hz.out hb)
            clear hb
            go_wp2_with fail
            refine hKK.out _ _ ?_ (fun hHeld2 => ?_)
            · exact SIX.out _ hz.out
            clear hKK KK hHeld
            have hHeld := hHeld2
            clear hHeld2
            try simp only [Act.put, List.setIfInBounds_toArray, List.set_cons_zero, List.set_cons_succ]
            refine wpAnyH_ready (rs := [3]) (by kernel_rfl) (by simp) ?_
            refine AllReadyH.cons (o := { dst := some 99, op := Op.call { callee := Callee.value (Operand.func 21), args := #[Operand.tmp 98], argTypes := #[25] }, type := 3, pos := "law.go:157", after := #[{ on := 2, ground := Ground.data }, { on := 1, ground := Ground.chain }], guard := none }) rfl (fun KK hKK => ?_) AllReadyH.nil
            go_simp
            refine (C3.out _ hz.out).mono ?_
            rintro e w' ⟨rfl, hb⟩
            replace hz := Lib.hid (below_call (w0 := (w12.alloc (.cells #[.int .i64 off5, .slice A5 m5 c5, .int .i64 lo5, .int .i64 hi5, .int .i64 n5] 25))) hz.out hb)
            clear hb
            go_wp2_with fail
            refine hKK.out _ _ ?_ (fun hHeld2 => ?_)
            · exact SIX.out _ hz.out
            clear hKK KK hHeld
            have hHeld := hHeld2
            clear hHeld2
            try simp only [Act.put, List.setIfInBounds_toArray, List.set_cons_zero, List.set_cons_succ]
            refine wpAnyH_take (i := 4) (oi := { dst := some 100, op := Op.binOp BinOp.add 3 (Operand.tmp 97) (Operand.tmp 99) 3, type := 3, pos := "law.go:157", after := #[{ on := 1, ground := Ground.data }, { on := 3, ground := Ground.data }], guard := none }) (v := ?_) rfl (by kernel_rfl) (by kernel_rfl) (by kernel_rfl) (fun _ _ _ h => h) (Or.inl ⟨by rfl, ?_⟩) (by assumption) ?_
            rotate_left
            · (intro w hSw; (try dsimp only at hSw); go_simp; first | done | with_reducible rfl)
            try simp only [Act.put, List.setIfInBounds_toArray, List.set_cons_zero, List.set_cons_succ]
            refine wpAnyH_ready (rs := [6]) (by kernel_rfl) (by simp) ?_
            refine AllReadyH.cons (o := { dst := some 102, op := Op.call { callee := Callee.value (Operand.func 21), args := #[Operand.tmp 101], argTypes := #[25] }, type := 3, pos := "law.go:157", after := #[{ on := 5, ground := Ground.data }, { on := 3, ground := Ground.chain }], guard := none }) rfl (fun KK hKK => ?_) AllReadyH.nil
            go_simp
            refine (C4.out _ hz.out).mono ?_
            rintro e w' ⟨rfl, hb⟩
            replace hz := Lib.hid (below_call (w0 := (w12.alloc (.cells #[.int .i64 off5, .slice A5 m5 c5, .int .i64 lo5, .int .i64 hi5, .int .i64 n5] 25))) hz.out hb)
            clear hb
            go_wp2_with fail
            refine hKK.out _ _ ?_ (fun hHeld2 => ?_)
            · exact SIX.out _ hz.out
            clear hKK KK hHeld
            have hHeld := hHeld2
            clear hHeld2
            try simp only [Act.put, List.setIfInBounds_toArray, List.set_cons_zero, List.set_cons_succ]
            refine wpAnyH_take (i := 7) (oi := { dst := some 103, op := Op.binOp BinOp.sub 3 (Operand.tmp 100) (Operand.tmp 102) 3, type := 3, pos := "law.go:157", after := #[{ on := 4, ground := Ground.data }, { on := 6, ground := Ground.data }], guard := none }) (v := ?_) rfl (by kernel_rfl) (by kernel_rfl) (by kernel_rfl) (fun _ _ _ h => h) (Or.inl ⟨by rfl, ?_⟩) (by assumption) ?_
            rotate_left
            · (intro w hSw; (try dsimp only at hSw); go_simp; first | done | with_reducible rfl)
            try simp only [Act.put, List.setIfInBounds_toArray, List.set_cons_zero, List.set_cons_succ]
            refine wpAnyH_take (i := 8) (oi := { dst := some 22, op := Op.assign (Operand.tmp 103), type := 3, pos := "law.go:157", after := #[{ on := 7, ground := Ground.data }, { on := 6, ground := Ground.chain }, { on := 0, ground := Ground.phase }, { on := 1, ground := Ground.phase }, { on := 2, ground := Ground.phase }, { on := 3, ground := Ground.phase }, { on := 4, ground := Ground.phase }, { on := 5, ground := Ground.phase }, { on := 6, ground := Ground.phase }, { on := 7, ground := Ground.phase }], guard := none }) (v := ?_) rfl (by kernel_rfl) (by kernel_rfl) (by kernel_rfl) (fun _ _ _ h => h) (Or.inl ⟨by rfl, ?_⟩) (by assumption) ?_
            rotate_left
            · (intro w hSw; (try dsimp only at hSw); go_simp; first | done | with_reducible rfl)
            try simp only [Act.put, List.setIfInBounds_toArray, List.set_cons_zero, List.set_cons_succ]
            refine wpAnyH_done (by kernel_rfl) ?_ _
            clear hw1 hw2
            go_wp2_with fail
            obtain ⟨wz, rfl⟩ : ∃ z : World, z = w' := ⟨_, rfl⟩
            have KZ := below_call (w0 := w12) (below_alloc (Below.refl _ _) _) hz.out
            clear HB1_0 HB1_1 HB1_2 HB1_3 HB1_4 HB2_0 HB2_1 HB2_2 HB2_3 HB2_4 HB3_0 HB3_1 HB3_2 HB3_3 HB3_4 HB4_0 HB4_1 HB4_2 HB4_3 HB4_4 HB5_0 HB5_1 HB5_2 HB5_3 HB5_4
            replace HB1 := Lib.hid (heap_call (b := w3.heap.size) (o := .cells #[.int .i64 off1, .slice A1 m1 c1, .int .i64 lo1, .int .i64 hi1, .int .i64 n1] 25) HB1.out hz.out)
            have HB1_0 := cell_of HB1.out 0
            have HB1_1 := cell_of HB1.out 1
            have HB1_2 := cell_of HB1.out 2
            have HB1_3 := cell_of HB1.out 3
            have HB1_4 := cell_of HB1.out 4
            replace HB2 := Lib.hid (heap_call (b := w9.heap.size) (o := .cells #[.int .i64 off2, .slice A2 m2 c2, .int .i64 lo2, .int .i64 hi2, .int .i64 n2] 25) HB2.out hz.out)
            have HB2_0 := cell_of HB2.out 0
            have HB2_1 := cell_of HB2.out 1
            have HB2_2 := cell_of HB2.out 2
            have HB2_3 := cell_of HB2.out 3
            have HB2_4 := cell_of HB2.out 4
            replace HB3 := Lib.hid (heap_call (b := w10.heap.size) (o := .cells #[.int .i64 off3, .slice A3 m3 c3, .int .i64 lo3, .int .i64 hi3, .int .i64 n3] 25) HB3.out hz.out)
            have HB3_0 := cell_of HB3.out 0
            have HB3_1 := cell_of HB3.out 1
            have HB3_2 := cell_of HB3.out 2
            have HB3_3 := cell_of HB3.out 3
            have HB3_4 := cell_of HB3.out 4
            replace HB4 := Lib.hid (heap_call (b := w11.heap.size) (o := .cells #[.int .i64 off4, .slice A4 m4 c4, .int .i64 lo4, .int .i64 hi4, .int .i64 n4] 25) HB4.out hz.out)
            have HB4_0 := cell_of HB4.out 0
            have HB4_1 := cell_of HB4.out 1
            have HB4_2 := cell_of HB4.out 2
            have HB4_3 := cell_of HB4.out 3
            have HB4_4 := cell_of HB4.out 4
            replace HB5 := Lib.hid (heap_call (b := w12.heap.size) (o := .cells #[.int .i64 off5, .slice A5 m5 c5, .int .i64 lo5, .int .i64 hi5, .int .i64 n5] 25) HB5.out hz.out)
            have HB5_0 := cell_of HB5.out 0
            have HB5_1 := cell_of HB5.out 1
            have HB5_2 := cell_of HB5.out 2
            have HB5_3 := cell_of HB5.out 3
            have HB5_4 := cell_of HB5.out 4
            replace RT := Lib.hid (RT.out.call KZ)
            replace RX := Lib.hid (RX.out.call KZ)
            replace RD1 := Lib.hid (RD1.out.call KZ)
            replace RU := Lib.hid (RU.out.call KZ)
            replace RV := Lib.hid (RV.out.call KZ)
            replace RD2 := Lib.hid (RD2.out.call KZ)
            replace RD3 := Lib.hid (RD3.out.call KZ)
            replace RD4 := Lib.hid (RD4.out.call KZ)
            replace RD5 := Lib.hid (RD5.out.call KZ)
            replace BEL := Lib.hid (below_call (w0 := w) BEL.out KZ)
            clear KZ
            refine (law2_wakes _ (RT.out.call (by repeat (first | exact Below.refl _ _ | refine below_alloc ?_ _ | refine below_drewN ?_ _ | refine Below.drew ?_)))).mono ?_
            rintro e w21 ⟨rfl, hb⟩
            clear HB1_0 HB1_1 HB1_2 HB1_3 HB1_4 HB2_0 HB2_1 HB2_2 HB2_3 HB2_4 HB3_0 HB3_1 HB3_2 HB3_3 HB3_4 HB4_0 HB4_1 HB4_2 HB4_3 HB4_4 HB5_0 HB5_1 HB5_2 HB5_3 HB5_4
            replace HB1 := Lib.hid (heap_call (b := w3.heap.size) (o := .cells #[.int .i64 off1, .slice A1 m1 c1, .int .i64 lo1, .int .i64 hi1, .int .i64 n1] 25) (by repeat (first | exact HB1.out | refine heap_alloc ?_ _ | refine heap_drewN ?_ _ | refine heap_drew ?_)) hb)
            have HB1_0 := cell_of HB1.out 0
            have HB1_1 := cell_of HB1.out 1
            have HB1_2 := cell_of HB1.out 2
            have HB1_3 := cell_of HB1.out 3
            have HB1_4 := cell_of HB1.out 4
            replace HB2 := Lib.hid (heap_call (b := w9.heap.size) (o := .cells #[.int .i64 off2, .slice A2 m2 c2, .int .i64 lo2, .int .i64 hi2, .int .i64 n2] 25) (by repeat (first | exact HB2.out | refine heap_alloc ?_ _ | refine heap_drewN ?_ _ | refine heap_drew ?_)) hb)
            have HB2_0 := cell_of HB2.out 0
            have HB2_1 := cell_of HB2.out 1
            have HB2_2 := cell_of HB2.out 2
            have HB2_3 := cell_of HB2.out 3
            have HB2_4 := cell_of HB2.out 4
            replace HB3 := Lib.hid (heap_call (b := w10.heap.size) (o := .cells #[.int .i64 off3, .slice A3 m3 c3, .int .i64 lo3, .int .i64 hi3, .int .i64 n3] 25) (by repeat (first | exact HB3.out | refine heap_alloc ?_ _ | refine heap_drewN ?_ _ | refine heap_drew ?_)) hb)
            have HB3_0 := cell_of HB3.out 0
            have HB3_1 := cell_of HB3.out 1
            have HB3_2 := cell_of HB3.out 2
            have HB3_3 := cell_of HB3.out 3
            have HB3_4 := cell_of HB3.out 4
            replace HB4 := Lib.hid (heap_call (b := w11.heap.size) (o := .cells #[.int .i64 off4, .slice A4 m4 c4, .int .i64 lo4, .int .i64 hi4, .int .i64 n4] 25) (by repeat (first | exact HB4.out | refine heap_alloc ?_ _ | refine heap_drewN ?_ _ | refine heap_drew ?_)) hb)
            have HB4_0 := cell_of HB4.out 0
            have HB4_1 := cell_of HB4.out 1
            have HB4_2 := cell_of HB4.out 2
            have HB4_3 := cell_of HB4.out 3
            have HB4_4 := cell_of HB4.out 4
            replace HB5 := Lib.hid (heap_call (b := w12.heap.size) (o := .cells #[.int .i64 off5, .slice A5 m5 c5, .int .i64 lo5, .int .i64 hi5, .int .i64 n5] 25) (by repeat (first | exact HB5.out | refine heap_alloc ?_ _ | refine heap_drewN ?_ _ | refine heap_drew ?_)) hb)
            have HB5_0 := cell_of HB5.out 0
            have HB5_1 := cell_of HB5.out 1
            have HB5_2 := cell_of HB5.out 2
            have HB5_3 := cell_of HB5.out 3
            have HB5_4 := cell_of HB5.out 4
            have K := below_call (w0 := wz) (by repeat (first | exact Below.refl _ _ | refine below_alloc ?_ _ | refine below_drewN ?_ _ | refine Below.drew ?_)) hb
            replace RT := Lib.hid (RT.out.call K)
            replace RX := Lib.hid (RX.out.call K)
            replace RD1 := Lib.hid (RD1.out.call K)
            replace RU := Lib.hid (RU.out.call K)
            replace RV := Lib.hid (RV.out.call K)
            replace RD2 := Lib.hid (RD2.out.call K)
            replace RD3 := Lib.hid (RD3.out.call K)
            replace RD4 := Lib.hid (RD4.out.call K)
            replace RD5 := Lib.hid (RD5.out.call K)
            replace BEL := Lib.hid (below_call (w0 := w) BEL.out K)
            clear hb K
            go_wp2_with fail
            refine (dom_list _ d _ (RD1.out.call (by repeat (first | exact Below.refl _ _ | refine below_alloc ?_ _ | refine below_drewN ?_ _ | refine Below.drew ?_))) (RT.out.call (by repeat (first | exact Below.refl _ _ | refine below_alloc ?_ _ | refine below_drewN ?_ _ | refine Below.drew ?_)))).mono ?_
            rintro e w22 ⟨sl, rfl, hso, hb⟩
            clear HB1_0 HB1_1 HB1_2 HB1_3 HB1_4 HB2_0 HB2_1 HB2_2 HB2_3 HB2_4 HB3_0 HB3_1 HB3_2 HB3_3 HB3_4 HB4_0 HB4_1 HB4_2 HB4_3 HB4_4 HB5_0 HB5_1 HB5_2 HB5_3 HB5_4
            replace HB1 := Lib.hid (heap_call (b := w3.heap.size) (o := .cells #[.int .i64 off1, .slice A1 m1 c1, .int .i64 lo1, .int .i64 hi1, .int .i64 n1] 25) (by repeat (first | exact HB1.out | refine heap_alloc ?_ _ | refine heap_drewN ?_ _ | refine heap_drew ?_)) hb)
            have HB1_0 := cell_of HB1.out 0
            have HB1_1 := cell_of HB1.out 1
            have HB1_2 := cell_of HB1.out 2
            have HB1_3 := cell_of HB1.out 3
            have HB1_4 := cell_of HB1.out 4
            replace HB2 := Lib.hid (heap_call (b := w9.heap.size) (o := .cells #[.int .i64 off2, .slice A2 m2 c2, .int .i64 lo2, .int .i64 hi2, .int .i64 n2] 25) (by repeat (first | exact HB2.out | refine heap_alloc ?_ _ | refine heap_drewN ?_ _ | refine heap_drew ?_)) hb)
            have HB2_0 := cell_of HB2.out 0
            have HB2_1 := cell_of HB2.out 1
            have HB2_2 := cell_of HB2.out 2
            have HB2_3 := cell_of HB2.out 3
            have HB2_4 := cell_of HB2.out 4
            replace HB3 := Lib.hid (heap_call (b := w10.heap.size) (o := .cells #[.int .i64 off3, .slice A3 m3 c3, .int .i64 lo3, .int .i64 hi3, .int .i64 n3] 25) (by repeat (first | exact HB3.out | refine heap_alloc ?_ _ | refine heap_drewN ?_ _ | refine heap_drew ?_)) hb)
            have HB3_0 := cell_of HB3.out 0
            have HB3_1 := cell_of HB3.out 1
            have HB3_2 := cell_of HB3.out 2
            have HB3_3 := cell_of HB3.out 3
            have HB3_4 := cell_of HB3.out 4
            replace HB4 := Lib.hid (heap_call (b := w11.heap.size) (o := .cells #[.int .i64 off4, .slice A4 m4 c4, .int .i64 lo4, .int .i64 hi4, .int .i64 n4] 25) (by repeat (first | exact HB4.out | refine heap_alloc ?_ _ | refine heap_drewN ?_ _ | refine heap_drew ?_)) hb)
            have HB4_0 := cell_of HB4.out 0
            have HB4_1 := cell_of HB4.out 1
            have HB4_2 := cell_of HB4.out 2
            have HB4_3 := cell_of HB4.out 3
            have HB4_4 := cell_of HB4.out 4
            replace HB5 := Lib.hid (heap_call (b := w12.heap.size) (o := .cells #[.int .i64 off5, .slice A5 m5 c5, .int .i64 lo5, .int .i64 hi5, .int .i64 n5] 25) (by repeat (first | exact HB5.out | refine heap_alloc ?_ _ | refine heap_drewN ?_ _ | refine heap_drew ?_)) hb)
            have HB5_0 := cell_of HB5.out 0
            have HB5_1 := cell_of HB5.out 1
            have HB5_2 := cell_of HB5.out 2
            have HB5_3 := cell_of HB5.out 3
            have HB5_4 := cell_of HB5.out 4
            have K := below_call (w0 := w21) (by repeat (first | exact Below.refl _ _ | refine below_alloc ?_ _ | refine below_drewN ?_ _ | refine Below.drew ?_)) hb
            replace RT := Lib.hid (RT.out.call K)
            replace RX := Lib.hid (RX.out.call K)
            replace RD1 := Lib.hid (RD1.out.call K)
            replace RU := Lib.hid (RU.out.call K)
            replace RV := Lib.hid (RV.out.call K)
            replace RD2 := Lib.hid (RD2.out.call K)
            replace RD3 := Lib.hid (RD3.out.call K)
            replace RD4 := Lib.hid (RD4.out.call K)
            replace RD5 := Lib.hid (RD5.out.call K)
            replace BEL := Lib.hid (below_call (w0 := w) BEL.out K)
            clear hb K
            have HSL := Lib.hid hso.sl
            clear hso
            go_wp2_with fail
            refine (go_equal _ sl d d _ (RU.out.call (by repeat (first | exact Below.refl _ _ | refine below_alloc ?_ _ | refine below_drewN ?_ _ | refine Below.drew ?_))) (HSL.out.call (by repeat (first | exact Below.refl _ _ | refine below_alloc ?_ _ | refine below_drewN ?_ _ | refine Below.drew ?_)))).mono ?_
            rintro e w23 ⟨rfl, hb⟩
            clear HB1_0 HB1_1 HB1_2 HB1_3 HB1_4 HB2_0 HB2_1 HB2_2 HB2_3 HB2_4 HB3_0 HB3_1 HB3_2 HB3_3 HB3_4 HB4_0 HB4_1 HB4_2 HB4_3 HB4_4 HB5_0 HB5_1 HB5_2 HB5_3 HB5_4
            replace HB1 := Lib.hid (heap_call (b := w3.heap.size) (o := .cells #[.int .i64 off1, .slice A1 m1 c1, .int .i64 lo1, .int .i64 hi1, .int .i64 n1] 25) (by repeat (first | exact HB1.out | refine heap_alloc ?_ _ | refine heap_drewN ?_ _ | refine heap_drew ?_)) hb)
            have HB1_0 := cell_of HB1.out 0
            have HB1_1 := cell_of HB1.out 1
            have HB1_2 := cell_of HB1.out 2
            have HB1_3 := cell_of HB1.out 3
            have HB1_4 := cell_of HB1.out 4
            replace HB2 := Lib.hid (heap_call (b := w9.heap.size) (o := .cells #[.int .i64 off2, .slice A2 m2 c2, .int .i64 lo2, .int .i64 hi2, .int .i64 n2] 25) (by repeat (first | exact HB2.out | refine heap_alloc ?_ _ | refine heap_drewN ?_ _ | refine heap_drew ?_)) hb)
            have HB2_0 := cell_of HB2.out 0
            have HB2_1 := cell_of HB2.out 1
            have HB2_2 := cell_of HB2.out 2
            have HB2_3 := cell_of HB2.out 3
            have HB2_4 := cell_of HB2.out 4
            replace HB3 := Lib.hid (heap_call (b := w10.heap.size) (o := .cells #[.int .i64 off3, .slice A3 m3 c3, .int .i64 lo3, .int .i64 hi3, .int .i64 n3] 25) (by repeat (first | exact HB3.out | refine heap_alloc ?_ _ | refine heap_drewN ?_ _ | refine heap_drew ?_)) hb)
            have HB3_0 := cell_of HB3.out 0
            have HB3_1 := cell_of HB3.out 1
            have HB3_2 := cell_of HB3.out 2
            have HB3_3 := cell_of HB3.out 3
            have HB3_4 := cell_of HB3.out 4
            replace HB4 := Lib.hid (heap_call (b := w11.heap.size) (o := .cells #[.int .i64 off4, .slice A4 m4 c4, .int .i64 lo4, .int .i64 hi4, .int .i64 n4] 25) (by repeat (first | exact HB4.out | refine heap_alloc ?_ _ | refine heap_drewN ?_ _ | refine heap_drew ?_)) hb)
            have HB4_0 := cell_of HB4.out 0
            have HB4_1 := cell_of HB4.out 1
            have HB4_2 := cell_of HB4.out 2
            have HB4_3 := cell_of HB4.out 3
            have HB4_4 := cell_of HB4.out 4
            replace HB5 := Lib.hid (heap_call (b := w12.heap.size) (o := .cells #[.int .i64 off5, .slice A5 m5 c5, .int .i64 lo5, .int .i64 hi5, .int .i64 n5] 25) (by repeat (first | exact HB5.out | refine heap_alloc ?_ _ | refine heap_drewN ?_ _ | refine heap_drew ?_)) hb)
            have HB5_0 := cell_of HB5.out 0
            have HB5_1 := cell_of HB5.out 1
            have HB5_2 := cell_of HB5.out 2
            have HB5_3 := cell_of HB5.out 3
            have HB5_4 := cell_of HB5.out 4
            have K := below_call (w0 := w22) (by repeat (first | exact Below.refl _ _ | refine below_alloc ?_ _ | refine below_drewN ?_ _ | refine Below.drew ?_)) hb
            replace RT := Lib.hid (RT.out.call K)
            replace RX := Lib.hid (RX.out.call K)
            replace RD1 := Lib.hid (RD1.out.call K)
            replace RU := Lib.hid (RU.out.call K)
            replace RV := Lib.hid (RV.out.call K)
            replace RD2 := Lib.hid (RD2.out.call K)
            replace RD3 := Lib.hid (RD3.out.call K)
            replace RD4 := Lib.hid (RD4.out.call K)
            replace RD5 := Lib.hid (RD5.out.call K)
            replace BEL := Lib.hid (below_call (w0 := w) BEL.out K)
            clear hb K
            rw [decide_eq_true (rfl : d = d)]
            go_wp2_with fail
            refine (go_equal _ _ d d _ (RV.out.call (by repeat (first | exact Below.refl _ _ | refine below_alloc ?_ _ | refine below_drewN ?_ _ | refine Below.drew ?_))) (RU.out.call (by repeat (first | exact Below.refl _ _ | refine below_alloc ?_ _ | refine below_drewN ?_ _ | refine Below.drew ?_)))).mono ?_
            rintro e w24 ⟨rfl, hb⟩
            clear HB1_0 HB1_1 HB1_2 HB1_3 HB1_4 HB2_0 HB2_1 HB2_2 HB2_3 HB2_4 HB3_0 HB3_1 HB3_2 HB3_3 HB3_4 HB4_0 HB4_1 HB4_2 HB4_3 HB4_4 HB5_0 HB5_1 HB5_2 HB5_3 HB5_4
            replace HB1 := Lib.hid (heap_call (b := w3.heap.size) (o := .cells #[.int .i64 off1, .slice A1 m1 c1, .int .i64 lo1, .int .i64 hi1, .int .i64 n1] 25) (by repeat (first | exact HB1.out | refine heap_alloc ?_ _ | refine heap_drewN ?_ _ | refine heap_drew ?_)) hb)
            have HB1_0 := cell_of HB1.out 0
            have HB1_1 := cell_of HB1.out 1
            have HB1_2 := cell_of HB1.out 2
            have HB1_3 := cell_of HB1.out 3
            have HB1_4 := cell_of HB1.out 4
            replace HB2 := Lib.hid (heap_call (b := w9.heap.size) (o := .cells #[.int .i64 off2, .slice A2 m2 c2, .int .i64 lo2, .int .i64 hi2, .int .i64 n2] 25) (by repeat (first | exact HB2.out | refine heap_alloc ?_ _ | refine heap_drewN ?_ _ | refine heap_drew ?_)) hb)
            have HB2_0 := cell_of HB2.out 0
            have HB2_1 := cell_of HB2.out 1
            have HB2_2 := cell_of HB2.out 2
            have HB2_3 := cell_of HB2.out 3
            have HB2_4 := cell_of HB2.out 4
            replace HB3 := Lib.hid (heap_call (b := w10.heap.size) (o := .cells #[.int .i64 off3, .slice A3 m3 c3, .int .i64 lo3, .int .i64 hi3, .int .i64 n3] 25) (by repeat (first | exact HB3.out | refine heap_alloc ?_ _ | refine heap_drewN ?_ _ | refine heap_drew ?_)) hb)
            have HB3_0 := cell_of HB3.out 0
            have HB3_1 := cell_of HB3.out 1
            have HB3_2 := cell_of HB3.out 2
            have HB3_3 := cell_of HB3.out 3
            have HB3_4 := cell_of HB3.out 4
            replace HB4 := Lib.hid (heap_call (b := w11.heap.size) (o := .cells #[.int .i64 off4, .slice A4 m4 c4, .int .i64 lo4, .int .i64 hi4, .int .i64 n4] 25) (by repeat (first | exact HB4.out | refine heap_alloc ?_ _ | refine heap_drewN ?_ _ | refine heap_drew ?_)) hb)
            have HB4_0 := cell_of HB4.out 0
            have HB4_1 := cell_of HB4.out 1
            have HB4_2 := cell_of HB4.out 2
            have HB4_3 := cell_of HB4.out 3
            have HB4_4 := cell_of HB4.out 4
            replace HB5 := Lib.hid (heap_call (b := w12.heap.size) (o := .cells #[.int .i64 off5, .slice A5 m5 c5, .int .i64 lo5, .int .i64 hi5, .int .i64 n5] 25) (by repeat (first | exact HB5.out | refine heap_alloc ?_ _ | refine heap_drewN ?_ _ | refine heap_drew ?_)) hb)
            have HB5_0 := cell_of HB5.out 0
            have HB5_1 := cell_of HB5.out 1
            have HB5_2 := cell_of HB5.out 2
            have HB5_3 := cell_of HB5.out 3
            have HB5_4 := cell_of HB5.out 4
            have K := below_call (w0 := w23) (by repeat (first | exact Below.refl _ _ | refine below_alloc ?_ _ | refine below_drewN ?_ _ | refine Below.drew ?_)) hb
            replace RT := Lib.hid (RT.out.call K)
            replace RX := Lib.hid (RX.out.call K)
            replace RD1 := Lib.hid (RD1.out.call K)
            replace RU := Lib.hid (RU.out.call K)
            replace RV := Lib.hid (RV.out.call K)
            replace RD2 := Lib.hid (RD2.out.call K)
            replace RD3 := Lib.hid (RD3.out.call K)
            replace RD4 := Lib.hid (RD4.out.call K)
            replace RD5 := Lib.hid (RD5.out.call K)
            replace BEL := Lib.hid (below_call (w0 := w) BEL.out K)
            clear hb K
            rw [decide_eq_true (rfl : d = d)]
            go_wp2_with fail
            refine (dom_equal _ _ o o _ (RD4.out.call (by repeat (first | exact Below.refl _ _ | refine below_alloc ?_ _ | refine below_drewN ?_ _ | refine Below.drew ?_))) (RD5.out.call (by repeat (first | exact Below.refl _ _ | refine below_alloc ?_ _ | refine below_drewN ?_ _ | refine Below.drew ?_))) (RT.out.call (by repeat (first | exact Below.refl _ _ | refine below_alloc ?_ _ | refine below_drewN ?_ _ | refine Below.drew ?_)))).mono ?_
            rintro e w25 ⟨rfl, hb⟩
            clear HB1_0 HB1_1 HB1_2 HB1_3 HB1_4 HB2_0 HB2_1 HB2_2 HB2_3 HB2_4 HB3_0 HB3_1 HB3_2 HB3_3 HB3_4 HB4_0 HB4_1 HB4_2 HB4_3 HB4_4 HB5_0 HB5_1 HB5_2 HB5_3 HB5_4
            replace HB1 := Lib.hid (heap_call (b := w3.heap.size) (o := .cells #[.int .i64 off1, .slice A1 m1 c1, .int .i64 lo1, .int .i64 hi1, .int .i64 n1] 25) (by repeat (first | exact HB1.out | refine heap_alloc ?_ _ | refine heap_drewN ?_ _ | refine heap_drew ?_)) hb)
            have HB1_0 := cell_of HB1.out 0
            have HB1_1 := cell_of HB1.out 1
            have HB1_2 := cell_of HB1.out 2
            have HB1_3 := cell_of HB1.out 3
            have HB1_4 := cell_of HB1.out 4
            replace HB2 := Lib.hid (heap_call (b := w9.heap.size) (o := .cells #[.int .i64 off2, .slice A2 m2 c2, .int .i64 lo2, .int .i64 hi2, .int .i64 n2] 25) (by repeat (first | exact HB2.out | refine heap_alloc ?_ _ | refine heap_drewN ?_ _ | refine heap_drew ?_)) hb)
            have HB2_0 := cell_of HB2.out 0
            have HB2_1 := cell_of HB2.out 1
            have HB2_2 := cell_of HB2.out 2
            have HB2_3 := cell_of HB2.out 3
            have HB2_4 := cell_of HB2.out 4
            replace HB3 := Lib.hid (heap_call (b := w10.heap.size) (o := .cells #[.int .i64 off3, .slice A3 m3 c3, .int .i64 lo3, .int .i64 hi3, .int .i64 n3] 25) (by repeat (first | exact HB3.out | refine heap_alloc ?_ _ | refine heap_drewN ?_ _ | refine heap_drew ?_)) hb)
            have HB3_0 := cell_of HB3.out 0
            have HB3_1 := cell_of HB3.out 1
            have HB3_2 := cell_of HB3.out 2
            have HB3_3 := cell_of HB3.out 3
            have HB3_4 := cell_of HB3.out 4
            replace HB4 := Lib.hid (heap_call (b := w11.heap.size) (o := .cells #[.int .i64 off4, .slice A4 m4 c4, .int .i64 lo4, .int .i64 hi4, .int .i64 n4] 25) (by repeat (first | exact HB4.out | refine heap_alloc ?_ _ | refine heap_drewN ?_ _ | refine heap_drew ?_)) hb)
            have HB4_0 := cell_of HB4.out 0
            have HB4_1 := cell_of HB4.out 1
            have HB4_2 := cell_of HB4.out 2
            have HB4_3 := cell_of HB4.out 3
            have HB4_4 := cell_of HB4.out 4
            replace HB5 := Lib.hid (heap_call (b := w12.heap.size) (o := .cells #[.int .i64 off5, .slice A5 m5 c5, .int .i64 lo5, .int .i64 hi5, .int .i64 n5] 25) (by repeat (first | exact HB5.out | refine heap_alloc ?_ _ | refine heap_drewN ?_ _ | refine heap_drew ?_)) hb)
            have HB5_0 := cell_of HB5.out 0
            have HB5_1 := cell_of HB5.out 1
            have HB5_2 := cell_of HB5.out 2
            have HB5_3 := cell_of HB5.out 3
            have HB5_4 := cell_of HB5.out 4
            have K := below_call (w0 := w24) (by repeat (first | exact Below.refl _ _ | refine below_alloc ?_ _ | refine below_drewN ?_ _ | refine Below.drew ?_)) hb
            replace RT := Lib.hid (RT.out.call K)
            replace RX := Lib.hid (RX.out.call K)
            replace RD1 := Lib.hid (RD1.out.call K)
            replace RU := Lib.hid (RU.out.call K)
            replace RV := Lib.hid (RV.out.call K)
            replace RD2 := Lib.hid (RD2.out.call K)
            replace RD3 := Lib.hid (RD3.out.call K)
            replace RD4 := Lib.hid (RD4.out.call K)
            replace RD5 := Lib.hid (RD5.out.call K)
            replace BEL := Lib.hid (below_call (w0 := w) BEL.out K)
            clear hb K
            rw [decide_eq_true (rfl : o = o)]
            go_wp2_with fail
            refine (dom_size _ d _ (RD1.out.call (by repeat (first | exact Below.refl _ _ | refine below_alloc ?_ _ | refine below_drewN ?_ _ | refine Below.drew ?_)))).mono ?_
            rintro e w26 ⟨rfl, hb⟩
            clear HB1_0 HB1_1 HB1_2 HB1_3 HB1_4 HB2_0 HB2_1 HB2_2 HB2_3 HB2_4 HB3_0 HB3_1 HB3_2 HB3_3 HB3_4 HB4_0 HB4_1 HB4_2 HB4_3 HB4_4 HB5_0 HB5_1 HB5_2 HB5_3 HB5_4
            replace HB1 := Lib.hid (heap_call (b := w3.heap.size) (o := .cells #[.int .i64 off1, .slice A1 m1 c1, .int .i64 lo1, .int .i64 hi1, .int .i64 n1] 25) (by repeat (first | exact HB1.out | refine heap_alloc ?_ _ | refine heap_drewN ?_ _ | refine heap_drew ?_)) hb)
            have HB1_0 := cell_of HB1.out 0
            have HB1_1 := cell_of HB1.out 1
            have HB1_2 := cell_of HB1.out 2
            have HB1_3 := cell_of HB1.out 3
            have HB1_4 := cell_of HB1.out 4
            replace HB2 := Lib.hid (heap_call (b := w9.heap.size) (o := .cells #[.int .i64 off2, .slice A2 m2 c2, .int .i64 lo2, .int .i64 hi2, .int .i64 n2] 25) (by repeat (first | exact HB2.out | refine heap_alloc ?_ _ | refine heap_drewN ?_ _ | refine heap_drew ?_)) hb)
            have HB2_0 := cell_of HB2.out 0
            have HB2_1 := cell_of HB2.out 1
            have HB2_2 := cell_of HB2.out 2
            have HB2_3 := cell_of HB2.out 3
            have HB2_4 := cell_of HB2.out 4
            replace HB3 := Lib.hid (heap_call (b := w10.heap.size) (o := .cells #[.int .i64 off3, .slice A3 m3 c3, .int .i64 lo3, .int .i64 hi3, .int .i64 n3] 25) (by repeat (first | exact HB3.out | refine heap_alloc ?_ _ | refine heap_drewN ?_ _ | refine heap_drew ?_)) hb)
            have HB3_0 := cell_of HB3.out 0
            have HB3_1 := cell_of HB3.out 1
            have HB3_2 := cell_of HB3.out 2
            have HB3_3 := cell_of HB3.out 3
            have HB3_4 := cell_of HB3.out 4
            replace HB4 := Lib.hid (heap_call (b := w11.heap.size) (o := .cells #[.int .i64 off4, .slice A4 m4 c4, .int .i64 lo4, .int .i64 hi4, .int .i64 n4] 25) (by repeat (first | exact HB4.out | refine heap_alloc ?_ _ | refine heap_drewN ?_ _ | refine heap_drew ?_)) hb)
            have HB4_0 := cell_of HB4.out 0
            have HB4_1 := cell_of HB4.out 1
            have HB4_2 := cell_of HB4.out 2
            have HB4_3 := cell_of HB4.out 3
            have HB4_4 := cell_of HB4.out 4
            replace HB5 := Lib.hid (heap_call (b := w12.heap.size) (o := .cells #[.int .i64 off5, .slice A5 m5 c5, .int .i64 lo5, .int .i64 hi5, .int .i64 n5] 25) (by repeat (first | exact HB5.out | refine heap_alloc ?_ _ | refine heap_drewN ?_ _ | refine heap_drew ?_)) hb)
            have HB5_0 := cell_of HB5.out 0
            have HB5_1 := cell_of HB5.out 1
            have HB5_2 := cell_of HB5.out 2
            have HB5_3 := cell_of HB5.out 3
            have HB5_4 := cell_of HB5.out 4
            have K := below_call (w0 := w25) (by repeat (first | exact Below.refl _ _ | refine below_alloc ?_ _ | refine below_drewN ?_ _ | refine Below.drew ?_)) hb
            replace RT := Lib.hid (RT.out.call K)
            replace RX := Lib.hid (RX.out.call K)
            replace RD1 := Lib.hid (RD1.out.call K)
            replace RU := Lib.hid (RU.out.call K)
            replace RV := Lib.hid (RV.out.call K)
            replace RD2 := Lib.hid (RD2.out.call K)
            replace RD3 := Lib.hid (RD3.out.call K)
            replace RD4 := Lib.hid (RD4.out.call K)
            replace RD5 := Lib.hid (RD5.out.call K)
            replace BEL := Lib.hid (below_call (w0 := w) BEL.out K)
            clear hb K
            rw [← N1.out]
            go_wp2_with fail
            go_ret
            exact ⟨rfl, below_call (w0 := w) BEL.out (by repeat (first | exact Below.refl _ _ | refine below_alloc ?_ _ | refine below_drewN ?_ _ | refine Below.drew ?_))⟩
          · obtain ⟨i, rfl⟩ : ∃ i, gk = i + 1 := ⟨gk - 1, by omega⟩
            have TN : Hid ((Rf.prev d (Rf.ahead d (i + 1))).getD 0 = Rf.ahead d i ∧ (Rf.prev d (Rf.ahead d (i + 1))).isSome = decide (0 < i)) := Lib.hid (Rf.take_prev d SO.out i (by rw [← N1.out]; exact hk))
            have TS : Hid ((d.drop i).reverse = (d.drop (i + 1)).reverse ++ [Rf.ahead d (i + 1)]) := Lib.hid (Rf.drop_step d i (by rw [← N1.out]; exact hk))
            have HL8 := Lib.hid hl8
            rw [hl8, decide_eq_true h0]
            obtain ⟨q, hq⟩ : ∃ q, q = n1 - (i + 1) := ⟨_, rfl⟩
            have HQ := Lib.hid hq
            rw [← hq]
            have hq50 : (q : Int) < 50 := by omega
            have hlt : (d.drop (i + 1)).reverse.length < 17000000000000 := by rw [hl8]; omega
            clear hl8 hq
            go_wp2_with (at_builtin; refine wpList_append_int wr rfl _ _ rfl w5.heap.size _ _ (by show _ = Value.slice A8 (d.drop (i + 1)).reverse.length c8; rw [HL8.out, ← HQ.out]; rfl) (by exact H.out.own) H.out.below.size _ rfl (by exact hlt) ?_; intro s2 wa happ; have H2 := Lib.hid (H.out.app happ); have hbx := heap_call HB1.out H2.out.below; have k0 := cell_of hbx 0; have k1 := cell_of hbx 1; have k2 := cell_of hbx 2; have k3 := cell_of hbx 3; have k4 := cell_of hbx 4; clear happ hbx)
            refine (dom_prev _ d (Rf.ahead d (i + 1)) _ (RD1.out.call H2.out.below)).mono ?_
            rintro e wb ⟨rfl, hb⟩
            rw [TN.out.1, TN.out.2]
            go_wp2_with fail
            go_roundg i
            case measure => omega
            case rel => exact ⟨by omega, rfl, rfl, by rw [TS.out]; exact ⟨H2.out.own.call hb, below_call H2.out.below hb⟩⟩
  · have hcb : (ce != 0) = true := bne_iff_ne.2 hc
    clear hc
    go_wp2_with fail
    refine (law2_wakes _ (RT.out.call (by repeat (first | exact Below.refl _ _ | refine below_alloc ?_ _ | refine below_drewN ?_ _ | refine Below.drew ?_)))).mono ?_
    rintro e w4 ⟨rfl, hb⟩
    have BE := Lib.hid (below_call (w0 := w) BEL.out (below_call (w0 := w3) (by repeat (first | exact Below.refl _ _ | refine below_alloc ?_ _ | refine below_drewN ?_ _ | refine Below.drew ?_)) hb))
    go_wp2_with fail
    go_ret
    exact ⟨rfl, BE.out⟩
end Go.Proofs.YtdbjljbkneopcaaDoor
