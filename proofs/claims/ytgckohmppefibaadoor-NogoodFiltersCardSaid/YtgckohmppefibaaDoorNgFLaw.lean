import Derived.Test.YtgckohmppefibaaDoorNgRFilt
import Derived.Test.YtgckohmppefibaaDoorNgAdds
namespace Go.Proofs.YtgckohmppefibaaDoorX.Hz
open Go.RowKit Go.Proofs.YtgckohmppefibaaDoorW.PrintWords Go.Proofs.YtgckohmppefibaaDoorW.PrintLast Go.Proofs.YtgckohmppefibaaDoorW.PrintMore
attribute [local go_sem] max2_int min2_int max_two min_two max_three min_three max_four min_four
set_option linter.unusedVariables false
set_option linter.unusedSimpArgs false
attribute [local go_sem] Go.Proofs.YtgckohmppefibaaDoor.Hook.cell_two
/-- The document's Add, of pairs. -/
theorem refAddQ {wr : World} {L : List (List (Int × Int))} {A : Option Addr} {c : Nat} {okr : Nat → Prop} (hF : Kd.F (Kd.slice 84 k84) wr okr A L.length (L.map (List.map un84))) (hc : L.length ≤ c) (n most : Nat) (hn : n ≤ 100) (hm : most ≤ 100) (hL : LOk L n most) (P : List (Int × Int)) (hP : P.length ≤ most) (Ay : Option Addr) (cy : Nat) (hy : Kd.C k84 wr Ay P.length (P.map un84)) (hcy : P.length ≤ cy) :
    Calls Tryd.prog 15 #[.slice A L.length c, .slice Ay P.length cy] wr fun e w' => ∃ A' c', e = .returned (.tuple #[.slice A' (addP L (Go.Proofs.YtgckohmppefibaaDoor.Ng.mk P)).1.length c', .bool (addP L (Go.Proofs.YtgckohmppefibaaDoor.Ng.mk P)).2]) ∧ Kd.F (Kd.slice 84 k84) w' (fun k => okr k ∨ wr.heap.size ≤ k) A' (addP L (Go.Proofs.YtgckohmppefibaaDoor.Ng.mk P)).1.length ((addP L (Go.Proofs.YtgckohmppefibaaDoor.Ng.mk P)).1.map (List.map un84)) ∧ (addP L (Go.Proofs.YtgckohmppefibaaDoor.Ng.mk P)).1.length ≤ c' ∧ Below wr.heap.size wr w' := by
  have hmk := Nat.le_trans (mk_len P) hP
  have hlen : (L.map (List.map un84)).length = L.length := List.length_map _
  have hlp : (P.map un84).length = P.length := List.length_map _
  have := refAdd A c (L.map (List.map un84)) Ay cy (P.map un84) okr wr (by rw [hlen]; exact hF) (by rw [hlen]; exact hc) (by rw [hlen]; have := hL.len; omega) (by rw [hlp]; exact hy) (by rw [hlp]; exact hcy) ((Go.Proofs.YtgckohmppefibaaDoor.Ng.mk P).map un84) W84 20000 (made84 P (by omega) 20000 (by have : P.length * (P.length + 3) ≤ 100 * 103 := Nat.mul_le_mul (by omega) (by omega); omega))
    (fun x hx => by
      obtain ⟨q, hq, rfl⟩ := List.mem_map.1 hx
      rw [W84_un]
      have := hL.short q hq
      exact within84 q _ (by omega) (by omega) 20000 (by omega))
    (fun x hx => by
      obtain ⟨q, hq, rfl⟩ := List.mem_map.1 hx
      rw [W84_un]
      have := hL.short q hq
      exact within84 _ q (by omega) (by omega) 20000 (by omega))
  rw [addR_P, hlen, hlp] at this
  refine this.mono ?_
  rintro e w' ⟨A', c', rfl, h1, h2, h3⟩
  simp only [List.length_map] at h1 h2 ⊢
  exact ⟨A', c', rfl, h1, h2, h3⟩
/-- lits, both rows kept. -/
theorem litsRR (w : World) (A : Option Addr) (c : Nat) (l : List S27) (most : Nat) (hm : most ≤ 100) (hr : Kd.C k27 w A l.length l) (hc : l.length ≤ c) :
    Calls Tryd.prog 13 #[.slice A l.length c, .int .i64 (most : Int)] w fun e w' => ∃ Ax cx Ay cy, e = .returned (.tuple #[.slice Ax ((l.take most).map de).length cx, .slice Ay ((l.take most).map de).length cy]) ∧ Kd.C k29 w' Ax ((l.take most).map de).length (((l.take most).map de).map un29) ∧ Kd.R k84 84 w' w.heap.size (fun k => w.heap.size ≤ k ∧ k < w'.heap.size) (.slice Ay ((l.take most).map de).length cy) (((l.take most).map de).map un84) ∧ Below w.heap.size w w' := by
  refine (jigsawlaw24_lits.calls (most + 1) A c l most _ _ w hr hc (lits_pure l most (by omega) (most + 1) (Nat.le_refl _))).mono ?_
  rintro e w' ⟨v0, v1, rfl, h0, h1, hb⟩
  obtain ⟨Ax, cx, rfl, _, hX⟩ := Kd.R_reads h0
  obtain ⟨Ay, cy, rfl⟩ := Kd.R_slice h1
  have h2 := Kd.R_mono (Kd.R_bound h1) (ok' := fun k => w.heap.size ≤ k ∧ k < w'.heap.size) (fun k hk => ⟨hk.2.1, hk.2.2.1⟩)
  simp only [List.length_map] at hX h2 ⊢
  exact ⟨Ax, cx, Ay, cy, rfl, hX, h2, hb⟩
/-- Behind Base.Add, then the document's. -/
theorem AI.added2 {w0 : World} {g : Nat} {wr w2 w3 w4 : World} {L L' : List (List (Int × Int))} {v : Value} {F okr : Nat → Prop} (h : AI w0 g wr L v F okr) (hb2 : Below wr.heap.size wr w2) (hN : NB w0.heap.size (fun k => F k ∨ w2.heap.size ≤ k) w3 g (L'.map (List.map un29))) (hS : Stay w0.heap.size F w2 w3) (hb4 : Below w3.heap.size w3 w4) {A : Option Addr} {c : Nat} (hc : L'.length ≤ c) (hF4 : Kd.F (Kd.slice 84 k84) w4 (fun k => okr k ∨ w3.heap.size ≤ k) A L'.length (L'.map (List.map un84))) :
    AI w0 g w4 L' (.slice A L'.length c) (fun k => (F k ∨ w2.heap.size ≤ k) ∧ k < w3.heap.size) (fun k => (okr k ∨ w3.heap.size ≤ k) ∧ k < w4.heap.size) := by
  have h2 := hb2.size
  have h3 := hS.2.1
  refine ⟨below_step ((below_step h.below hb2).trans hS.1) hb4, hN.bound.below hb4, ⟨A, c, rfl, hc, Kd.F_bound hF4⟩, fun k hk ho => ?_, fun k hk => Nat.lt_of_lt_of_le hk.2 hb4.size, fun k hk => hk.2⟩
  rcases ho.1 with ho | ho
  · rcases hk.1 with hf | hf
    · exact h.apart k hf ho
    · have := h.bR k ho; omega
  · have := hk.2; omega
theorem AI.rAt {w0 : World} {g : Nat} {wr w2 w3 : World} {L : List (List (Int × Int))} {A : Option Addr} {c : Nat} {F okr : Nat → Prop} (h : AI w0 g wr L (.slice A L.length c) F okr) (hb2 : Below wr.heap.size wr w2) (hS : Stay w0.heap.size F w2 w3) : Kd.F (Kd.slice 84 k84) w3 okr A L.length (L.map (List.map un84)) ∧ L.length ≤ c := by
  obtain ⟨A9, c9, e, hc, hF⟩ := h.r
  cases e
  exact ⟨Kd.F_step (Kd.F_below hF hb2) (fun k hk hlt => hS.2.2 k hlt (fun hf => h.apart k hf hk)), hc⟩
theorem yAt {wr w2 w3 : World} {b0 : Nat} {P : List (Int × Int)} {Ay : Option Addr} {cy : Nat} {F : Nat → Prop} (hy : Kd.R k84 84 w2 wr.heap.size (fun k => wr.heap.size ≤ k ∧ k < w2.heap.size) (.slice Ay P.length cy) (P.map un84)) (hF : ∀ k, F k → k < wr.heap.size) (hS : Stay b0 F w2 w3) : Kd.C k84 w3 Ay P.length (P.map un84) ∧ P.length ≤ cy := by
  have := Kd.R_step hy (w1 := w3) (fun k hk hlt => hS.2.2 k hlt (fun hf => by have := hF k hf; omega))
  obtain ⟨A, c, e, h1, h2⟩ := Kd.R_reads this
  simp only [List.length_map] at e h1 h2
  cases e
  exact ⟨h2, h1⟩
theorem filt_R (L : List (List (Int × Int))) (D : List (List Int)) : filt (L.map (List.map un29)) D = if D.any (fun x => x.isEmpty) = true then none else filtR (total D + 1) L D := by
  unfold filt
  rw [filtL_R]
theorem total_le : ∀ (D : List (List Int)) (k : Nat), (∀ x ∈ D, x.length ≤ k) → total D ≤ D.length * k
  | [], k, _ => Nat.zero_le _
  | x :: D, k, h => by
    have h1 := h x List.mem_cons_self
    have h2 := total_le D k (fun y hy => h y (List.mem_cons_of_mem _ hy))
    simp only [total, List.length_cons, Nat.succ_mul]
    omega
theorem lvAll_total {L : List (List (Int × Int))} {D D2 : List (List Int)} (h : lvAll L D = some D2) : total D2 ≤ total D := by
  by_cases he : D = D2
  · rw [he]; exact Nat.le_refl _
  · exact Nat.le_of_lt (lvAll_less h he)
theorem filtR_total : ∀ (k : Nat) (L : List (List (Int × Int))) (D D2 : List (List Int)), filtR k L D = some D2 → total D2 ≤ total D
  | 0, _, _, _, h => by cases h
  | k + 1, L, D, D2, h => by
    unfold filtR at h
    cases hl : lvAll L D with
    | none => rw [hl] at h; cases h
    | some D3 =>
      rw [hl] at h
      simp only at h
      have h1 := lvAll_total hl
      split at h
      · cases h; exact h1
      · exact Nat.le_trans (filtR_total k L D3 D2 h) h1
theorem kInts_nil (w : World) : Kd.C kInts w none ([] : List (List Int)).length [] := ⟨rfl, Nat.zero_le _, fun h => absurd h (by decide)⟩
set_option maxHeartbeats 8000000 in
set_option maxRecDepth 100000 in
theorem lawFilters (A : Option Addr) (c : Nat) (all : List (List S27)) (A2 : Option Addr) (c2 : Nat) (l : List (List Int)) (w : World) (hT : Go.Proofs.YtgckohmppefibaaDoor.Tab w) (hC : Kd.C (Kd.slice 27 k27) w A all.length all) (hc : all.length ≤ c) (hC2 : Kd.C (Kd.slice 25 (Kd.int .i8)) w A2 l.length l) (hc2 : l.length ≤ c2) (hS : ∀ x ∈ l, Sm x) :
    Calls Tryd.prog 4 #[.slice A all.length c, .slice A2 l.length c2] w fun e w' => e = .returned (.bool true) ∧ Below w.heap.size w w' := by
  obtain ⟨ji, hji⟩ : ∃ ji : Int, (if 15 < (all.length : Int) then 15 else (all.length : Int)) = ji := ⟨_, rfl⟩
  have hj0 : 0 ≤ ji ∧ ji ≤ all.length ∧ ji ≤ 15 := by rw [← hji]; split <;> omega
  obtain ⟨hj1, hj2, hj3⟩ := hj0
  obtain ⟨m, rfl⟩ : ∃ m : Nat, ji = (m : Int) := ⟨ji.toNat, by omega⟩
  obtain ⟨i05, hi05, _⟩ := info_parts info22c
  have hcut := cut_to (P := Tryd.prog) 41 22 .i64 Tryd.underlying41 hi05 A all.length c (m : Int) hj1 hj2 hc
  rw [Int.toNat_natCast] at hcut
  have HT := Aside0.mk hT
  have HC := Aside0.mk hC
  have HC2 := Aside0.mk hC2
  have HS := Aside0.mk hS
  clear hC hi05 hT hC2 hS
  go_enter Tryd.func4, Tryd.ntmps4
  go_wp2_with (go_at_call 12; (refine (newNB _).mono ?_; rintro e w1 ⟨rfl, rfl⟩))
  go_loopg [6, 8, 9, 10, 27] m (fun kx s6 s8 s9 s10 s27 wr => ∃ (j : Nat) (L : List (List (Int × Int))) (F okr : Nat → Prop), s27 = .int .i64 j ∧ j ≤ m ∧ m - j ≤ kx ∧ Aside0 (AI w w.heap.size wr L s6 F okr) ∧ Aside0 (LOk L j 5))
  case atStart => exact ⟨0, [], _, _, rfl, Nat.zero_le _, by omega, Aside0.mk (AI.start w), Aside0.mk ⟨Nat.zero_le _, fun x hx => (by cases hx), fun x hx => (by cases hx)⟩⟩
  case round =>
    obtain ⟨j, L, F, okr, rfl, hjm, hg, HI, HL⟩ := hrel
    by_cases hlt : j < m
    · obtain ⟨b, o, rfl, hbw, hcell⟩ := rawA HC.out (by omega)
      obtain ⟨Aj, cj, e0, e1, e2⟩ := hcell j (by omega)
      have e0' : wr.cell? ⟨b, o + j, none⟩ = some (.slice Aj all[j].length cj) := (HI.out.below.cell (p := ⟨b, o + j, none⟩) hbw).trans e0
      have hl := litsRR wr Aj cj all[j] 5 (by decide) (Kd.C_below e2 HI.out.below) e1
      rw [show ((5 : Nat) : Int) = 5 from rfl] at hl
      clear hcell e0 e1 e2
      generalize all[j] = y at e0' hl
      have hP : ((y.take 5).map de).length ≤ 5 := by rw [List.length_map, List.length_take]; omega
      generalize (y.take 5).map de = P at hl hP
      have HLI := Aside0.mk hl
      clear hl
      obtain ⟨Ar, cr, rfl, hcr, _⟩ := HI.out.r
      have hadd := HL.out.add P hP
      have HLA := Aside0.mk hadd
      generalize hN : addP L (Go.Proofs.YtgckohmppefibaaDoor.Ng.mk P) = q at hadd HLA
      have HN := Aside0.mk hN
      clear hN hadd
      obtain ⟨L', ok'⟩ := q
      go_wp2_with (first
        | (go_at_call 13; ((with_reducible refine HLI.out.mono ?_); rintro e w2 ⟨Ax, cx, Ay, cy, rfl, hx, hy, hb2⟩; have HX := Aside0.mk hx; have HY := Aside0.mk hy; have HB2 := Aside0.mk hb2; clear hx hy hb2))
        | (go_at_call 14; ((with_reducible refine (addNBP w.heap.size F w2 w.heap.size L (HI.out.nb.below HB2.out) j 5 (by omega) (by decide) HL.out P hP Ax cx HX.out).mono ?_); rw [HN.out]; rintro e w3 ⟨rfl, hn3, hs3⟩; have HN3 := Aside0.mk hn3; have HS3 := Aside0.mk hs3; clear hn3 hs3))
        | (go_at_call 15; ((with_reducible refine (refAddQ (HI.out.rAt HB2.out HS3.out).1 (HI.out.rAt HB2.out HS3.out).2 j 5 (by omega) (by decide) HL.out P hP Ay cy (yAt HY.out HI.out.bF HS3.out).1 (yAt HY.out HI.out.bF HS3.out).2).mono ?_); rw [HN.out]; rintro e w4 ⟨A4, c4, rfl, hf4, hc4, hb4⟩; have AI4 := Aside0.mk (HI.out.added2 HB2.out HN3.out HS3.out hb4 hc4 hf4); clear hf4 hb4)))
      go_roundg (m - (j + 1))
      case measure => omega
      case rel => exact ⟨j + 1, L', _, _, rfl, by omega, Nat.le_refl _, AI4, Aside0.mk HLA.out⟩
    · have hj : j = m := by omega
      subst hj
      obtain ⟨Ar, cr, rfl, hcr, hFr⟩ := HI.out.r
      have HFr := Aside0.mk hFr
      clear hFr
      have hdw := domsW A2 c2 l 5 wr (HT.out.call HI.out.below) (by decide) (Kd.C_below HC2.out HI.out.below) hc2 HS.out
      rw [show ((5 : Nat) : Int) = 5 from rfl] at hdw
      have hDb : ((l.take 5).map de8).length ≤ 5 := by rw [List.length_map, List.length_take]; omega
      have hDl := Aside0.mk (show ∀ x ∈ (l.take 5).map de8, x.length ≤ 5 from fun x hx => by obtain ⟨y, _, rfl⟩ := List.mem_map.1 hx; exact de8_len y)
      generalize (l.take 5).map de8 = D at hdw hDb hDl
      have HDW := Aside0.mk hdw
      clear hdw
      have hLn : L.length ≤ 15 := Nat.le_trans HL.out.len (by omega)
      obtain ⟨RR, hRR⟩ : ∃ RR, RR = (if D.any (fun x => x.isEmpty) = true then none else filtR (total D + 1) L D) := ⟨_, rfl⟩
      have HRR := Aside0.mk hRR
      clear hRR
      go_upto_region 11 with (go_at_call 16; ((with_reducible refine HDW.out.mono ?_); rintro e w5 ⟨Aa, ca, Ab, cb, okA, okB, rfl, hdi⟩; have HDI := Aside0.mk hdi; clear hdi))
      have B5 : Aside0 (Below wr.heap.size wr w5) := Aside0.mk HDI.out.below
      have BW5 : Aside0 (Below w.heap.size w w5) := Aside0.mk (below_step HI.out.below B5.out)
      have ht : total D ≤ 25 := Nat.le_trans (total_le D 5 hDl.out) (by have : D.length * 5 ≤ 5 * 5 := Nat.mul_le_mul_right 5 hDb; omega)
      have hF := filterNB w.heap.size F w.heap.size (L.map (List.map un29)) Aa ca D w5 (HT.out.call BW5.out) (HI.out.nb.below B5.out) (by rw [List.length_map]; omega) (fun x hx => by obtain ⟨q, hq, rfl⟩ := List.mem_map.1 hx; have := HL.out.short q hq; rw [List.length_map]; omega) (drow_N HDI.out.a) (by omega)
      rw [filt_R, ← HRR.out] at hF
      have HF := Aside0.mk hF
      have HR := Aside0.mk (fun w6 (hb : Below w5.heap.size w5 w6) => refFilt Ar cr L okr Ab cb D okB w6 (Kd.F_below (Kd.F_below HFr.out B5.out) hb) (by omega) (fun x hx => by have := HL.out.short x hx; omega) (Kd.F_below (Kd.N_F HDI.out.b) hb) (Kd.N_reads' HDI.out.b).2.1 (by omega) (by omega))
      rw [← HRR.out] at HR
      have TT := Aside0.mk (show ∀ D2, RR = some D2 → total D2 ≤ 25 from fun D2 h => by
        rw [HRR.out] at h
        split at h
        · cases h
        · exact Nat.le_trans (filtR_total _ _ _ _ h) ht)
      clear hF HRR
      cases RR with
      | none =>
        go_wp2_with (first
          | (go_at_call 17; ((with_reducible refine HF.out.mono ?_); rintro e w6 ⟨hb6, rfl⟩; have HB6 := Aside0.mk hb6; clear hb6))
          | (go_at_call 18; ((with_reducible refine (HR.out w6 HB6.out).mono ?_); rintro e w7 ⟨hb7, rfl⟩; have B7 := Aside0.mk (below_step (below_step BW5.out HB6.out) hb7); clear hb7)))
        refine wp_loop_rounds 1 ?_
        rw [rounds_succ]
        have SN : Aside0 (∀ wx : World, Calls Tryd.prog 20 #[.slice none 0 0, .slice none 0 0] wx fun e w' => e = .returned (.bool true) ∧ Below wx.heap.size wx w') := Aside0.mk (fun wx => by
          have h9 := same10W none 0 [] none 0 [] wx (kInts_nil wx) (Nat.le_refl _) (kInts_nil wx) (Nat.le_refl _) (by decide) (fun x hx => by cases hx)
          rw [decide_eq_true rfl] at h9
          exact h9)
        go_wp2_with (first
          | (go_at_call 8; ((with_reducible refine (wakes_ok w7 (HT.out.call B7.out)).mono ?_); rintro e w8 ⟨rfl, hb8⟩; have B8 := Aside0.mk (below_step B7.out hb8); clear hb8))
          | (go_at_call 20; ((with_reducible refine (SN.out w8).mono ?_); rintro e w9 ⟨rfl, hb9⟩; have B9 := Aside0.mk (below_step B8.out hb9); clear hb9)))
        go_ret
        exact ⟨rfl, B9.out⟩
      | some D2 =>
        go_wp2_with (first
          | (go_at_call 17; ((with_reducible refine HF.out.mono ?_); rintro e w6 ⟨hb6, A6, c6, rfl, hl6, hor⟩; have HB6 := Aside0.mk hb6; have HL6 := Aside0.mk hl6; have DR := Aside0.mk (show DRow w6 A6 D2 from by rcases hor with h | ⟨gd, rfl, h⟩; exact .inl h; exact h.row); clear hb6 hl6 hor))
          | (go_at_call 18; ((with_reducible refine (HR.out w6 HB6.out).mono ?_); rintro e w7 ⟨hb7, A7, c7, rfl, hc7, hf7⟩; have B7 := Aside0.mk (below_step (below_step BW5.out HB6.out) hb7); have HF7 := Aside0.mk hf7; have DR7 := Aside0.mk (DR.out.below hb7); clear hb7 hf7)))
        go_loopg [17, 19, 65] D.length (fun kx s17 s19 s65 wz => ∃ i : Nat, s65 = .int .i64 i ∧ i ≤ D.length ∧ D.length - i ≤ kx ∧ Aside0 (Below w7.heap.size w7 wz ∧ Kd.N kInts 63 wz w7.heap.size (fun k => w7.heap.size ≤ k) s17 (D2.take i)))
        case atStart => exact ⟨0, rfl, Nat.zero_le _, by omega, Aside0.mk ⟨Below.refl _ _, by rw [List.take_zero]; exact Kd.N_nil _ _ _ _ _⟩⟩
        case round =>
          obtain ⟨i, rfl, hil, hgi, HN⟩ := hrel
          by_cases hlt : i < D.length
          · have hlt2 : i < D2.length := by rw [HL6.out]; exact hlt
            obtain ⟨b6, o6, rfl, hbw6, hcell6⟩ := DR7.out.pos (by omega)
            obtain ⟨off, sv, ws, hx, d0, d1, d2, d3, d4⟩ := (hcell6 i hlt2).below hbw6 HN.out.1
            obtain ⟨Aw, cw, rfl⟩ := hx.sl.len
            have TK := Aside0.mk (show D2.take (i + 1) = D2.take i ++ [D2[i]] from List.take_succ_eq_append_getElem hlt2)
            have hlb := Aside0.mk (fun ob => Go.Proofs.YtgckohmppefibaaDoor.dom_list (Go.Proofs.YtgckohmppefibaaDoor.Dm.val off (.slice Aw ws.length cw) D2[i]) D2[i] (wr.alloc ob) ⟨_, _, _, rfl, hx.call (below_alloc (Below.refl _ _) ob)⟩ ((HT.out.call (below_step B7.out HN.out.1)).alloc ob))
            unfold Go.Proofs.YtgckohmppefibaaDoor.Dm.val at hlb
            have hi9 : (i : Int) < (D.length : Int) := by omega
            have hi8 : (0 : Int) ≤ (i : Int) := by omega
            clear hx hcell6
            generalize D2[i] = y at d2 d3 d4 TK hlb
            generalize y.headD 0 = p0 at d2 hlb
            generalize y.getLastD 0 = p1 at d3 hlb
            generalize ws.length = nw at d1 hlb
            go_wp2_with (first
              | (go_at_call 19; ((with_reducible refine (hlb.out _).mono ?_); rintro e w9 ⟨sv9, rfl, hOw, hb9⟩; obtain ⟨As, cs, rfl⟩ := hOw.sl.len; have HB9 := Aside0.mk (below_step (below_alloc (Below.refl wr.heap.size wr) _) hb9); have FKS := Aside0.mk (fk_ints (ok := fun k => wr.heap.size + 1 ≤ k ∧ k < w9.heap.size) hOw.sl (fun b hb => ⟨by have := hOw.own b hb; simpa using this, sl_blk hOw.sl b hb⟩)); clear hOw hb9))
              | ((with_reducible refine gate_builtin (b := .append) (xs := #[.tmp 69, .tmp 72]) rfl ?_); at_builtin; (refine Kd.N_append kInts (w0 := w7) (W := w9) w7.heap.size rfl (.tmp 69) (.tmp 72) 53 63 (.slice none 0 0) 24 rfl Tryd.underlying53 info63c rfl (by decide) (by decide) u17 (D2.take i) y [.slice As y.length cs] (fun k => w7.heap.size ≤ k) (fun k => wr.heap.size + 1 ≤ k ∧ k < w9.heap.size) rfl rfl FKS.out (fun k hk => ⟨by have := HN.out.1.size; omega, fun he => by have h9 := Kd.N_lt HN.out.2 k he.symm; omega⟩) (fun k hk => Nat.le_trans (below_step HN.out.1 HB9.out).size hk) (Kd.N_below HN.out.2 HB9.out) (below_step HN.out.1 HB9.out) (below_step HN.out.1 HB9.out).size (by rw [List.length_take]; omega) ?_); intro v1 w10 ho hbel hg9 hat; have HO := Aside0.mk ho; have HBB := Aside0.mk hbel; clear ho hbel hg9 hat))
            go_roundg (D.length - (i + 1))
            case measure => omega
            case rel => exact ⟨i + 1, rfl, by omega, Nat.le_refl _, Aside0.mk ⟨HBB.out, by rw [TK.out]; exact HO.out⟩⟩
          · have hi : i = D.length := by omega
            subst hi
            have HN2 := Aside0.mk (show Kd.N kInts 63 wr w7.heap.size (fun k => w7.heap.size ≤ k) u17 D2 from by have := HN.out.2; rwa [List.take_of_length_le (by rw [HL6.out]; exact Nat.le_refl _)] at this)
            obtain ⟨A8, c8, rfl⟩ := Kd.N_slice HN2.out
            have hq8 := Kd.N_reads' HN2.out
            have SF := Aside0.mk (fun wx (hb : Below wr.heap.size wr wx) => show Calls Tryd.prog 20 #[.slice A8 D2.length c8, .slice A7 D2.length c7] wx fun e w' => e = .returned (.bool true) ∧ Below wx.heap.size wx w' from by
              have h9 := same10W A8 c8 D2 A7 c7 D2 wx (Kd.C_below hq8.2.2 hb) hq8.2.1 (Kd.C_below (Kd.C_below (F_C HF7.out) HN.out.1) hb) hc7 (by have := HL6.out; omega) (fun x hx => by have := mem_total D2 x hx; have := TT.out D2 rfl; omega)
              rw [decide_eq_true rfl] at h9
              exact h9)
            have B9 : Aside0 (Below w.heap.size w wr) := Aside0.mk (below_step B7.out HN.out.1)
            clear hq8
            go_wp2_with (first
              | (go_at_call 8; ((with_reducible refine (wakes_ok wr (HT.out.call B9.out)).mono ?_); rintro e w8 ⟨rfl, hb8⟩; have B10 := Aside0.mk (below_step B9.out hb8); have HB8 := Aside0.mk hb8; clear hb8))
              | (go_at_call 20; ((with_reducible refine (SF.out w8 HB8.out).mono ?_); rintro e w9 ⟨rfl, hb9⟩; have B11 := Aside0.mk (below_step B10.out hb9); clear hb9)))
            go_ret
            exact ⟨rfl, B11.out⟩
end Go.Proofs.YtgckohmppefibaaDoorX.Hz
