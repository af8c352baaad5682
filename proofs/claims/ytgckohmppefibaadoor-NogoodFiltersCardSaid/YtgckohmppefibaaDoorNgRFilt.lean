import Derived.Test.YtgckohmppefibaaDoorNgSame
namespace Go.Proofs.YtgckohmppefibaaDoorX.Hz
open Go.RowKit Go.Proofs.YtgckohmppefibaaDoorW.PrintWords Go.Proofs.YtgckohmppefibaaDoorW.PrintLast Go.Proofs.YtgckohmppefibaaDoorW.PrintMore
attribute [local go_sem] max2_int min2_int max_two min_two max_three min_three max_four min_four
set_option linter.unusedVariables false
set_option linter.unusedSimpArgs false
attribute [local go_sem] Go.Proofs.YtgckohmppefibaaDoor.Hook.cell_two
theorem lv_total {D D2 : List (List Int)} {P : List (Int × Int)} (h : lv D P = some D2) : total D2 ≤ total D ∧ D2.length = D.length := by
  unfold lv at h
  by_cases h0 : (openL D (P.map un29) (0, 0) 0).2.2 = 0
  · rw [if_pos h0] at h; cases h
  · by_cases h1 : (openL D (P.map un29) (0, 0) 0).2.2 = 1
    · rw [if_neg h0, if_pos h1] at h
      cases h
      obtain ⟨a1, a2, a3⟩ := openL_at D (P.map un29) (0, 0) 0 h1 (.inl rfl)
      have hs := total_set D (openL D (P.map un29) (0, 0) 0).1.toNat ((D.getD (openL D (P.map un29) (0, 0) 0).1.toNat []).filter fun u => !decide (u = (openL D (P.map un29) (0, 0) 0).2.1)) (by omega)
      have hl := filter_less _ _ a3
      exact ⟨by omega, List.length_set⟩
    · rw [if_neg h0, if_neg h1] at h
      cases h
      exact ⟨Nat.le_refl _, rfl⟩
theorem lvAll_less {L : List (List (Int × Int))} {D D2 : List (List Int)} (h : lvAll L D = some D2) (hne : ¬ D = D2) : total D2 < total D := by
  obtain ⟨p1, p2⟩ := passL_lv L D false
  have hok := p1.2 (by rw [h]; rfl)
  have e := p2 hok
  rw [h] at e
  have e2 := Option.some.inj e
  obtain ⟨t1, t2, _⟩ := passL_total (L.map (List.map un29)) D false hok
  cases hc : (passL (L.map (List.map un29)) D false).1 with
  | true =>
    rcases t2 hc with t2 | t2
    · cases t2
    · rw [e2]; exact t2
  | false => exact absurd (by rw [e2, pass_same _ _ _ hok hc]) hne
theorem mem_total : ∀ (D : List (List Int)) (x : List Int), x ∈ D → x.length ≤ total D
  | y :: D, x, h => by
    rcases List.mem_cons.1 h with rfl | h
    · simp only [total]; omega
    · have := mem_total D x h
      simp only [total]; omega
theorem filtR_more (k k' : Nat) (L : List (List (Int × Int))) (D : List (List Int)) (h : total D < k) (h' : total D < k') : filtR k L D = filtR k' L D := by
  rw [← filtL_R, ← filtL_R]
  exact filtL_more k k' _ D h h'
theorem F_C {w : World} {ok : Nat → Prop} {A : Option Addr} {D : List (List Int)} (h : Kd.F kInts w ok A D.length D) : Kd.C kInts w A D.length D := Kd.F_now h
set_option maxHeartbeats 8000000 in
set_option maxRecDepth 100000 in
theorem refFilt (Ab : Option Addr) (cb : Nat) (L : List (List (Int × Int))) (okr : Nat → Prop) (Ad : Option Addr) (cd : Nat) (D : List (List Int)) (okd : Nat → Prop) (w : World) (hB : Kd.F (Kd.slice 84 k84) w okr Ab L.length (L.map (List.map un84))) (hLn : L.length ≤ 100) (hLs : ∀ x ∈ L, x.length ≤ 100) (hD : Kd.F kInts w okd Ad D.length D) (hcd : D.length ≤ cd) (hDb : D.length ≤ 100) (hT : total D ≤ 1000) :
    Calls Tryd.prog 18 #[.slice Ab L.length cb, .slice Ad D.length cd] w (LP okd (if D.any (fun x => x.isEmpty) = true then none else filtR (total D + 1) L D) w) := by
  have HB := Aside0.mk hB
  have HD := Aside0.mk hD
  have HLs := Aside0.mk hLs
  have PLD := Aside0.mk (fun j (hj : j < D.length) => List.take_succ_eq_append_getElem hj)
  have PLL := Aside0.mk (fun j (hj : j < L.length) => List.drop_eq_getElem_cons hj)
  have HDl := Aside0.mk (fun x (hx : x ∈ D) => mem_total D x hx)
  clear hB hD hLs
  generalize hRR : (if D.any (fun x => x.isEmpty) = true then none else filtR (total D + 1) L D) = RR
  have HRR := Aside0.mk hRR
  clear hRR
  go_enter Tryd.func18, Tryd.ntmps18
  go_wp2_with fail
  go_loopg [6] D.length (fun kx s6 wr => ∃ i : Nat, s6 = .int .i64 i ∧ i ≤ D.length ∧ D.length - i ≤ kx ∧ Aside0 (Below w.heap.size w wr ∧ (D.take i).any (fun x => x.isEmpty) = false))
  case atStart => exact ⟨0, rfl, Nat.zero_le _, by omega, Aside0.mk ⟨Below.refl _ _, by simp⟩⟩
  case round =>
    obtain ⟨i, rfl, hil, hg, HI⟩ := hrel
    by_cases hlt : i < D.length
    · obtain ⟨bd, od, rfl, hrow⟩ := rowsI HD.out (by omega)
      obtain ⟨Ai, ci, f0, _, _⟩ := hrow wr HI.out.1 i hlt
      have X := Aside0.mk (PLD.out i hlt)
      have LY := HDl.out D[i] (List.getElem_mem hlt)
      have ME := Aside0.mk (List.getElem_mem hlt)
      clear hrow
      generalize D[i] = y at f0 X LY ME
      by_cases hy : y.length = 0
      · have hy0 : ((y.length : Int) == 0) = true := by rw [hy]; rfl
        have ye : y = [] := List.eq_nil_of_length_eq_zero hy
        have EA : Aside0 (D.any (fun x => x.isEmpty) = true) := Aside0.mk (List.any_eq_true.2 ⟨y, ME.out, by rw [ye]; rfl⟩)
        go_wp2_with fail
        go_ret2
        rw [show RR = none from by rw [← HRR.out, if_pos EA.out]]
        exact ⟨HI.out.1, rfl⟩
      · have hy0 : ((y.length : Int) == 0) = false := beq_eq_false_iff_ne.2 (by omega)
        have EA : Aside0 ((D.take (i + 1)).any (fun x => x.isEmpty) = false) := Aside0.mk (by
          rw [X.out, List.any_append, HI.out.2]
          cases y with
          | nil => exact absurd rfl hy
          | cons a l => rfl)
        go_wp2_with fail
        go_roundg (D.length - (i + 1))
        case measure => omega
        case rel => exact ⟨i + 1, rfl, by omega, Nat.le_refl _, Aside0.mk ⟨HI.out.1, EA.out⟩⟩
    · have hi : i = D.length := by omega
      subst hi
      have EA : Aside0 (D.any (fun x => x.isEmpty) = false) := Aside0.mk (by have := HI.out.2; rwa [List.take_length] at this)
      have RB : Aside0 (Below w.heap.size w wr) := Aside0.mk HI.out.1
      go_wp2_with fail
      go_loopg [1, 7, 8, 9, 10, 11] (total D + 2) (fun kx s1 s7 s8 s9 s10 s11 wq => ∃ (s : Nat) (A1 : Option Addr) (c1 : Nat) (D1 : List (List Int)), s1 = .slice A1 D1.length c1 ∧ s7 = .int .i64 s ∧ Aside0 (D1.length = D.length) ∧ D1.length ≤ c1 ∧ s + total D1 ≤ total D ∧ total D1 + 1 ≤ kx ∧ Aside0 (Below w.heap.size w wq ∧ Kd.F kInts wq (fun k => okd k ∨ w.heap.size ≤ k) A1 D1.length D1 ∧ filtR (total D + 1) L D = filtR (total D1 + 1) L D1))
      case atStart => exact ⟨0, Ad, cd, D, rfl, rfl, Aside0.mk rfl, hcd, by omega, by omega, Aside0.mk ⟨RB.out, Kd.F_below (Kd.F_mono HD.out (fun k hk => .inl hk)) RB.out, rfl⟩⟩
      case round =>
        obtain ⟨s, A1, c1, D1, rfl, rfl, hl1, hc1, hs1, hk1, HQ⟩ := hrel
        have hs9 : (s : Int) < 100000 := by omega
        have F1 := Aside0.mk HQ.out.2.1
        have R1 := Aside0.mk HQ.out.2.2
        have W1 := Aside0.mk HQ.out.1
        obtain ⟨wo, rfl⟩ : ∃ wo, wo = wr := ⟨_, rfl⟩
        go_wp2_with fail
        go_loopg [1, 9, 10] L.length (fun kx s1 s9 s10 wz => ∃ (i : Nat) (A2 : Option Addr) (c2 : Nat) (D2 : List (List Int)), s1 = .slice A2 D2.length c2 ∧ s9 = .int .i64 i ∧ Aside0 (D2.length = D.length) ∧ D2.length ≤ c2 ∧ total D2 ≤ total D1 ∧ i ≤ L.length ∧ L.length - i ≤ kx ∧ Aside0 (Below wo.heap.size wo wz ∧ Kd.F kInts wz (fun k => okd k ∨ w.heap.size ≤ k) A2 D2.length D2 ∧ lvAll L D1 = lvAll (L.drop i) D2))
        case atStart => exact ⟨0, A1, c1, D1, rfl, rfl, hl1, hc1, Nat.le_refl _, Nat.zero_le _, by omega, Aside0.mk ⟨Below.refl _ _, F1.out, by rw [List.drop_zero]⟩⟩
        case round =>
          obtain ⟨i, A2, c2, D2, rfl, rfl, hl2, hc2, ht2, hil, hg2, HZ⟩ := hrel
          by_cases hlt : i < L.length
          · obtain ⟨bb, ob, rfl, _, _⟩ := rawR (L := L.map (List.map un84)) (by rw [List.length_map]; exact Kd.F_now HB.out) (by rw [List.length_map]; omega)
            obtain ⟨Ai, ci, f0, hci, hCi, _⟩ := rowF (r := L.map (List.map un84)) (by rw [List.length_map]; exact HB.out) wr (below_step W1.out HZ.out.1) i (by rw [List.length_map]; exact hlt)
            have eL : (L.map (List.map un84))[i]'(by rw [List.length_map]; exact hlt) = L[i].map un84 := List.getElem_map _
            rw [eL, List.length_map] at f0 hci hCi
            have X := Aside0.mk (PLL.out i hlt)
            have LS := HLs.out L[i] (List.getElem_mem hlt)
            generalize L[i] = P at f0 hCi X LS
            have hlv := leaveW Ai ci P A2 c2 D2 (fun k => okd k ∨ w.heap.size ≤ k) wr hCi LS HZ.out.2.1 hc2 (by have := hl2.out; omega) (fun x hx => by have := mem_total D2 x hx; omega)
            have E1 : Aside0 (lvAll L D1 = match lv D2 P with | none => none | some D3 => lvAll (L.drop (i + 1)) D3) := Aside0.mk (by rw [HZ.out.2.2, X.out]; rfl)
            have LVT := Aside0.mk (fun D3 (h : lv D2 P = some D3) => lv_total h)
            cases hv : lv D2 P with
            | none =>
              rw [hv] at hlv E1
              have HV := Aside0.mk hlv
              have EN : Aside0 (filtR (total D + 1) L D = none) := Aside0.mk (by rw [R1.out]; unfold filtR; rw [E1.out])
              clear hlv hv
              go_wp2_with (go_at_call 50; ((with_reducible refine HV.out.mono ?_); rintro e w5 ⟨hb5, rfl⟩; have HB5 := Aside0.mk hb5; clear hb5))
              go_ret2
              rw [show RR = none from by rw [← HRR.out, if_neg (by rw [EA.out]; decide), EN.out]]
              exact ⟨below_step (below_step W1.out HZ.out.1) HB5.out, rfl⟩
            | some D3 =>
              rw [hv] at hlv E1
              obtain ⟨q1, q2⟩ := LVT.out D3 hv
              have QQ := Aside0.mk q2
              clear q2
              have HV := Aside0.mk hlv
              clear hlv hv
              go_wp2_with (go_at_call 50; ((with_reducible refine HV.out.mono ?_); rintro e w5 ⟨hb5, A3, c3, rfl, hc3, hf3⟩; have HB5 := Aside0.mk hb5; have HF3 := Aside0.mk (Kd.F_mono hf3 (ok' := fun k => okd k ∨ w.heap.size ≤ k) (fun k hk => by rcases hk with hk | hk; exact hk; exact .inr (by have h1 := W1.out.size; have h2 := HZ.out.1.size; omega))); clear hb5 hf3))
              go_roundg (L.length - (i + 1))
              case measure => omega
              case rel => exact ⟨i + 1, A3, c3, D3, rfl, rfl, Aside0.mk (by have := hl2.out; have := QQ.out; omega), hc3, by omega, by omega, Nat.le_refl _, Aside0.mk ⟨below_step HZ.out.1 HB5.out, HF3.out, E1.out⟩⟩
          · have hi : i = L.length := by omega
            subst hi
            have EL : Aside0 (lvAll L D1 = some D2) := Aside0.mk (by rw [HZ.out.2.2, List.drop_length]; rfl)
            have hsm := same10W A1 c1 D1 A2 c2 D2 wr (F_C (Kd.F_below F1.out HZ.out.1)) hc1 (F_C HZ.out.2.1) hc2 (by have := hl1.out; omega) (fun x hx => by have := mem_total D1 x hx; omega)
            by_cases he : D1 = D2
            · subst he
              rw [decide_eq_true rfl] at hsm
              have HSM := Aside0.mk hsm
              have EF : Aside0 (filtR (total D + 1) L D = some D1) := Aside0.mk (by rw [R1.out]; unfold filtR; rw [EL.out]; simp only; rw [if_pos trivial])
              clear hsm
              go_wp2_with (go_at_call 20; ((with_reducible refine HSM.out.mono ?_); rintro e w5 ⟨rfl, hb5⟩; have HB5 := Aside0.mk hb5; clear hb5))
              go_ret2
              rw [show RR = some D1 from by rw [← HRR.out, if_neg (by rw [EA.out]; decide), EF.out]]
              exact ⟨below_step (below_step W1.out HZ.out.1) HB5.out, A2, c2, rfl, hc2, Kd.F_below HZ.out.2.1 HB5.out⟩
            · rw [decide_eq_false he] at hsm
              have HSM := Aside0.mk hsm
              have hless := lvAll_less EL.out he
              have EF : Aside0 (filtR (total D + 1) L D = filtR (total D2 + 1) L D2) := Aside0.mk (by
                rw [R1.out]
                conv => { lhs; unfold filtR }
                rw [EL.out]
                simp only
                rw [if_neg he]
                exact filtR_more _ _ _ _ (by omega) (by omega))
              clear hsm
              go_wp2_with (go_at_call 20; ((with_reducible refine HSM.out.mono ?_); rintro e w5 ⟨rfl, hb5⟩; have HB5 := Aside0.mk hb5; clear hb5))
              go_roundg (total D2 + 1)
              case measure => omega
              case rel => exact ⟨s + 1, A2, c2, D2, rfl, rfl, hl2, hc2, by omega, Nat.le_refl _, Aside0.mk ⟨below_step (below_step W1.out HZ.out.1) HB5.out, Kd.F_below HZ.out.2.1 HB5.out, EF.out⟩⟩
end Go.Proofs.YtgckohmppefibaaDoorX.Hz
