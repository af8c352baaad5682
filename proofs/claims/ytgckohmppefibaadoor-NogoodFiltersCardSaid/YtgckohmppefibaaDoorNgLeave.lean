import Derived.Test.YtgckohmppefibaaDoorNgDoms
namespace Go.Proofs.YtgckohmppefibaaDoorX.Hz
open Go.RowKit Go.Proofs.YtgckohmppefibaaDoorW.PrintWords Go.Proofs.YtgckohmppefibaaDoorW.PrintLast Go.Proofs.YtgckohmppefibaaDoorW.PrintMore
attribute [local go_sem] max2_int min2_int max_two min_two max_three min_three max_four min_four
set_option linter.unusedVariables false
set_option linter.unusedSimpArgs false
attribute [local go_sem] Go.Proofs.YtgckohmppefibaaDoor.Hook.cell_two
theorem raw84 {w : World} {A : Option Addr} {xs : List S84} (h : Kd.C k84 w A xs.length xs) (hn : 0 < xs.length) : ∃ b o, A = some ⟨b, o, none⟩ ∧ b < w.heap.size ∧ ∀ j (hj : j < xs.length), w.cell? ⟨b, o + j * 2, none⟩ = some (.int .i64 xs[j].f0) ∧ w.cell? ⟨b, o + j * 2 + 1, none⟩ = some (.int .i64 xs[j].f1) := by
  obtain ⟨ad, hA, hc⟩ := h.2.2 hn
  have get : ∀ j (hj : j < xs.length), w.cell? (ad.add (j * 2)) = some (.int .i64 xs[j].f0) ∧ w.cell? (ad.add (j * 2 + 1)) = some (.int .i64 xs[j].f1) := by
    intro j hj
    obtain ⟨c, _, hK, hcell⟩ := hc j xs[j] (List.getElem?_eq_getElem hj)
    obtain rfl := k84_open hK
    exact ⟨hcell 0 _ rfl, hcell 1 _ rfl⟩
  obtain ⟨b, o, sp⟩ := ad
  have h0 := (get 0 hn).1
  have h1 := (get 0 hn).2
  have hsp : sp = none := by
    cases sp with
    | none => rfl
    | some x =>
      exfalso
      simp only [World.cell?, Addr.add] at h0
      simp at h0
      split at h0 <;> cases h0
  subst hsp
  refine ⟨b, o, hA, ?_, fun j hj => ?_⟩
  · have e : (⟨b, o, none⟩ : Addr).add (0 * 2) = ⟨b, o, none⟩ := by simp [Addr.add]
    rw [e] at h0
    exact World.block_lt_of_cell? w _ h0
  · have e : ∀ m, (⟨b, o, none⟩ : Addr).add m = ⟨b, o + m, none⟩ := by intro m; unfold Addr.add; split <;> simp_all
    have g := get j hj
    rw [e, e] at g
    exact ⟨g.1, by rw [Nat.add_assoc]; exact g.2⟩
theorem rowsI {w : World} {okd : Nat → Prop} {A : Option Addr} {D : List (List Int)} (h : Kd.F kInts w okd A D.length D) (hn : 0 < D.length) :
    ∃ b o, A = some ⟨b, o, none⟩ ∧ ∀ wy, Below w.heap.size w wy → ∀ j (hj : j < D.length), ∃ Aj cj, wy.cell? ⟨b, o + j, none⟩ = some (.slice Aj D[j].length cj) ∧ Go.Proofs.YtgckohmppefibaaDoor.Rd wy (.slice Aj D[j].length cj) D[j] ∧ Kd.FK kInts wy (fun k => okd k ∧ k < w.heap.size) D[j] [.slice Aj D[j].length cj] := by
  have h2 := Kd.F_bound h
  have main : ∀ wy, Below w.heap.size w wy → ∀ j (hj : j < D.length), ∃ ad Aj cj, A = some ad ∧ wy.cell? (ad.add j) = some (.slice Aj D[j].length cj) ∧ Go.Proofs.YtgckohmppefibaaDoor.Rd wy (.slice Aj D[j].length cj) D[j] ∧ Kd.FK kInts wy (fun k => okd k ∧ k < w.heap.size) D[j] [.slice Aj D[j].length cj] := by
    intro wy hb j hj
    obtain ⟨ad, c, e, hcl, hK, hcc, _⟩ := Kd.F_get (Kd.F_below h2 hb) [] (j : Int) (by omega) (by omega)
    simp only [Int.toNat_natCast] at hK hcc
    have ej : D.getD j [] = D[j] := by rw [List.getD_eq_getElem?_getD, List.getElem?_eq_getElem hj]; rfl
    rw [ej] at hK
    obtain ⟨Aj, nj, cj, rfl, hR⟩ := Kd.FK_now hK
    obtain ⟨_, hnj, _⟩ := ints_reads hR
    subst hnj
    have h3 := hcc 0 _ rfl
    have e : j * kInts.sz + 0 = j := Nat.mul_one j
    rw [e] at h3
    exact ⟨ad, Aj, cj, by assumption, h3, hR, hK⟩
  obtain ⟨ad, A0, c0, e, h0, _, _⟩ := main w (Below.refl _ _) 0 hn
  obtain ⟨b, o, sp⟩ := ad
  have hsp : sp = none := by
    cases sp with
    | none => rfl
    | some x =>
      exfalso
      simp only [World.cell?, Addr.add] at h0
      simp at h0
      split at h0 <;> cases h0
  subst hsp
  have e9 : ∀ m, (⟨b, o, none⟩ : Addr).add m = ⟨b, o + m, none⟩ := by intro m; unfold Addr.add; split <;> simp_all
  refine ⟨b, o, e, fun wy hb j hj => ?_⟩
  obtain ⟨ad, Aj, cj, e2, h1, h3, h4⟩ := main wy hb j hj
  rw [e] at e2
  cases e2
  rw [e9] at h1
  exact ⟨Aj, cj, h1, h3, h4⟩
/-- What the document leaves of domains by one nogood. -/
def lv (D : List (List Int)) (P : List (Int × Int)) : Option (List (List Int)) :=
  if (openL D (P.map un29) (0, 0) 0).2.2 = 0 then none else if (openL D (P.map un29) (0, 0) 0).2.2 = 1 then some (D.set (openL D (P.map un29) (0, 0) 0).1.toNat ((D.getD (openL D (P.map un29) (0, 0) 0).1.toNat []).filter fun u => !decide (u = (openL D (P.map un29) (0, 0) 0).2.1))) else some D
/-- What a call that leaves something of lists leaves. -/
def LP (okd : Nat → Prop) (o : Option (List (List Int))) (w : World) (e : Ending) (w' : World) : Prop :=
  Below w.heap.size w w' ∧ match o with
    | none => e = .returned (.tuple #[.slice none 0 0, .bool false])
    | some D2 => ∃ A' c', e = .returned (.tuple #[.slice A' D2.length c', .bool true]) ∧ D2.length ≤ c' ∧ Kd.F kInts w' (fun k => okd k ∨ w.heap.size ≤ k) A' D2.length D2
theorem LP.same {okd : Nat → Prop} {A : Option Addr} {c : Nat} {D : List (List Int)} {w w' : World} (hD : Kd.F kInts w okd A D.length D) (hc : D.length ≤ c) (hb : Below w.heap.size w w') : LP okd (some D) w (.returned (.tuple #[.slice A D.length c, .bool true])) w' :=
  ⟨hb, A, c, rfl, hc, Kd.F_below (Kd.F_mono hD (fun k hk => .inl hk)) hb⟩
theorem stays0 (l : List Int) (u : Int) : l.filter (Go.Proofs.YtgckohmppefibaaDoor.Rf.stays 0 u []) = l.filter fun x => !decide (x = u) := by
  congr 1
set_option maxHeartbeats 8000000 in
set_option maxRecDepth 100000 in
theorem leaveW (An : Option Addr) (cn : Nat) (P : List (Int × Int)) (Ad : Option Addr) (cd : Nat) (D : List (List Int)) (okd : Nat → Prop) (w : World) (hP : Kd.C k84 w An P.length (P.map un84)) (hPb : P.length ≤ 100) (hD : Kd.F kInts w okd Ad D.length D) (hcd : D.length ≤ cd) (hDb : D.length ≤ 100) (hDl : ∀ x ∈ D, x.length ≤ 1000000) :
    Calls Tryd.prog 50 #[.slice An P.length cn, .slice Ad D.length cd] w (LP okd (lv D P) w) := by
  have HP := Aside0.mk hP
  have HD := Aside0.mk hD
  have HL := Aside0.mk hDl
  have PL := Aside0.mk (fun j (hj : j < P.length) => List.drop_eq_getElem_cons hj)
  clear hP hD hDl
  go_enter Tryd.func50, Tryd.ntmps50
  go_wp2_with fail
  go_loopg [6, 8, 9, 10] P.length (fun kx s6 s8 s9 s10 wr => ∃ (i c : Nat) (a1 a2 : Int), s6 = .int .i64 c ∧ s8 = .int .i64 i ∧ i ≤ P.length ∧ c ≤ i ∧ P.length - i ≤ kx ∧ wr.heap[w.heap.size]? = some (.cells #[.int .i64 a1, .int .i64 a2] 84 (0, 0)) ∧ Aside0 (Below w.heap.size w wr ∧ openL D (P.map un29) (0, 0) 0 = openL D ((P.drop i).map un29) (a1, a2) c))
  case atStart => exact ⟨0, 0, 0, 0, rfl, rfl, Nat.zero_le _, Nat.le_refl _, by omega, blk_new w _, Aside0.mk ⟨below_alloc (Below.refl _ _) _, by rw [List.drop_zero]⟩⟩
  case round =>
    obtain ⟨i, cnt, a1, a2, rfl, rfl, hil, hci, hg, hbx, HI⟩ := hrel
    by_cases hlt : i < P.length
    · obtain ⟨bp, op, rfl, hbwp, hcellp⟩ := raw84 (xs := P.map un84) (by rw [List.length_map]; exact HP.out) (by rw [List.length_map]; omega)
      obtain ⟨d0, d1⟩ := hcellp i (by rw [List.length_map]; exact hlt)
      rw [List.getElem_map] at d0 d1
      have e0 : wr.cell? ⟨bp, op + i * 2, none⟩ = some (.int .i64 P[i].1) := (HI.out.1.cell (p := ⟨bp, op + i * 2, none⟩) hbwp).trans d0
      have e1 : wr.cell? ⟨bp, op + i * 2 + 1, none⟩ = some (.int .i64 P[i].2) := (HI.out.1.cell (p := ⟨bp, op + i * 2 + 1, none⟩) hbwp).trans d1
      have X := Aside0.mk (PL.out i hlt)
      clear d0 d1 hcellp
      generalize P[i] = x at e0 e1 X
      obtain ⟨v, u⟩ := x
      simp only at e0 e1
      have hi0 : (0 : Int) ≤ (i : Int) := by omega
      have hi1 : (i : Int) < (P.length : Int) := by omega
      have OS : Aside0 (openL D (P.map un29) (0, 0) 0 = if v < 0 ∨ (D.length : Int) ≤ v ∨ u ∉ D.getD v.toNat [] then (0, 0, 2) else if 1 < (D.getD v.toNat []).length then openL D ((P.drop (i + 1)).map un29) (v, u) (cnt + 1) else openL D ((P.drop (i + 1)).map un29) (a1, a2) cnt) := Aside0.mk (by rw [HI.out.2, X.out]; rfl)
      have bad : (v < 0 ∨ (D.length : Int) ≤ v ∨ u ∉ D.getD v.toNat []) → Aside0 (lv D P = some D) := fun h => Aside0.mk (by unfold lv; rw [OS.out, if_pos h]; rfl)
      by_cases hv0 : v < 0
      · have LB := bad (.inl hv0)
        clear bad
        go_wp2_with fail
        go_ret2
        rw [LB.out]
        exact LP.same HD.out hcd HI.out.1
      · by_cases hv1 : v ≥ (D.length : Int)
        · have LB := bad (.inr (.inl hv1))
          clear bad
          go_wp2_with fail
          go_ret2
          rw [LB.out]
          exact LP.same HD.out hcd HI.out.1
        · obtain ⟨vn, rfl⟩ : ∃ vn : Nat, v = (vn : Int) := ⟨v.toNat, by omega⟩
          have hvn : vn < D.length := by omega
          obtain ⟨bd, od, rfl, hrow⟩ := rowsI HD.out (by omega)
          obtain ⟨Av, cv, f0, hRv, _⟩ := hrow wr HI.out.1 vn hvn
          have EG := Aside0.mk (show D.getD ((vn : Int)).toNat [] = D[vn] from by rw [Int.toNat_natCast, List.getD_eq_getElem?_getD, List.getElem?_eq_getElem hvn]; rfl)
          have hR2 := Go.Proofs.YtgckohmppefibaaDoor.ref_has_rd _ D[vn] u wr hRv
          rw [EG.out] at bad OS
          have LN := Aside0.mk (HL.out D[vn] (List.getElem_mem hvn))
          clear hrow hRv EG
          generalize D[vn] = y at f0 hR2 bad OS LN
          have hm1 : (vn : Int) < (D.length : Int) := by omega
          have HH := Aside0.mk hR2
          clear hR2
          by_cases hu : u ∈ y
          · rw [decide_eq_true hu] at HH
            have OS2 : Aside0 (openL D (P.map un29) (0, 0) 0 = if 1 < y.length then openL D ((P.drop (i + 1)).map un29) ((vn : Int), u) (cnt + 1) else openL D ((P.drop (i + 1)).map un29) (a1, a2) cnt) := Aside0.mk (by rw [OS.out, if_neg (by rintro (h | h | h) <;> first | omega | exact h hu)])
            clear bad
            have LY := LN.out
            by_cases hy : 1 < y.length
            · have hy' : (1 : Int) < (y.length : Int) := by omega
              have g0 := blk_cell hbx 0
              have g1 := blk_cell hbx 1
              have q0 := blk_frozen hbx 0
              have q1 := blk_frozen hbx 1
              have HBX := Aside0.mk hbx
              clear hbx
              go_wp2_with (go_at_call 70; ((with_reducible refine HH.out.mono ?_); rintro e w5 ⟨rfl, rfl⟩))
              go_roundg (P.length - (i + 1))
              case measure => omega
              case rel => exact ⟨i + 1, cnt + 1, (vn : Int), u, rfl, rfl, by omega, by omega, Nat.le_refl _, blk_set (blk_set HBX.out 0 _) 1 _, Aside0.mk ⟨below_set (below_set HI.out.1 (Nat.le_refl _)) (Nat.le_refl _), by rw [OS2.out, if_pos hy]⟩⟩
            · have hy' : ¬ (1 : Int) < (y.length : Int) := by omega
              go_wp2_with (go_at_call 70; ((with_reducible refine HH.out.mono ?_); rintro e w5 ⟨rfl, rfl⟩))
              go_roundg (P.length - (i + 1))
              case measure => omega
              case rel => exact ⟨i + 1, cnt, a1, a2, rfl, rfl, by omega, by omega, Nat.le_refl _, hbx, Aside0.mk ⟨HI.out.1, by rw [OS2.out, if_neg hy]⟩⟩
          · rw [decide_eq_false hu] at HH
            have LB := bad (.inr (.inr hu))
            clear bad
            go_wp2_with (go_at_call 70; ((with_reducible refine HH.out.mono ?_); rintro e w5 ⟨rfl, rfl⟩))
            go_ret2
            rw [LB.out]
            exact LP.same HD.out hcd HI.out.1
    · have hi : i = P.length := by omega
      subst hi
      have OE : Aside0 (openL D (P.map un29) (0, 0) 0 = (a1, a2, ((min cnt 2 : Nat) : Int))) := Aside0.mk (by rw [HI.out.2, List.drop_length]; rfl)
      by_cases hc0 : cnt = 0
      · subst hc0
        have LB : Aside0 (lv D P = none) := Aside0.mk (by unfold lv; rw [OE.out]; rfl)
        go_wp2_with fail
        go_ret2
        rw [LB.out]
        exact ⟨HI.out.1, rfl⟩
      · by_cases hc1 : cnt = 1
        · subst hc1
          have AT := openL_at D (P.map un29) (0, 0) 0 (by rw [OE.out]; rfl) (.inl rfl)
          rw [OE.out] at AT
          simp only at AT
          obtain ⟨t0, t1, t2⟩ := AT
          obtain ⟨t, rfl⟩ : ∃ t : Nat, a1 = (t : Int) := ⟨a1.toNat, by omega⟩
          have ht : t < D.length := by omega
          have EG : D.getD ((t : Int)).toNat [] = D[t] := by rw [Int.toNat_natCast, List.getD_eq_getElem?_getD, List.getElem?_eq_getElem ht]; rfl
          rw [EG] at t2
          obtain ⟨l2, hl2⟩ : ∃ l2, l2 = D[t].filter fun x => !decide (x = a2) := ⟨_, rfl⟩
          have HL2 := Aside0.mk hl2
          have LB : Aside0 (lv D P = some (D.set t l2)) := Aside0.mk (by
            unfold lv
            rw [OE.out, if_neg (by simp), if_pos (by simp)]
            simp only
            rw [EG, Int.toNat_natCast, hl2])
          obtain ⟨D2, hD2⟩ : ∃ D2, D2 = D.set t l2 := ⟨_, rfl⟩
          rw [← hD2] at LB
          have HD2 := Aside0.mk hD2
          have hD2l : D2.length = D.length := by rw [hD2, List.length_set]
          clear hl2 hD2
          obtain ⟨wo, rfl⟩ : ∃ wo, wo = wr := ⟨_, rfl⟩
          have hws : w.heap.size ≤ wo.heap.size := HI.out.1.size
          have HBO := Aside0.mk hbx
          go_wp2_with fail
          go_loopg [11, 12, 13] D.length (fun kx s11 s12 s13 wz => ∃ i : Nat, s12 = .int .i64 i ∧ i ≤ D.length ∧ D.length - i ≤ kx ∧ Aside0 (Below wo.heap.size wo wz ∧ Kd.N kInts 63 wz wo.heap.size (fun k => okd k ∨ w.heap.size ≤ k) s11 (D2.take i)))
          case atStart => exact ⟨0, rfl, Nat.zero_le _, by omega, Aside0.mk ⟨Below.refl _ _, by rw [List.take_zero]; exact Kd.N_nil _ _ _ _ _⟩⟩
          case round =>
            obtain ⟨i, rfl, hil2, hg2, HN⟩ := hrel
            by_cases hlt2 : i < D.length
            · obtain ⟨bd, od, rfl, hrow⟩ := rowsI HD.out (by omega)
              obtain ⟨Ai, ci, f0, hRi, hFK⟩ := hrow wr (below_step HI.out.1 HN.out.1) i hlt2
              have TK := Aside0.mk (show D2.take (i + 1) = D2.take i ++ [D2[i]] from List.take_succ_eq_append_getElem (by omega))
              have bz := (HN.out.1.block _ (blk_lt HBO.out)).trans HBO.out
              have g0 := blk_cell bz 0
              have g1 := blk_cell bz 1
              have LN := HL.out D[i] (List.getElem_mem hlt2)
              by_cases hit : i = t
              · subst hit
                have EY := Aside0.mk (show D2[i] = l2 from by simp only [HD2.out]; exact List.getElem_set_self _)
                have hkp := Go.Proofs.YtgckohmppefibaaDoor.ref_keep0_rd _ (.slice none 0 0) D[i] [] a2 wr hRi ⟨⟨_, _, rfl⟩, Nat.zero_le _, fun A n c e => (by cases e; exact ⟨Nat.le_refl _, fun _ => ⟨rfl, rfl⟩⟩), fun h => (by cases h)⟩ (by omega)
                rw [stays0, ← HL2.out] at hkp
                have HKP := Aside0.mk hkp
                rw [EY.out] at TK
                clear hkp hRi hFK hrow
                generalize D[i] = y at f0 HKP LN
                have hll : l2.length ≤ l2.length := Nat.le_refl _
                go_wp2_with (first
                  | (go_at_call 74; ((with_reducible refine HKP.out.mono ?_); rintro e w5 ⟨so, rfl, hOw, hb5⟩; obtain ⟨As, cs, rfl⟩ := hOw.sl.len; have HB5 := Aside0.mk hb5; have FKS := Aside0.mk (fk_ints (ok := fun k => wr.heap.size ≤ k ∧ k < w5.heap.size) hOw.sl (fun b hb => ⟨hOw.own b hb, sl_blk hOw.sl b hb⟩)); clear hOw hb5))
                  | ((with_reducible refine gate_builtin (b := .append) (xs := #[.tmp 91, .tmp 93]) rfl ?_); at_builtin; (refine Kd.N_append kInts (w0 := wo) (W := w5) wo.heap.size rfl (.tmp 91) (.tmp 93) 53 63 (.slice none 0 0) 24 rfl Tryd.underlying53 info63c rfl (by decide) (by decide) u11 (D2.take i) l2 [.slice As l2.length cs] (fun k => okd k ∨ w.heap.size ≤ k) (fun k => wr.heap.size ≤ k ∧ k < w5.heap.size) rfl rfl FKS.out (fun k hk => ⟨.inr (by have h8 := HN.out.1.size; omega), fun he => by have h9 := Kd.N_lt HN.out.2 k he.symm; omega⟩) (fun k hk => .inr (by have h8 := (below_step HN.out.1 HB5.out).size; omega)) (Kd.N_below HN.out.2 HB5.out) (below_step HN.out.1 HB5.out) (below_step HN.out.1 HB5.out).size (by rw [List.length_take]; omega) ?_); intro v1 w6 ho hbel hg9 hat; have HO := Aside0.mk ho; have HBB := Aside0.mk hbel; clear ho hbel hg9 hat))
                go_roundg (D.length - (i + 1))
                case measure => omega
                case rel => exact ⟨i + 1, rfl, by omega, Nat.le_refl _, Aside0.mk ⟨HBB.out, by rw [TK.out]; exact HO.out⟩⟩
              · have EY := Aside0.mk (show D2[i] = D[i] from by simp only [HD2.out]; exact List.getElem_set_ne (fun e => hit e.symm) _)
                have hne : ((i : Int) == (t : Int)) = false := beq_eq_false_iff_ne.2 (by omega)
                rw [EY.out] at TK
                have FKY := Aside0.mk hFK
                clear hRi hFK hrow
                generalize D[i] = y at f0 FKY LN TK
                go_wp2_with ((with_reducible refine gate_builtin (b := .append) (xs := #[.tmp 91, .tmp 93]) rfl ?_); at_builtin; (refine Kd.N_append kInts (w0 := wo) (W := wr) wo.heap.size rfl (.tmp 91) (.tmp 93) 53 63 (.slice none 0 0) 24 rfl Tryd.underlying53 info63c rfl (by decide) (by decide) u11 (D2.take i) y [.slice Ai y.length ci] (fun k => okd k ∨ w.heap.size ≤ k) (fun k => okd k ∧ k < w.heap.size) rfl rfl FKY.out (fun k hk => ⟨.inl hk.1, fun he => by have h9 := Kd.N_base HN.out.2 k he.symm; have h7 := hk.2; omega⟩) (fun k hk => .inr (by have h8 := HN.out.1.size; omega)) (Kd.N_below HN.out.2 (Below.refl _ _)) HN.out.1 HN.out.1.size (by rw [List.length_take]; omega) ?_); intro v1 w6 ho hbel hg9 hat; have HO := Aside0.mk ho; have HBB := Aside0.mk hbel; clear ho hbel hg9 hat)
                go_roundg (D.length - (i + 1))
                case measure => omega
                case rel => exact ⟨i + 1, rfl, by omega, Nat.le_refl _, Aside0.mk ⟨HBB.out, by rw [TK.out]; exact HO.out⟩⟩
            · have hi2 : i = D.length := by omega
              subst hi2
              have HN2 := Aside0.mk (show Kd.N kInts 63 wr wo.heap.size (fun k => okd k ∨ w.heap.size ≤ k) u11 D2 from by have := HN.out.2; rwa [List.take_of_length_le (by omega)] at this)
              obtain ⟨A9, c9, rfl⟩ := Kd.N_slice HN2.out
              go_wp2_with fail
              go_ret2
              rw [LB.out]
              have hq := Kd.N_reads' HN2.out
              exact ⟨below_step HI.out.1 HN.out.1, A9, c9, rfl, hq.2.1, Kd.N_F HN2.out⟩
        · have LB : Aside0 (lv D P = some D) := Aside0.mk (by unfold lv; rw [OE.out, if_neg (by simp only; omega), if_neg (by simp only; omega)])
          have hcc0 : ((cnt : Int) == 0) = false := beq_eq_false_iff_ne.2 (by omega)
          have hcc1 : (1 : Int) < (cnt : Int) := by omega
          go_wp2_with fail
          go_ret2
          rw [LB.out]
          exact LP.same HD.out hcd HI.out.1
end Go.Proofs.YtgckohmppefibaaDoorX.Hz
