import Derived.Test.YtdnllmngaljflaaGreatDoorOpPlain
import Derived.Test.YtdnllmngaljflaaGreatDoorOpRt
namespace Go.Proofs.YtdnllmngaljflaaGreatDoorX.Ho
open Go.RowKit Go.Proofs.YtdnllmngaljflaaGreatDoorW.PrintWords Go.Proofs.YtdnllmngaljflaaGreatDoorW.PrintLast Go.Proofs.YtdnllmngaljflaaGreatDoorW.PrintMore
attribute [local go_sem] max2_int min2_int max_two min_two max_three min_three max_four min_four
set_option linter.unusedVariables false
set_option linter.unusedSimpArgs false
attribute [local go_sem] Go.Proofs.YtdnllmngaljflaaGreatDoor.Hook.cell_two
/-! ### OptsBack -/
theorem print_size (o : Ov) (h : goodL o = true) : (printL o).length ≤ 10000 := by
  obtain ⟨r, k, u, n, d, st, he, hr, hk, hu, hn, hd, hs⟩ := good_nat o h
  obtain ⟨r0, gr, la, ph, ng, k0, u0, n0, d0, st0⟩ := o
  simp only at he
  rw [he]
  unfold printL wordsP
  rw [join_len]
  simp only [List.length_append, List.length_cons, Int.toNat_natCast]
  have a1 := rule_len r hr
  have a2 := sched_len k hk
  have a3 := onB_len la
  have a4 := onB_len ph
  have a5 := onB_len ng
  have a6 := vaB_len gr
  have a7 := itoa_len u hu
  have a8 := itoa_len n hn
  have a9 := itoa_len d hd
  have a10 := itoa_len st hs
  have b : (schT (k : Int) u n d).length ≤ 80 := by
    unfold schT
    rw [List.length_append, Int.toNat_natCast]
    split
    · simp only [List.length_cons]; omega
    · split
      · simp only [List.length_cons, List.length_append]; omega
      · simp only [List.length_nil]; omega
  have c1 : kRule.length = 4 := rfl
  have c2 : kValue.length = 5 := rfl
  have c3 : kLast.length = 4 := rfl
  have c4 : kPhase.length = 5 := rfl
  have c5 : kNogoods.length = 7 := rfl
  have c6 : kRestart.length = 7 := rfl
  have c7 : kSteps.length = 5 := rfl
  omega
theorem cut500 (t : ByteArray) : (t.extract 0 (min t.size 500)).size ≤ 10000000 := by
  rw [ByteArray.size_extract]; omega
set_option maxHeartbeats 8000000 in
set_option maxRecDepth 100000 in
theorem lawBack (p : Ov) (t : ByteArray) (w : World) (hE : Env w) : Calls Tryz.prog 5 #[.agg p.rc, .string t] w fun e w' => e = .returned (.bool true) ∧ Below w.heap.size w w' := by
  have HE := Aside0.mk hE
  have HOF := Aside0.mk (fun w1 => ofW p w1)
  have HPR := Aside0.mk (fun (w1 : World) (h : Env w1) => printW p w1 h)
  have HPL := Aside0.mk (fun w1 => plainW p w1)
  obtain ⟨tx, er, hpr⟩ : ∃ tx er, printR p = (tx, er) := ⟨_, _, rfl⟩
  have HER := Aside0.mk (show (er = 0 ∧ goodL p = true ∧ tx = printL p) ∨ er = 2 from by
    unfold printR at hpr
    by_cases hg : goodL p = true
    · rw [if_pos hg] at hpr; cases hpr; exact .inl ⟨rfl, hg, rfl⟩
    · rw [if_neg hg] at hpr; cases hpr; exact .inr rfl)
  rw [hpr] at HPR
  have HPA := Aside0.mk (fun (hg : goodL p = true ∧ tx = printL p) (w1 : World) (h : Env w1) => show Calls Tryz.prog 7 #[.string ⟨tx.toArray⟩] w1 (PQp (p, 0, 0) w1) from by
    have := parseW ⟨tx.toArray⟩ (by have := print_size p hg.1; show tx.toArray.size ≤ _; rw [List.size_toArray, hg.2]; omega) w1 h
    rwa [bt_data, hg.2, back_ok p hg.1, ← hg.2] at this)
  have H2P := Aside0.mk (fun (w1 : World) (h : Env w1) => parseW (t.extract 0 (min t.size 500)) (cut500 t) w1 h)
  have HA := Aside0.mk (show (500 < t.size → t.extract 0 (min t.size 500) = t.extract 0 500) ∧ (t.size ≤ 500 → t.extract 0 (min t.size 500) = t) from
    ⟨fun h => by rw [Nat.min_eq_right (by omega)], fun h => by rw [Nat.min_eq_left h]; exact ByteArray.extract_zero_size⟩)
  obtain ⟨R, hR⟩ : ∃ R, parseL (t.extract 0 (min t.size 500)).data.toList = R := ⟨_, rfl⟩
  have HRG := Aside0.mk (parse_good (t.extract 0 (min t.size 500)).data.toList)
  rw [hR] at H2P HRG
  obtain ⟨o, n9, e9⟩ := R
  have HWK := Aside0.mk (fun (w1 : World) (h : Env w1) => wakesW w1 h)
  clear hE hpr hR
  obtain ⟨r, gr, la, ph, ng, k, u, n, d, st⟩ := p
  simp only [Ov.pc, Ov.rc] at HOF HPR HPL ⊢
  have HPL' : Aside0 (∀ w1, Calls Tryz.prog 10 #[.agg #[.int .i64 r, .bool la, .bool ph, .bool gr, .int .i64 k, .int .i64 u, .int .i64 n, .int .i64 d, .bool ng, .int .i64 st]] w1 fun e w' => e = .returned (.agg #[.int .i64 r, .bool gr, .bool la, .bool ph, .bool ng, .int .i64 k, .int .i64 u, .int .i64 n, .int .i64 d, .int .i64 st]) ∧ Below w1.heap.size w1 w') := HPL
  clear HPL
  go_enter Tryz.func5, Tryz.ntmps5
  go_wp2_with fail
  with_reducible refine (HOF.out _).mono ?_
  rintro e w1 ⟨rfl, hb⟩
  have HB0 := Aside0.mk (below_alloc (Below.refl w.heap.size w) (.cells #[.int .i64 r, .bool gr, .bool la, .bool ph, .bool ng, .int .i64 k, .int .i64 u, .int .i64 n, .int .i64 d, .int .i64 st] 34 (0, 0)))
  have HB1 := Aside0.mk (below_step HB0.out hb)
  have HC1 := Aside0.mk ((hb.block w.heap.size (by simp)).trans (blk_new w _))
  clear hb HB0
  go_wp2_with fail
  with_reducible refine (HPR.out _ (HE.out.below HB1.out)).mono ?_
  rintro e w2 ⟨rfl, hb⟩
  have HB2 := Aside0.mk (below_step HB1.out hb)
  have HC2 := Aside0.mk ((hb.block w.heap.size (blk_lt HC1.out)).trans HC1.out)
  clear hb
  go_upto_if 25 with fail
  go_cut [7] (fun s7 wx => Below w.heap.size w wx)
  case first =>
    rcases HER.out with ⟨rfl, hg⟩ | rfl
    · have HPA2 := Aside0.mk (HPA.out hg)
      clear hg
      go_wp2_with fail
      with_reducible refine (HPA2.out _ (HE.out.below HB2.out)).mono ?_
      rintro e w3 ⟨rfl, hb⟩
      have HB3 := Aside0.mk (below_step HB2.out hb)
      have HC3 := Aside0.mk ((hb.block w.heap.size (blk_lt HC2.out)).trans HC2.out)
      clear hb
      simp only [Ov.pc]
      go_upto_region 4 with fail
      have BX := Aside0.mk (blk_new w3 (.cells #[.int .i64 r, .bool la, .bool ph, .bool gr, .int .i64 k, .int .i64 u, .int .i64 n, .int .i64 d, .bool ng, .int .i64 st] 29 (0, 0)))
      have HC4 := Aside0.mk (heap_alloc_of HC3.out (.cells #[.int .i64 r, .bool la, .bool ph, .bool gr, .int .i64 k, .int .i64 u, .int .i64 n, .int .i64 d, .bool ng, .int .i64 st] 29 (0, 0)))
      have HB4 := Aside0.mk (below_alloc HB3.out (.cells #[.int .i64 r, .bool la, .bool ph, .bool gr, .int .i64 k, .int .i64 u, .int .i64 n, .int .i64 d, .bool ng, .int .i64 st] 29 (0, 0)))
      generalize w3.alloc (Obj.cells #[.int .i64 r, .bool la, .bool ph, .bool gr, .int .i64 k, .int .i64 u, .int .i64 n, .int .i64 d, .bool ng, .int .i64 st] 29) = W at *
      generalize w3.heap.size = gx at *
      have hz := Aside0.mk (below_drew (Below.refl W.heap.size W))
      have KC := Aside0.mk (fun (w9 : World) (h9 : Below W.heap.size W w9) => show (fun w' => w'.cell? ⟨gx, 0, none⟩ = some (.int .i64 r) ∧ w'.cell? ⟨gx, 1, none⟩ = some (.bool la) ∧ w'.cell? ⟨gx, 2, none⟩ = some (.bool ph) ∧ w'.cell? ⟨gx, 3, none⟩ = some (.bool gr) ∧ w'.cell? ⟨gx, 4, none⟩ = some (.int .i64 k) ∧ w'.cell? ⟨gx, 5, none⟩ = some (.int .i64 u) ∧ w'.cell? ⟨gx, 6, none⟩ = some (.int .i64 n) ∧ w'.cell? ⟨gx, 7, none⟩ = some (.int .i64 d) ∧ w'.cell? ⟨gx, 8, none⟩ = some (.bool ng) ∧ w'.cell? ⟨gx, 9, none⟩ = some (.int .i64 st) ∧ w'.cell? ⟨w.heap.size, 0, none⟩ = some (.int .i64 r) ∧ w'.cell? ⟨w.heap.size, 1, none⟩ = some (.bool gr) ∧ w'.cell? ⟨w.heap.size, 2, none⟩ = some (.bool la) ∧ w'.cell? ⟨w.heap.size, 3, none⟩ = some (.bool ph) ∧ w'.cell? ⟨w.heap.size, 4, none⟩ = some (.bool ng) ∧ w'.cell? ⟨w.heap.size, 5, none⟩ = some (.int .i64 k) ∧ w'.cell? ⟨w.heap.size, 6, none⟩ = some (.int .i64 u) ∧ w'.cell? ⟨w.heap.size, 7, none⟩ = some (.int .i64 n) ∧ w'.cell? ⟨w.heap.size, 8, none⟩ = some (.int .i64 d) ∧ w'.cell? ⟨w.heap.size, 9, none⟩ = some (.int .i64 st)
        ) w9 from (have q1 := (h9.block gx (blk_lt BX.out)).trans BX.out; have q2 := (h9.block w.heap.size (blk_lt HC4.out)).trans HC4.out; ⟨blk_cell q1 0, blk_cell q1 1, blk_cell q1 2, blk_cell q1 3, blk_cell q1 4, blk_cell q1 5, blk_cell q1 6, blk_cell q1 7, blk_cell q1 8, blk_cell q1 9, blk_cell q2 0, blk_cell q2 1, blk_cell q2 2, blk_cell q2 3, blk_cell q2 4, blk_cell q2 5, blk_cell q2 6, blk_cell q2 7, blk_cell q2 8, blk_cell q2 9⟩
        ))
      refine wp_region_held_drew (S := fun w' => w'.cell? ⟨gx, 0, none⟩ = some (.int .i64 r) ∧ w'.cell? ⟨gx, 1, none⟩ = some (.bool la) ∧ w'.cell? ⟨gx, 2, none⟩ = some (.bool ph) ∧ w'.cell? ⟨gx, 3, none⟩ = some (.bool gr) ∧ w'.cell? ⟨gx, 4, none⟩ = some (.int .i64 k) ∧ w'.cell? ⟨gx, 5, none⟩ = some (.int .i64 u) ∧ w'.cell? ⟨gx, 6, none⟩ = some (.int .i64 n) ∧ w'.cell? ⟨gx, 7, none⟩ = some (.int .i64 d) ∧ w'.cell? ⟨gx, 8, none⟩ = some (.bool ng) ∧ w'.cell? ⟨gx, 9, none⟩ = some (.int .i64 st) ∧ w'.cell? ⟨w.heap.size, 0, none⟩ = some (.int .i64 r) ∧ w'.cell? ⟨w.heap.size, 1, none⟩ = some (.bool gr) ∧ w'.cell? ⟨w.heap.size, 2, none⟩ = some (.bool la) ∧ w'.cell? ⟨w.heap.size, 3, none⟩ = some (.bool ph) ∧ w'.cell? ⟨w.heap.size, 4, none⟩ = some (.bool ng) ∧ w'.cell? ⟨w.heap.size, 5, none⟩ = some (.int .i64 k) ∧ w'.cell? ⟨w.heap.size, 6, none⟩ = some (.int .i64 u) ∧ w'.cell? ⟨w.heap.size, 7, none⟩ = some (.int .i64 n) ∧ w'.cell? ⟨w.heap.size, 8, none⟩ = some (.int .i64 d) ∧ w'.cell? ⟨w.heap.size, 9, none⟩ = some (.int .i64 st)) (by kernel_rfl) ?_ (fun hHeld => ?_)
      · exact KC.out _ hz.out
      generalize W.drew = wd at *
      refine wpAnyH_take (i := 0) (oi := { dst := some 32, op := Op.move (Operand.tmp 9), type := 30, pos := "law.go:55", after := #[], guard := none }) (v := ?_) rfl (by kernel_rfl) (by kernel_rfl) (by kernel_rfl) (fun _ _ _ h => h) (Or.inl ⟨by rfl, ?_⟩) (by assumption) ?_
      rotate_left
      · (intro w hSw; (try dsimp only at hSw); go_simp; first | done | with_reducible rfl)
      try simp only [Act.put, List.setIfInBounds_toArray, List.set_cons_zero, List.set_cons_succ]
      refine wpAnyH_take (i := 1) (oi := { dst := some 33, op := Op.binOp BinOp.neq 30 (Operand.tmp 32) (Operand.const (Value.int IntKind.i64 0)) 30, type := 4, pos := "law.go:55", after := #[{ on := 0, ground := Ground.data }], guard := none }) (v := ?_) rfl (by kernel_rfl) (by kernel_rfl) (by kernel_rfl) (fun _ _ _ h => h) (Or.inl ⟨by rfl, ?_⟩) (by assumption) ?_
      rotate_left
      · (intro w hSw; (try dsimp only at hSw); go_simp; first | done | with_reducible rfl)
      try simp only [Act.put, List.setIfInBounds_toArray, List.set_cons_zero, List.set_cons_succ]
      refine wpAnyH_take (i := 2) (oi := { dst := some 34, op := Op.move (Operand.tmp 33), type := 4, pos := "law.go:55", after := #[{ on := 1, ground := Ground.data }], guard := none }) (v := ?_) rfl (by kernel_rfl) (by kernel_rfl) (by kernel_rfl) (fun _ _ _ h => h) (Or.inl ⟨by rfl, ?_⟩) (by assumption) ?_
      rotate_left
      · (intro w hSw; (try dsimp only at hSw); go_simp; first | done | with_reducible rfl)
      try simp only [Act.put, List.setIfInBounds_toArray, List.set_cons_zero, List.set_cons_succ]
      refine wpAnyH_take (i := 3) (oi := { dst := some 35, op := Op.load 29 (Operand.tmp 7), type := 29, pos := "law.go:55", after := #[{ on := 2, ground := Ground.guard }], guard := some (2, false) }) (v := ?_) rfl (by kernel_rfl) (by kernel_rfl) (by kernel_rfl) (fun _ _ _ h => h) (Or.inl ⟨by rfl, ?_⟩) (by assumption) ?_
      rotate_left
      · (intro w hSw; (try dsimp only at hSw); go_simp; first | done | with_reducible rfl)
      try simp only [Act.put, List.setIfInBounds_toArray, List.set_cons_zero, List.set_cons_succ]
      refine wpAnyH_take (i := 5) (oi := { dst := some 37, op := Op.load 34 (Operand.tmp 2), type := 34, pos := "law.go:55", after := #[{ on := 2, ground := Ground.guard }], guard := some (2, false) }) (v := ?_) rfl (by kernel_rfl) (by kernel_rfl) (by kernel_rfl) (fun _ _ _ h => h) (Or.inl ⟨by rfl, ?_⟩) (by assumption) ?_
      rotate_left
      · (intro w hSw; (try dsimp only at hSw); go_simp; first | done | with_reducible rfl)
      try simp only [Act.put, List.setIfInBounds_toArray, List.set_cons_zero, List.set_cons_succ]
      refine wpAnyH_ready (rs := [4]) (by kernel_rfl) (by simp) ?_
      refine AllReadyH.cons (o := { dst := some 36, op := Op.call { callee := Callee.value (Operand.func 10), args := #[Operand.tmp 35], argTypes := #[29] }, type := 34, pos := "law.go:55", after := #[{ on := 3, ground := Ground.data }, { on := 2, ground := Ground.chain }, { on := 2, ground := Ground.guard }], guard := some (2, false) }) rfl (fun KK hKK => ?_) AllReadyH.nil
      go_simp
      with_reducible refine (HPL'.out _).mono ?_
      rintro e w' ⟨rfl, hb⟩
      replace hz := Aside0.mk (below_step hz.out hb)
      clear hb
      go_wp2_with fail
      refine hKK.out _ _ ?_ (fun hHeld2 => ?_)
      · exact KC.out _ hz.out
      clear hKK KK hHeld
      have hHeld := hHeld2
      clear hHeld2
      try simp only [Act.put, List.setIfInBounds_toArray, List.set_cons_zero, List.set_cons_succ]
      refine wpAnyH_take (i := 6) (oi := { dst := some 38, op := Op.binOp BinOp.neq 34 (Operand.tmp 36) (Operand.tmp 37) 34, type := 4, pos := "law.go:55", after := #[{ on := 4, ground := Ground.data }, { on := 5, ground := Ground.data }, { on := 2, ground := Ground.guard }], guard := some (2, false) }) (v := ?_) rfl (by kernel_rfl) (by kernel_rfl) (by kernel_rfl) (fun _ _ _ h => h) (Or.inl ⟨by rfl, ?_⟩) (by assumption) ?_
      rotate_left
      · (intro w hSw; (try dsimp only at hSw); go_simp; first | done | with_reducible rfl)
      try simp only [Act.put, List.setIfInBounds_toArray, List.set_cons_zero, List.set_cons_succ]
      refine wpAnyH_take (i := 7) (oi := { dst := some 39, op := Op.pick (Operand.tmp 34) (Operand.const (Value.bool true)) (Operand.tmp 38), type := 4, pos := "law.go:55", after := #[{ on := 2, ground := Ground.data }, { on := 6, ground := Ground.data }], guard := none }) (v := ?_) rfl (by kernel_rfl) (by kernel_rfl) (by kernel_rfl) (fun _ _ _ h => h) (Or.inl ⟨by rfl, ?_⟩) (by assumption) ?_
      rotate_left
      · (intro w hSw; (try dsimp only at hSw); go_simp; first | done | with_reducible rfl)
      try simp only [Act.put, List.setIfInBounds_toArray, List.set_cons_zero, List.set_cons_succ]
      refine wpAnyH_done (by kernel_rfl) ?_ _
      go_wp2_with fail
      go_meet
      exact below_step HB4.out hz.out
    · go_wp2_with fail
      go_meet
      exact HB2.out
  case rest =>
  have HB5 := Aside0.mk hcut
  clear hcut
  have H500 := Aside0.mk (fun (h5 : 500 < t.size) (w1 : World) (h : Env w1) => show Calls Tryz.prog 7 #[.string (t.extract 0 500)] w1 (PQp (o, n9, e9) w1) from by rw [← HA.out.1 h5]; exact H2P.out w1 h)
  have HALL := Aside0.mk (fun (h5 : t.size ≤ 500) (w1 : World) (h : Env w1) => show Calls Tryz.prog 7 #[.string t] w1 (PQp (o, n9, e9) w1) from by have := H2P.out w1 h; rwa [HA.out.2 h5] at this)
  clear H2P HA
  go_upto_region 6 with fail
  go_cut [10, 11, 12] (fun s10 s11 s12 wx => ∃ gx, s10 = .pointer (some ⟨gx, 0, none⟩) ∧ s12 = .int .i64 e9 ∧ Below w.heap.size w wx ∧ wx.heap[gx]? = some (.cells o.pc 29 (0, 0)))
  case first =>
    obtain ⟨r', gr', la', ph', ng', k', u', n', d', st'⟩ := o
    by_cases h5 : t.size ≤ 500
    · have HB := Aside0.mk (HALL.out h5)
      have g1 : (t.size : Int) ≤ 500 := by omega
      clear h5
      go_wp2_with fail
      with_reducible refine (HB.out _ (HE.out.below HB5.out)).mono ?_
      rintro e w3 ⟨rfl, hb⟩
      have HB6 := Aside0.mk (below_step HB5.out hb)
      clear hb
      simp only [Ov.pc]
      go_wp2_with fail
      go_meet
      exact ⟨_, rfl, rfl, below_alloc HB6.out _, blk_new w3 _⟩
    · have HB := Aside0.mk (H500.out (by omega))
      have g1 : (500 : Int) < (t.size : Int) := by omega
      clear h5
      go_wp2_with fail
      with_reducible refine (HB.out _ (HE.out.below HB5.out)).mono ?_
      rintro e w3 ⟨rfl, hb⟩
      have HB6 := Aside0.mk (below_step HB5.out hb)
      clear hb
      simp only [Ov.pc]
      go_wp2_with fail
      go_meet
      exact ⟨_, rfl, rfl, below_alloc HB6.out _, blk_new w3 _⟩
  case rest =>
  obtain ⟨gx, rfl, rfl, hb, hx⟩ := hcut
  have HB6 := Aside0.mk hb
  have BX := Aside0.mk hx
  clear hb hx
  by_cases he : e9 = 0
  · have hg : goodL o = true := HRG.out.1 he
    obtain rfl : e9 = 0 := he
    have HCK := Aside0.mk (fun w1 => checkW o w1)
    rw [hg] at HCK
    have HP2 := Aside0.mk (fun (w1 : World) (h : Env w1) => printW o w1 h)
    have hpr : printR o = (printL o, 0) := by unfold printR; rw [if_pos hg]
    rw [hpr] at HP2
    have HP3 := Aside0.mk (fun (w1 : World) (h : Env w1) => parseW ⟨(printL o).toArray⟩ (by have := print_size o hg; show (printL o).toArray.size ≤ _; rw [List.size_toArray]; omega) w1 h)
    rw [bt_data, back_ok o hg] at HP3
    generalize printL o = PL at HP2 HP3
    clear hpr hg HRG
    obtain ⟨r', gr', la', ph', ng', k', u', n', d', st'⟩ := o
    simp only [Ov.pc] at HCK HP2 HP3 BX
    have q := BX.out
    have c0 := blk_cell q 0
    have c1 := blk_cell q 1
    have c2 := blk_cell q 2
    have c3 := blk_cell q 3
    have c4 := blk_cell q 4
    have c5 := blk_cell q 5
    have c6 := blk_cell q 6
    have c7 := blk_cell q 7
    have c8 := blk_cell q 8
    have c9 := blk_cell q 9
    clear q
    go_wp2_with fail
    with_reducible refine (HP2.out _ (HE.out.below HB6.out)).mono ?_
    rintro e w4 ⟨rfl, hb⟩
    have HB7 := Aside0.mk (below_step HB6.out hb)
    have BX2 := Aside0.mk ((hb.block gx (blk_lt BX.out)).trans BX.out)
    clear hb c0 c1 c2 c3 c4 c5 c6 c7 c8 c9
    go_wp2_with fail
    with_reducible refine (HP3.out _ (HE.out.below HB7.out)).mono ?_
    rintro e w5 ⟨rfl, hb⟩
    have HB8 := Aside0.mk (below_step HB7.out hb)
    have BX3 := Aside0.mk ((hb.block gx (blk_lt BX2.out)).trans BX2.out)
    clear hb
    simp only [Ov.pc]
    go_upto_region 11 with fail
    have BY := Aside0.mk (blk_new w5 (.cells #[.int .i64 r', .bool la', .bool ph', .bool gr', .int .i64 k', .int .i64 u', .int .i64 n', .int .i64 d', .bool ng', .int .i64 st'] 29 (0, 0)))
    have BX4 := Aside0.mk (heap_alloc_of BX3.out (.cells #[.int .i64 r', .bool la', .bool ph', .bool gr', .int .i64 k', .int .i64 u', .int .i64 n', .int .i64 d', .bool ng', .int .i64 st'] 29 (0, 0)))
    have HB9 := Aside0.mk (below_alloc HB8.out (.cells #[.int .i64 r', .bool la', .bool ph', .bool gr', .int .i64 k', .int .i64 u', .int .i64 n', .int .i64 d', .bool ng', .int .i64 st'] 29 (0, 0)))
    generalize w5.alloc (Obj.cells #[.int .i64 r', .bool la', .bool ph', .bool gr', .int .i64 k', .int .i64 u', .int .i64 n', .int .i64 d', .bool ng', .int .i64 st'] 29) = W at *
    generalize w5.heap.size = gy at *
    go_wp2_with fail
    with_reducible refine (HWK.out _ (HE.out.below HB9.out)).mono ?_
    rintro e w6 ⟨rfl, hb⟩
    have HB10 := Aside0.mk (below_step HB9.out hb)
    have BX5 := Aside0.mk ((hb.block gx (blk_lt BX4.out)).trans BX4.out)
    have BY5 := Aside0.mk ((hb.block gy (blk_lt BY.out)).trans BY.out)
    have q := BX5.out
    have c0 := blk_cell q 0
    have c1 := blk_cell q 1
    have c2 := blk_cell q 2
    have c3 := blk_cell q 3
    have c4 := blk_cell q 4
    have c5 := blk_cell q 5
    have c6 := blk_cell q 6
    have c7 := blk_cell q 7
    have c8 := blk_cell q 8
    have c9 := blk_cell q 9
    clear hb q
    go_wp2_with fail
    with_reducible refine (HCK.out _).mono ?_
    rintro e w7 ⟨rfl, hb⟩
    have HB11 := Aside0.mk (below_step HB10.out hb)
    have q := (hb.block gx (blk_lt BX5.out)).trans BX5.out
    have q2 := (hb.block gy (blk_lt BY5.out)).trans BY5.out
    clear c0 c1 c2 c3 c4 c5 c6 c7 c8 c9
    have c0 := blk_cell q 0
    have c1 := blk_cell q 1
    have c2 := blk_cell q 2
    have c3 := blk_cell q 3
    have c4 := blk_cell q 4
    have c5 := blk_cell q 5
    have c6 := blk_cell q 6
    have c7 := blk_cell q 7
    have c8 := blk_cell q 8
    have c9 := blk_cell q 9
    have d0 := blk_cell q2 0
    have d1 := blk_cell q2 1
    have d2 := blk_cell q2 2
    have d3 := blk_cell q2 3
    have d4 := blk_cell q2 4
    have d5 := blk_cell q2 5
    have d6 := blk_cell q2 6
    have d7 := blk_cell q2 7
    have d8 := blk_cell q2 8
    have d9 := blk_cell q2 9
    clear hb q q2
    simp only [if_true]
    go_wp2_with fail
    go_ret
    exact ⟨rfl, HB11.out⟩
  · obtain rfl : o = ov0 := HRG.out.2 he
    have f1 : (e9 == 0) = false := by rw [beq_eq_false_iff_ne]; exact he
    have f2 : decide (e9 = 0) = false := decide_eq_false he
    have f3 : (e9 != 0) = true := by rw [bne_iff_ne]; exact he
    clear HRG he
    simp only [Ov.pc, ov0] at BX
    go_wp2_with fail
    with_reducible refine (HWK.out _ (HE.out.below HB6.out)).mono ?_
    rintro e w4 ⟨rfl, hb⟩
    have HB8 := Aside0.mk (below_step HB6.out hb)
    have q1 := (hb.block gx (blk_lt BX.out)).trans BX.out
    have c0 := blk_cell q1 0
    have c1 := blk_cell q1 1
    have c2 := blk_cell q1 2
    have c3 := blk_cell q1 3
    have c4 := blk_cell q1 4
    have c5 := blk_cell q1 5
    have c6 := blk_cell q1 6
    have c7 := blk_cell q1 7
    have c8 := blk_cell q1 8
    have c9 := blk_cell q1 9
    clear hb q1
    go_wp2_with fail
    go_ret
    exact ⟨rfl, HB8.out⟩
end Go.Proofs.YtdnllmngaljflaaGreatDoorX.Ho
