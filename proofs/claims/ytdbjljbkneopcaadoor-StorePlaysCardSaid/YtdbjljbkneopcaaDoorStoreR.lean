/- StorePlays walked. -/
import Derived.Test.YtdbjljbkneopcaaDoorStoreQ
namespace Go.Proofs.YtdbjljbkneopcaaDoor
open Go.RowKit
set_option linter.unusedSimpArgs false
set_option linter.unusedVariables false

set_option maxHeartbeats 16000000 in
set_option maxRecDepth 100000 in
theorem law3_plays (P : Nat → Prop) (sv : Value) (L : List (List Int)) (AA : Option Addr) (len cap : Nat) (D V NN : Nat → Int) (SL : Nat → Value) (LL : Nat → List Int) (w : World) (h : Rr P w sv L) (hlc : len ≤ cap) (hcap : cap ≤ 9223372036854775807) (ha : Su.Acts w AA len D V NN SL LL) (hT : Tab w) :
    Calls Tryd.prog 8 #[sv, .slice AA len cap] w (Rf.Says true w) := by
  have HT := Lib.hid hT
  have ACT := Lib.hid ha
  have CL := Lib.hid (law3_lists P sv L w h hT)
  have hlen : Hid ((Rf.smalls L).length ≤ 6) := Lib.hid (by unfold Rf.smalls; rw [List.length_map, List.length_take]; omega)
  have hsm : Hid (∀ l ∈ Rf.smalls L, l.length ≤ 8) := Lib.hid fun l hl => by
    obtain ⟨x, _, rfl⟩ := List.mem_map.1 hl
    exact Rf.small_len x
  generalize Rf.smalls L = M at *
  have hk1 : min (len : Int) 40 = ((min len 40 : Nat) : Int) := by omega
  have hk2 : min len 40 ≤ len := by omega
  have hk3 : min len 40 ≤ cap := by omega
  have hk4 : ((min len 40 : Nat) : Int) ≤ (cap : Int) := by omega
  have hk5 : min len 40 ≤ 40 := by omega
  generalize min len 40 = mm at *
  clear h hT ha
  go_enter Tryd.func8, Tryd.ntmps8
  go_wp2_with fail
  refine CL.out.mono ?_
  rintro e w4 ⟨sa, sb, vs, rfl, hdl, hnil, hown, hrr, hb⟩
  have B4 := Lib.hid hb
  have HRR := Lib.hid hrr
  obtain ⟨A, c, rfl⟩ := hdl.sl.len
  obtain ⟨Ab, cb, rfl⟩ := hrr.len
  have CN := Lib.hid (own_new _ vs M w4 hdl (by have := hlen.out; omega) hnil)
  clear hdl hnil hown hrr hb CL
  go_wp2_with fail
  refine CN.out.mono ?_
  rintro e w5 ⟨S, p, rfl, ho⟩
  have HO := Lib.hid ho
  have CR := Lib.hid (ref3_new _ _ M w5 (HRR.out.call ho.below))
  clear ho CN
  go_wp2_with fail
  refine CR.out.mono ?_
  rintro e w6 ⟨v6, lv, ev, rfl, hr, hb⟩
  obtain rfl := hr.val
  obtain ⟨Al, cl, rfl⟩ := hr.lev.len
  obtain ⟨Ae, ce, rfl⟩ := hr.evs.len
  have B6 := Lib.hid hb
  have HR6 := Lib.hid hr
  have I0 : Hid (Su.Bo w w4 S w6.heap.size (w6.alloc (.cells #[.slice Al [M].length cl, .slice Ae ([] : List (Int × Int)).length ce] 78)) (Su.new M) 0) := by
    have hO6 := HO.out.call hb
    have hlt : ∀ k, p.fp S k → k < w5.heap.size := fun k hk => HO.out.at_.toMem.fp_lt hk
    refine Lib.hid ⟨⟨p, _, _, ⟨hO6.call (below_alloc (Below.refl _ _) _), heap_new _ _, fun hk => by have := hlt _ hk; have := hb.size; omega, Nat.le_trans HO.out.below.size hb.size, (hr.call (below_alloc (Below.refl _ _) _)).mono (fun b hq => ?_), hlen.out, hsm.out⟩⟩, ⟨hsm.out, fun e he => (by cases he)⟩, B4.out⟩
    have hs5 := hb.size
    rcases hq with hq | hq
    · refine ⟨fun hk => ?_, ?_, ?_⟩
      · have h1 := HO.out.fp _ hk
        have h2 := hq.2.2
        omega
      · have h2 := hq.2.2
        have h3 := HO.out.below.size
        omega
      · have h2 := hq.2.2
        have h3 := HO.out.below.size
        simp
        omega
    · refine ⟨fun hk => ?_, by omega, by simp; omega⟩
      have := hlt _ hk
      omega
  go_wp2_with fail
  obtain ⟨b8, hb8⟩ : ∃ b, b = w6.heap.size := ⟨_, rfl⟩
  generalize w6.alloc (.cells #[.slice Al [M].length cl, .slice Ae ([] : List (Int × Int)).length ce] 78) = w7 at I0 ⊢
  rw [← hb8] at I0 ⊢
  clear hb8 hr hb
  go_loopg [39] mm (fun k s39 wr => ∃ (j N : Nat) (m : Su.M), s39 = .int .i64 j ∧ k + j = mm ∧ N ≤ 2 * j ∧ Hid (Su.Bo w w4 S b8 wr m N))
  case atStart => exact ⟨0, 0, _, rfl, by omega, by omega, I0⟩
  case round =>
    obtain ⟨j, N, m, rfl, hj, hNj, hbo⟩ := hrel
    rcases Nat.lt_or_ge j mm with hk | hk
    · obtain ⟨ba, oa, e, hba, a0, a1, a2, a3, d0, d1, d2, hrd⟩ := ACT.out.at_ j (by omega)
      cases e
      have hbel := hbo.out.bel
      have HRD := Lib.hid (hrd.call hbel)
      obtain ⟨Aq, cq, hsl⟩ := hrd.len
      rw [hsl] at a3 HRD
      rw [← (bcell hbel).1 ba _ hba] at a0 a1 a2 a3
      generalize D j = dj at *
      generalize V j = vj at *
      generalize NN j = nj at *
      generalize LL j = lj at *
      have hjl : (j : Int) < (mm : Int) := by omega
      have hq1 : 0 ≤ dj := d0.1
      have hq2 : dj ≤ 255 := d0.2
      have BX0 := Lib.hid (heap_new wr (.cells #[.int .u8 dj, .int .i64 vj, .int .i64 nj, .slice Aq lj.length cq] 55))
      have BO1 := Lib.hid (hbo.out.call (below_alloc (Below.refl _ _) (.cells #[.int .u8 dj, .int .i64 vj, .int .i64 nj, .slice Aq lj.length cq] 55)))
      have HRD1 := Lib.hid (HRD.out.call (below_alloc (Below.refl wr.heap.size wr) (.cells #[.int .u8 dj, .int .i64 vj, .int .i64 nj, .slice Aq lj.length cq] 55)))
      have hN40 : N ≤ 80 := by omega
      clear hrd hsl d0 hbel
      by_cases c3 : dj % 6 = 3
      · have t3 : (dj % 6 == 3) = true := beq_iff_eq.2 c3
        clear c3
        go_wp2_with fail
        have hba2 : Hid (∃ q, q = wr.heap.size) := Lib.hid ⟨_, rfl⟩
        generalize wr.heap.size = bx at BX0 ⊢
        generalize wr.alloc (.cells #[.int .u8 dj, .int .i64 vj, .int .i64 nj, .slice Aq lj.length cq] 55) = wa at BX0 BO1 HRD1 ⊢
        have y0 := cell_of BX0.out 0
        have y1 := cell_of BX0.out 1
        have y2 := cell_of BX0.out 2
        have y3 := cell_of BX0.out 3
        clear a0 a1 a2 a3 HRD hba2
        obtain ⟨p1, lv1, ev1, hpl⟩ := BO1.out.pl
        have PL := Lib.hid hpl
        have hL1 : Hid ((Su.LS m).length < 1000) := Lib.hid (by have := hpl.own.sz.marks; rw [Su.LS_len, ← hpl.own.at_.ok.lens]; omega)
        have hE1 : Hid (m.events.length < 1000) := Lib.hid (by have := hpl.own.sz.events; omega)
        clear hpl
        refine (own_push PL.out.own (by omega)).mono ?_
        rintro e w2 ⟨rfl, p2, ho, st⟩
        have PL2 := Lib.hid (PL.out.store ho st PL.out.len PL.out.small)
        have x0 := cell_of PL2.out.box 0
        have x1 := cell_of PL2.out.box 1
        have CP := Lib.hid (ref3_push _ _ _ _ _ _ w2 PL2.out.ref m.cur (Su.LS_last m) (by rw [Su.LS_len]; omega) (by have := hL1.out; omega))
        clear ho st y0 y1 y2 y3
        go_wp2_with fail
        refine CP.out.mono ?_
        rintro e w3 ⟨v3, lv3, ev3, rfl, hr, hb⟩
        obtain rfl := hr.val
        have PL3 := Lib.hid (PL2.out.refs hr hb (.cells #[] 0)).2
        have hx3 := heap_call PL2.out.box hb
        obtain ⟨Al3, cl3, rfl⟩ := hr.lev.len
        obtain ⟨Ae3, ce3, rfl⟩ := hr.evs.len
        generalize (Su.LS m ++ [m.cur]).length = z3 at *
        generalize hz4 : m.events.length = z4 at *
        have t0 := cell_of hx3 0
        have t1 := cell_of hx3 1
        have f0 := frozen_of hx3 0
        have f1 := frozen_of hx3 1
        clear hr hb hx3 x0 x1 CP hz4
        go_wp2_with fail
        generalize (w3.setCell ⟨b8, 0, none⟩ (.slice Al3 z3 cl3)).setCell ⟨b8, 1, none⟩ (.slice Ae3 z4 ce3) = wt at PL3 ⊢
        clear t0 t1 f0 f1
        obtain ⟨mf, hmf⟩ : ∃ x, x = Su.push m := ⟨_, rfl⟩
        obtain ⟨Nf, hNf⟩ : ∃ x, x = N + 1 := ⟨_, rfl⟩
        have BOf : Hid (Su.Bo w w4 S b8 wt mf Nf) := by rw [hmf, hNf]; exact Lib.hid ⟨⟨p2, _, _, PL3.out⟩, BO1.out.sml, BO1.out.base⟩
        have hNf2 : Nf ≤ 2 * (j + 1) := by omega
        have hNf3 : Nf ≤ 100 := by omega
        clear hmf hNf
        obtain ⟨pf, lvf, evf, hplf⟩ := BOf.out.pl
        have PF := Lib.hid hplf
        obtain ⟨snow, hnow, cnow⟩ := ref3_now _ _ _ _ _ _ wt hplf.ref (by rw [Su.LS_len]; omega)
        rw [Su.LS_last] at hnow
        have hkf : (Su.LS mf).length = mf.marks.length + 1 := by rw [Su.LS_len, ← hplf.own.at_.ok.lens]
        have hsN : mf.marks.length ≤ Nf := hplf.own.sz.marks
        obtain ⟨Alf, clf, rfl⟩ := hplf.ref.lev.len
        obtain ⟨Aef, cef, rfl⟩ := hplf.ref.evs.len
        rw [hkf] at PF hplf cnow
        obtain ⟨Asn, csn, rfl⟩ := hnow.len
        have SIX : Hid (∀ w', Below wt.heap.size wt w' → w'.cell? ⟨b8, 0, none⟩ = some (.slice Alf (mf.marks.length + 1) clf) ∧ w'.cell? ⟨b8, 1, none⟩ = some (.slice Aef mf.events.length cef)) := Lib.hid fun w' hb => ⟨(cell_of (heap_call hplf.box hb) 0), cell_of (heap_call hplf.box hb) 1⟩
        have CLv := Lib.hid (fun w' (hb : Below wt.heap.size wt w') => store_level S pf mf w' (hplf.own.at_.toMem.call hb))
        have CNOW := Lib.hid cnow
        have CSM : Hid (∀ w', Below wt.heap.size wt w' → Calls Tryd.prog 55 #[.pointer (some ⟨S, 0, none⟩), .slice Asn mf.cur.length csn] w' (Rf.Says true w')) := Lib.hid fun w' hb => by
          have h1 := law3_same _ S pf mf _ mf.cur w' (hplf.own.at_.toMem.call hb) (hnow.call hb) (by have := hplf.len; omega) (HT.out.call (below_call (BOf.out.bel) hb))
          rwa [decide_eq_true rfl] at h1
        have hkb : mf.marks.length ≤ 1000 := by omega
        have SIX2 := SIX
        generalize mf.marks.length = kf at *
        have hw1 : IntKind.i64.wrap (((kf + 1 : Nat) : Int) - 1) = (kf : Int) := by rw [IntKind.wrap_i64]; omega
        have hw2 : IntKind.i64.wrap ((kf : Int) + 1 - 1) = (kf : Int) := by rw [IntKind.wrap_i64]; omega
        have hw3 : ((kf : Int) != (kf : Int)) = false := by simp
        have hw4 : IntKind.i64.wrap (kf : Int) = (kf : Int) := by rw [IntKind.wrap_i64]; omega
        clear hplf hnow cnow hkf SIX2
        have hz := Lib.hid ((Below.refl wt.heap.size wt).drew)
        refine wp_region_held_drew (S := fun w' => w'.cell? ⟨b8, 0, none⟩ = some (.slice Alf (kf + 1) clf) ∧ w'.cell? ⟨b8, 1, none⟩ = some (.slice Aef mf.events.length cef)) (by kernel_rfl) ?_ (fun hHeld => ?_)
        · exact SIX.out _ hz.out
        refine wpAnyH_take (i := 0) (oi := { dst := some 125, op := Op.move (Operand.tmp 7), type := 52, pos := "law.go:114", after := #[], guard := none }) (v := ?_) rfl (by kernel_rfl) (by kernel_rfl) (by kernel_rfl) (fun _ _ _ h => h) (Or.inl ⟨by rfl, ?_⟩) (by assumption) ?_
        rotate_left
        · (intro w hSw; (try dsimp only at hSw); go_simp; first | done | with_reducible rfl)
        try simp only [Act.put, List.setIfInBounds_toArray, List.set_cons_zero, List.set_cons_succ]
        refine wpAnyH_take (i := 2) (oi := { dst := some 127, op := Op.fieldAddr 78 (Operand.tmp 8) 0, type := 0, pos := "law.go:114", after := #[], guard := none }) (v := ?_) rfl (by kernel_rfl) (by kernel_rfl) (by kernel_rfl) (fun _ _ _ h => h) (Or.inl ⟨by rfl, ?_⟩) (by assumption) ?_
        rotate_left
        · (intro w hSw; (try dsimp only at hSw); go_simp; first | done | with_reducible rfl)
        try simp only [Act.put, List.setIfInBounds_toArray, List.set_cons_zero, List.set_cons_succ]
        refine wpAnyH_take (i := 3) (oi := { dst := some 128, op := Op.load 75 (Operand.tmp 127), type := 75, pos := "law.go:114", after := #[{ on := 2, ground := Ground.data }], guard := none }) (v := ?_) rfl (by kernel_rfl) (by kernel_rfl) (by kernel_rfl) (fun _ _ _ h => h) (Or.inl ⟨by rfl, ?_⟩) (by assumption) ?_
        rotate_left
        · (intro w hSw; (try dsimp only at hSw); go_simp; first | done | with_reducible rfl)
        try simp only [Act.put, List.setIfInBounds_toArray, List.set_cons_zero, List.set_cons_succ]
        refine wpAnyH_take (i := 4) (oi := { dst := some 129, op := Op.call { callee := Callee.builtin Builtin.len, args := #[Operand.tmp 128], argTypes := #[75] }, type := 3, pos := "law.go:114", after := #[{ on := 3, ground := Ground.data }], guard := none }) (v := ?_) rfl (by kernel_rfl) (by kernel_rfl) (by kernel_rfl) (fun _ _ _ h => h) (Or.inl ⟨by rfl, ?_⟩) (by assumption) ?_
        rotate_left
        · (intro w hSw; (try dsimp only at hSw); go_simp; first | done | with_reducible rfl)
        try simp only [Act.put, List.setIfInBounds_toArray, List.set_cons_zero, List.set_cons_succ]
        refine wpAnyH_take (i := 5) (oi := { dst := some 130, op := Op.binOp BinOp.sub 3 (Operand.tmp 129) (Operand.const (Value.int IntKind.i64 1)) 3, type := 3, pos := "law.go:114", after := #[{ on := 4, ground := Ground.data }], guard := none }) (v := ?_) rfl (by kernel_rfl) (by kernel_rfl) (by kernel_rfl) (fun _ _ _ h => h) (Or.inl ⟨by rfl, ?_⟩) (by assumption) ?_
        rotate_left
        · (intro w hSw; (try dsimp only at hSw); go_simp; first | done | with_reducible rfl)
        try simp only [Act.put, List.setIfInBounds_toArray, List.set_cons_zero, List.set_cons_succ]
        refine wpAnyH_ready (rs := [1]) (by kernel_rfl) (by simp) ?_
        refine AllReadyH.cons (o := { dst := some 126, op := Op.call { callee := Callee.value (Operand.func 36), args := #[Operand.tmp 125], argTypes := #[52] }, type := 3, pos := "law.go:114", after := #[{ on := 0, ground := Ground.data }], guard := none }) rfl (fun KK hKK => ?_) AllReadyH.nil
        go_simp
        with_reducible refine (CLv.out _ hz.out).mono ?_
        rintro e w' ⟨rfl, rfl⟩
        go_wp2_with fail
        refine hKK.out _ _ ?_ (fun hHeld2 => ?_)
        · exact SIX.out _ hz.out
        clear hKK KK hHeld
        have hHeld := hHeld2
        clear hHeld2
        try simp only [Act.put, List.setIfInBounds_toArray, List.set_cons_zero, List.set_cons_succ]
        refine wpAnyH_take (i := 6) (oi := { dst := some 131, op := Op.binOp BinOp.neq 3 (Operand.tmp 126) (Operand.tmp 130) 3, type := 4, pos := "law.go:114", after := #[{ on := 1, ground := Ground.data }, { on := 5, ground := Ground.data }], guard := none }) (v := ?_) rfl (by kernel_rfl) (by kernel_rfl) (by kernel_rfl) (fun _ _ _ h => h) (Or.inl ⟨by rfl, ?_⟩) (by assumption) ?_
        rotate_left
        · (intro w hSw; (try dsimp only at hSw); go_simp; first | done | with_reducible rfl)
        try simp only [Act.put, List.setIfInBounds_toArray, List.set_cons_zero, List.set_cons_succ]
        refine wpAnyH_take (i := 7) (oi := { dst := some 132, op := Op.move (Operand.tmp 131), type := 4, pos := "law.go:114", after := #[{ on := 6, ground := Ground.data }, { on := 1, ground := Ground.chain }], guard := none }) (v := ?_) rfl (by kernel_rfl) (by kernel_rfl) (by kernel_rfl) (fun _ _ _ h => h) (Or.inl ⟨by rfl, ?_⟩) (by assumption) ?_
        rotate_left
        · (intro w hSw; (try dsimp only at hSw); go_simp; first | done | with_reducible rfl)
        try simp only [Act.put, List.setIfInBounds_toArray, List.set_cons_zero, List.set_cons_succ]
        refine wpAnyH_take (i := 8) (oi := { dst := some 133, op := Op.move (Operand.tmp 7), type := 52, pos := "law.go:114", after := #[{ on := 7, ground := Ground.guard }], guard := some (7, false) }) (v := ?_) rfl (by kernel_rfl) (by kernel_rfl) (by kernel_rfl) (fun _ _ _ h => h) (Or.inl ⟨by rfl, ?_⟩) (by assumption) ?_
        rotate_left
        · (intro w hSw; (try dsimp only at hSw); go_simp; first | done | with_reducible rfl)
        try simp only [Act.put, List.setIfInBounds_toArray, List.set_cons_zero, List.set_cons_succ]
        refine wpAnyH_take (i := 9) (oi := { dst := some 134, op := Op.load 78 (Operand.tmp 8), type := 78, pos := "law.go:114", after := #[{ on := 7, ground := Ground.guard }], guard := some (7, false) }) (v := ?_) rfl (by kernel_rfl) (by kernel_rfl) (by kernel_rfl) (fun _ _ _ h => h) (Or.inl ⟨by rfl, ?_⟩) (by assumption) ?_
        rotate_left
        · (intro w hSw; (try dsimp only at hSw); go_simp; first | done | with_reducible rfl)
        try simp only [Act.put, List.setIfInBounds_toArray, List.set_cons_zero, List.set_cons_succ]
        refine wpAnyH_ready (rs := [10]) (by kernel_rfl) (by simp) ?_
        refine AllReadyH.cons (o := { dst := some 135, op := Op.call { callee := Callee.value (Operand.func 56), args := #[Operand.tmp 134], argTypes := #[78] }, type := 39, pos := "law.go:114", after := #[{ on := 9, ground := Ground.data }, { on := 7, ground := Ground.chain }, { on := 7, ground := Ground.guard }], guard := some (7, false) }) rfl (fun KK hKK => ?_) AllReadyH.nil
        go_simp
        with_reducible refine (CNOW.out _ hz.out).mono ?_
        rintro e w' ⟨rfl, hb⟩
        replace hz := Lib.hid (below_call (w0 := wt) hz.out hb)
        clear hb
        go_wp2_with fail
        refine hKK.out _ _ ?_ (fun hHeld2 => ?_)
        · exact SIX.out _ hz.out
        clear hKK KK hHeld
        have hHeld := hHeld2
        clear hHeld2
        try simp only [Act.put, List.setIfInBounds_toArray, List.set_cons_zero, List.set_cons_succ]
        refine wpAnyH_ready (rs := [11]) (by kernel_rfl) (by simp) ?_
        refine AllReadyH.cons (o := { dst := some 136, op := Op.call { callee := Callee.value (Operand.func 55), args := #[Operand.tmp 133, Operand.tmp 135], argTypes := #[52, 39] }, type := 4, pos := "law.go:114", after := #[{ on := 8, ground := Ground.data }, { on := 10, ground := Ground.data }, { on := 10, ground := Ground.chain }, { on := 7, ground := Ground.guard }], guard := some (7, false) }) rfl (fun KK hKK => ?_) AllReadyH.nil
        go_simp
        with_reducible refine (CSM.out _ hz.out).mono ?_
        rintro e w' ⟨rfl, hb⟩
        replace hz := Lib.hid (below_call (w0 := wt) hz.out hb)
        clear hb
        go_wp2_with fail
        refine hKK.out _ _ ?_ (fun hHeld2 => ?_)
        · exact SIX.out _ hz.out
        clear hKK KK hHeld
        have hHeld := hHeld2
        clear hHeld2
        try simp only [Act.put, List.setIfInBounds_toArray, List.set_cons_zero, List.set_cons_succ]
        refine wpAnyH_take (i := 12) (oi := { dst := some 137, op := Op.unOp UnOp.not 4 (Operand.tmp 136), type := 4, pos := "law.go:114", after := #[{ on := 11, ground := Ground.data }, { on := 7, ground := Ground.guard }], guard := some (7, false) }) (v := ?_) rfl (by kernel_rfl) (by kernel_rfl) (by kernel_rfl) (fun _ _ _ h => h) (Or.inl ⟨by rfl, ?_⟩) (by assumption) ?_
        rotate_left
        · (intro w hSw; (try dsimp only at hSw); go_simp; first | done | with_reducible rfl)
        try simp only [Act.put, List.setIfInBounds_toArray, List.set_cons_zero, List.set_cons_succ]
        refine wpAnyH_take (i := 13) (oi := { dst := some 138, op := Op.pick (Operand.tmp 132) (Operand.const (Value.bool true)) (Operand.tmp 137), type := 4, pos := "law.go:114", after := #[{ on := 7, ground := Ground.data }, { on := 12, ground := Ground.data }], guard := none }) (v := ?_) rfl (by kernel_rfl) (by kernel_rfl) (by kernel_rfl) (fun _ _ _ h => h) (Or.inl ⟨by rfl, ?_⟩) (by assumption) ?_
        rotate_left
        · (intro w hSw; (try dsimp only at hSw); go_simp; first | done | with_reducible rfl)
        try simp only [Act.put, List.setIfInBounds_toArray, List.set_cons_zero, List.set_cons_succ]
        refine wpAnyH_done (by kernel_rfl) ?_ _
        go_wp2_with fail
        go_roundg (gk - 1)
        case measure => omega
        case rel => exact ⟨j + 1, Nf, mf, by go_num, by omega, by omega, Lib.hid (BOf.out.call hz.out)⟩
      · have t3 : (dj % 6 == 3) = false := beq_eq_false_iff_ne.2 c3
        by_cases c4 : dj % 6 = 4
        · have t4 : (dj % 6 == 4) = true := beq_iff_eq.2 c4
          clear c3 c4
          go_wp2_with fail
          have HSB : Hid (((wr.alloc (.cells #[.int .u8 dj, .int .i64 vj, .int .i64 nj, .slice Aq lj.length cq] 55)).alloc (.cells #[.int .i64 nj, .int .i64 (max 0 nj % 4)] 3)).heap[wr.heap.size + 1]? = some (.cells #[.int .i64 nj, .int .i64 (max 0 nj % 4)] 3 (0, 0))) := Lib.hid (by have h1 := heap_new (wr.alloc (.cells #[.int .u8 dj, .int .i64 vj, .int .i64 nj, .slice Aq lj.length cq] 55)) (.cells #[.int .i64 nj, .int .i64 (max 0 nj % 4)] 3); simpa using h1)
          obtain ⟨p1, lv1, ev1, hpl⟩ := BO1.out.pl
          have PL := Lib.hid (hpl.call (below_alloc (Below.refl _ _) (.cells #[.int .i64 nj, .int .i64 (max 0 nj % 4)] 3)))
          have hbs1 : Hid (¬ p1.fp S (wr.heap.size + 1)) := Lib.hid fun hk => by have h1 := hpl.own.at_.toMem.fp_lt hk; simp at h1
          have hbs2 : b8 < wr.heap.size + 1 := by have h1 := heap_lt hpl.box; simpa using h1
          clear hpl a0 a1 a2 a3 HRD HRD1 BX0
          generalize (wr.alloc (.cells #[.int .u8 dj, .int .i64 vj, .int .i64 nj, .slice Aq lj.length cq] 55)).alloc (.cells #[.int .i64 nj, .int .i64 (max 0 nj % 4)] 3) = wa at PL HSB ⊢
          generalize wr.heap.size + 1 = bs at HSB hbs1 hbs2 ⊢
          generalize (max 0 nj % 4) = xj at *
          obtain ⟨gko, rfl⟩ : ∃ g : Nat, g = gk := ⟨_, rfl⟩
          obtain ⟨wo, rfl⟩ : ∃ wo : World, wo = wr := ⟨_, rfl⟩
          have SM1 := Lib.hid BO1.out.sml
          have BS1 := Lib.hid BO1.out.base
          clear BO1 hbo
          go_loopg [98] 2 (fun k s98 wr => ∃ (i N' : Nat) (m' : Su.M) (p' : Su.Parts) (lv' ev' : Value), s98 = .int .i64 i ∧ k + i = 2 ∧ N' ≤ N + i ∧ Hid (Su.Pl w4 S b8 wr p' m' N' lv' ev' (Su.LS m') m'.events) ∧ Hid (Su.Sml m') ∧ Hid (wr.heap[bs]? = some (.cells #[.int .i64 nj, .int .i64 xj] 3 (0, 0))) ∧ Hid (¬ p'.fp S bs))
          case atStart => exact ⟨0, N, m, p1, lv1, ev1, rfl, by omega, by omega, PL, SM1, HSB, hbs1⟩
          case round =>
            obtain ⟨i, N', m', p', lv', ev', rfl, hi2, hN', hpl, hsml, hsb, hfar⟩ := hrel
            by_cases hi : i < 2
            · obtain ⟨val, hval⟩ : ∃ val, (#[Value.int .i64 nj, .int .i64 xj])[i]? = some (.int .i64 val) := by
                have : i = 0 ∨ i = 1 := by omega
                rcases this with rfl | rfl
                · exact ⟨nj, rfl⟩
                · exact ⟨xj, rfl⟩
              have hcv : wr.cell? ⟨bs, i, none⟩ = some (.int .i64 val) := by rw [cell_of hsb.out]; exact hval
              have hcv0 : wr.cell? ⟨bs, 0 + i, none⟩ = some (.int .i64 val) := by rw [Nat.zero_add]; exact hcv
              have hL1 : Hid ((Su.LS m').length < 1000) := Lib.hid (by have := hpl.out.own.sz.marks; rw [Su.LS_len, ← hpl.out.own.at_.ok.lens]; omega)
              have hii : (i : Int) < 2 := by omega
              clear hval
              go_wp2_with fail
              refine (own_back hpl.out.own (by omega) (by have := hpl.out.len; omega) val).mono ?_
              rintro e w2 ⟨rfl, p2, ho, st⟩
              have SM2 := Lib.hid (Su.bk_sml m' val hsml.out)
              have PL2 := Lib.hid (hpl.out.store ho st (by rw [Su.bk_len]; exact hpl.out.len) SM2.out.1)
              have HS2 := Lib.hid (st.far hsb.out hfar.out)
              have x0 := cell_of PL2.out.box 0
              have x1 := cell_of PL2.out.box 1
              have CP := Lib.hid (ref3_backs _ _ m' _ _ val w2 PL2.out.ref hpl.out.own.at_.ok hL1.out)
              generalize hm2 : Su.bk m' val = r2 at *
              clear ho st hcv hcv0 hm2
              go_wp2_with fail
              refine CP.out.mono ?_
              rintro e w3 ⟨v3, lv3, ev3, rfl, hr, hb⟩
              obtain rfl := hr.val
              have PL3 := Lib.hid (PL2.out.refs hr hb (.cells #[lv3, ev3] 78)).1
              have hx3 := heap_alloc (heap_call PL2.out.box hb) (.cells #[lv3, ev3] 78)
              have hs3 := heap_alloc (heap_call HS2.out.1 hb) (.cells #[lv3, ev3] 78)
              have HS4 := Lib.hid (heap_far (heap_far hs3 (p := ⟨b8, 0, none⟩) (show bs ≠ b8 by omega) lv3) (p := ⟨b8, 1, none⟩) (show bs ≠ b8 by omega) ev3)
              obtain ⟨Al3, cl3, rfl⟩ := hr.lev.len
              obtain ⟨Ae3, ce3, rfl⟩ := hr.evs.len
              have t0 := cell_of hx3 0
              have t1 := cell_of hx3 1
              have f0 := frozen_of hx3 0
              have f1 := frozen_of hx3 1
              have hcc : (r2.2 != r2.2) = false := by simp
              generalize (Su.LS r2.1).length = z3 at *
              generalize hz4 : r2.1.events.length = z4 at *
              clear hr hb hx3 hs3 x0 x1 CP hz4
              go_wp2_with fail
              go_roundg (gk - 1)
              case measure => omega
              case rel => exact ⟨i + 1, N' + 1, r2.1, p2, _, _, by go_num, by omega, by omega, PL3, SM2, HS4, Lib.hid HS2.out.2⟩
            · have hie : i = 2 := by omega
              subst hie
              go_wp2_with fail
              obtain ⟨gk2, rfl⟩ : ∃ g : Nat, g = gk := ⟨_, rfl⟩
              obtain ⟨wt, rfl⟩ : ∃ x : World, x = wr := ⟨_, rfl⟩
              obtain ⟨mf, rfl⟩ : ∃ x, x = m' := ⟨_, rfl⟩
              obtain ⟨Nf, rfl⟩ : ∃ x, x = N' := ⟨_, rfl⟩
              have BOf : Hid (Su.Bo w w4 S b8 wt mf Nf) := Lib.hid ⟨⟨p', _, _, hpl.out⟩, hsml.out, BS1.out⟩
              have hNf2 : Nf ≤ 2 * (j + 1) := by omega
              have hNf3 : Nf ≤ 100 := by omega
              clear hpl hsml hsb hfar
              obtain ⟨pf, lvf, evf, hplf⟩ := BOf.out.pl
              have PF := Lib.hid hplf
              obtain ⟨snow, hnow, cnow⟩ := ref3_now _ _ _ _ _ _ wt hplf.ref (by rw [Su.LS_len]; omega)
              rw [Su.LS_last] at hnow
              have hkf : (Su.LS mf).length = mf.marks.length + 1 := by rw [Su.LS_len, ← hplf.own.at_.ok.lens]
              have hsN : mf.marks.length ≤ Nf := hplf.own.sz.marks
              obtain ⟨Alf, clf, rfl⟩ := hplf.ref.lev.len
              obtain ⟨Aef, cef, rfl⟩ := hplf.ref.evs.len
              rw [hkf] at PF hplf cnow
              obtain ⟨Asn, csn, rfl⟩ := hnow.len
              have SIX : Hid (∀ w', Below wt.heap.size wt w' → w'.cell? ⟨b8, 0, none⟩ = some (.slice Alf (mf.marks.length + 1) clf) ∧ w'.cell? ⟨b8, 1, none⟩ = some (.slice Aef mf.events.length cef)) := Lib.hid fun w' hb => ⟨(cell_of (heap_call hplf.box hb) 0), cell_of (heap_call hplf.box hb) 1⟩
              have CLv := Lib.hid (fun w' (hb : Below wt.heap.size wt w') => store_level S pf mf w' (hplf.own.at_.toMem.call hb))
              have CNOW := Lib.hid cnow
              have CSM : Hid (∀ w', Below wt.heap.size wt w' → Calls Tryd.prog 55 #[.pointer (some ⟨S, 0, none⟩), .slice Asn mf.cur.length csn] w' (Rf.Says true w')) := Lib.hid fun w' hb => by
                have h1 := law3_same _ S pf mf _ mf.cur w' (hplf.own.at_.toMem.call hb) (hnow.call hb) (by have := hplf.len; omega) (HT.out.call (below_call (BOf.out.bel) hb))
                rwa [decide_eq_true rfl] at h1
              have hkb : mf.marks.length ≤ 1000 := by omega
              have SIX2 := SIX
              generalize mf.marks.length = kf at *
              have hw1 : IntKind.i64.wrap (((kf + 1 : Nat) : Int) - 1) = (kf : Int) := by rw [IntKind.wrap_i64]; omega
              have hw2 : IntKind.i64.wrap ((kf : Int) + 1 - 1) = (kf : Int) := by rw [IntKind.wrap_i64]; omega
              have hw3 : ((kf : Int) != (kf : Int)) = false := by simp
              have hw4 : IntKind.i64.wrap (kf : Int) = (kf : Int) := by rw [IntKind.wrap_i64]; omega
              clear hplf hnow cnow hkf SIX2
              have hz := Lib.hid ((Below.refl wt.heap.size wt).drew)
              refine wp_region_held_drew (S := fun w' => w'.cell? ⟨b8, 0, none⟩ = some (.slice Alf (kf + 1) clf) ∧ w'.cell? ⟨b8, 1, none⟩ = some (.slice Aef mf.events.length cef)) (by kernel_rfl) ?_ (fun hHeld => ?_)
              · exact SIX.out _ hz.out
              refine wpAnyH_take (i := 0) (oi := { dst := some 125, op := Op.move (Operand.tmp 7), type := 52, pos := "law.go:114", after := #[], guard := none }) (v := ?_) rfl (by kernel_rfl) (by kernel_rfl) (by kernel_rfl) (fun _ _ _ h => h) (Or.inl ⟨by rfl, ?_⟩) (by assumption) ?_
              rotate_left
              · (intro w hSw; (try dsimp only at hSw); go_simp; first | done | with_reducible rfl)
              try simp only [Act.put, List.setIfInBounds_toArray, List.set_cons_zero, List.set_cons_succ]
              refine wpAnyH_take (i := 2) (oi := { dst := some 127, op := Op.fieldAddr 78 (Operand.tmp 8) 0, type := 0, pos := "law.go:114", after := #[], guard := none }) (v := ?_) rfl (by kernel_rfl) (by kernel_rfl) (by kernel_rfl) (fun _ _ _ h => h) (Or.inl ⟨by rfl, ?_⟩) (by assumption) ?_
              rotate_left
              · (intro w hSw; (try dsimp only at hSw); go_simp; first | done | with_reducible rfl)
              try simp only [Act.put, List.setIfInBounds_toArray, List.set_cons_zero, List.set_cons_succ]
              refine wpAnyH_take (i := 3) (oi := { dst := some 128, op := Op.load 75 (Operand.tmp 127), type := 75, pos := "law.go:114", after := #[{ on := 2, ground := Ground.data }], guard := none }) (v := ?_) rfl (by kernel_rfl) (by kernel_rfl) (by kernel_rfl) (fun _ _ _ h => h) (Or.inl ⟨by rfl, ?_⟩) (by assumption) ?_
              rotate_left
              · (intro w hSw; (try dsimp only at hSw); go_simp; first | done | with_reducible rfl)
              try simp only [Act.put, List.setIfInBounds_toArray, List.set_cons_zero, List.set_cons_succ]
              refine wpAnyH_take (i := 4) (oi := { dst := some 129, op := Op.call { callee := Callee.builtin Builtin.len, args := #[Operand.tmp 128], argTypes := #[75] }, type := 3, pos := "law.go:114", after := #[{ on := 3, ground := Ground.data }], guard := none }) (v := ?_) rfl (by kernel_rfl) (by kernel_rfl) (by kernel_rfl) (fun _ _ _ h => h) (Or.inl ⟨by rfl, ?_⟩) (by assumption) ?_
              rotate_left
              · (intro w hSw; (try dsimp only at hSw); go_simp; first | done | with_reducible rfl)
              try simp only [Act.put, List.setIfInBounds_toArray, List.set_cons_zero, List.set_cons_succ]
              refine wpAnyH_take (i := 5) (oi := { dst := some 130, op := Op.binOp BinOp.sub 3 (Operand.tmp 129) (Operand.const (Value.int IntKind.i64 1)) 3, type := 3, pos := "law.go:114", after := #[{ on := 4, ground := Ground.data }], guard := none }) (v := ?_) rfl (by kernel_rfl) (by kernel_rfl) (by kernel_rfl) (fun _ _ _ h => h) (Or.inl ⟨by rfl, ?_⟩) (by assumption) ?_
              rotate_left
              · (intro w hSw; (try dsimp only at hSw); go_simp; first | done | with_reducible rfl)
              try simp only [Act.put, List.setIfInBounds_toArray, List.set_cons_zero, List.set_cons_succ]
              refine wpAnyH_ready (rs := [1]) (by kernel_rfl) (by simp) ?_
              refine AllReadyH.cons (o := { dst := some 126, op := Op.call { callee := Callee.value (Operand.func 36), args := #[Operand.tmp 125], argTypes := #[52] }, type := 3, pos := "law.go:114", after := #[{ on := 0, ground := Ground.data }], guard := none }) rfl (fun KK hKK => ?_) AllReadyH.nil
              go_simp
              with_reducible refine (CLv.out _ hz.out).mono ?_
              rintro e w' ⟨rfl, rfl⟩
              go_wp2_with fail
              refine hKK.out _ _ ?_ (fun hHeld2 => ?_)
              · exact SIX.out _ hz.out
              clear hKK KK hHeld
              have hHeld := hHeld2
              clear hHeld2
              try simp only [Act.put, List.setIfInBounds_toArray, List.set_cons_zero, List.set_cons_succ]
              refine wpAnyH_take (i := 6) (oi := { dst := some 131, op := Op.binOp BinOp.neq 3 (Operand.tmp 126) (Operand.tmp 130) 3, type := 4, pos := "law.go:114", after := #[{ on := 1, ground := Ground.data }, { on := 5, ground := Ground.data }], guard := none }) (v := ?_) rfl (by kernel_rfl) (by kernel_rfl) (by kernel_rfl) (fun _ _ _ h => h) (Or.inl ⟨by rfl, ?_⟩) (by assumption) ?_
              rotate_left
              · (intro w hSw; (try dsimp only at hSw); go_simp; first | done | with_reducible rfl)
              try simp only [Act.put, List.setIfInBounds_toArray, List.set_cons_zero, List.set_cons_succ]
              refine wpAnyH_take (i := 7) (oi := { dst := some 132, op := Op.move (Operand.tmp 131), type := 4, pos := "law.go:114", after := #[{ on := 6, ground := Ground.data }, { on := 1, ground := Ground.chain }], guard := none }) (v := ?_) rfl (by kernel_rfl) (by kernel_rfl) (by kernel_rfl) (fun _ _ _ h => h) (Or.inl ⟨by rfl, ?_⟩) (by assumption) ?_
              rotate_left
              · (intro w hSw; (try dsimp only at hSw); go_simp; first | done | with_reducible rfl)
              try simp only [Act.put, List.setIfInBounds_toArray, List.set_cons_zero, List.set_cons_succ]
              refine wpAnyH_take (i := 8) (oi := { dst := some 133, op := Op.move (Operand.tmp 7), type := 52, pos := "law.go:114", after := #[{ on := 7, ground := Ground.guard }], guard := some (7, false) }) (v := ?_) rfl (by kernel_rfl) (by kernel_rfl) (by kernel_rfl) (fun _ _ _ h => h) (Or.inl ⟨by rfl, ?_⟩) (by assumption) ?_
              rotate_left
              · (intro w hSw; (try dsimp only at hSw); go_simp; first | done | with_reducible rfl)
              try simp only [Act.put, List.setIfInBounds_toArray, List.set_cons_zero, List.set_cons_succ]
              refine wpAnyH_take (i := 9) (oi := { dst := some 134, op := Op.load 78 (Operand.tmp 8), type := 78, pos := "law.go:114", after := #[{ on := 7, ground := Ground.guard }], guard := some (7, false) }) (v := ?_) rfl (by kernel_rfl) (by kernel_rfl) (by kernel_rfl) (fun _ _ _ h => h) (Or.inl ⟨by rfl, ?_⟩) (by assumption) ?_
              rotate_left
              · (intro w hSw; (try dsimp only at hSw); go_simp; first | done | with_reducible rfl)
              try simp only [Act.put, List.setIfInBounds_toArray, List.set_cons_zero, List.set_cons_succ]
              refine wpAnyH_ready (rs := [10]) (by kernel_rfl) (by simp) ?_
              refine AllReadyH.cons (o := { dst := some 135, op := Op.call { callee := Callee.value (Operand.func 56), args := #[Operand.tmp 134], argTypes := #[78] }, type := 39, pos := "law.go:114", after := #[{ on := 9, ground := Ground.data }, { on := 7, ground := Ground.chain }, { on := 7, ground := Ground.guard }], guard := some (7, false) }) rfl (fun KK hKK => ?_) AllReadyH.nil
              go_simp
              with_reducible refine (CNOW.out _ hz.out).mono ?_
              rintro e w' ⟨rfl, hb⟩
              replace hz := Lib.hid (below_call (w0 := wt) hz.out hb)
              clear hb
              go_wp2_with fail
              refine hKK.out _ _ ?_ (fun hHeld2 => ?_)
              · exact SIX.out _ hz.out
              clear hKK KK hHeld
              have hHeld := hHeld2
              clear hHeld2
              try simp only [Act.put, List.setIfInBounds_toArray, List.set_cons_zero, List.set_cons_succ]
              refine wpAnyH_ready (rs := [11]) (by kernel_rfl) (by simp) ?_
              refine AllReadyH.cons (o := { dst := some 136, op := Op.call { callee := Callee.value (Operand.func 55), args := #[Operand.tmp 133, Operand.tmp 135], argTypes := #[52, 39] }, type := 4, pos := "law.go:114", after := #[{ on := 8, ground := Ground.data }, { on := 10, ground := Ground.data }, { on := 10, ground := Ground.chain }, { on := 7, ground := Ground.guard }], guard := some (7, false) }) rfl (fun KK hKK => ?_) AllReadyH.nil
              go_simp
              with_reducible refine (CSM.out _ hz.out).mono ?_
              rintro e w' ⟨rfl, hb⟩
              replace hz := Lib.hid (below_call (w0 := wt) hz.out hb)
              clear hb
              go_wp2_with fail
              refine hKK.out _ _ ?_ (fun hHeld2 => ?_)
              · exact SIX.out _ hz.out
              clear hKK KK hHeld
              have hHeld := hHeld2
              clear hHeld2
              try simp only [Act.put, List.setIfInBounds_toArray, List.set_cons_zero, List.set_cons_succ]
              refine wpAnyH_take (i := 12) (oi := { dst := some 137, op := Op.unOp UnOp.not 4 (Operand.tmp 136), type := 4, pos := "law.go:114", after := #[{ on := 11, ground := Ground.data }, { on := 7, ground := Ground.guard }], guard := some (7, false) }) (v := ?_) rfl (by kernel_rfl) (by kernel_rfl) (by kernel_rfl) (fun _ _ _ h => h) (Or.inl ⟨by rfl, ?_⟩) (by assumption) ?_
              rotate_left
              · (intro w hSw; (try dsimp only at hSw); go_simp; first | done | with_reducible rfl)
              try simp only [Act.put, List.setIfInBounds_toArray, List.set_cons_zero, List.set_cons_succ]
              refine wpAnyH_take (i := 13) (oi := { dst := some 138, op := Op.pick (Operand.tmp 132) (Operand.const (Value.bool true)) (Operand.tmp 137), type := 4, pos := "law.go:114", after := #[{ on := 7, ground := Ground.data }, { on := 12, ground := Ground.data }], guard := none }) (v := ?_) rfl (by kernel_rfl) (by kernel_rfl) (by kernel_rfl) (fun _ _ _ h => h) (Or.inl ⟨by rfl, ?_⟩) (by assumption) ?_
              rotate_left
              · (intro w hSw; (try dsimp only at hSw); go_simp; first | done | with_reducible rfl)
              try simp only [Act.put, List.setIfInBounds_toArray, List.set_cons_zero, List.set_cons_succ]
              refine wpAnyH_done (by kernel_rfl) ?_ _
              go_wp2_with fail
              go_roundg (gko - 1)
              case measure => omega
              case rel => exact ⟨j + 1, Nf, mf, by go_num, by omega, by omega, Lib.hid (BOf.out.call hz.out)⟩
        · have t4 : (dj % 6 == 4) = false := beq_eq_false_iff_ne.2 c4
          by_cases c5 : dj % 6 = 5
          · have t5 : (dj % 6 == 5) = true := beq_iff_eq.2 c5
            clear c3 c4 c5
            go_wp2_with fail
            have hba2 : Hid (∃ q, q = wr.heap.size) := Lib.hid ⟨_, rfl⟩
            generalize wr.heap.size = bx at BX0 ⊢
            generalize wr.alloc (.cells #[.int .u8 dj, .int .i64 vj, .int .i64 nj, .slice Aq lj.length cq] 55) = wa at BX0 BO1 HRD1 ⊢
            have y0 := cell_of BX0.out 0
            have y1 := cell_of BX0.out 1
            have y2 := cell_of BX0.out 2
            have y3 := cell_of BX0.out 3
            clear a0 a1 a2 a3 HRD hba2
            obtain ⟨p1, lv1, ev1, hpl⟩ := BO1.out.pl
            have PL := Lib.hid hpl
            have hL1 : Hid ((Su.LS m).length < 1000) := Lib.hid (by have := hpl.own.sz.marks; rw [Su.LS_len, ← hpl.own.at_.ok.lens]; omega)
            have hE1 : Hid (m.events.length < 1000) := Lib.hid (by have := hpl.own.sz.events; omega)
            clear hpl
            have x1 := cell_of PL.out.box 1
            have hx1 : wa.drew.cell? ⟨b8, 1, none⟩ = some ev1 := x1
            have CE := Lib.hid (own_events (PL.out.own.call (Below.refl _ _).drew))
            refine wp_region_held_drew (S := fun w' => w'.cell? ⟨b8, 1, none⟩ = some ev1) (by kernel_rfl) ?_ (fun hHeld => ?_)
            · exact hx1
            refine wpAnyH_take (i := 0) (oi := { dst := some 118, op := Op.move (Operand.tmp 7), type := 52, pos := "law.go:98", after := #[], guard := none }) (v := ?_) rfl (by kernel_rfl) (by kernel_rfl) (by kernel_rfl) (fun _ _ _ h => h) (Or.inl ⟨by rfl, ?_⟩) (by assumption) ?_
            rotate_left
            · (intro w hSw; (try dsimp only at hSw); go_simp; first | done | with_reducible rfl)
            try simp only [Act.put, List.setIfInBounds_toArray, List.set_cons_zero, List.set_cons_succ]
            refine wpAnyH_take (i := 2) (oi := { dst := some 120, op := Op.fieldAddr 78 (Operand.tmp 8) 1, type := 0, pos := "law.go:98", after := #[], guard := none }) (v := ?_) rfl (by kernel_rfl) (by kernel_rfl) (by kernel_rfl) (fun _ _ _ h => h) (Or.inl ⟨by rfl, ?_⟩) (by assumption) ?_
            rotate_left
            · (intro w hSw; (try dsimp only at hSw); go_simp; first | done | with_reducible rfl)
            try simp only [Act.put, List.setIfInBounds_toArray, List.set_cons_zero, List.set_cons_succ]
            refine wpAnyH_take (i := 3) (oi := { dst := some 121, op := Op.load 76 (Operand.tmp 120), type := 76, pos := "law.go:98", after := #[{ on := 2, ground := Ground.data }], guard := none }) (v := ?_) rfl (by kernel_rfl) (by kernel_rfl) (by kernel_rfl) (fun _ _ _ h => h) (Or.inl ⟨by rfl, ?_⟩) (by assumption) ?_
            rotate_left
            · (intro w hSw; (try dsimp only at hSw); go_simp; first | done | with_reducible rfl)
            try simp only [Act.put, List.setIfInBounds_toArray, List.set_cons_zero, List.set_cons_succ]
            refine wpAnyH_ready (rs := [1]) (by kernel_rfl) (by simp) ?_
            refine AllReadyH.cons (o := { dst := some 119, op := Op.call { callee := Callee.value (Operand.func 40), args := #[Operand.tmp 118], argTypes := #[52] }, type := 61, pos := "law.go:98", after := #[{ on := 0, ground := Ground.data }], guard := none }) rfl (fun KK hKK => ?_) AllReadyH.nil
            go_simp
            with_reducible refine (CE.out).mono ?_
            rintro e w' ⟨p2, se, rfl, ho, hs, hse, st⟩
            have PL2 := Lib.hid ((PL.out.call (Below.refl _ _).drew).store ho st PL.out.len PL.out.small)
            have KE1 := cell_of PL2.out.box 1
            have SE : Hid (Gl (fun b => ¬ p2.fp S b) 2 E3e (0, 0) w' se m.events) := Lib.hid (Gl.of_sl (fun e : Int × Int => [.int .i64 e.1, .int .i64 e.2]) (fun _ _ => rfl) hs hse (fun _ _ => rfl))
            have CQ := Lib.hid (law3_events _ _ se ev1 m.events w' SE.out PL2.out.ref.evs)
            clear ho hs hse st
            go_wp2_with fail
            refine hKK.out _ _ ?_ (fun hHeld2 => ?_)
            · (first | exact KE2 | exact KE1)
            clear hKK KK hHeld
            have hHeld := hHeld2
            clear hHeld2
            try simp only [Act.put, List.setIfInBounds_toArray, List.set_cons_zero, List.set_cons_succ]
            refine wpAnyH_ready (rs := [4]) (by kernel_rfl) (by simp) ?_
            refine AllReadyH.cons (o := { dst := some 122, op := Op.call { callee := Callee.value (Operand.func 53), args := #[Operand.tmp 119, Operand.tmp 121], argTypes := #[61, 76] }, type := 4, pos := "law.go:98", after := #[{ on := 1, ground := Ground.data }, { on := 3, ground := Ground.data }, { on := 1, ground := Ground.chain }], guard := none }) rfl (fun KK hKK => ?_) AllReadyH.nil
            go_simp
            with_reducible refine (CQ.out).mono ?_
            rintro e w' ⟨rfl, hb⟩
            have PL3 := Lib.hid (PL2.out.call hb)
            have KE2 := cell_of PL3.out.box 1
            have f81 := frozen_of PL3.out.box 1
            clear hb
            go_wp2_with fail
            refine hKK.out _ _ ?_ (fun hHeld2 => ?_)
            · (first | exact KE2 | exact KE1)
            clear hKK KK hHeld
            have hHeld := hHeld2
            clear hHeld2
            try simp only [Act.put, List.setIfInBounds_toArray, List.set_cons_zero, List.set_cons_succ]
            refine wpAnyH_take (i := 5) (oi := { dst := some 123, op := Op.unOp UnOp.not 4 (Operand.tmp 122), type := 4, pos := "law.go:98", after := #[{ on := 4, ground := Ground.data }], guard := none }) (v := ?_) rfl (by kernel_rfl) (by kernel_rfl) (by kernel_rfl) (fun _ _ _ h => h) (Or.inl ⟨by rfl, ?_⟩) (by assumption) ?_
            rotate_left
            · (intro w hSw; (try dsimp only at hSw); go_simp; first | done | with_reducible rfl)
            try simp only [Act.put, List.setIfInBounds_toArray, List.set_cons_zero, List.set_cons_succ]
            refine wpAnyH_done (by kernel_rfl) ?_ _
            have PL4 := Lib.hid PL3.out.nilev
            go_wp2_with fail
            generalize World.setCell _ ⟨b8, 1, none⟩ (.slice none 0 0) = wt at PL4 ⊢
            obtain ⟨mf, hmf⟩ : ∃ x : Su.M, x = { m with events := [] } := ⟨_, rfl⟩
            obtain ⟨Nf, hNf⟩ : ∃ x, x = N := ⟨_, rfl⟩
            have BOf : Hid (Su.Bo w w4 S b8 wt mf Nf) := by rw [hmf, hNf]; exact Lib.hid ⟨⟨p2, _, _, PL4.out⟩, BO1.out.sml, BO1.out.base⟩
            have hNf2 : Nf ≤ 2 * (j + 1) := by omega
            have hNf3 : Nf ≤ 100 := by omega
            clear hmf hNf
            obtain ⟨pf, lvf, evf, hplf⟩ := BOf.out.pl
            have PF := Lib.hid hplf
            obtain ⟨snow, hnow, cnow⟩ := ref3_now _ _ _ _ _ _ wt hplf.ref (by rw [Su.LS_len]; omega)
            rw [Su.LS_last] at hnow
            have hkf : (Su.LS mf).length = mf.marks.length + 1 := by rw [Su.LS_len, ← hplf.own.at_.ok.lens]
            have hsN : mf.marks.length ≤ Nf := hplf.own.sz.marks
            obtain ⟨Alf, clf, rfl⟩ := hplf.ref.lev.len
            obtain ⟨Aef, cef, rfl⟩ := hplf.ref.evs.len
            rw [hkf] at PF hplf cnow
            obtain ⟨Asn, csn, rfl⟩ := hnow.len
            have SIX : Hid (∀ w', Below wt.heap.size wt w' → w'.cell? ⟨b8, 0, none⟩ = some (.slice Alf (mf.marks.length + 1) clf) ∧ w'.cell? ⟨b8, 1, none⟩ = some (.slice Aef mf.events.length cef)) := Lib.hid fun w' hb => ⟨(cell_of (heap_call hplf.box hb) 0), cell_of (heap_call hplf.box hb) 1⟩
            have CLv := Lib.hid (fun w' (hb : Below wt.heap.size wt w') => store_level S pf mf w' (hplf.own.at_.toMem.call hb))
            have CNOW := Lib.hid cnow
            have CSM : Hid (∀ w', Below wt.heap.size wt w' → Calls Tryd.prog 55 #[.pointer (some ⟨S, 0, none⟩), .slice Asn mf.cur.length csn] w' (Rf.Says true w')) := Lib.hid fun w' hb => by
              have h1 := law3_same _ S pf mf _ mf.cur w' (hplf.own.at_.toMem.call hb) (hnow.call hb) (by have := hplf.len; omega) (HT.out.call (below_call (BOf.out.bel) hb))
              rwa [decide_eq_true rfl] at h1
            have hkb : mf.marks.length ≤ 1000 := by omega
            have SIX2 := SIX
            generalize mf.marks.length = kf at *
            have hw1 : IntKind.i64.wrap (((kf + 1 : Nat) : Int) - 1) = (kf : Int) := by rw [IntKind.wrap_i64]; omega
            have hw2 : IntKind.i64.wrap ((kf : Int) + 1 - 1) = (kf : Int) := by rw [IntKind.wrap_i64]; omega
            have hw3 : ((kf : Int) != (kf : Int)) = false := by simp
            have hw4 : IntKind.i64.wrap (kf : Int) = (kf : Int) := by rw [IntKind.wrap_i64]; omega
            clear hplf hnow cnow hkf SIX2
            have hz := Lib.hid ((Below.refl wt.heap.size wt).drew)
            refine wp_region_held_drew (S := fun w' => w'.cell? ⟨b8, 0, none⟩ = some (.slice Alf (kf + 1) clf) ∧ w'.cell? ⟨b8, 1, none⟩ = some (.slice Aef mf.events.length cef)) (by kernel_rfl) ?_ (fun hHeld => ?_)
            · exact SIX.out _ hz.out
            refine wpAnyH_take (i := 0) (oi := { dst := some 125, op := Op.move (Operand.tmp 7), type := 52, pos := "law.go:114", after := #[], guard := none }) (v := ?_) rfl (by kernel_rfl) (by kernel_rfl) (by kernel_rfl) (fun _ _ _ h => h) (Or.inl ⟨by rfl, ?_⟩) (by assumption) ?_
            rotate_left
            · (intro w hSw; (try dsimp only at hSw); go_simp; first | done | with_reducible rfl)
            try simp only [Act.put, List.setIfInBounds_toArray, List.set_cons_zero, List.set_cons_succ]
            refine wpAnyH_take (i := 2) (oi := { dst := some 127, op := Op.fieldAddr 78 (Operand.tmp 8) 0, type := 0, pos := "law.go:114", after := #[], guard := none }) (v := ?_) rfl (by kernel_rfl) (by kernel_rfl) (by kernel_rfl) (fun _ _ _ h => h) (Or.inl ⟨by rfl, ?_⟩) (by assumption) ?_
            rotate_left
            · (intro w hSw; (try dsimp only at hSw); go_simp; first | done | with_reducible rfl)
            try simp only [Act.put, List.setIfInBounds_toArray, List.set_cons_zero, List.set_cons_succ]
            refine wpAnyH_take (i := 3) (oi := { dst := some 128, op := Op.load 75 (Operand.tmp 127), type := 75, pos := "law.go:114", after := #[{ on := 2, ground := Ground.data }], guard := none }) (v := ?_) rfl (by kernel_rfl) (by kernel_rfl) (by kernel_rfl) (fun _ _ _ h => h) (Or.inl ⟨by rfl, ?_⟩) (by assumption) ?_
            rotate_left
            · (intro w hSw; (try dsimp only at hSw); go_simp; first | done | with_reducible rfl)
            try simp only [Act.put, List.setIfInBounds_toArray, List.set_cons_zero, List.set_cons_succ]
            refine wpAnyH_take (i := 4) (oi := { dst := some 129, op := Op.call { callee := Callee.builtin Builtin.len, args := #[Operand.tmp 128], argTypes := #[75] }, type := 3, pos := "law.go:114", after := #[{ on := 3, ground := Ground.data }], guard := none }) (v := ?_) rfl (by kernel_rfl) (by kernel_rfl) (by kernel_rfl) (fun _ _ _ h => h) (Or.inl ⟨by rfl, ?_⟩) (by assumption) ?_
            rotate_left
            · (intro w hSw; (try dsimp only at hSw); go_simp; first | done | with_reducible rfl)
            try simp only [Act.put, List.setIfInBounds_toArray, List.set_cons_zero, List.set_cons_succ]
            refine wpAnyH_take (i := 5) (oi := { dst := some 130, op := Op.binOp BinOp.sub 3 (Operand.tmp 129) (Operand.const (Value.int IntKind.i64 1)) 3, type := 3, pos := "law.go:114", after := #[{ on := 4, ground := Ground.data }], guard := none }) (v := ?_) rfl (by kernel_rfl) (by kernel_rfl) (by kernel_rfl) (fun _ _ _ h => h) (Or.inl ⟨by rfl, ?_⟩) (by assumption) ?_
            rotate_left
            · (intro w hSw; (try dsimp only at hSw); go_simp; first | done | with_reducible rfl)
            try simp only [Act.put, List.setIfInBounds_toArray, List.set_cons_zero, List.set_cons_succ]
            refine wpAnyH_ready (rs := [1]) (by kernel_rfl) (by simp) ?_
            refine AllReadyH.cons (o := { dst := some 126, op := Op.call { callee := Callee.value (Operand.func 36), args := #[Operand.tmp 125], argTypes := #[52] }, type := 3, pos := "law.go:114", after := #[{ on := 0, ground := Ground.data }], guard := none }) rfl (fun KK hKK => ?_) AllReadyH.nil
            go_simp
            with_reducible refine (CLv.out _ hz.out).mono ?_
            rintro e w' ⟨rfl, rfl⟩
            go_wp2_with fail
            refine hKK.out _ _ ?_ (fun hHeld2 => ?_)
            · exact SIX.out _ hz.out
            clear hKK KK hHeld
            have hHeld := hHeld2
            clear hHeld2
            try simp only [Act.put, List.setIfInBounds_toArray, List.set_cons_zero, List.set_cons_succ]
            refine wpAnyH_take (i := 6) (oi := { dst := some 131, op := Op.binOp BinOp.neq 3 (Operand.tmp 126) (Operand.tmp 130) 3, type := 4, pos := "law.go:114", after := #[{ on := 1, ground := Ground.data }, { on := 5, ground := Ground.data }], guard := none }) (v := ?_) rfl (by kernel_rfl) (by kernel_rfl) (by kernel_rfl) (fun _ _ _ h => h) (Or.inl ⟨by rfl, ?_⟩) (by assumption) ?_
            rotate_left
            · (intro w hSw; (try dsimp only at hSw); go_simp; first | done | with_reducible rfl)
            try simp only [Act.put, List.setIfInBounds_toArray, List.set_cons_zero, List.set_cons_succ]
            refine wpAnyH_take (i := 7) (oi := { dst := some 132, op := Op.move (Operand.tmp 131), type := 4, pos := "law.go:114", after := #[{ on := 6, ground := Ground.data }, { on := 1, ground := Ground.chain }], guard := none }) (v := ?_) rfl (by kernel_rfl) (by kernel_rfl) (by kernel_rfl) (fun _ _ _ h => h) (Or.inl ⟨by rfl, ?_⟩) (by assumption) ?_
            rotate_left
            · (intro w hSw; (try dsimp only at hSw); go_simp; first | done | with_reducible rfl)
            try simp only [Act.put, List.setIfInBounds_toArray, List.set_cons_zero, List.set_cons_succ]
            refine wpAnyH_take (i := 8) (oi := { dst := some 133, op := Op.move (Operand.tmp 7), type := 52, pos := "law.go:114", after := #[{ on := 7, ground := Ground.guard }], guard := some (7, false) }) (v := ?_) rfl (by kernel_rfl) (by kernel_rfl) (by kernel_rfl) (fun _ _ _ h => h) (Or.inl ⟨by rfl, ?_⟩) (by assumption) ?_
            rotate_left
            · (intro w hSw; (try dsimp only at hSw); go_simp; first | done | with_reducible rfl)
            try simp only [Act.put, List.setIfInBounds_toArray, List.set_cons_zero, List.set_cons_succ]
            refine wpAnyH_take (i := 9) (oi := { dst := some 134, op := Op.load 78 (Operand.tmp 8), type := 78, pos := "law.go:114", after := #[{ on := 7, ground := Ground.guard }], guard := some (7, false) }) (v := ?_) rfl (by kernel_rfl) (by kernel_rfl) (by kernel_rfl) (fun _ _ _ h => h) (Or.inl ⟨by rfl, ?_⟩) (by assumption) ?_
            rotate_left
            · (intro w hSw; (try dsimp only at hSw); go_simp; first | done | with_reducible rfl)
            try simp only [Act.put, List.setIfInBounds_toArray, List.set_cons_zero, List.set_cons_succ]
            refine wpAnyH_ready (rs := [10]) (by kernel_rfl) (by simp) ?_
            refine AllReadyH.cons (o := { dst := some 135, op := Op.call { callee := Callee.value (Operand.func 56), args := #[Operand.tmp 134], argTypes := #[78] }, type := 39, pos := "law.go:114", after := #[{ on := 9, ground := Ground.data }, { on := 7, ground := Ground.chain }, { on := 7, ground := Ground.guard }], guard := some (7, false) }) rfl (fun KK hKK => ?_) AllReadyH.nil
            go_simp
            with_reducible refine (CNOW.out _ hz.out).mono ?_
            rintro e w' ⟨rfl, hb⟩
            replace hz := Lib.hid (below_call (w0 := wt) hz.out hb)
            clear hb
            go_wp2_with fail
            refine hKK.out _ _ ?_ (fun hHeld2 => ?_)
            · exact SIX.out _ hz.out
            clear hKK KK hHeld
            have hHeld := hHeld2
            clear hHeld2
            try simp only [Act.put, List.setIfInBounds_toArray, List.set_cons_zero, List.set_cons_succ]
            refine wpAnyH_ready (rs := [11]) (by kernel_rfl) (by simp) ?_
            refine AllReadyH.cons (o := { dst := some 136, op := Op.call { callee := Callee.value (Operand.func 55), args := #[Operand.tmp 133, Operand.tmp 135], argTypes := #[52, 39] }, type := 4, pos := "law.go:114", after := #[{ on := 8, ground := Ground.data }, { on := 10, ground := Ground.data }, { on := 10, ground := Ground.chain }, { on := 7, ground := Ground.guard }], guard := some (7, false) }) rfl (fun KK hKK => ?_) AllReadyH.nil
            go_simp
            with_reducible refine (CSM.out _ hz.out).mono ?_
            rintro e w' ⟨rfl, hb⟩
            replace hz := Lib.hid (below_call (w0 := wt) hz.out hb)
            clear hb
            go_wp2_with fail
            refine hKK.out _ _ ?_ (fun hHeld2 => ?_)
            · exact SIX.out _ hz.out
            clear hKK KK hHeld
            have hHeld := hHeld2
            clear hHeld2
            try simp only [Act.put, List.setIfInBounds_toArray, List.set_cons_zero, List.set_cons_succ]
            refine wpAnyH_take (i := 12) (oi := { dst := some 137, op := Op.unOp UnOp.not 4 (Operand.tmp 136), type := 4, pos := "law.go:114", after := #[{ on := 11, ground := Ground.data }, { on := 7, ground := Ground.guard }], guard := some (7, false) }) (v := ?_) rfl (by kernel_rfl) (by kernel_rfl) (by kernel_rfl) (fun _ _ _ h => h) (Or.inl ⟨by rfl, ?_⟩) (by assumption) ?_
            rotate_left
            · (intro w hSw; (try dsimp only at hSw); go_simp; first | done | with_reducible rfl)
            try simp only [Act.put, List.setIfInBounds_toArray, List.set_cons_zero, List.set_cons_succ]
            refine wpAnyH_take (i := 13) (oi := { dst := some 138, op := Op.pick (Operand.tmp 132) (Operand.const (Value.bool true)) (Operand.tmp 137), type := 4, pos := "law.go:114", after := #[{ on := 7, ground := Ground.data }, { on := 12, ground := Ground.data }], guard := none }) (v := ?_) rfl (by kernel_rfl) (by kernel_rfl) (by kernel_rfl) (fun _ _ _ h => h) (Or.inl ⟨by rfl, ?_⟩) (by assumption) ?_
            rotate_left
            · (intro w hSw; (try dsimp only at hSw); go_simp; first | done | with_reducible rfl)
            try simp only [Act.put, List.setIfInBounds_toArray, List.set_cons_zero, List.set_cons_succ]
            refine wpAnyH_done (by kernel_rfl) ?_ _
            go_wp2_with fail
            go_roundg (gk - 1)
            case measure => omega
            case rel => exact ⟨j + 1, Nf, mf, by go_num, by omega, by omega, Lib.hid (BOf.out.call hz.out)⟩
          · have t5 : (dj % 6 == 5) = false := beq_eq_false_iff_ne.2 c5
            clear c3 c4 c5
            go_wp2_with fail
            have hba2 : Hid (∃ q, q = wr.heap.size) := Lib.hid ⟨_, rfl⟩
            generalize wr.heap.size = bx at BX0 ⊢
            generalize wr.alloc (.cells #[.int .u8 dj, .int .i64 vj, .int .i64 nj, .slice Aq lj.length cq] 55) = wa at BX0 BO1 HRD1 ⊢
            have y0 := cell_of BX0.out 0
            have y1 := cell_of BX0.out 1
            have y2 := cell_of BX0.out 2
            have y3 := cell_of BX0.out 3
            clear a0 a1 a2 a3 HRD hba2
            obtain ⟨p1, lv1, ev1, hpl⟩ := BO1.out.pl
            have PL := Lib.hid hpl
            have hL1 : Hid ((Su.LS m).length < 1000) := Lib.hid (by have := hpl.own.sz.marks; rw [Su.LS_len, ← hpl.own.at_.ok.lens]; omega)
            have hE1 : Hid (m.events.length < 1000) := Lib.hid (by have := hpl.own.sz.events; omega)
            clear hpl
            have CS := Lib.hid (ref_small _ lj wa HRD1.out)
            have OS := Lib.hid (Rf.of_small lj)
            generalize Rf.small lj = x at *
            clear y0 y1 y2 y3
            refine CS.out.mono ?_
            rintro e w2 ⟨so, rfl, hke⟩
            have HK := Lib.hid hke
            have CO := Lib.hid (dom_of so x w2 hke.own.sl (HT.out.call (below_call BO1.out.bel hke.below)))
            obtain ⟨Ao, co, rfl⟩ := hke.own.sl.len
            clear hke CS
            go_wp2_with fail
            refine CO.out.mono ?_
            rintro e w3 ⟨dv, rfl, hrep, hb, hwb⟩
            rw [OS.out] at hrep
            have HR := Lib.hid hrep
            obtain ⟨off3, sv3, ws3, rfl, hx3⟩ := hrep
            obtain ⟨As3, c3, rfl⟩ := hx3.sl.len
            unfold Dm.val at *
            generalize x.headD 0 = lo3 at *
            generalize x.getLastD 0 = hi3 at *
            generalize hxn : x.length = n3 at *
            generalize ws3.length = m3 at *
            have B3 := Lib.hid (below_call HK.out.below hb)
            have BX3 := Lib.hid (heap_call (heap_call BX0.out HK.out.below) hb)
            have k1 := cell_of BX3.out 1
            have k1a : ∀ o, (w3.alloc o).cell? ⟨bx, 1, none⟩ = some (.int .i64 vj) := fun o => cell_of (heap_alloc BX3.out o) 1
            have EX : Hid (Su.Ex p1 S b8 (w3.heap.size + 1) w3.heap.size ((w3.alloc (.cells #[.int .i64 off3, .slice As3 m3 c3, .int .i64 lo3, .int .i64 hi3, .int .i64 n3] 25)).alloc (.cells #[.int .i64 vj, .int .i64 (max 0 vj % 6)] 3)) vj (max 0 vj % 6) #[.int .i64 off3, .slice As3 m3 c3, .int .i64 lo3, .int .i64 hi3, .int .i64 n3] (.agg #[.int .i64 off3, .slice As3 m3 c3, .int .i64 lo3, .int .i64 hi3, .int .i64 n3]) (.slice Ao n3 co) x) := by
              have hlt : ∀ k, p1.fp S k → k < wa.heap.size := fun k hk => PL.out.own.at_.toMem.fp_lt hk
              have h8 := heap_lt PL.out.box
              have hs3 := B3.out.size
              have hso := HK.out.own.call hb
              have hbl := below_alloc (below_alloc (Below.refl w3.heap.size w3) (.cells #[.int .i64 off3, .slice As3 m3 c3, .int .i64 lo3, .int .i64 hi3, .int .i64 n3] 25)) (.cells #[.int .i64 vj, .int .i64 (max 0 vj % 6)] 3)
              refine Lib.hid ⟨by have h1 := heap_new (w3.alloc (.cells #[.int .i64 off3, .slice As3 m3 c3, .int .i64 lo3, .int .i64 hi3, .int .i64 n3] 25)) (.cells #[.int .i64 vj, .int .i64 (max 0 vj % 6)] 3); simpa using h1, fun hk => by have := hlt _ hk; omega, by omega, heap_alloc (heap_new w3 _) _, fun hk => by have := hlt _ hk; omega, by omega, HR.out.call hbl, ?_, fun b hb2 => ?_⟩
              · have h1 := (hso.sl.call hbl)
                have h2 : Sl ((w3.alloc (.cells #[.int .i64 off3, .slice As3 m3 c3, .int .i64 lo3, .int .i64 hi3, .int .i64 n3] 25)).alloc (.cells #[.int .i64 vj, .int .i64 (max 0 vj % 6)] 3)) 3 1 (.slice Ao n3 co) x.length (Iv x) := h1
                exact h2.rd
              · have h1 := hso.own b hb2
                have h2 := hso.sl.lt hb2
                exact ⟨fun hk => by have := hlt _ hk; omega, by omega, by simp; omega⟩
            have PLl := Lib.hid (PL.out.call (below_call B3.out (below_alloc (below_alloc (Below.refl w3.heap.size w3) (.cells #[.int .i64 off3, .slice As3 m3 c3, .int .i64 lo3, .int .i64 hi3, .int .i64 n3] 25)) (.cells #[.int .i64 vj, .int .i64 (max 0 vj % 6)] 3))))
            clear hx3 hb hwb CO HRD1 HK HR
            go_wp2_with fail
            generalize (w3.alloc (.cells #[.int .i64 off3, .slice As3 m3 c3, .int .i64 lo3, .int .i64 hi3, .int .i64 n3] 25)).alloc (.cells #[.int .i64 vj, .int .i64 (max 0 vj % 6)] 3) = wl at EX PLl ⊢
            generalize w3.heap.size + 1 = bs at EX ⊢
            generalize w3.heap.size = bd at EX ⊢
            generalize (max 0 vj % 6) = xj at *
            obtain ⟨gko, rfl⟩ : ∃ g : Nat, g = gk := ⟨_, rfl⟩
            have SM1 := Lib.hid BO1.out.sml
            have BS1 := Lib.hid BO1.out.base
            clear BO1 hbo k1 k1a BX3 BX0 PL
            go_loopg [62] 2 (fun k s62 wr => ∃ (i N' : Nat) (m' : Su.M) (p' : Su.Parts) (lv' ev' : Value), s62 = .int .i64 i ∧ k + i = 2 ∧ N' ≤ N + i ∧ Hid (Su.Pl w4 S b8 wr p' m' N' lv' ev' (Su.LS m') m'.events) ∧ Hid (Su.Sml m') ∧ Hid (Su.Ex p' S b8 bs bd wr vj xj #[.int .i64 off3, .slice As3 m3 c3, .int .i64 lo3, .int .i64 hi3, .int .i64 n3] (.agg #[.int .i64 off3, .slice As3 m3 c3, .int .i64 lo3, .int .i64 hi3, .int .i64 n3]) (.slice Ao n3 co) x))
            case atStart => exact ⟨0, N, m, p1, lv1, ev1, rfl, by omega, by omega, PLl, SM1, EX⟩
            case round =>
              obtain ⟨i, N', m', p', lv', ev', rfl, hi2, hN', hpl, hsml, hex⟩ := hrel
              by_cases hi : i < 2
              · obtain ⟨val, hval⟩ : ∃ val, (#[Value.int .i64 vj, .int .i64 xj])[i]? = some (.int .i64 val) := by
                  have : i = 0 ∨ i = 1 := by omega
                  rcases this with rfl | rfl
                  · exact ⟨vj, rfl⟩
                  · exact ⟨xj, rfl⟩
                have hcv : wr.cell? ⟨bs, i, none⟩ = some (.int .i64 val) := by rw [cell_of hex.out.sl]; exact hval
                have hcv0 : wr.cell? ⟨bs, 0 + i, none⟩ = some (.int .i64 val) := by rw [Nat.zero_add]; exact hcv
                have e0 := cell_of hex.out.bx 0
                have e1 := cell_of hex.out.bx 1
                have e2 := cell_of hex.out.bx 2
                have e3 := cell_of hex.out.bx 3
                have e4 := cell_of hex.out.bx 4
                have hL1 : Hid ((Su.LS m').length < 1000) := Lib.hid (by have := hpl.out.own.sz.marks; rw [Su.LS_len, ← hpl.out.own.at_.ok.lens]; omega)
                have hE1 : Hid (m'.events.length < 1000) := Lib.hid (by have := hpl.out.own.sz.events; omega)
                have hii : (i : Int) < 2 := by omega
                have CN := Lib.hid (own_narrow hpl.out.own (by omega) (by have := hpl.out.len; omega) val _ x hex.out.rep (HT.out.call (below_call BS1.out hpl.out.own.below)))
                clear hval
                go_wp2_with fail
                refine CN.out.mono ?_
                rintro e w5' ⟨rfl, p2, ho, st⟩
                have SM2 := Lib.hid (Su.nar_sml m' val x hsml.out)
                have PL2 := Lib.hid (hpl.out.store ho st (by rw [Su.nar_len]; exact hpl.out.len) SM2.out.1)
                have EX2 := Lib.hid (hex.out.st hpl.out.own.at_.toMem st)
                have x0 := cell_of PL2.out.box 0
                have x1 := cell_of PL2.out.box 1
                have CP := Lib.hid (ref3_narrows _ _ m' _ _ _ x val w5' PL2.out.ref (fun b hp => hp.2.2) EX2.out.rd hL1.out hE1.out hpl.out.len hpl.out.small)
                generalize hm2 : Su.nar m' val x = r2 at *
                clear ho st hcv hcv0 hm2 e0 e1 e2 e3 e4 CN
                go_wp2_with fail
                refine CP.out.mono ?_
                rintro e w3' ⟨v3, lv3, ev3, rfl, hr, hb⟩
                obtain rfl := hr.val
                have PL3 := Lib.hid (PL2.out.refs hr hb (.cells #[lv3, ev3] 78)).1
                have hx3 := heap_alloc (heap_call PL2.out.box hb) (.cells #[lv3, ev3] 78)
                have EX3 := Lib.hid ((((EX2.out.call hb).call (below_alloc (Below.refl _ _) (.cells #[lv3, ev3] 78))).set (i := 0) (u := lv3) hx3).set (i := 1) (u := ev3) (heap_set hx3 0 lv3))
                obtain ⟨Al3, cl3, rfl⟩ := hr.lev.len
                obtain ⟨Ae3, ce3, rfl⟩ := hr.evs.len
                have t0 := cell_of hx3 0
                have t1 := cell_of hx3 1
                have f0 := frozen_of hx3 0
                have f1 := frozen_of hx3 1
                have hcc : (r2.2 != r2.2) = false := by simp
                generalize (Su.LS r2.1).length = z3 at *
                generalize hz4 : r2.1.events.length = z4 at *
                clear hr hb hx3 x0 x1 CP hz4
                go_wp2_with fail
                go_roundg (gk - 1)
                case measure => omega
                case rel => exact ⟨i + 1, N' + 1, r2.1, p2, _, _, by go_num, by omega, by omega, PL3, SM2, EX3⟩
              · have hie : i = 2 := by omega
                subst hie
                go_wp2_with fail
                obtain ⟨wt, rfl⟩ : ∃ x : World, x = wr := ⟨_, rfl⟩
                obtain ⟨mf, rfl⟩ : ∃ x, x = m' := ⟨_, rfl⟩
                obtain ⟨Nf, rfl⟩ : ∃ x, x = N' := ⟨_, rfl⟩
                have BOf : Hid (Su.Bo w w4 S b8 wt mf Nf) := Lib.hid ⟨⟨p', _, _, hpl.out⟩, hsml.out, BS1.out⟩
                have hNf2 : Nf ≤ 2 * (j + 1) := by omega
                have hNf3 : Nf ≤ 100 := by omega
                clear hpl hsml hex
                obtain ⟨pf, lvf, evf, hplf⟩ := BOf.out.pl
                have PF := Lib.hid hplf
                obtain ⟨snow, hnow, cnow⟩ := ref3_now _ _ _ _ _ _ wt hplf.ref (by rw [Su.LS_len]; omega)
                rw [Su.LS_last] at hnow
                have hkf : (Su.LS mf).length = mf.marks.length + 1 := by rw [Su.LS_len, ← hplf.own.at_.ok.lens]
                have hsN : mf.marks.length ≤ Nf := hplf.own.sz.marks
                obtain ⟨Alf, clf, rfl⟩ := hplf.ref.lev.len
                obtain ⟨Aef, cef, rfl⟩ := hplf.ref.evs.len
                rw [hkf] at PF hplf cnow
                obtain ⟨Asn, csn, rfl⟩ := hnow.len
                have SIX : Hid (∀ w', Below wt.heap.size wt w' → w'.cell? ⟨b8, 0, none⟩ = some (.slice Alf (mf.marks.length + 1) clf) ∧ w'.cell? ⟨b8, 1, none⟩ = some (.slice Aef mf.events.length cef)) := Lib.hid fun w' hb => ⟨(cell_of (heap_call hplf.box hb) 0), cell_of (heap_call hplf.box hb) 1⟩
                have CLv := Lib.hid (fun w' (hb : Below wt.heap.size wt w') => store_level S pf mf w' (hplf.own.at_.toMem.call hb))
                have CNOW := Lib.hid cnow
                have CSM : Hid (∀ w', Below wt.heap.size wt w' → Calls Tryd.prog 55 #[.pointer (some ⟨S, 0, none⟩), .slice Asn mf.cur.length csn] w' (Rf.Says true w')) := Lib.hid fun w' hb => by
                  have h1 := law3_same _ S pf mf _ mf.cur w' (hplf.own.at_.toMem.call hb) (hnow.call hb) (by have := hplf.len; omega) (HT.out.call (below_call (BOf.out.bel) hb))
                  rwa [decide_eq_true rfl] at h1
                have hkb : mf.marks.length ≤ 1000 := by omega
                have SIX2 := SIX
                generalize mf.marks.length = kf at *
                have hw1 : IntKind.i64.wrap (((kf + 1 : Nat) : Int) - 1) = (kf : Int) := by rw [IntKind.wrap_i64]; omega
                have hw2 : IntKind.i64.wrap ((kf : Int) + 1 - 1) = (kf : Int) := by rw [IntKind.wrap_i64]; omega
                have hw3 : ((kf : Int) != (kf : Int)) = false := by simp
                have hw4 : IntKind.i64.wrap (kf : Int) = (kf : Int) := by rw [IntKind.wrap_i64]; omega
                clear hplf hnow cnow hkf SIX2
                have hz := Lib.hid ((Below.refl wt.heap.size wt).drew)
                refine wp_region_held_drew (S := fun w' => w'.cell? ⟨b8, 0, none⟩ = some (.slice Alf (kf + 1) clf) ∧ w'.cell? ⟨b8, 1, none⟩ = some (.slice Aef mf.events.length cef)) (by kernel_rfl) ?_ (fun hHeld => ?_)
                · exact SIX.out _ hz.out
                refine wpAnyH_take (i := 0) (oi := { dst := some 125, op := Op.move (Operand.tmp 7), type := 52, pos := "law.go:114", after := #[], guard := none }) (v := ?_) rfl (by kernel_rfl) (by kernel_rfl) (by kernel_rfl) (fun _ _ _ h => h) (Or.inl ⟨by rfl, ?_⟩) (by assumption) ?_
                rotate_left
                · (intro w hSw; (try dsimp only at hSw); go_simp; first | done | with_reducible rfl)
                try simp only [Act.put, List.setIfInBounds_toArray, List.set_cons_zero, List.set_cons_succ]
                refine wpAnyH_take (i := 2) (oi := { dst := some 127, op := Op.fieldAddr 78 (Operand.tmp 8) 0, type := 0, pos := "law.go:114", after := #[], guard := none }) (v := ?_) rfl (by kernel_rfl) (by kernel_rfl) (by kernel_rfl) (fun _ _ _ h => h) (Or.inl ⟨by rfl, ?_⟩) (by assumption) ?_
                rotate_left
                · (intro w hSw; (try dsimp only at hSw); go_simp; first | done | with_reducible rfl)
                try simp only [Act.put, List.setIfInBounds_toArray, List.set_cons_zero, List.set_cons_succ]
                refine wpAnyH_take (i := 3) (oi := { dst := some 128, op := Op.load 75 (Operand.tmp 127), type := 75, pos := "law.go:114", after := #[{ on := 2, ground := Ground.data }], guard := none }) (v := ?_) rfl (by kernel_rfl) (by kernel_rfl) (by kernel_rfl) (fun _ _ _ h => h) (Or.inl ⟨by rfl, ?_⟩) (by assumption) ?_
                rotate_left
                · (intro w hSw; (try dsimp only at hSw); go_simp; first | done | with_reducible rfl)
                try simp only [Act.put, List.setIfInBounds_toArray, List.set_cons_zero, List.set_cons_succ]
                refine wpAnyH_take (i := 4) (oi := { dst := some 129, op := Op.call { callee := Callee.builtin Builtin.len, args := #[Operand.tmp 128], argTypes := #[75] }, type := 3, pos := "law.go:114", after := #[{ on := 3, ground := Ground.data }], guard := none }) (v := ?_) rfl (by kernel_rfl) (by kernel_rfl) (by kernel_rfl) (fun _ _ _ h => h) (Or.inl ⟨by rfl, ?_⟩) (by assumption) ?_
                rotate_left
                · (intro w hSw; (try dsimp only at hSw); go_simp; first | done | with_reducible rfl)
                try simp only [Act.put, List.setIfInBounds_toArray, List.set_cons_zero, List.set_cons_succ]
                refine wpAnyH_take (i := 5) (oi := { dst := some 130, op := Op.binOp BinOp.sub 3 (Operand.tmp 129) (Operand.const (Value.int IntKind.i64 1)) 3, type := 3, pos := "law.go:114", after := #[{ on := 4, ground := Ground.data }], guard := none }) (v := ?_) rfl (by kernel_rfl) (by kernel_rfl) (by kernel_rfl) (fun _ _ _ h => h) (Or.inl ⟨by rfl, ?_⟩) (by assumption) ?_
                rotate_left
                · (intro w hSw; (try dsimp only at hSw); go_simp; first | done | with_reducible rfl)
                try simp only [Act.put, List.setIfInBounds_toArray, List.set_cons_zero, List.set_cons_succ]
                refine wpAnyH_ready (rs := [1]) (by kernel_rfl) (by simp) ?_
                refine AllReadyH.cons (o := { dst := some 126, op := Op.call { callee := Callee.value (Operand.func 36), args := #[Operand.tmp 125], argTypes := #[52] }, type := 3, pos := "law.go:114", after := #[{ on := 0, ground := Ground.data }], guard := none }) rfl (fun KK hKK => ?_) AllReadyH.nil
                go_simp
                with_reducible refine (CLv.out _ hz.out).mono ?_
                rintro e w' ⟨rfl, rfl⟩
                go_wp2_with fail
                refine hKK.out _ _ ?_ (fun hHeld2 => ?_)
                · exact SIX.out _ hz.out
                clear hKK KK hHeld
                have hHeld := hHeld2
                clear hHeld2
                try simp only [Act.put, List.setIfInBounds_toArray, List.set_cons_zero, List.set_cons_succ]
                refine wpAnyH_take (i := 6) (oi := { dst := some 131, op := Op.binOp BinOp.neq 3 (Operand.tmp 126) (Operand.tmp 130) 3, type := 4, pos := "law.go:114", after := #[{ on := 1, ground := Ground.data }, { on := 5, ground := Ground.data }], guard := none }) (v := ?_) rfl (by kernel_rfl) (by kernel_rfl) (by kernel_rfl) (fun _ _ _ h => h) (Or.inl ⟨by rfl, ?_⟩) (by assumption) ?_
                rotate_left
                · (intro w hSw; (try dsimp only at hSw); go_simp; first | done | with_reducible rfl)
                try simp only [Act.put, List.setIfInBounds_toArray, List.set_cons_zero, List.set_cons_succ]
                refine wpAnyH_take (i := 7) (oi := { dst := some 132, op := Op.move (Operand.tmp 131), type := 4, pos := "law.go:114", after := #[{ on := 6, ground := Ground.data }, { on := 1, ground := Ground.chain }], guard := none }) (v := ?_) rfl (by kernel_rfl) (by kernel_rfl) (by kernel_rfl) (fun _ _ _ h => h) (Or.inl ⟨by rfl, ?_⟩) (by assumption) ?_
                rotate_left
                · (intro w hSw; (try dsimp only at hSw); go_simp; first | done | with_reducible rfl)
                try simp only [Act.put, List.setIfInBounds_toArray, List.set_cons_zero, List.set_cons_succ]
                refine wpAnyH_take (i := 8) (oi := { dst := some 133, op := Op.move (Operand.tmp 7), type := 52, pos := "law.go:114", after := #[{ on := 7, ground := Ground.guard }], guard := some (7, false) }) (v := ?_) rfl (by kernel_rfl) (by kernel_rfl) (by kernel_rfl) (fun _ _ _ h => h) (Or.inl ⟨by rfl, ?_⟩) (by assumption) ?_
                rotate_left
                · (intro w hSw; (try dsimp only at hSw); go_simp; first | done | with_reducible rfl)
                try simp only [Act.put, List.setIfInBounds_toArray, List.set_cons_zero, List.set_cons_succ]
                refine wpAnyH_take (i := 9) (oi := { dst := some 134, op := Op.load 78 (Operand.tmp 8), type := 78, pos := "law.go:114", after := #[{ on := 7, ground := Ground.guard }], guard := some (7, false) }) (v := ?_) rfl (by kernel_rfl) (by kernel_rfl) (by kernel_rfl) (fun _ _ _ h => h) (Or.inl ⟨by rfl, ?_⟩) (by assumption) ?_
                rotate_left
                · (intro w hSw; (try dsimp only at hSw); go_simp; first | done | with_reducible rfl)
                try simp only [Act.put, List.setIfInBounds_toArray, List.set_cons_zero, List.set_cons_succ]
                refine wpAnyH_ready (rs := [10]) (by kernel_rfl) (by simp) ?_
                refine AllReadyH.cons (o := { dst := some 135, op := Op.call { callee := Callee.value (Operand.func 56), args := #[Operand.tmp 134], argTypes := #[78] }, type := 39, pos := "law.go:114", after := #[{ on := 9, ground := Ground.data }, { on := 7, ground := Ground.chain }, { on := 7, ground := Ground.guard }], guard := some (7, false) }) rfl (fun KK hKK => ?_) AllReadyH.nil
                go_simp
                with_reducible refine (CNOW.out _ hz.out).mono ?_
                rintro e w' ⟨rfl, hb⟩
                replace hz := Lib.hid (below_call (w0 := wt) hz.out hb)
                clear hb
                go_wp2_with fail
                refine hKK.out _ _ ?_ (fun hHeld2 => ?_)
                · exact SIX.out _ hz.out
                clear hKK KK hHeld
                have hHeld := hHeld2
                clear hHeld2
                try simp only [Act.put, List.setIfInBounds_toArray, List.set_cons_zero, List.set_cons_succ]
                refine wpAnyH_ready (rs := [11]) (by kernel_rfl) (by simp) ?_
                refine AllReadyH.cons (o := { dst := some 136, op := Op.call { callee := Callee.value (Operand.func 55), args := #[Operand.tmp 133, Operand.tmp 135], argTypes := #[52, 39] }, type := 4, pos := "law.go:114", after := #[{ on := 8, ground := Ground.data }, { on := 10, ground := Ground.data }, { on := 10, ground := Ground.chain }, { on := 7, ground := Ground.guard }], guard := some (7, false) }) rfl (fun KK hKK => ?_) AllReadyH.nil
                go_simp
                with_reducible refine (CSM.out _ hz.out).mono ?_
                rintro e w' ⟨rfl, hb⟩
                replace hz := Lib.hid (below_call (w0 := wt) hz.out hb)
                clear hb
                go_wp2_with fail
                refine hKK.out _ _ ?_ (fun hHeld2 => ?_)
                · exact SIX.out _ hz.out
                clear hKK KK hHeld
                have hHeld := hHeld2
                clear hHeld2
                try simp only [Act.put, List.setIfInBounds_toArray, List.set_cons_zero, List.set_cons_succ]
                refine wpAnyH_take (i := 12) (oi := { dst := some 137, op := Op.unOp UnOp.not 4 (Operand.tmp 136), type := 4, pos := "law.go:114", after := #[{ on := 11, ground := Ground.data }, { on := 7, ground := Ground.guard }], guard := some (7, false) }) (v := ?_) rfl (by kernel_rfl) (by kernel_rfl) (by kernel_rfl) (fun _ _ _ h => h) (Or.inl ⟨by rfl, ?_⟩) (by assumption) ?_
                rotate_left
                · (intro w hSw; (try dsimp only at hSw); go_simp; first | done | with_reducible rfl)
                try simp only [Act.put, List.setIfInBounds_toArray, List.set_cons_zero, List.set_cons_succ]
                refine wpAnyH_take (i := 13) (oi := { dst := some 138, op := Op.pick (Operand.tmp 132) (Operand.const (Value.bool true)) (Operand.tmp 137), type := 4, pos := "law.go:114", after := #[{ on := 7, ground := Ground.data }, { on := 12, ground := Ground.data }], guard := none }) (v := ?_) rfl (by kernel_rfl) (by kernel_rfl) (by kernel_rfl) (fun _ _ _ h => h) (Or.inl ⟨by rfl, ?_⟩) (by assumption) ?_
                rotate_left
                · (intro w hSw; (try dsimp only at hSw); go_simp; first | done | with_reducible rfl)
                try simp only [Act.put, List.setIfInBounds_toArray, List.set_cons_zero, List.set_cons_succ]
                refine wpAnyH_done (by kernel_rfl) ?_ _
                go_wp2_with fail
                go_roundg (gko - 1)
                case measure => omega
                case rel => exact ⟨j + 1, Nf, mf, by go_num, by omega, by omega, Lib.hid (BOf.out.call hz.out)⟩
    · have hje : j = mm := by omega
      subst hje
      obtain ⟨p1, lv1, ev1, hpl⟩ := hbo.out.pl
      have PL := Lib.hid hpl
      have CW := Lib.hid (law3_wakes wr (HT.out.call hbo.out.bel))
      clear hpl
      go_wp2_with fail
      refine CW.out.mono ?_
      rintro e w2 ⟨rfl, hb⟩
      have PL2 := Lib.hid (PL.out.call hb)
      have BO2 := Lib.hid (hbo.out.call hb)
      obtain ⟨snow, hnow, cnow⟩ := ref3_now _ _ _ _ _ _ w2 PL2.out.ref (by rw [Su.LS_len]; omega)
      rw [Su.LS_last] at hnow
      have HNOW := Lib.hid hnow
      have CNOW := Lib.hid cnow
      have x0 := cell_of PL2.out.box 0
      have x1 := cell_of PL2.out.box 1
      clear hb CW hnow cnow
      go_wp2_with fail
      refine (CNOW.out _ (Below.refl _ _)).mono ?_
      rintro e w3 ⟨rfl, hb⟩
      have PL3 := Lib.hid (PL2.out.call hb)
      have BO3 := Lib.hid (BO2.out.call hb)
      have CS := Lib.hid (law3_same _ S p1 m _ m.cur w3 PL3.out.own.at_.toMem (HNOW.out.call hb) (by have := PL3.out.len; omega) (HT.out.call BO3.out.bel))
      rw [decide_eq_true (show m.cur = m.cur from rfl)] at CS
      clear hb x0 x1 CNOW HNOW
      go_wp2_with fail
      refine CS.out.mono ?_
      rintro e w4' ⟨rfl, hb⟩
      have PL4 := Lib.hid (PL3.out.call hb)
      have BO4 := Lib.hid (BO3.out.call hb)
      have CG := Lib.hid (store_get S p1 m (-1) w4' PL4.out.own.at_.toMem (by have := PL4.out.len; omega))
      rw [show Su.get m.cur (-1) = [] from by unfold Su.get; rw [if_neg (by omega)]] at CG
      clear hb CS
      go_wp2_with fail
      refine CG.out.mono ?_
      rintro e w5' ⟨dv, rfl, hr, hb⟩
      have PL5 := Lib.hid (PL4.out.call hb)
      have BO5 := Lib.hid (BO4.out.call hb)
      have CZ := Lib.hid (dom_size dv [] w5' hr)
      clear hb hr CG
      go_wp2_with fail
      refine CZ.out.mono ?_
      rintro e w6' ⟨rfl, hb⟩
      have PL6 := Lib.hid (PL5.out.call hb)
      have BO6 := Lib.hid (BO5.out.call hb)
      have CG := Lib.hid (store_get S p1 m 99 w6' PL6.out.own.at_.toMem (by have := PL6.out.len; omega))
      rw [show Su.get m.cur 99 = [] from by unfold Su.get; rw [if_neg (by have := PL6.out.len; omega)]] at CG
      clear hb CZ
      go_wp2_with fail
      refine CG.out.mono ?_
      rintro e w7' ⟨dv2, rfl, hr, hb⟩
      have BO7 := Lib.hid (BO6.out.call hb)
      have CZ := Lib.hid (dom_size dv2 [] w7' hr)
      clear hb hr CG
      go_wp2_with fail
      refine CZ.out.mono ?_
      rintro e w8' ⟨rfl, hb⟩
      have BO8 := Lib.hid (BO7.out.call hb)
      clear hb CZ
      go_wp2_with fail
      go_ret
      exact ⟨rfl, BO8.out.bel⟩
end Go.Proofs.YtdbjljbkneopcaaDoor
