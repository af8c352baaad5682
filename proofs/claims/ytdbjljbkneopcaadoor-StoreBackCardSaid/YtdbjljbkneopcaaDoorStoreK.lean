/- same (law) of chapter 03. -/
import Derived.Test.YtdbjljbkneopcaaDoorStoreJ
import Derived.Deep.RegionHeld3
namespace Go.Proofs.YtdbjljbkneopcaaDoor
open Go.RowKit
set_option linter.unusedSimpArgs false
set_option linter.unusedVariables false

theorem Rd.at0 {w : World} {A : Option Addr} {n c : Nat} {l : List Int} (h : Rd w (.slice A n c) l) (hl : 0 < l.length) : ∃ b o, A = some ⟨b, o, none⟩ ∧ ∀ j, j < l.length → w.cell? ⟨b, o + j, none⟩ = some (.int .i64 (l.getD j 0)) := by
  obtain ⟨b, o, c', e, _, h2⟩ := h.form hl
  cases e
  exact ⟨b, o, rfl, h2⟩
theorem go_equal_rd (s1 s2 : Value) (l1 l2 : List Int) (w : World) (h1 : Rd w s1 l1) (h2 : Rd w s2 l2) :
    Calls Tryd.prog 49 #[s1, s2] w (Rf.Says (decide (l1 = l2)) w) := by
  obtain ⟨A1, c1, rfl⟩ := h1.len
  obtain ⟨A2, c2, rfl⟩ := h2.len
  have b1 := h1.big
  have b2 := h2.big
  by_cases e1 : l1 = []
  · subst e1
    refine (Tryd.slices_Equal_int_empty A1 A2 c1 l2.length c2 w b2).mono ?_
    rintro e w' ⟨rfl, rfl⟩
    refine ⟨ret_bool ?_, Below.refl _ _⟩
    exact decide_eq_decide.2 ⟨fun h => (List.length_eq_zero_iff.1 h).symm, fun h => by rw [← h]; rfl⟩
  by_cases e2 : l1.length = l2.length
  · obtain ⟨p1, o1, rfl, k1⟩ := h1.at0 (List.length_pos_iff.2 e1)
    obtain ⟨p2, o2, rfl, k2⟩ := h2.at0 (by rw [← e2]; exact List.length_pos_iff.2 e1)
    refine (Tryd.slices_Equal_int p1 o1 l1.length c1 p2 o2 l2.length c2 l1 l2 w (Nat.le_refl _) (Nat.le_refl _) b1 b2 k1 k2).mono ?_
    rintro e w' ⟨rfl, q, rfl⟩
    refine ⟨ret_bool ?_, below_drewN (Below.refl _ _) _⟩
    rw [List.take_length, List.take_length]
    by_cases e : l1 = l2
    · rw [decide_eq_true e]; subst e; simp
    · rw [decide_eq_false e]; simpa using e
  · refine (Tryd.slices_Equal_int_lens A1 A2 l1.length c1 l2.length c2 w e2).mono ?_
    rintro e w' ⟨rfl, rfl⟩
    refine ⟨ret_bool ?_, Below.refl _ _⟩
    rw [decide_eq_false (fun h => e2 (by rw [h]))]
theorem Rr.blk3 {w : World} {b o : Nat} {v : Value} (h : w.cell? ⟨b, o, none⟩ = some v) : b < w.heap.size := by
  simp only [World.cell?] at h
  split at h
  · rename_i e; exact heap_lt e
  · cases h
/-- The first empty list from j on. -/
def Su.fz (L : List (List Int)) (j : Nat) : Option Nat := (Su.none? (L.drop j)).map (j + ·)
theorem Su.fz_end (L : List (List Int)) : Su.fz L L.length = none := by
  unfold Su.fz; rw [List.drop_of_length_le (Nat.le_refl _)]; rfl
theorem Su.fz_step (L : List (List Int)) (j : Nat) (hj : j < L.length) : Su.fz L j = if L.getD j [] = [] then some j else Su.fz L (j + 1) := by
  unfold Su.fz Su.none?
  rw [List.drop_eq_getElem_cons hj, List.getD_eq_getElem?_getD, List.getElem?_eq_getElem hj, List.findIdx?_cons]
  show Option.map _ (if L[j].isEmpty = true then _ else _) = if L[j] = [] then _ else _
  by_cases h : L[j] = []
  · rw [if_pos h, h]; rfl
  · rw [if_neg h, if_neg (by simpa using h), Option.map_map]
    congr 1
    funext k
    show j + (k + 1) = j + 1 + k
    omega
theorem Su.fz_zero (L : List (List Int)) : Su.fz L 0 = Su.none? L := by
  unfold Su.fz
  simp
theorem drop_eq_step {α : Type} (a b : List α) (j : Nat) (d : α) (ha : j < a.length) (hb : j < b.length) (h : a.drop (j + 1) = b.drop (j + 1)) (he : a.getD j d = b.getD j d) : a.drop j = b.drop j := by
  rw [List.drop_eq_getElem_cons ha, List.drop_eq_getElem_cons hb, h]
  rw [List.getD_eq_getElem?_getD, List.getD_eq_getElem?_getD, List.getElem?_eq_getElem ha, List.getElem?_eq_getElem hb] at he
  have : a[j] = b[j] := he
  rw [this]
set_option maxHeartbeats 1000000 in
theorem law3_same_len (P : Nat → Prop) (S : Nat) (p : Su.Parts) (m : Su.M) (sv : Value) (L : List (List Int)) (w : World) (h : Su.Mem w S p m) (hr : Rr P w sv L) (hl : m.cur.length ≠ L.length) :
    Calls Tryd.prog 55 #[.pointer (some ⟨S, 0, none⟩), sv] w (Rf.Says false w) := by
  have HL := Lib.hid (store_len S p m w h)
  obtain ⟨A, c, rfl⟩ := hr.len
  have hb : ((m.cur.length : Int) != (L.length : Int)) = true := bne_iff_ne.2 (by omega)
  clear h hr hl
  generalize m.cur.length = n at *
  generalize L.length = q at *
  go_enter Tryd.func55, Tryd.ntmps55
  go_wp2_with fail
  refine HL.out.mono ?_
  rintro e w2 ⟨rfl, rfl⟩
  go_wp2_with fail
  go_ret
  exact ⟨rfl, Below.refl _ _⟩
set_option maxHeartbeats 8000000 in
set_option maxRecDepth 100000 in
theorem law3_same_go (P : Nat → Prop) (S : Nat) (p : Su.Parts) (m : Su.M) (sv : Value) (L : List (List Int)) (w : World) (h : Su.Mem w S p m) (hr : Rr P w sv L) (hn : m.cur.length ≤ 1000000) (hl : m.cur.length = L.length) (hT : Tab w) :
    Calls Tryd.prog 55 #[.pointer (some ⟨S, 0, none⟩), sv] w (Rf.Says (decide (m.cur = L)) w) := by
  have HL := Lib.hid (store_len S p m w h)
  obtain ⟨A, c, rfl⟩ := hr.len
  have HR := Lib.hid hr
  have HM := Lib.hid h
  have HT := Lib.hid hT
  have I0 : Hid (m.cur.drop L.length = L.drop L.length) := Lib.hid (by rw [List.drop_of_length_le (Nat.le_refl _), List.drop_of_length_le (by omega)])
  have F0 : Hid (Su.fz L L.length = none) := Lib.hid (Su.fz_end L)
  obtain ⟨r, hrr⟩ : ∃ r, r = decide (m.cur = L) := ⟨_, rfl⟩
  have RR := Lib.hid hrr
  rw [← hrr]
  have HLL := Lib.hid hl
  have hbig : L.length ≤ 1000000 := by omega
  rw [hl] at HL
  clear h hr hT hrr hl hn
  generalize hnn : L.length = n at *
  have HN := Lib.hid hnn
  have hb0 : ((n : Int) != (n : Int)) = false := by simp
  clear hnn
  go_enter Tryd.func55, Tryd.ntmps55
  go_wp2_with fail
  refine HL.out.mono ?_
  rintro e w2 ⟨rfl, rfl⟩
  go_wp2_with fail
  go_loopg [5, 6, 7] n (fun k s5 s6 s7 wr => ∃ j : Nat, s7 = .int .i64 ((j : Int) - 1) ∧ k = j ∧ j ≤ n ∧ s5 = .int .i64 (((Su.fz L j).getD 0 : Nat) : Int) ∧ s6 = .bool (Su.fz L j).isSome ∧ Hid (m.cur.drop j = L.drop j) ∧ Hid (Below w.heap.size w wr))
  case atStart => exact ⟨n, rfl, rfl, Nat.le_refl _, by rw [F0.out]; rfl, by rw [F0.out]; rfl, I0, Lib.hid (Below.refl _ _)⟩
  case round =>
    obtain ⟨j, rfl, rfl, hjn, rfl, rfl, hd, hbw⟩ := hrel
    cases gk with
    | zero =>
      have E := hd.out
      rw [List.drop_zero, List.drop_zero] at E
      have RT := Lib.hid (show r = true by rw [RR.out, decide_eq_true E])
      have CF := Lib.hid (store_failed S p m wr (HM.out.call hbw.out) (by rw [HLL.out]; exact hbig))
      unfold Su.Fl at CF
      rw [E, ← Su.fz_zero] at CF
      generalize (Su.fz L 0).isSome = bb at *
      generalize (Su.fz L 0).getD 0 = kk at *
      have g1 : ((kk : Int) == (kk : Int)) = true := beq_self_eq_true _
      have g2 : (bb == bb) = true := by cases bb <;> rfl
      clear E
      go_wp2_with fail
      refine CF.out.mono ?_
      rintro e w2 ⟨rfl, hb⟩
      have B2 := Lib.hid (below_call hbw.out hb)
      clear hb
      go_wp2_with fail
      go_ret
      exact ⟨ret_bool (by rw [RT.out]), B2.out⟩
    | succ i =>
      rw [show ((i + 1 : Nat) : Int) - 1 = (i : Int) from by omega]
      have hin : i < L.length := by rw [HN.out]; omega
      have him : i < m.cur.length := by rw [HLL.out]; omega
      have CX := Lib.hid (store_fixed (.pointer (some ⟨S, 0, none⟩)) i (m.cur.getD i []) wr (store_get_in S p m i wr (HM.out.call hbw.out) (by rw [HLL.out]; exact hbig) him))
      have FS := Lib.hid (Su.fz_step L i hin)
      have DS := Lib.hid (drop_eq_step m.cur L i [] him hin hd.out)
      have DN : Hid (m.cur.getD i [] ≠ L.getD i [] → m.cur ≠ L) := Lib.hid (fun h e => h (by rw [e]))
      generalize hli : L.getD i [] = li at *
      have HLI := Lib.hid hli
      generalize hci : m.cur.getD i [] = ci at *
      have HCI := Lib.hid hci
      clear hli hci
      have hii : (i : Int) < (n : Int) := by omega
      have hi0 : (0 : Int) ≤ (i : Int) := by omega
      unfold Su.Fx at CX
      obtain ⟨fv, hfv⟩ : ∃ y, y = (if ci.length = 1 then ci.headD 0 else 0) := ⟨_, rfl⟩
      obtain ⟨fok, hok⟩ : ∃ y, y = decide (ci.length = 1) := ⟨_, rfl⟩
      rw [← hfv, ← hok] at CX
      have HFV := Lib.hid hfv
      have HOK := Lib.hid hok
      clear hfv hok
      go_wp2_with fail
      refine CX.out.mono ?_
      rintro e w3 ⟨rfl, hb⟩
      have B3 := Lib.hid (below_call hbw.out hb)
      clear hb CX
      obtain ⟨b, o, v, e, hcell, hrd, _⟩ := HR.out.at B3.out i hin
      cases e
      rw [HLI.out] at hrd
      have HRD := Lib.hid hrd
      obtain ⟨Av, cv, rfl⟩ := hrd.len
      have CG := Lib.hid (fun w' (hb : Below w3.heap.size w3 w') => store_get_in S p m i w' (HM.out.call (below_call B3.out hb)) (by rw [HLL.out]; exact hbig) him)
      rw [HCI.out] at CG
      have CLi := Lib.hid (fun w' (hb : Below w3.heap.size w3 w') (dv : Value) (hrep : Dm.Rep w' dv ci) => dom_list dv ci w' hrep (HT.out.call (below_call B3.out hb)))
      have CE := Lib.hid (fun w' (hb : Below w3.heap.size w3 w') (s1 : Value) (hs : Rd w' s1 ci) => go_equal_rd s1 (.slice Av li.length cv) ci li w' hs (HRD.out.call hb))
      by_cases heq : ci = li
      · have DSX := Lib.hid (DS.out heq)
        clear DS
        subst heq
        rw [decide_eq_true rfl] at CE
        have hbb := hrd
        by_cases h1 : ci.length = 1
        · obtain ⟨x, hx⟩ : ∃ x, ci = [x] := List.length_eq_one_iff.1 h1
          obtain rfl : fv = x := by rw [HFV.out, if_pos h1, hx]; rfl
          obtain rfl : fok = true := by rw [HOK.out, decide_eq_true h1]
          have hne : Hid (¬ ci = []) := Lib.hid (by rw [hx]; simp)
          obtain ⟨bv, ov, rfl, hc0⟩ := hrd.at0 (by omega)
          have hcv := hc0 0 (by omega)
          rw [Nat.add_zero, show ci.getD 0 0 = fv from by rw [hx]; rfl] at hcv
          rw [h1] at hcell CE
          have hbv : bv < w3.heap.size := hrd.blk (by omega)
          have SIX : Hid (∀ w', Below w3.heap.size w3 w' → w'.cell? ⟨b, o + i, none⟩ = some (.slice (some ⟨bv, ov, none⟩) 1 cv) ∧ w'.cell? ⟨bv, ov, none⟩ = some (.int .i64 fv)) := Lib.hid fun w' hb => ⟨by rw [(bcell hb).1 b _ (Rr.blk3 hcell)]; exact hcell, by rw [(bcell hb).1 bv _ hbv]; exact hcv⟩
          clear hrd hbb hc0 hcv hcell hbv hx h1
          go_wp2_with fail
          have hz := Lib.hid ((Below.refl w3.heap.size w3).drew)
          refine wp_region_held_drew (S := fun w' => w'.cell? ⟨b, o + i, none⟩ = some (.slice (some ⟨bv, ov, none⟩) 1 cv) ∧ w'.cell? ⟨bv, ov, none⟩ = some (.int .i64 fv)) (by kernel_rfl) ?_ (fun hHeld => ?_)
          · exact SIX.out _ hz.out
          refine wpAnyH_take (i := 0) (oi := { dst := some 30, op := Op.move (Operand.tmp 0), type := 52, pos := "law.go:55", after := #[], guard := none }) (v := ?_) rfl (by kernel_rfl) (by kernel_rfl) (by kernel_rfl) (fun _ _ _ h => h) (Or.inl ⟨by rfl, ?_⟩) (by assumption) ?_
          rotate_left
          · (intro w hSw; (try dsimp only at hSw); go_simp; first | done | with_reducible rfl)
          try simp only [Act.put, List.setIfInBounds_toArray, List.set_cons_zero, List.set_cons_succ]
          refine wpAnyH_take (i := 1) (oi := { dst := some 31, op := Op.move (Operand.tmp 7), type := 3, pos := "law.go:55", after := #[], guard := none }) (v := ?_) rfl (by kernel_rfl) (by kernel_rfl) (by kernel_rfl) (fun _ _ _ h => h) (Or.inl ⟨by rfl, ?_⟩) (by assumption) ?_
          rotate_left
          · (intro w hSw; (try dsimp only at hSw); go_simp; first | done | with_reducible rfl)
          try simp only [Act.put, List.setIfInBounds_toArray, List.set_cons_zero, List.set_cons_succ]
          refine wpAnyH_take (i := 4) (oi := { dst := some 34, op := Op.move (Operand.tmp 1), type := 39, pos := "law.go:55", after := #[], guard := none }) (v := ?_) rfl (by kernel_rfl) (by kernel_rfl) (by kernel_rfl) (fun _ _ _ h => h) (Or.inl ⟨by rfl, ?_⟩) (by assumption) ?_
          rotate_left
          · (intro w hSw; (try dsimp only at hSw); go_simp; first | done | with_reducible rfl)
          try simp only [Act.put, List.setIfInBounds_toArray, List.set_cons_zero, List.set_cons_succ]
          refine wpAnyH_take (i := 5) (oi := { dst := some 35, op := Op.move (Operand.tmp 7), type := 3, pos := "law.go:55", after := #[], guard := none }) (v := ?_) rfl (by kernel_rfl) (by kernel_rfl) (by kernel_rfl) (fun _ _ _ h => h) (Or.inl ⟨by rfl, ?_⟩) (by assumption) ?_
          rotate_left
          · (intro w hSw; (try dsimp only at hSw); go_simp; first | done | with_reducible rfl)
          try simp only [Act.put, List.setIfInBounds_toArray, List.set_cons_zero, List.set_cons_succ]
          refine wpAnyH_take (i := 6) (oi := { dst := some 36, op := Op.indexAddr 39 (Operand.tmp 34) (Operand.tmp 35), type := 0, pos := "law.go:55", after := #[{ on := 4, ground := Ground.data }, { on := 5, ground := Ground.data }], guard := none }) (v := ?_) rfl (by kernel_rfl) (by kernel_rfl) (by kernel_rfl) (fun _ _ _ h => h) (Or.inl ⟨by rfl, ?_⟩) (by assumption) ?_
          rotate_left
          · (intro w hSw; (try dsimp only at hSw); go_simp; first | done | with_reducible rfl)
          try simp only [Act.put, List.setIfInBounds_toArray, List.set_cons_zero, List.set_cons_succ]
          refine wpAnyH_take (i := 7) (oi := { dst := some 37, op := Op.load 22 (Operand.tmp 36), type := 22, pos := "law.go:55", after := #[{ on := 6, ground := Ground.data }], guard := none }) (v := ?_) rfl (by kernel_rfl) (by kernel_rfl) (by kernel_rfl) (fun _ _ _ h => h) (Or.inl ⟨by rfl, ?_⟩) (by assumption) ?_
          rotate_left
          · (intro w hSw; (try dsimp only at hSw); go_simp; first | done | with_reducible rfl)
          try simp only [Act.put, List.setIfInBounds_toArray, List.set_cons_zero, List.set_cons_succ]
          refine wpAnyH_ready (rs := [2]) (by kernel_rfl) (by simp) ?_
          refine AllReadyH.cons (o := { dst := some 32, op := Op.call { callee := Callee.value (Operand.func 38), args := #[Operand.tmp 30, Operand.tmp 31], argTypes := #[52, 3] }, type := 25, pos := "law.go:55", after := #[{ on := 0, ground := Ground.data }, { on := 1, ground := Ground.data }], guard := none }) rfl (fun KK hKK => ?_) AllReadyH.nil
          go_simp
          with_reducible refine (CG.out _ hz.out).mono ?_
          rintro e w' ⟨dv, rfl, hrep, hb⟩
          replace hz := Lib.hid (below_call (w0 := w3) hz.out hb)
          have HRP := Lib.hid hrep
          clear hb hrep
          go_wp2_with fail
          refine hKK.out _ _ ?_ (fun hHeld2 => ?_)
          · exact SIX.out _ hz.out
          clear hKK KK hHeld
          have hHeld := hHeld2
          clear hHeld2
          try simp only [Act.put, List.setIfInBounds_toArray, List.set_cons_zero, List.set_cons_succ]
          refine wpAnyH_ready (rs := [3]) (by kernel_rfl) (by simp) ?_
          refine AllReadyH.cons (o := { dst := some 33, op := Op.call { callee := Callee.value (Operand.func 19), args := #[Operand.tmp 32], argTypes := #[25] }, type := 22, pos := "law.go:55", after := #[{ on := 2, ground := Ground.data }, { on := 2, ground := Ground.chain }], guard := none }) rfl (fun KK hKK => ?_) AllReadyH.nil
          go_simp
          with_reducible refine (CLi.out _ hz.out _ HRP.out).mono ?_
          rintro e w' ⟨sl, rfl, how, hb⟩
          replace hz := Lib.hid (below_call (w0 := w3) hz.out hb)
          have HOW := Lib.hid how.sl.rd
          clear hb how
          go_wp2_with fail
          refine hKK.out _ _ ?_ (fun hHeld2 => ?_)
          · exact SIX.out _ hz.out
          clear hKK KK hHeld
          have hHeld := hHeld2
          clear hHeld2
          try simp only [Act.put, List.setIfInBounds_toArray, List.set_cons_zero, List.set_cons_succ]
          refine wpAnyH_ready (rs := [8]) (by kernel_rfl) (by simp) ?_
          refine AllReadyH.cons (o := { dst := some 38, op := Op.call { callee := Callee.value (Operand.func 49), args := #[Operand.tmp 33, Operand.tmp 37], argTypes := #[22, 22] }, type := 4, pos := "law.go:55", after := #[{ on := 3, ground := Ground.data }, { on := 7, ground := Ground.data }, { on := 3, ground := Ground.chain }], guard := none }) rfl (fun KK hKK => ?_) AllReadyH.nil
          go_simp
          with_reducible refine (CE.out _ hz.out _ HOW.out).mono ?_
          rintro e w' ⟨rfl, hb⟩
          replace hz := Lib.hid (below_call (w0 := w3) hz.out hb)
          clear hb
          go_wp2_with fail
          refine hKK.out _ _ ?_ (fun hHeld2 => ?_)
          · exact SIX.out _ hz.out
          clear hKK KK hHeld
          have hHeld := hHeld2
          clear hHeld2
          try simp only [Act.put, List.setIfInBounds_toArray, List.set_cons_zero, List.set_cons_succ]
          refine wpAnyH_take (i := 9) (oi := { dst := some 39, op := Op.unOp UnOp.not 4 (Operand.tmp 38), type := 4, pos := "law.go:55", after := #[{ on := 8, ground := Ground.data }], guard := none }) (v := ?_) rfl (by kernel_rfl) (by kernel_rfl) (by kernel_rfl) (fun _ _ _ h => h) (Or.inl ⟨by rfl, ?_⟩) (by assumption) ?_
          rotate_left
          · (intro w hSw; (try dsimp only at hSw); go_simp; first | done | with_reducible rfl)
          try simp only [Act.put, List.setIfInBounds_toArray, List.set_cons_zero, List.set_cons_succ]
          refine wpAnyH_take (i := 10) (oi := { dst := some 40, op := Op.move (Operand.tmp 39), type := 4, pos := "law.go:55", after := #[{ on := 9, ground := Ground.data }, { on := 8, ground := Ground.chain }], guard := none }) (v := ?_) rfl (by kernel_rfl) (by kernel_rfl) (by kernel_rfl) (fun _ _ _ h => h) (Or.inl ⟨by rfl, ?_⟩) (by assumption) ?_
          rotate_left
          · (intro w hSw; (try dsimp only at hSw); go_simp; first | done | with_reducible rfl)
          try simp only [Act.put, List.setIfInBounds_toArray, List.set_cons_zero, List.set_cons_succ]
          refine wpAnyH_take (i := 11) (oi := { dst := some 41, op := Op.move (Operand.tmp 9), type := 4, pos := "law.go:55", after := #[{ on := 10, ground := Ground.guard }], guard := some (10, false) }) (v := ?_) rfl (by kernel_rfl) (by kernel_rfl) (by kernel_rfl) (fun _ _ _ h => h) (Or.inl ⟨by rfl, ?_⟩) (by assumption) ?_
          rotate_left
          · (intro w hSw; (try dsimp only at hSw); go_simp; first | done | with_reducible rfl)
          try simp only [Act.put, List.setIfInBounds_toArray, List.set_cons_zero, List.set_cons_succ]
          refine wpAnyH_take (i := 12) (oi := { dst := some 42, op := Op.move (Operand.tmp 1), type := 39, pos := "law.go:55", after := #[{ on := 10, ground := Ground.guard }], guard := some (10, false) }) (v := ?_) rfl (by kernel_rfl) (by kernel_rfl) (by kernel_rfl) (fun _ _ _ h => h) (Or.inl ⟨by rfl, ?_⟩) (by assumption) ?_
          rotate_left
          · (intro w hSw; (try dsimp only at hSw); go_simp; first | done | with_reducible rfl)
          try simp only [Act.put, List.setIfInBounds_toArray, List.set_cons_zero, List.set_cons_succ]
          refine wpAnyH_take (i := 13) (oi := { dst := some 43, op := Op.move (Operand.tmp 7), type := 3, pos := "law.go:55", after := #[{ on := 10, ground := Ground.guard }], guard := some (10, false) }) (v := ?_) rfl (by kernel_rfl) (by kernel_rfl) (by kernel_rfl) (fun _ _ _ h => h) (Or.inl ⟨by rfl, ?_⟩) (by assumption) ?_
          rotate_left
          · (intro w hSw; (try dsimp only at hSw); go_simp; first | done | with_reducible rfl)
          try simp only [Act.put, List.setIfInBounds_toArray, List.set_cons_zero, List.set_cons_succ]
          refine wpAnyH_take (i := 14) (oi := { dst := some 44, op := Op.indexAddr 39 (Operand.tmp 42) (Operand.tmp 43), type := 0, pos := "law.go:55", after := #[{ on := 12, ground := Ground.data }, { on := 13, ground := Ground.data }, { on := 10, ground := Ground.guard }], guard := some (10, false) }) (v := ?_) rfl (by kernel_rfl) (by kernel_rfl) (by kernel_rfl) (fun _ _ _ h => h) (Or.inl ⟨by rfl, ?_⟩) (by assumption) ?_
          rotate_left
          · (intro w hSw; (try dsimp only at hSw); go_simp; first | done | with_reducible rfl)
          try simp only [Act.put, List.setIfInBounds_toArray, List.set_cons_zero, List.set_cons_succ]
          refine wpAnyH_take (i := 15) (oi := { dst := some 45, op := Op.load 22 (Operand.tmp 44), type := 22, pos := "law.go:55", after := #[{ on := 14, ground := Ground.data }, { on := 10, ground := Ground.guard }], guard := some (10, false) }) (v := ?_) rfl (by kernel_rfl) (by kernel_rfl) (by kernel_rfl) (fun _ _ _ h => h) (Or.inl ⟨by rfl, ?_⟩) (by assumption) ?_
          rotate_left
          · (intro w hSw; (try dsimp only at hSw); go_simp; first | done | with_reducible rfl)
          try simp only [Act.put, List.setIfInBounds_toArray, List.set_cons_zero, List.set_cons_succ]
          refine wpAnyH_take (i := 16) (oi := { dst := some 46, op := Op.call { callee := Callee.builtin Builtin.len, args := #[Operand.tmp 45], argTypes := #[22] }, type := 3, pos := "law.go:55", after := #[{ on := 15, ground := Ground.data }, { on := 10, ground := Ground.guard }], guard := some (10, false) }) (v := ?_) rfl (by kernel_rfl) (by kernel_rfl) (by kernel_rfl) (fun _ _ _ h => h) (Or.inl ⟨by rfl, ?_⟩) (by assumption) ?_
          rotate_left
          · (intro w hSw; (try dsimp only at hSw); go_simp; first | done | with_reducible rfl)
          try simp only [Act.put, List.setIfInBounds_toArray, List.set_cons_zero, List.set_cons_succ]
          refine wpAnyH_take (i := 17) (oi := { dst := some 47, op := Op.binOp BinOp.eql 3 (Operand.tmp 46) (Operand.const (Value.int IntKind.i64 1)) 3, type := 4, pos := "law.go:55", after := #[{ on := 16, ground := Ground.data }, { on := 10, ground := Ground.guard }], guard := some (10, false) }) (v := ?_) rfl (by kernel_rfl) (by kernel_rfl) (by kernel_rfl) (fun _ _ _ h => h) (Or.inl ⟨by rfl, ?_⟩) (by assumption) ?_
          rotate_left
          · (intro w hSw; (try dsimp only at hSw); go_simp; first | done | with_reducible rfl)
          try simp only [Act.put, List.setIfInBounds_toArray, List.set_cons_zero, List.set_cons_succ]
          refine wpAnyH_take (i := 18) (oi := { dst := some 48, op := Op.binOp BinOp.neq 4 (Operand.tmp 41) (Operand.tmp 47) 4, type := 4, pos := "law.go:55", after := #[{ on := 11, ground := Ground.data }, { on := 17, ground := Ground.data }, { on := 10, ground := Ground.guard }], guard := some (10, false) }) (v := ?_) rfl (by kernel_rfl) (by kernel_rfl) (by kernel_rfl) (fun _ _ _ h => h) (Or.inl ⟨by rfl, ?_⟩) (by assumption) ?_
          rotate_left
          · (intro w hSw; (try dsimp only at hSw); go_simp; first | done | with_reducible rfl)
          try simp only [Act.put, List.setIfInBounds_toArray, List.set_cons_zero, List.set_cons_succ]
          refine wpAnyH_take (i := 19) (oi := { dst := some 49, op := Op.pick (Operand.tmp 40) (Operand.const (Value.bool true)) (Operand.tmp 48), type := 4, pos := "law.go:55", after := #[{ on := 10, ground := Ground.data }, { on := 18, ground := Ground.data }], guard := none }) (v := ?_) rfl (by kernel_rfl) (by kernel_rfl) (by kernel_rfl) (fun _ _ _ h => h) (Or.inl ⟨by rfl, ?_⟩) (by assumption) ?_
          rotate_left
          · (intro w hSw; (try dsimp only at hSw); go_simp; first | done | with_reducible rfl)
          try simp only [Act.put, List.setIfInBounds_toArray, List.set_cons_zero, List.set_cons_succ]
          refine wpAnyH_take (i := 20) (oi := { dst := some 50, op := Op.move (Operand.tmp 49), type := 4, pos := "law.go:55", after := #[{ on := 19, ground := Ground.data }, { on := 10, ground := Ground.chain }], guard := none }) (v := ?_) rfl (by kernel_rfl) (by kernel_rfl) (by kernel_rfl) (fun _ _ _ h => h) (Or.inl ⟨by rfl, ?_⟩) (by assumption) ?_
          rotate_left
          · (intro w hSw; (try dsimp only at hSw); go_simp; first | done | with_reducible rfl)
          try simp only [Act.put, List.setIfInBounds_toArray, List.set_cons_zero, List.set_cons_succ]
          refine wpAnyH_take (i := 21) (oi := { dst := some 51, op := Op.move (Operand.tmp 9), type := 4, pos := "law.go:55", after := #[{ on := 20, ground := Ground.guard }], guard := some (20, false) }) (v := ?_) rfl (by kernel_rfl) (by kernel_rfl) (by kernel_rfl) (fun _ _ _ h => h) (Or.inl ⟨by rfl, ?_⟩) (by assumption) ?_
          rotate_left
          · (intro w hSw; (try dsimp only at hSw); go_simp; first | done | with_reducible rfl)
          try simp only [Act.put, List.setIfInBounds_toArray, List.set_cons_zero, List.set_cons_succ]
          refine wpAnyH_take (i := 22) (oi := { dst := some 52, op := Op.move (Operand.tmp 51), type := 4, pos := "law.go:55", after := #[{ on := 21, ground := Ground.data }, { on := 20, ground := Ground.chain }, { on := 20, ground := Ground.guard }], guard := some (20, false) }) (v := ?_) rfl (by kernel_rfl) (by kernel_rfl) (by kernel_rfl) (fun _ _ _ h => h) (Or.inl ⟨by rfl, ?_⟩) (by assumption) ?_
          rotate_left
          · (intro w hSw; (try dsimp only at hSw); go_simp; first | done | with_reducible rfl)
          try simp only [Act.put, List.setIfInBounds_toArray, List.set_cons_zero, List.set_cons_succ]
          refine wpAnyH_take (i := 23) (oi := { dst := some 53, op := Op.move (Operand.tmp 8), type := 3, pos := "law.go:55", after := #[{ on := 22, ground := Ground.guard }], guard := some (22, true) }) (v := ?_) rfl (by kernel_rfl) (by kernel_rfl) (by kernel_rfl) (fun _ _ _ h => h) (Or.inl ⟨by rfl, ?_⟩) (by assumption) ?_
          rotate_left
          · (intro w hSw; (try dsimp only at hSw); go_simp; first | done | with_reducible rfl)
          try simp only [Act.put, List.setIfInBounds_toArray, List.set_cons_zero, List.set_cons_succ]
          refine wpAnyH_take (i := 24) (oi := { dst := some 54, op := Op.move (Operand.tmp 1), type := 39, pos := "law.go:55", after := #[{ on := 22, ground := Ground.guard }], guard := some (22, true) }) (v := ?_) rfl (by kernel_rfl) (by kernel_rfl) (by kernel_rfl) (fun _ _ _ h => h) (Or.inl ⟨by rfl, ?_⟩) (by assumption) ?_
          rotate_left
          · (intro w hSw; (try dsimp only at hSw); go_simp; first | done | with_reducible rfl)
          try simp only [Act.put, List.setIfInBounds_toArray, List.set_cons_zero, List.set_cons_succ]
          refine wpAnyH_take (i := 25) (oi := { dst := some 55, op := Op.move (Operand.tmp 7), type := 3, pos := "law.go:55", after := #[{ on := 22, ground := Ground.guard }], guard := some (22, true) }) (v := ?_) rfl (by kernel_rfl) (by kernel_rfl) (by kernel_rfl) (fun _ _ _ h => h) (Or.inl ⟨by rfl, ?_⟩) (by assumption) ?_
          rotate_left
          · (intro w hSw; (try dsimp only at hSw); go_simp; first | done | with_reducible rfl)
          try simp only [Act.put, List.setIfInBounds_toArray, List.set_cons_zero, List.set_cons_succ]
          refine wpAnyH_take (i := 26) (oi := { dst := some 56, op := Op.indexAddr 39 (Operand.tmp 54) (Operand.tmp 55), type := 0, pos := "law.go:55", after := #[{ on := 24, ground := Ground.data }, { on := 25, ground := Ground.data }, { on := 22, ground := Ground.guard }], guard := some (22, true) }) (v := ?_) rfl (by kernel_rfl) (by kernel_rfl) (by kernel_rfl) (fun _ _ _ h => h) (Or.inl ⟨by rfl, ?_⟩) (by assumption) ?_
          rotate_left
          · (intro w hSw; (try dsimp only at hSw); go_simp; first | done | with_reducible rfl)
          try simp only [Act.put, List.setIfInBounds_toArray, List.set_cons_zero, List.set_cons_succ]
          refine wpAnyH_take (i := 27) (oi := { dst := some 57, op := Op.load 22 (Operand.tmp 56), type := 22, pos := "law.go:55", after := #[{ on := 26, ground := Ground.data }, { on := 22, ground := Ground.guard }], guard := some (22, true) }) (v := ?_) rfl (by kernel_rfl) (by kernel_rfl) (by kernel_rfl) (fun _ _ _ h => h) (Or.inl ⟨by rfl, ?_⟩) (by assumption) ?_
          rotate_left
          · (intro w hSw; (try dsimp only at hSw); go_simp; first | done | with_reducible rfl)
          try simp only [Act.put, List.setIfInBounds_toArray, List.set_cons_zero, List.set_cons_succ]
          refine wpAnyH_take (i := 28) (oi := { dst := some 58, op := Op.indexAddr 22 (Operand.tmp 57) (Operand.const (Value.int IntKind.i64 0)), type := 0, pos := "law.go:55", after := #[{ on := 27, ground := Ground.data }, { on := 22, ground := Ground.guard }], guard := some (22, true) }) (v := ?_) rfl (by kernel_rfl) (by kernel_rfl) (by kernel_rfl) (fun _ _ _ h => h) (Or.inl ⟨by rfl, ?_⟩) (by assumption) ?_
          rotate_left
          · (intro w hSw; (try dsimp only at hSw); go_simp; first | done | with_reducible rfl)
          try simp only [Act.put, List.setIfInBounds_toArray, List.set_cons_zero, List.set_cons_succ]
          refine wpAnyH_take (i := 29) (oi := { dst := some 59, op := Op.load 3 (Operand.tmp 58), type := 3, pos := "law.go:55", after := #[{ on := 28, ground := Ground.data }, { on := 22, ground := Ground.guard }], guard := some (22, true) }) (v := ?_) rfl (by kernel_rfl) (by kernel_rfl) (by kernel_rfl) (fun _ _ _ h => h) (Or.inl ⟨by rfl, ?_⟩) (by assumption) ?_
          rotate_left
          · (intro w hSw; (try dsimp only at hSw); go_simp; first | done | with_reducible rfl)
          try simp only [Act.put, List.setIfInBounds_toArray, List.set_cons_zero, List.set_cons_succ]
          refine wpAnyH_take (i := 30) (oi := { dst := some 60, op := Op.binOp BinOp.neq 3 (Operand.tmp 53) (Operand.tmp 59) 3, type := 4, pos := "law.go:55", after := #[{ on := 23, ground := Ground.data }, { on := 29, ground := Ground.data }, { on := 22, ground := Ground.guard }], guard := some (22, true) }) (v := ?_) rfl (by kernel_rfl) (by kernel_rfl) (by kernel_rfl) (fun _ _ _ h => h) (Or.inl ⟨by rfl, ?_⟩) (by assumption) ?_
          rotate_left
          · (intro w hSw; (try dsimp only at hSw); go_simp; first | done | with_reducible rfl)
          try simp only [Act.put, List.setIfInBounds_toArray, List.set_cons_zero, List.set_cons_succ]
          refine wpAnyH_take (i := 31) (oi := { dst := some 61, op := Op.pick (Operand.tmp 52) (Operand.tmp 60) (Operand.const (Value.bool false)), type := 4, pos := "law.go:55", after := #[{ on := 22, ground := Ground.data }, { on := 30, ground := Ground.data }, { on := 20, ground := Ground.guard }], guard := some (20, false) }) (v := ?_) rfl (by kernel_rfl) (by kernel_rfl) (by kernel_rfl) (fun _ _ _ h => h) (Or.inl ⟨by rfl, ?_⟩) (by assumption) ?_
          rotate_left
          · (intro w hSw; (try dsimp only at hSw); go_simp; first | done | with_reducible rfl)
          try simp only [Act.put, List.setIfInBounds_toArray, List.set_cons_zero, List.set_cons_succ]
          refine wpAnyH_take (i := 32) (oi := { dst := some 62, op := Op.pick (Operand.tmp 50) (Operand.const (Value.bool true)) (Operand.tmp 61), type := 4, pos := "law.go:55", after := #[{ on := 20, ground := Ground.data }, { on := 31, ground := Ground.data }], guard := none }) (v := ?_) rfl (by kernel_rfl) (by kernel_rfl) (by kernel_rfl) (fun _ _ _ h => h) (Or.inl ⟨by rfl, ?_⟩) (by assumption) ?_
          rotate_left
          · (intro w hSw; (try dsimp only at hSw); go_simp; first | done | with_reducible rfl)
          try simp only [Act.put, List.setIfInBounds_toArray, List.set_cons_zero, List.set_cons_succ]
          refine wpAnyH_take (i := 33) (oi := { dst := some 63, op := Op.move (Operand.tmp 62), type := 4, pos := "law.go:55", after := #[{ on := 32, ground := Ground.data }, { on := 22, ground := Ground.chain }], guard := none }) (v := ?_) rfl (by kernel_rfl) (by kernel_rfl) (by kernel_rfl) (fun _ _ _ h => h) (Or.inl ⟨by rfl, ?_⟩) (by assumption) ?_
          rotate_left
          · (intro w hSw; (try dsimp only at hSw); go_simp; first | done | with_reducible rfl)
          try simp only [Act.put, List.setIfInBounds_toArray, List.set_cons_zero, List.set_cons_succ]
          refine wpAnyH_take (i := 34) (oi := { dst := some 64, op := Op.move (Operand.tmp 9), type := 4, pos := "law.go:55", after := #[{ on := 33, ground := Ground.guard }], guard := some (33, false) }) (v := ?_) rfl (by kernel_rfl) (by kernel_rfl) (by kernel_rfl) (fun _ _ _ h => h) (Or.inl ⟨by rfl, ?_⟩) (by assumption) ?_
          rotate_left
          · (intro w hSw; (try dsimp only at hSw); go_simp; first | done | with_reducible rfl)
          try simp only [Act.put, List.setIfInBounds_toArray, List.set_cons_zero, List.set_cons_succ]
          refine wpAnyH_take (i := 35) (oi := { dst := some 65, op := Op.unOp UnOp.not 4 (Operand.tmp 64), type := 4, pos := "law.go:55", after := #[{ on := 34, ground := Ground.data }, { on := 33, ground := Ground.guard }], guard := some (33, false) }) (v := ?_) rfl (by kernel_rfl) (by kernel_rfl) (by kernel_rfl) (fun _ _ _ h => h) (Or.inl ⟨by rfl, ?_⟩) (by assumption) ?_
          rotate_left
          · (intro w hSw; (try dsimp only at hSw); go_simp; first | done | with_reducible rfl)
          try simp only [Act.put, List.setIfInBounds_toArray, List.set_cons_zero, List.set_cons_succ]
          refine wpAnyH_take (i := 36) (oi := { dst := some 66, op := Op.move (Operand.tmp 65), type := 4, pos := "law.go:55", after := #[{ on := 35, ground := Ground.data }, { on := 33, ground := Ground.chain }, { on := 33, ground := Ground.guard }], guard := some (33, false) }) (v := ?_) rfl (by kernel_rfl) (by kernel_rfl) (by kernel_rfl) (fun _ _ _ h => h) (Or.inl ⟨by rfl, ?_⟩) (by assumption) ?_
          rotate_left
          · (intro w hSw; (try dsimp only at hSw); go_simp; first | done | with_reducible rfl)
          try simp only [Act.put, List.setIfInBounds_toArray, List.set_cons_zero, List.set_cons_succ]
          refine wpAnyH_take (i := 37) (oi := { dst := some 67, op := Op.move (Operand.tmp 8), type := 3, pos := "law.go:55", after := #[{ on := 36, ground := Ground.guard }], guard := some (36, true) }) (v := undef) rfl (by kernel_rfl) (by kernel_rfl) (by kernel_rfl) (fun _ _ _ h => h) (Or.inr ⟨by rfl, rfl⟩) (by assumption) ?_
          try simp only [Act.put, List.setIfInBounds_toArray, List.set_cons_zero, List.set_cons_succ]
          refine wpAnyH_take (i := 38) (oi := { dst := some 68, op := Op.binOp BinOp.neq 3 (Operand.tmp 67) (Operand.const (Value.int IntKind.i64 0)) 3, type := 4, pos := "law.go:55", after := #[{ on := 37, ground := Ground.data }, { on := 36, ground := Ground.guard }], guard := some (36, true) }) (v := undef) rfl (by kernel_rfl) (by kernel_rfl) (by kernel_rfl) (fun _ _ _ h => h) (Or.inr ⟨by rfl, rfl⟩) (by assumption) ?_
          try simp only [Act.put, List.setIfInBounds_toArray, List.set_cons_zero, List.set_cons_succ]
          refine wpAnyH_take (i := 39) (oi := { dst := some 69, op := Op.pick (Operand.tmp 66) (Operand.tmp 68) (Operand.const (Value.bool false)), type := 4, pos := "law.go:55", after := #[{ on := 36, ground := Ground.data }, { on := 38, ground := Ground.data }, { on := 33, ground := Ground.guard }], guard := some (33, false) }) (v := ?_) rfl (by kernel_rfl) (by kernel_rfl) (by kernel_rfl) (fun _ _ _ h => h) (Or.inl ⟨by rfl, ?_⟩) (by assumption) ?_
          rotate_left
          · (intro w hSw; (try dsimp only at hSw); go_simp; first | done | with_reducible rfl)
          try simp only [Act.put, List.setIfInBounds_toArray, List.set_cons_zero, List.set_cons_succ]
          refine wpAnyH_take (i := 40) (oi := { dst := some 70, op := Op.pick (Operand.tmp 63) (Operand.const (Value.bool true)) (Operand.tmp 69), type := 4, pos := "law.go:55", after := #[{ on := 33, ground := Ground.data }, { on := 39, ground := Ground.data }], guard := none }) (v := ?_) rfl (by kernel_rfl) (by kernel_rfl) (by kernel_rfl) (fun _ _ _ h => h) (Or.inl ⟨by rfl, ?_⟩) (by assumption) ?_
          rotate_left
          · (intro w hSw; (try dsimp only at hSw); go_simp; first | done | with_reducible rfl)
          try simp only [Act.put, List.setIfInBounds_toArray, List.set_cons_zero, List.set_cons_succ]
          refine wpAnyH_done (by kernel_rfl) ?_ _
          have hcn := (SIX.out _ hz.out).1
          go_wp2_with fail
          go_roundg i
          case measure => omega
          case rel => exact ⟨i, rfl, rfl, by omega, by rw [FS.out, if_neg hne.out], by rw [FS.out, if_neg hne.out], DSX, Lib.hid (below_call B3.out hz.out)⟩
        · obtain rfl : fv = 0 := by rw [HFV.out, if_neg h1]
          obtain rfl : fok = false := by rw [HOK.out, decide_eq_false h1]
          have HZ : Hid (ci.length = 0 ↔ ci = []) := Lib.hid List.length_eq_zero_iff
          generalize hz0 : ci.length = z at *
          have hzb : ((z : Int) == 1) = false := beq_eq_false_iff_ne.2 (by omega)
          have SIX : Hid (∀ w', Below w3.heap.size w3 w' → w'.cell? ⟨b, o + i, none⟩ = some (.slice Av z cv)) := Lib.hid fun w' hb => by rw [(bcell hb).1 b _ (Rr.blk3 hcell)]; exact hcell
          clear hrd hbb hcell h1 hz0
          go_wp2_with fail
          have hz := Lib.hid ((Below.refl w3.heap.size w3).drew)
          refine wp_region_held_drew (S := fun w' => w'.cell? ⟨b, o + i, none⟩ = some (.slice Av z cv)) (by kernel_rfl) ?_ (fun hHeld => ?_)
          · exact SIX.out _ hz.out
          refine wpAnyH_take (i := 0) (oi := { dst := some 30, op := Op.move (Operand.tmp 0), type := 52, pos := "law.go:55", after := #[], guard := none }) (v := ?_) rfl (by kernel_rfl) (by kernel_rfl) (by kernel_rfl) (fun _ _ _ h => h) (Or.inl ⟨by rfl, ?_⟩) (by assumption) ?_
          rotate_left
          · (intro w hSw; (try dsimp only at hSw); go_simp; first | done | with_reducible rfl)
          try simp only [Act.put, List.setIfInBounds_toArray, List.set_cons_zero, List.set_cons_succ]
          refine wpAnyH_take (i := 1) (oi := { dst := some 31, op := Op.move (Operand.tmp 7), type := 3, pos := "law.go:55", after := #[], guard := none }) (v := ?_) rfl (by kernel_rfl) (by kernel_rfl) (by kernel_rfl) (fun _ _ _ h => h) (Or.inl ⟨by rfl, ?_⟩) (by assumption) ?_
          rotate_left
          · (intro w hSw; (try dsimp only at hSw); go_simp; first | done | with_reducible rfl)
          try simp only [Act.put, List.setIfInBounds_toArray, List.set_cons_zero, List.set_cons_succ]
          refine wpAnyH_take (i := 4) (oi := { dst := some 34, op := Op.move (Operand.tmp 1), type := 39, pos := "law.go:55", after := #[], guard := none }) (v := ?_) rfl (by kernel_rfl) (by kernel_rfl) (by kernel_rfl) (fun _ _ _ h => h) (Or.inl ⟨by rfl, ?_⟩) (by assumption) ?_
          rotate_left
          · (intro w hSw; (try dsimp only at hSw); go_simp; first | done | with_reducible rfl)
          try simp only [Act.put, List.setIfInBounds_toArray, List.set_cons_zero, List.set_cons_succ]
          refine wpAnyH_take (i := 5) (oi := { dst := some 35, op := Op.move (Operand.tmp 7), type := 3, pos := "law.go:55", after := #[], guard := none }) (v := ?_) rfl (by kernel_rfl) (by kernel_rfl) (by kernel_rfl) (fun _ _ _ h => h) (Or.inl ⟨by rfl, ?_⟩) (by assumption) ?_
          rotate_left
          · (intro w hSw; (try dsimp only at hSw); go_simp; first | done | with_reducible rfl)
          try simp only [Act.put, List.setIfInBounds_toArray, List.set_cons_zero, List.set_cons_succ]
          refine wpAnyH_take (i := 6) (oi := { dst := some 36, op := Op.indexAddr 39 (Operand.tmp 34) (Operand.tmp 35), type := 0, pos := "law.go:55", after := #[{ on := 4, ground := Ground.data }, { on := 5, ground := Ground.data }], guard := none }) (v := ?_) rfl (by kernel_rfl) (by kernel_rfl) (by kernel_rfl) (fun _ _ _ h => h) (Or.inl ⟨by rfl, ?_⟩) (by assumption) ?_
          rotate_left
          · (intro w hSw; (try dsimp only at hSw); go_simp; first | done | with_reducible rfl)
          try simp only [Act.put, List.setIfInBounds_toArray, List.set_cons_zero, List.set_cons_succ]
          refine wpAnyH_take (i := 7) (oi := { dst := some 37, op := Op.load 22 (Operand.tmp 36), type := 22, pos := "law.go:55", after := #[{ on := 6, ground := Ground.data }], guard := none }) (v := ?_) rfl (by kernel_rfl) (by kernel_rfl) (by kernel_rfl) (fun _ _ _ h => h) (Or.inl ⟨by rfl, ?_⟩) (by assumption) ?_
          rotate_left
          · (intro w hSw; (try dsimp only at hSw); go_simp; first | done | with_reducible rfl)
          try simp only [Act.put, List.setIfInBounds_toArray, List.set_cons_zero, List.set_cons_succ]
          refine wpAnyH_ready (rs := [2]) (by kernel_rfl) (by simp) ?_
          refine AllReadyH.cons (o := { dst := some 32, op := Op.call { callee := Callee.value (Operand.func 38), args := #[Operand.tmp 30, Operand.tmp 31], argTypes := #[52, 3] }, type := 25, pos := "law.go:55", after := #[{ on := 0, ground := Ground.data }, { on := 1, ground := Ground.data }], guard := none }) rfl (fun KK hKK => ?_) AllReadyH.nil
          go_simp
          with_reducible refine (CG.out _ hz.out).mono ?_
          rintro e w' ⟨dv, rfl, hrep, hb⟩
          replace hz := Lib.hid (below_call (w0 := w3) hz.out hb)
          have HRP := Lib.hid hrep
          clear hb hrep
          go_wp2_with fail
          refine hKK.out _ _ ?_ (fun hHeld2 => ?_)
          · exact SIX.out _ hz.out
          clear hKK KK hHeld
          have hHeld := hHeld2
          clear hHeld2
          try simp only [Act.put, List.setIfInBounds_toArray, List.set_cons_zero, List.set_cons_succ]
          refine wpAnyH_ready (rs := [3]) (by kernel_rfl) (by simp) ?_
          refine AllReadyH.cons (o := { dst := some 33, op := Op.call { callee := Callee.value (Operand.func 19), args := #[Operand.tmp 32], argTypes := #[25] }, type := 22, pos := "law.go:55", after := #[{ on := 2, ground := Ground.data }, { on := 2, ground := Ground.chain }], guard := none }) rfl (fun KK hKK => ?_) AllReadyH.nil
          go_simp
          with_reducible refine (CLi.out _ hz.out _ HRP.out).mono ?_
          rintro e w' ⟨sl, rfl, how, hb⟩
          replace hz := Lib.hid (below_call (w0 := w3) hz.out hb)
          have HOW := Lib.hid how.sl.rd
          clear hb how
          go_wp2_with fail
          refine hKK.out _ _ ?_ (fun hHeld2 => ?_)
          · exact SIX.out _ hz.out
          clear hKK KK hHeld
          have hHeld := hHeld2
          clear hHeld2
          try simp only [Act.put, List.setIfInBounds_toArray, List.set_cons_zero, List.set_cons_succ]
          refine wpAnyH_ready (rs := [8]) (by kernel_rfl) (by simp) ?_
          refine AllReadyH.cons (o := { dst := some 38, op := Op.call { callee := Callee.value (Operand.func 49), args := #[Operand.tmp 33, Operand.tmp 37], argTypes := #[22, 22] }, type := 4, pos := "law.go:55", after := #[{ on := 3, ground := Ground.data }, { on := 7, ground := Ground.data }, { on := 3, ground := Ground.chain }], guard := none }) rfl (fun KK hKK => ?_) AllReadyH.nil
          go_simp
          with_reducible refine (CE.out _ hz.out _ HOW.out).mono ?_
          rintro e w' ⟨rfl, hb⟩
          replace hz := Lib.hid (below_call (w0 := w3) hz.out hb)
          clear hb
          go_wp2_with fail
          refine hKK.out _ _ ?_ (fun hHeld2 => ?_)
          · exact SIX.out _ hz.out
          clear hKK KK hHeld
          have hHeld := hHeld2
          clear hHeld2
          try simp only [Act.put, List.setIfInBounds_toArray, List.set_cons_zero, List.set_cons_succ]
          refine wpAnyH_take (i := 9) (oi := { dst := some 39, op := Op.unOp UnOp.not 4 (Operand.tmp 38), type := 4, pos := "law.go:55", after := #[{ on := 8, ground := Ground.data }], guard := none }) (v := ?_) rfl (by kernel_rfl) (by kernel_rfl) (by kernel_rfl) (fun _ _ _ h => h) (Or.inl ⟨by rfl, ?_⟩) (by assumption) ?_
          rotate_left
          · (intro w hSw; (try dsimp only at hSw); go_simp; first | done | with_reducible rfl)
          try simp only [Act.put, List.setIfInBounds_toArray, List.set_cons_zero, List.set_cons_succ]
          refine wpAnyH_take (i := 10) (oi := { dst := some 40, op := Op.move (Operand.tmp 39), type := 4, pos := "law.go:55", after := #[{ on := 9, ground := Ground.data }, { on := 8, ground := Ground.chain }], guard := none }) (v := ?_) rfl (by kernel_rfl) (by kernel_rfl) (by kernel_rfl) (fun _ _ _ h => h) (Or.inl ⟨by rfl, ?_⟩) (by assumption) ?_
          rotate_left
          · (intro w hSw; (try dsimp only at hSw); go_simp; first | done | with_reducible rfl)
          try simp only [Act.put, List.setIfInBounds_toArray, List.set_cons_zero, List.set_cons_succ]
          refine wpAnyH_take (i := 11) (oi := { dst := some 41, op := Op.move (Operand.tmp 9), type := 4, pos := "law.go:55", after := #[{ on := 10, ground := Ground.guard }], guard := some (10, false) }) (v := ?_) rfl (by kernel_rfl) (by kernel_rfl) (by kernel_rfl) (fun _ _ _ h => h) (Or.inl ⟨by rfl, ?_⟩) (by assumption) ?_
          rotate_left
          · (intro w hSw; (try dsimp only at hSw); go_simp; first | done | with_reducible rfl)
          try simp only [Act.put, List.setIfInBounds_toArray, List.set_cons_zero, List.set_cons_succ]
          refine wpAnyH_take (i := 12) (oi := { dst := some 42, op := Op.move (Operand.tmp 1), type := 39, pos := "law.go:55", after := #[{ on := 10, ground := Ground.guard }], guard := some (10, false) }) (v := ?_) rfl (by kernel_rfl) (by kernel_rfl) (by kernel_rfl) (fun _ _ _ h => h) (Or.inl ⟨by rfl, ?_⟩) (by assumption) ?_
          rotate_left
          · (intro w hSw; (try dsimp only at hSw); go_simp; first | done | with_reducible rfl)
          try simp only [Act.put, List.setIfInBounds_toArray, List.set_cons_zero, List.set_cons_succ]
          refine wpAnyH_take (i := 13) (oi := { dst := some 43, op := Op.move (Operand.tmp 7), type := 3, pos := "law.go:55", after := #[{ on := 10, ground := Ground.guard }], guard := some (10, false) }) (v := ?_) rfl (by kernel_rfl) (by kernel_rfl) (by kernel_rfl) (fun _ _ _ h => h) (Or.inl ⟨by rfl, ?_⟩) (by assumption) ?_
          rotate_left
          · (intro w hSw; (try dsimp only at hSw); go_simp; first | done | with_reducible rfl)
          try simp only [Act.put, List.setIfInBounds_toArray, List.set_cons_zero, List.set_cons_succ]
          refine wpAnyH_take (i := 14) (oi := { dst := some 44, op := Op.indexAddr 39 (Operand.tmp 42) (Operand.tmp 43), type := 0, pos := "law.go:55", after := #[{ on := 12, ground := Ground.data }, { on := 13, ground := Ground.data }, { on := 10, ground := Ground.guard }], guard := some (10, false) }) (v := ?_) rfl (by kernel_rfl) (by kernel_rfl) (by kernel_rfl) (fun _ _ _ h => h) (Or.inl ⟨by rfl, ?_⟩) (by assumption) ?_
          rotate_left
          · (intro w hSw; (try dsimp only at hSw); go_simp; first | done | with_reducible rfl)
          try simp only [Act.put, List.setIfInBounds_toArray, List.set_cons_zero, List.set_cons_succ]
          refine wpAnyH_take (i := 15) (oi := { dst := some 45, op := Op.load 22 (Operand.tmp 44), type := 22, pos := "law.go:55", after := #[{ on := 14, ground := Ground.data }, { on := 10, ground := Ground.guard }], guard := some (10, false) }) (v := ?_) rfl (by kernel_rfl) (by kernel_rfl) (by kernel_rfl) (fun _ _ _ h => h) (Or.inl ⟨by rfl, ?_⟩) (by assumption) ?_
          rotate_left
          · (intro w hSw; (try dsimp only at hSw); go_simp; first | done | with_reducible rfl)
          try simp only [Act.put, List.setIfInBounds_toArray, List.set_cons_zero, List.set_cons_succ]
          refine wpAnyH_take (i := 16) (oi := { dst := some 46, op := Op.call { callee := Callee.builtin Builtin.len, args := #[Operand.tmp 45], argTypes := #[22] }, type := 3, pos := "law.go:55", after := #[{ on := 15, ground := Ground.data }, { on := 10, ground := Ground.guard }], guard := some (10, false) }) (v := ?_) rfl (by kernel_rfl) (by kernel_rfl) (by kernel_rfl) (fun _ _ _ h => h) (Or.inl ⟨by rfl, ?_⟩) (by assumption) ?_
          rotate_left
          · (intro w hSw; (try dsimp only at hSw); go_simp; first | done | with_reducible rfl)
          try simp only [Act.put, List.setIfInBounds_toArray, List.set_cons_zero, List.set_cons_succ]
          refine wpAnyH_take (i := 17) (oi := { dst := some 47, op := Op.binOp BinOp.eql 3 (Operand.tmp 46) (Operand.const (Value.int IntKind.i64 1)) 3, type := 4, pos := "law.go:55", after := #[{ on := 16, ground := Ground.data }, { on := 10, ground := Ground.guard }], guard := some (10, false) }) (v := ?_) rfl (by kernel_rfl) (by kernel_rfl) (by kernel_rfl) (fun _ _ _ h => h) (Or.inl ⟨by rfl, ?_⟩) (by assumption) ?_
          rotate_left
          · (intro w hSw; (try dsimp only at hSw); go_simp; first | done | with_reducible rfl)
          try simp only [Act.put, List.setIfInBounds_toArray, List.set_cons_zero, List.set_cons_succ]
          refine wpAnyH_take (i := 18) (oi := { dst := some 48, op := Op.binOp BinOp.neq 4 (Operand.tmp 41) (Operand.tmp 47) 4, type := 4, pos := "law.go:55", after := #[{ on := 11, ground := Ground.data }, { on := 17, ground := Ground.data }, { on := 10, ground := Ground.guard }], guard := some (10, false) }) (v := ?_) rfl (by kernel_rfl) (by kernel_rfl) (by kernel_rfl) (fun _ _ _ h => h) (Or.inl ⟨by rfl, ?_⟩) (by assumption) ?_
          rotate_left
          · (intro w hSw; (try dsimp only at hSw); go_simp; first | done | with_reducible rfl)
          try simp only [Act.put, List.setIfInBounds_toArray, List.set_cons_zero, List.set_cons_succ]
          refine wpAnyH_take (i := 19) (oi := { dst := some 49, op := Op.pick (Operand.tmp 40) (Operand.const (Value.bool true)) (Operand.tmp 48), type := 4, pos := "law.go:55", after := #[{ on := 10, ground := Ground.data }, { on := 18, ground := Ground.data }], guard := none }) (v := ?_) rfl (by kernel_rfl) (by kernel_rfl) (by kernel_rfl) (fun _ _ _ h => h) (Or.inl ⟨by rfl, ?_⟩) (by assumption) ?_
          rotate_left
          · (intro w hSw; (try dsimp only at hSw); go_simp; first | done | with_reducible rfl)
          try simp only [Act.put, List.setIfInBounds_toArray, List.set_cons_zero, List.set_cons_succ]
          refine wpAnyH_take (i := 20) (oi := { dst := some 50, op := Op.move (Operand.tmp 49), type := 4, pos := "law.go:55", after := #[{ on := 19, ground := Ground.data }, { on := 10, ground := Ground.chain }], guard := none }) (v := ?_) rfl (by kernel_rfl) (by kernel_rfl) (by kernel_rfl) (fun _ _ _ h => h) (Or.inl ⟨by rfl, ?_⟩) (by assumption) ?_
          rotate_left
          · (intro w hSw; (try dsimp only at hSw); go_simp; first | done | with_reducible rfl)
          try simp only [Act.put, List.setIfInBounds_toArray, List.set_cons_zero, List.set_cons_succ]
          refine wpAnyH_take (i := 21) (oi := { dst := some 51, op := Op.move (Operand.tmp 9), type := 4, pos := "law.go:55", after := #[{ on := 20, ground := Ground.guard }], guard := some (20, false) }) (v := ?_) rfl (by kernel_rfl) (by kernel_rfl) (by kernel_rfl) (fun _ _ _ h => h) (Or.inl ⟨by rfl, ?_⟩) (by assumption) ?_
          rotate_left
          · (intro w hSw; (try dsimp only at hSw); go_simp; first | done | with_reducible rfl)
          try simp only [Act.put, List.setIfInBounds_toArray, List.set_cons_zero, List.set_cons_succ]
          refine wpAnyH_take (i := 22) (oi := { dst := some 52, op := Op.move (Operand.tmp 51), type := 4, pos := "law.go:55", after := #[{ on := 21, ground := Ground.data }, { on := 20, ground := Ground.chain }, { on := 20, ground := Ground.guard }], guard := some (20, false) }) (v := ?_) rfl (by kernel_rfl) (by kernel_rfl) (by kernel_rfl) (fun _ _ _ h => h) (Or.inl ⟨by rfl, ?_⟩) (by assumption) ?_
          rotate_left
          · (intro w hSw; (try dsimp only at hSw); go_simp; first | done | with_reducible rfl)
          try simp only [Act.put, List.setIfInBounds_toArray, List.set_cons_zero, List.set_cons_succ]
          refine wpAnyH_take (i := 23) (oi := { dst := some 53, op := Op.move (Operand.tmp 8), type := 3, pos := "law.go:55", after := #[{ on := 22, ground := Ground.guard }], guard := some (22, true) }) (v := undef) rfl (by kernel_rfl) (by kernel_rfl) (by kernel_rfl) (fun _ _ _ h => h) (Or.inr ⟨by rfl, rfl⟩) (by assumption) ?_
          try simp only [Act.put, List.setIfInBounds_toArray, List.set_cons_zero, List.set_cons_succ]
          refine wpAnyH_take (i := 24) (oi := { dst := some 54, op := Op.move (Operand.tmp 1), type := 39, pos := "law.go:55", after := #[{ on := 22, ground := Ground.guard }], guard := some (22, true) }) (v := undef) rfl (by kernel_rfl) (by kernel_rfl) (by kernel_rfl) (fun _ _ _ h => h) (Or.inr ⟨by rfl, rfl⟩) (by assumption) ?_
          try simp only [Act.put, List.setIfInBounds_toArray, List.set_cons_zero, List.set_cons_succ]
          refine wpAnyH_take (i := 25) (oi := { dst := some 55, op := Op.move (Operand.tmp 7), type := 3, pos := "law.go:55", after := #[{ on := 22, ground := Ground.guard }], guard := some (22, true) }) (v := undef) rfl (by kernel_rfl) (by kernel_rfl) (by kernel_rfl) (fun _ _ _ h => h) (Or.inr ⟨by rfl, rfl⟩) (by assumption) ?_
          try simp only [Act.put, List.setIfInBounds_toArray, List.set_cons_zero, List.set_cons_succ]
          refine wpAnyH_take (i := 26) (oi := { dst := some 56, op := Op.indexAddr 39 (Operand.tmp 54) (Operand.tmp 55), type := 0, pos := "law.go:55", after := #[{ on := 24, ground := Ground.data }, { on := 25, ground := Ground.data }, { on := 22, ground := Ground.guard }], guard := some (22, true) }) (v := undef) rfl (by kernel_rfl) (by kernel_rfl) (by kernel_rfl) (fun _ _ _ h => h) (Or.inr ⟨by rfl, rfl⟩) (by assumption) ?_
          try simp only [Act.put, List.setIfInBounds_toArray, List.set_cons_zero, List.set_cons_succ]
          refine wpAnyH_take (i := 27) (oi := { dst := some 57, op := Op.load 22 (Operand.tmp 56), type := 22, pos := "law.go:55", after := #[{ on := 26, ground := Ground.data }, { on := 22, ground := Ground.guard }], guard := some (22, true) }) (v := undef) rfl (by kernel_rfl) (by kernel_rfl) (by kernel_rfl) (fun _ _ _ h => h) (Or.inr ⟨by rfl, rfl⟩) (by assumption) ?_
          try simp only [Act.put, List.setIfInBounds_toArray, List.set_cons_zero, List.set_cons_succ]
          refine wpAnyH_take (i := 28) (oi := { dst := some 58, op := Op.indexAddr 22 (Operand.tmp 57) (Operand.const (Value.int IntKind.i64 0)), type := 0, pos := "law.go:55", after := #[{ on := 27, ground := Ground.data }, { on := 22, ground := Ground.guard }], guard := some (22, true) }) (v := undef) rfl (by kernel_rfl) (by kernel_rfl) (by kernel_rfl) (fun _ _ _ h => h) (Or.inr ⟨by rfl, rfl⟩) (by assumption) ?_
          try simp only [Act.put, List.setIfInBounds_toArray, List.set_cons_zero, List.set_cons_succ]
          refine wpAnyH_take (i := 29) (oi := { dst := some 59, op := Op.load 3 (Operand.tmp 58), type := 3, pos := "law.go:55", after := #[{ on := 28, ground := Ground.data }, { on := 22, ground := Ground.guard }], guard := some (22, true) }) (v := undef) rfl (by kernel_rfl) (by kernel_rfl) (by kernel_rfl) (fun _ _ _ h => h) (Or.inr ⟨by rfl, rfl⟩) (by assumption) ?_
          try simp only [Act.put, List.setIfInBounds_toArray, List.set_cons_zero, List.set_cons_succ]
          refine wpAnyH_take (i := 30) (oi := { dst := some 60, op := Op.binOp BinOp.neq 3 (Operand.tmp 53) (Operand.tmp 59) 3, type := 4, pos := "law.go:55", after := #[{ on := 23, ground := Ground.data }, { on := 29, ground := Ground.data }, { on := 22, ground := Ground.guard }], guard := some (22, true) }) (v := undef) rfl (by kernel_rfl) (by kernel_rfl) (by kernel_rfl) (fun _ _ _ h => h) (Or.inr ⟨by rfl, rfl⟩) (by assumption) ?_
          try simp only [Act.put, List.setIfInBounds_toArray, List.set_cons_zero, List.set_cons_succ]
          refine wpAnyH_take (i := 31) (oi := { dst := some 61, op := Op.pick (Operand.tmp 52) (Operand.tmp 60) (Operand.const (Value.bool false)), type := 4, pos := "law.go:55", after := #[{ on := 22, ground := Ground.data }, { on := 30, ground := Ground.data }, { on := 20, ground := Ground.guard }], guard := some (20, false) }) (v := ?_) rfl (by kernel_rfl) (by kernel_rfl) (by kernel_rfl) (fun _ _ _ h => h) (Or.inl ⟨by rfl, ?_⟩) (by assumption) ?_
          rotate_left
          · (intro w hSw; (try dsimp only at hSw); go_simp; first | done | with_reducible rfl)
          try simp only [Act.put, List.setIfInBounds_toArray, List.set_cons_zero, List.set_cons_succ]
          refine wpAnyH_take (i := 32) (oi := { dst := some 62, op := Op.pick (Operand.tmp 50) (Operand.const (Value.bool true)) (Operand.tmp 61), type := 4, pos := "law.go:55", after := #[{ on := 20, ground := Ground.data }, { on := 31, ground := Ground.data }], guard := none }) (v := ?_) rfl (by kernel_rfl) (by kernel_rfl) (by kernel_rfl) (fun _ _ _ h => h) (Or.inl ⟨by rfl, ?_⟩) (by assumption) ?_
          rotate_left
          · (intro w hSw; (try dsimp only at hSw); go_simp; first | done | with_reducible rfl)
          try simp only [Act.put, List.setIfInBounds_toArray, List.set_cons_zero, List.set_cons_succ]
          refine wpAnyH_take (i := 33) (oi := { dst := some 63, op := Op.move (Operand.tmp 62), type := 4, pos := "law.go:55", after := #[{ on := 32, ground := Ground.data }, { on := 22, ground := Ground.chain }], guard := none }) (v := ?_) rfl (by kernel_rfl) (by kernel_rfl) (by kernel_rfl) (fun _ _ _ h => h) (Or.inl ⟨by rfl, ?_⟩) (by assumption) ?_
          rotate_left
          · (intro w hSw; (try dsimp only at hSw); go_simp; first | done | with_reducible rfl)
          try simp only [Act.put, List.setIfInBounds_toArray, List.set_cons_zero, List.set_cons_succ]
          refine wpAnyH_take (i := 34) (oi := { dst := some 64, op := Op.move (Operand.tmp 9), type := 4, pos := "law.go:55", after := #[{ on := 33, ground := Ground.guard }], guard := some (33, false) }) (v := ?_) rfl (by kernel_rfl) (by kernel_rfl) (by kernel_rfl) (fun _ _ _ h => h) (Or.inl ⟨by rfl, ?_⟩) (by assumption) ?_
          rotate_left
          · (intro w hSw; (try dsimp only at hSw); go_simp; first | done | with_reducible rfl)
          try simp only [Act.put, List.setIfInBounds_toArray, List.set_cons_zero, List.set_cons_succ]
          refine wpAnyH_take (i := 35) (oi := { dst := some 65, op := Op.unOp UnOp.not 4 (Operand.tmp 64), type := 4, pos := "law.go:55", after := #[{ on := 34, ground := Ground.data }, { on := 33, ground := Ground.guard }], guard := some (33, false) }) (v := ?_) rfl (by kernel_rfl) (by kernel_rfl) (by kernel_rfl) (fun _ _ _ h => h) (Or.inl ⟨by rfl, ?_⟩) (by assumption) ?_
          rotate_left
          · (intro w hSw; (try dsimp only at hSw); go_simp; first | done | with_reducible rfl)
          try simp only [Act.put, List.setIfInBounds_toArray, List.set_cons_zero, List.set_cons_succ]
          refine wpAnyH_take (i := 36) (oi := { dst := some 66, op := Op.move (Operand.tmp 65), type := 4, pos := "law.go:55", after := #[{ on := 35, ground := Ground.data }, { on := 33, ground := Ground.chain }, { on := 33, ground := Ground.guard }], guard := some (33, false) }) (v := ?_) rfl (by kernel_rfl) (by kernel_rfl) (by kernel_rfl) (fun _ _ _ h => h) (Or.inl ⟨by rfl, ?_⟩) (by assumption) ?_
          rotate_left
          · (intro w hSw; (try dsimp only at hSw); go_simp; first | done | with_reducible rfl)
          try simp only [Act.put, List.setIfInBounds_toArray, List.set_cons_zero, List.set_cons_succ]
          refine wpAnyH_take (i := 37) (oi := { dst := some 67, op := Op.move (Operand.tmp 8), type := 3, pos := "law.go:55", after := #[{ on := 36, ground := Ground.guard }], guard := some (36, true) }) (v := ?_) rfl (by kernel_rfl) (by kernel_rfl) (by kernel_rfl) (fun _ _ _ h => h) (Or.inl ⟨by rfl, ?_⟩) (by assumption) ?_
          rotate_left
          · (intro w hSw; (try dsimp only at hSw); go_simp; first | done | with_reducible rfl)
          try simp only [Act.put, List.setIfInBounds_toArray, List.set_cons_zero, List.set_cons_succ]
          refine wpAnyH_take (i := 38) (oi := { dst := some 68, op := Op.binOp BinOp.neq 3 (Operand.tmp 67) (Operand.const (Value.int IntKind.i64 0)) 3, type := 4, pos := "law.go:55", after := #[{ on := 37, ground := Ground.data }, { on := 36, ground := Ground.guard }], guard := some (36, true) }) (v := ?_) rfl (by kernel_rfl) (by kernel_rfl) (by kernel_rfl) (fun _ _ _ h => h) (Or.inl ⟨by rfl, ?_⟩) (by assumption) ?_
          rotate_left
          · (intro w hSw; (try dsimp only at hSw); go_simp; first | done | with_reducible rfl)
          try simp only [Act.put, List.setIfInBounds_toArray, List.set_cons_zero, List.set_cons_succ]
          refine wpAnyH_take (i := 39) (oi := { dst := some 69, op := Op.pick (Operand.tmp 66) (Operand.tmp 68) (Operand.const (Value.bool false)), type := 4, pos := "law.go:55", after := #[{ on := 36, ground := Ground.data }, { on := 38, ground := Ground.data }, { on := 33, ground := Ground.guard }], guard := some (33, false) }) (v := ?_) rfl (by kernel_rfl) (by kernel_rfl) (by kernel_rfl) (fun _ _ _ h => h) (Or.inl ⟨by rfl, ?_⟩) (by assumption) ?_
          rotate_left
          · (intro w hSw; (try dsimp only at hSw); go_simp; first | done | with_reducible rfl)
          try simp only [Act.put, List.setIfInBounds_toArray, List.set_cons_zero, List.set_cons_succ]
          refine wpAnyH_take (i := 40) (oi := { dst := some 70, op := Op.pick (Operand.tmp 63) (Operand.const (Value.bool true)) (Operand.tmp 69), type := 4, pos := "law.go:55", after := #[{ on := 33, ground := Ground.data }, { on := 39, ground := Ground.data }], guard := none }) (v := ?_) rfl (by kernel_rfl) (by kernel_rfl) (by kernel_rfl) (fun _ _ _ h => h) (Or.inl ⟨by rfl, ?_⟩) (by assumption) ?_
          rotate_left
          · (intro w hSw; (try dsimp only at hSw); go_simp; first | done | with_reducible rfl)
          try simp only [Act.put, List.setIfInBounds_toArray, List.set_cons_zero, List.set_cons_succ]
          refine wpAnyH_done (by kernel_rfl) ?_ _
          have hcn := SIX.out _ hz.out
          by_cases hz1 : z = 0
          · have EN := Lib.hid (HZ.out.1 hz1)
            have hzc : ((z : Int) == 0) = true := beq_iff_eq.2 (by omega)
            clear hz1
            go_wp2_with fail
            go_roundg i
            case measure => omega
            case rel => exact ⟨i, rfl, rfl, by omega, by rw [FS.out, if_pos EN.out]; rfl, by rw [FS.out, if_pos EN.out]; rfl, DSX, Lib.hid (below_call B3.out hz.out)⟩
          · have EN := Lib.hid (fun h => hz1 (HZ.out.2 h))
            have hzc : ((z : Int) == 0) = false := beq_eq_false_iff_ne.2 (by omega)
            clear hz1
            go_wp2_with fail
            go_roundg i
            case measure => omega
            case rel => exact ⟨i, rfl, rfl, by omega, by rw [FS.out, if_neg EN.out], by rw [FS.out, if_neg EN.out], DSX, Lib.hid (below_call B3.out hz.out)⟩
      · rw [decide_eq_false heq] at CE
        have RF := Lib.hid (show r = false by rw [RR.out, decide_eq_false (DN.out heq)])
        generalize li.length = z at *
        have SIX : Hid (∀ w', Below w3.heap.size w3 w' → w'.cell? ⟨b, o + i, none⟩ = some (.slice Av z cv)) := Lib.hid fun w' hb => by rw [(bcell hb).1 b _ (Rr.blk3 hcell)]; exact hcell
        clear hrd hcell heq
        go_wp2_with fail
        have hz := Lib.hid ((Below.refl w3.heap.size w3).drew)
        refine wp_region_held_drew (S := fun w' => w'.cell? ⟨b, o + i, none⟩ = some (.slice Av z cv)) (by kernel_rfl) ?_ (fun hHeld => ?_)
        · exact SIX.out _ hz.out
        refine wpAnyH_take (i := 0) (oi := { dst := some 30, op := Op.move (Operand.tmp 0), type := 52, pos := "law.go:55", after := #[], guard := none }) (v := ?_) rfl (by kernel_rfl) (by kernel_rfl) (by kernel_rfl) (fun _ _ _ h => h) (Or.inl ⟨by rfl, ?_⟩) (by assumption) ?_
        rotate_left
        · (intro w hSw; (try dsimp only at hSw); go_simp; first | done | with_reducible rfl)
        try simp only [Act.put, List.setIfInBounds_toArray, List.set_cons_zero, List.set_cons_succ]
        refine wpAnyH_take (i := 1) (oi := { dst := some 31, op := Op.move (Operand.tmp 7), type := 3, pos := "law.go:55", after := #[], guard := none }) (v := ?_) rfl (by kernel_rfl) (by kernel_rfl) (by kernel_rfl) (fun _ _ _ h => h) (Or.inl ⟨by rfl, ?_⟩) (by assumption) ?_
        rotate_left
        · (intro w hSw; (try dsimp only at hSw); go_simp; first | done | with_reducible rfl)
        try simp only [Act.put, List.setIfInBounds_toArray, List.set_cons_zero, List.set_cons_succ]
        refine wpAnyH_take (i := 4) (oi := { dst := some 34, op := Op.move (Operand.tmp 1), type := 39, pos := "law.go:55", after := #[], guard := none }) (v := ?_) rfl (by kernel_rfl) (by kernel_rfl) (by kernel_rfl) (fun _ _ _ h => h) (Or.inl ⟨by rfl, ?_⟩) (by assumption) ?_
        rotate_left
        · (intro w hSw; (try dsimp only at hSw); go_simp; first | done | with_reducible rfl)
        try simp only [Act.put, List.setIfInBounds_toArray, List.set_cons_zero, List.set_cons_succ]
        refine wpAnyH_take (i := 5) (oi := { dst := some 35, op := Op.move (Operand.tmp 7), type := 3, pos := "law.go:55", after := #[], guard := none }) (v := ?_) rfl (by kernel_rfl) (by kernel_rfl) (by kernel_rfl) (fun _ _ _ h => h) (Or.inl ⟨by rfl, ?_⟩) (by assumption) ?_
        rotate_left
        · (intro w hSw; (try dsimp only at hSw); go_simp; first | done | with_reducible rfl)
        try simp only [Act.put, List.setIfInBounds_toArray, List.set_cons_zero, List.set_cons_succ]
        refine wpAnyH_take (i := 6) (oi := { dst := some 36, op := Op.indexAddr 39 (Operand.tmp 34) (Operand.tmp 35), type := 0, pos := "law.go:55", after := #[{ on := 4, ground := Ground.data }, { on := 5, ground := Ground.data }], guard := none }) (v := ?_) rfl (by kernel_rfl) (by kernel_rfl) (by kernel_rfl) (fun _ _ _ h => h) (Or.inl ⟨by rfl, ?_⟩) (by assumption) ?_
        rotate_left
        · (intro w hSw; (try dsimp only at hSw); go_simp; first | done | with_reducible rfl)
        try simp only [Act.put, List.setIfInBounds_toArray, List.set_cons_zero, List.set_cons_succ]
        refine wpAnyH_take (i := 7) (oi := { dst := some 37, op := Op.load 22 (Operand.tmp 36), type := 22, pos := "law.go:55", after := #[{ on := 6, ground := Ground.data }], guard := none }) (v := ?_) rfl (by kernel_rfl) (by kernel_rfl) (by kernel_rfl) (fun _ _ _ h => h) (Or.inl ⟨by rfl, ?_⟩) (by assumption) ?_
        rotate_left
        · (intro w hSw; (try dsimp only at hSw); go_simp; first | done | with_reducible rfl)
        try simp only [Act.put, List.setIfInBounds_toArray, List.set_cons_zero, List.set_cons_succ]
        refine wpAnyH_ready (rs := [2]) (by kernel_rfl) (by simp) ?_
        refine AllReadyH.cons (o := { dst := some 32, op := Op.call { callee := Callee.value (Operand.func 38), args := #[Operand.tmp 30, Operand.tmp 31], argTypes := #[52, 3] }, type := 25, pos := "law.go:55", after := #[{ on := 0, ground := Ground.data }, { on := 1, ground := Ground.data }], guard := none }) rfl (fun KK hKK => ?_) AllReadyH.nil
        go_simp
        with_reducible refine (CG.out _ hz.out).mono ?_
        rintro e w' ⟨dv, rfl, hrep, hb⟩
        replace hz := Lib.hid (below_call (w0 := w3) hz.out hb)
        have HRP := Lib.hid hrep
        clear hb hrep
        go_wp2_with fail
        refine hKK.out _ _ ?_ (fun hHeld2 => ?_)
        · exact SIX.out _ hz.out
        clear hKK KK hHeld
        have hHeld := hHeld2
        clear hHeld2
        try simp only [Act.put, List.setIfInBounds_toArray, List.set_cons_zero, List.set_cons_succ]
        refine wpAnyH_ready (rs := [3]) (by kernel_rfl) (by simp) ?_
        refine AllReadyH.cons (o := { dst := some 33, op := Op.call { callee := Callee.value (Operand.func 19), args := #[Operand.tmp 32], argTypes := #[25] }, type := 22, pos := "law.go:55", after := #[{ on := 2, ground := Ground.data }, { on := 2, ground := Ground.chain }], guard := none }) rfl (fun KK hKK => ?_) AllReadyH.nil
        go_simp
        with_reducible refine (CLi.out _ hz.out _ HRP.out).mono ?_
        rintro e w' ⟨sl, rfl, how, hb⟩
        replace hz := Lib.hid (below_call (w0 := w3) hz.out hb)
        have HOW := Lib.hid how.sl.rd
        clear hb how
        go_wp2_with fail
        refine hKK.out _ _ ?_ (fun hHeld2 => ?_)
        · exact SIX.out _ hz.out
        clear hKK KK hHeld
        have hHeld := hHeld2
        clear hHeld2
        try simp only [Act.put, List.setIfInBounds_toArray, List.set_cons_zero, List.set_cons_succ]
        refine wpAnyH_ready (rs := [8]) (by kernel_rfl) (by simp) ?_
        refine AllReadyH.cons (o := { dst := some 38, op := Op.call { callee := Callee.value (Operand.func 49), args := #[Operand.tmp 33, Operand.tmp 37], argTypes := #[22, 22] }, type := 4, pos := "law.go:55", after := #[{ on := 3, ground := Ground.data }, { on := 7, ground := Ground.data }, { on := 3, ground := Ground.chain }], guard := none }) rfl (fun KK hKK => ?_) AllReadyH.nil
        go_simp
        with_reducible refine (CE.out _ hz.out _ HOW.out).mono ?_
        rintro e w' ⟨rfl, hb⟩
        replace hz := Lib.hid (below_call (w0 := w3) hz.out hb)
        clear hb
        go_wp2_with fail
        refine hKK.out _ _ ?_ (fun hHeld2 => ?_)
        · exact SIX.out _ hz.out
        clear hKK KK hHeld
        have hHeld := hHeld2
        clear hHeld2
        try simp only [Act.put, List.setIfInBounds_toArray, List.set_cons_zero, List.set_cons_succ]
        refine wpAnyH_take (i := 9) (oi := { dst := some 39, op := Op.unOp UnOp.not 4 (Operand.tmp 38), type := 4, pos := "law.go:55", after := #[{ on := 8, ground := Ground.data }], guard := none }) (v := ?_) rfl (by kernel_rfl) (by kernel_rfl) (by kernel_rfl) (fun _ _ _ h => h) (Or.inl ⟨by rfl, ?_⟩) (by assumption) ?_
        rotate_left
        · (intro w hSw; (try dsimp only at hSw); go_simp; first | done | with_reducible rfl)
        try simp only [Act.put, List.setIfInBounds_toArray, List.set_cons_zero, List.set_cons_succ]
        refine wpAnyH_take (i := 10) (oi := { dst := some 40, op := Op.move (Operand.tmp 39), type := 4, pos := "law.go:55", after := #[{ on := 9, ground := Ground.data }, { on := 8, ground := Ground.chain }], guard := none }) (v := ?_) rfl (by kernel_rfl) (by kernel_rfl) (by kernel_rfl) (fun _ _ _ h => h) (Or.inl ⟨by rfl, ?_⟩) (by assumption) ?_
        rotate_left
        · (intro w hSw; (try dsimp only at hSw); go_simp; first | done | with_reducible rfl)
        try simp only [Act.put, List.setIfInBounds_toArray, List.set_cons_zero, List.set_cons_succ]
        refine wpAnyH_take (i := 11) (oi := { dst := some 41, op := Op.move (Operand.tmp 9), type := 4, pos := "law.go:55", after := #[{ on := 10, ground := Ground.guard }], guard := some (10, false) }) (v := undef) rfl (by kernel_rfl) (by kernel_rfl) (by kernel_rfl) (fun _ _ _ h => h) (Or.inr ⟨by rfl, rfl⟩) (by assumption) ?_
        try simp only [Act.put, List.setIfInBounds_toArray, List.set_cons_zero, List.set_cons_succ]
        refine wpAnyH_take (i := 12) (oi := { dst := some 42, op := Op.move (Operand.tmp 1), type := 39, pos := "law.go:55", after := #[{ on := 10, ground := Ground.guard }], guard := some (10, false) }) (v := undef) rfl (by kernel_rfl) (by kernel_rfl) (by kernel_rfl) (fun _ _ _ h => h) (Or.inr ⟨by rfl, rfl⟩) (by assumption) ?_
        try simp only [Act.put, List.setIfInBounds_toArray, List.set_cons_zero, List.set_cons_succ]
        refine wpAnyH_take (i := 13) (oi := { dst := some 43, op := Op.move (Operand.tmp 7), type := 3, pos := "law.go:55", after := #[{ on := 10, ground := Ground.guard }], guard := some (10, false) }) (v := undef) rfl (by kernel_rfl) (by kernel_rfl) (by kernel_rfl) (fun _ _ _ h => h) (Or.inr ⟨by rfl, rfl⟩) (by assumption) ?_
        try simp only [Act.put, List.setIfInBounds_toArray, List.set_cons_zero, List.set_cons_succ]
        refine wpAnyH_take (i := 14) (oi := { dst := some 44, op := Op.indexAddr 39 (Operand.tmp 42) (Operand.tmp 43), type := 0, pos := "law.go:55", after := #[{ on := 12, ground := Ground.data }, { on := 13, ground := Ground.data }, { on := 10, ground := Ground.guard }], guard := some (10, false) }) (v := undef) rfl (by kernel_rfl) (by kernel_rfl) (by kernel_rfl) (fun _ _ _ h => h) (Or.inr ⟨by rfl, rfl⟩) (by assumption) ?_
        try simp only [Act.put, List.setIfInBounds_toArray, List.set_cons_zero, List.set_cons_succ]
        refine wpAnyH_take (i := 15) (oi := { dst := some 45, op := Op.load 22 (Operand.tmp 44), type := 22, pos := "law.go:55", after := #[{ on := 14, ground := Ground.data }, { on := 10, ground := Ground.guard }], guard := some (10, false) }) (v := undef) rfl (by kernel_rfl) (by kernel_rfl) (by kernel_rfl) (fun _ _ _ h => h) (Or.inr ⟨by rfl, rfl⟩) (by assumption) ?_
        try simp only [Act.put, List.setIfInBounds_toArray, List.set_cons_zero, List.set_cons_succ]
        refine wpAnyH_take (i := 16) (oi := { dst := some 46, op := Op.call { callee := Callee.builtin Builtin.len, args := #[Operand.tmp 45], argTypes := #[22] }, type := 3, pos := "law.go:55", after := #[{ on := 15, ground := Ground.data }, { on := 10, ground := Ground.guard }], guard := some (10, false) }) (v := undef) rfl (by kernel_rfl) (by kernel_rfl) (by kernel_rfl) (fun _ _ _ h => h) (Or.inr ⟨by rfl, rfl⟩) (by assumption) ?_
        try simp only [Act.put, List.setIfInBounds_toArray, List.set_cons_zero, List.set_cons_succ]
        refine wpAnyH_take (i := 17) (oi := { dst := some 47, op := Op.binOp BinOp.eql 3 (Operand.tmp 46) (Operand.const (Value.int IntKind.i64 1)) 3, type := 4, pos := "law.go:55", after := #[{ on := 16, ground := Ground.data }, { on := 10, ground := Ground.guard }], guard := some (10, false) }) (v := undef) rfl (by kernel_rfl) (by kernel_rfl) (by kernel_rfl) (fun _ _ _ h => h) (Or.inr ⟨by rfl, rfl⟩) (by assumption) ?_
        try simp only [Act.put, List.setIfInBounds_toArray, List.set_cons_zero, List.set_cons_succ]
        refine wpAnyH_take (i := 18) (oi := { dst := some 48, op := Op.binOp BinOp.neq 4 (Operand.tmp 41) (Operand.tmp 47) 4, type := 4, pos := "law.go:55", after := #[{ on := 11, ground := Ground.data }, { on := 17, ground := Ground.data }, { on := 10, ground := Ground.guard }], guard := some (10, false) }) (v := undef) rfl (by kernel_rfl) (by kernel_rfl) (by kernel_rfl) (fun _ _ _ h => h) (Or.inr ⟨by rfl, rfl⟩) (by assumption) ?_
        try simp only [Act.put, List.setIfInBounds_toArray, List.set_cons_zero, List.set_cons_succ]
        refine wpAnyH_take (i := 19) (oi := { dst := some 49, op := Op.pick (Operand.tmp 40) (Operand.const (Value.bool true)) (Operand.tmp 48), type := 4, pos := "law.go:55", after := #[{ on := 10, ground := Ground.data }, { on := 18, ground := Ground.data }], guard := none }) (v := ?_) rfl (by kernel_rfl) (by kernel_rfl) (by kernel_rfl) (fun _ _ _ h => h) (Or.inl ⟨by rfl, ?_⟩) (by assumption) ?_
        rotate_left
        · (intro w hSw; (try dsimp only at hSw); go_simp; first | done | with_reducible rfl)
        try simp only [Act.put, List.setIfInBounds_toArray, List.set_cons_zero, List.set_cons_succ]
        refine wpAnyH_take (i := 20) (oi := { dst := some 50, op := Op.move (Operand.tmp 49), type := 4, pos := "law.go:55", after := #[{ on := 19, ground := Ground.data }, { on := 10, ground := Ground.chain }], guard := none }) (v := ?_) rfl (by kernel_rfl) (by kernel_rfl) (by kernel_rfl) (fun _ _ _ h => h) (Or.inl ⟨by rfl, ?_⟩) (by assumption) ?_
        rotate_left
        · (intro w hSw; (try dsimp only at hSw); go_simp; first | done | with_reducible rfl)
        try simp only [Act.put, List.setIfInBounds_toArray, List.set_cons_zero, List.set_cons_succ]
        refine wpAnyH_take (i := 21) (oi := { dst := some 51, op := Op.move (Operand.tmp 9), type := 4, pos := "law.go:55", after := #[{ on := 20, ground := Ground.guard }], guard := some (20, false) }) (v := undef) rfl (by kernel_rfl) (by kernel_rfl) (by kernel_rfl) (fun _ _ _ h => h) (Or.inr ⟨by rfl, rfl⟩) (by assumption) ?_
        try simp only [Act.put, List.setIfInBounds_toArray, List.set_cons_zero, List.set_cons_succ]
        refine wpAnyH_take (i := 22) (oi := { dst := some 52, op := Op.move (Operand.tmp 51), type := 4, pos := "law.go:55", after := #[{ on := 21, ground := Ground.data }, { on := 20, ground := Ground.chain }, { on := 20, ground := Ground.guard }], guard := some (20, false) }) (v := undef) rfl (by kernel_rfl) (by kernel_rfl) (by kernel_rfl) (fun _ _ _ h => h) (Or.inr ⟨by rfl, rfl⟩) (by assumption) ?_
        try simp only [Act.put, List.setIfInBounds_toArray, List.set_cons_zero, List.set_cons_succ]
        refine wpAnyH_take (i := 23) (oi := { dst := some 53, op := Op.move (Operand.tmp 8), type := 3, pos := "law.go:55", after := #[{ on := 22, ground := Ground.guard }], guard := some (22, true) }) (v := undef) rfl (by kernel_rfl) (by kernel_rfl) (by kernel_rfl) (fun _ _ _ h => h) (Or.inr ⟨by rfl, rfl⟩) (by assumption) ?_
        try simp only [Act.put, List.setIfInBounds_toArray, List.set_cons_zero, List.set_cons_succ]
        refine wpAnyH_take (i := 24) (oi := { dst := some 54, op := Op.move (Operand.tmp 1), type := 39, pos := "law.go:55", after := #[{ on := 22, ground := Ground.guard }], guard := some (22, true) }) (v := undef) rfl (by kernel_rfl) (by kernel_rfl) (by kernel_rfl) (fun _ _ _ h => h) (Or.inr ⟨by rfl, rfl⟩) (by assumption) ?_
        try simp only [Act.put, List.setIfInBounds_toArray, List.set_cons_zero, List.set_cons_succ]
        refine wpAnyH_take (i := 25) (oi := { dst := some 55, op := Op.move (Operand.tmp 7), type := 3, pos := "law.go:55", after := #[{ on := 22, ground := Ground.guard }], guard := some (22, true) }) (v := undef) rfl (by kernel_rfl) (by kernel_rfl) (by kernel_rfl) (fun _ _ _ h => h) (Or.inr ⟨by rfl, rfl⟩) (by assumption) ?_
        try simp only [Act.put, List.setIfInBounds_toArray, List.set_cons_zero, List.set_cons_succ]
        refine wpAnyH_take (i := 26) (oi := { dst := some 56, op := Op.indexAddr 39 (Operand.tmp 54) (Operand.tmp 55), type := 0, pos := "law.go:55", after := #[{ on := 24, ground := Ground.data }, { on := 25, ground := Ground.data }, { on := 22, ground := Ground.guard }], guard := some (22, true) }) (v := undef) rfl (by kernel_rfl) (by kernel_rfl) (by kernel_rfl) (fun _ _ _ h => h) (Or.inr ⟨by rfl, rfl⟩) (by assumption) ?_
        try simp only [Act.put, List.setIfInBounds_toArray, List.set_cons_zero, List.set_cons_succ]
        refine wpAnyH_take (i := 27) (oi := { dst := some 57, op := Op.load 22 (Operand.tmp 56), type := 22, pos := "law.go:55", after := #[{ on := 26, ground := Ground.data }, { on := 22, ground := Ground.guard }], guard := some (22, true) }) (v := undef) rfl (by kernel_rfl) (by kernel_rfl) (by kernel_rfl) (fun _ _ _ h => h) (Or.inr ⟨by rfl, rfl⟩) (by assumption) ?_
        try simp only [Act.put, List.setIfInBounds_toArray, List.set_cons_zero, List.set_cons_succ]
        refine wpAnyH_take (i := 28) (oi := { dst := some 58, op := Op.indexAddr 22 (Operand.tmp 57) (Operand.const (Value.int IntKind.i64 0)), type := 0, pos := "law.go:55", after := #[{ on := 27, ground := Ground.data }, { on := 22, ground := Ground.guard }], guard := some (22, true) }) (v := undef) rfl (by kernel_rfl) (by kernel_rfl) (by kernel_rfl) (fun _ _ _ h => h) (Or.inr ⟨by rfl, rfl⟩) (by assumption) ?_
        try simp only [Act.put, List.setIfInBounds_toArray, List.set_cons_zero, List.set_cons_succ]
        refine wpAnyH_take (i := 29) (oi := { dst := some 59, op := Op.load 3 (Operand.tmp 58), type := 3, pos := "law.go:55", after := #[{ on := 28, ground := Ground.data }, { on := 22, ground := Ground.guard }], guard := some (22, true) }) (v := undef) rfl (by kernel_rfl) (by kernel_rfl) (by kernel_rfl) (fun _ _ _ h => h) (Or.inr ⟨by rfl, rfl⟩) (by assumption) ?_
        try simp only [Act.put, List.setIfInBounds_toArray, List.set_cons_zero, List.set_cons_succ]
        refine wpAnyH_take (i := 30) (oi := { dst := some 60, op := Op.binOp BinOp.neq 3 (Operand.tmp 53) (Operand.tmp 59) 3, type := 4, pos := "law.go:55", after := #[{ on := 23, ground := Ground.data }, { on := 29, ground := Ground.data }, { on := 22, ground := Ground.guard }], guard := some (22, true) }) (v := undef) rfl (by kernel_rfl) (by kernel_rfl) (by kernel_rfl) (fun _ _ _ h => h) (Or.inr ⟨by rfl, rfl⟩) (by assumption) ?_
        try simp only [Act.put, List.setIfInBounds_toArray, List.set_cons_zero, List.set_cons_succ]
        refine wpAnyH_take (i := 31) (oi := { dst := some 61, op := Op.pick (Operand.tmp 52) (Operand.tmp 60) (Operand.const (Value.bool false)), type := 4, pos := "law.go:55", after := #[{ on := 22, ground := Ground.data }, { on := 30, ground := Ground.data }, { on := 20, ground := Ground.guard }], guard := some (20, false) }) (v := undef) rfl (by kernel_rfl) (by kernel_rfl) (by kernel_rfl) (fun _ _ _ h => h) (Or.inr ⟨by rfl, rfl⟩) (by assumption) ?_
        try simp only [Act.put, List.setIfInBounds_toArray, List.set_cons_zero, List.set_cons_succ]
        refine wpAnyH_take (i := 32) (oi := { dst := some 62, op := Op.pick (Operand.tmp 50) (Operand.const (Value.bool true)) (Operand.tmp 61), type := 4, pos := "law.go:55", after := #[{ on := 20, ground := Ground.data }, { on := 31, ground := Ground.data }], guard := none }) (v := ?_) rfl (by kernel_rfl) (by kernel_rfl) (by kernel_rfl) (fun _ _ _ h => h) (Or.inl ⟨by rfl, ?_⟩) (by assumption) ?_
        rotate_left
        · (intro w hSw; (try dsimp only at hSw); go_simp; first | done | with_reducible rfl)
        try simp only [Act.put, List.setIfInBounds_toArray, List.set_cons_zero, List.set_cons_succ]
        refine wpAnyH_take (i := 33) (oi := { dst := some 63, op := Op.move (Operand.tmp 62), type := 4, pos := "law.go:55", after := #[{ on := 32, ground := Ground.data }, { on := 22, ground := Ground.chain }], guard := none }) (v := ?_) rfl (by kernel_rfl) (by kernel_rfl) (by kernel_rfl) (fun _ _ _ h => h) (Or.inl ⟨by rfl, ?_⟩) (by assumption) ?_
        rotate_left
        · (intro w hSw; (try dsimp only at hSw); go_simp; first | done | with_reducible rfl)
        try simp only [Act.put, List.setIfInBounds_toArray, List.set_cons_zero, List.set_cons_succ]
        refine wpAnyH_take (i := 34) (oi := { dst := some 64, op := Op.move (Operand.tmp 9), type := 4, pos := "law.go:55", after := #[{ on := 33, ground := Ground.guard }], guard := some (33, false) }) (v := undef) rfl (by kernel_rfl) (by kernel_rfl) (by kernel_rfl) (fun _ _ _ h => h) (Or.inr ⟨by rfl, rfl⟩) (by assumption) ?_
        try simp only [Act.put, List.setIfInBounds_toArray, List.set_cons_zero, List.set_cons_succ]
        refine wpAnyH_take (i := 35) (oi := { dst := some 65, op := Op.unOp UnOp.not 4 (Operand.tmp 64), type := 4, pos := "law.go:55", after := #[{ on := 34, ground := Ground.data }, { on := 33, ground := Ground.guard }], guard := some (33, false) }) (v := undef) rfl (by kernel_rfl) (by kernel_rfl) (by kernel_rfl) (fun _ _ _ h => h) (Or.inr ⟨by rfl, rfl⟩) (by assumption) ?_
        try simp only [Act.put, List.setIfInBounds_toArray, List.set_cons_zero, List.set_cons_succ]
        refine wpAnyH_take (i := 36) (oi := { dst := some 66, op := Op.move (Operand.tmp 65), type := 4, pos := "law.go:55", after := #[{ on := 35, ground := Ground.data }, { on := 33, ground := Ground.chain }, { on := 33, ground := Ground.guard }], guard := some (33, false) }) (v := undef) rfl (by kernel_rfl) (by kernel_rfl) (by kernel_rfl) (fun _ _ _ h => h) (Or.inr ⟨by rfl, rfl⟩) (by assumption) ?_
        try simp only [Act.put, List.setIfInBounds_toArray, List.set_cons_zero, List.set_cons_succ]
        refine wpAnyH_take (i := 37) (oi := { dst := some 67, op := Op.move (Operand.tmp 8), type := 3, pos := "law.go:55", after := #[{ on := 36, ground := Ground.guard }], guard := some (36, true) }) (v := undef) rfl (by kernel_rfl) (by kernel_rfl) (by kernel_rfl) (fun _ _ _ h => h) (Or.inr ⟨by rfl, rfl⟩) (by assumption) ?_
        try simp only [Act.put, List.setIfInBounds_toArray, List.set_cons_zero, List.set_cons_succ]
        refine wpAnyH_take (i := 38) (oi := { dst := some 68, op := Op.binOp BinOp.neq 3 (Operand.tmp 67) (Operand.const (Value.int IntKind.i64 0)) 3, type := 4, pos := "law.go:55", after := #[{ on := 37, ground := Ground.data }, { on := 36, ground := Ground.guard }], guard := some (36, true) }) (v := undef) rfl (by kernel_rfl) (by kernel_rfl) (by kernel_rfl) (fun _ _ _ h => h) (Or.inr ⟨by rfl, rfl⟩) (by assumption) ?_
        try simp only [Act.put, List.setIfInBounds_toArray, List.set_cons_zero, List.set_cons_succ]
        refine wpAnyH_take (i := 39) (oi := { dst := some 69, op := Op.pick (Operand.tmp 66) (Operand.tmp 68) (Operand.const (Value.bool false)), type := 4, pos := "law.go:55", after := #[{ on := 36, ground := Ground.data }, { on := 38, ground := Ground.data }, { on := 33, ground := Ground.guard }], guard := some (33, false) }) (v := undef) rfl (by kernel_rfl) (by kernel_rfl) (by kernel_rfl) (fun _ _ _ h => h) (Or.inr ⟨by rfl, rfl⟩) (by assumption) ?_
        try simp only [Act.put, List.setIfInBounds_toArray, List.set_cons_zero, List.set_cons_succ]
        refine wpAnyH_take (i := 40) (oi := { dst := some 70, op := Op.pick (Operand.tmp 63) (Operand.const (Value.bool true)) (Operand.tmp 69), type := 4, pos := "law.go:55", after := #[{ on := 33, ground := Ground.data }, { on := 39, ground := Ground.data }], guard := none }) (v := ?_) rfl (by kernel_rfl) (by kernel_rfl) (by kernel_rfl) (fun _ _ _ h => h) (Or.inl ⟨by rfl, ?_⟩) (by assumption) ?_
        rotate_left
        · (intro w hSw; (try dsimp only at hSw); go_simp; first | done | with_reducible rfl)
        try simp only [Act.put, List.setIfInBounds_toArray, List.set_cons_zero, List.set_cons_succ]
        refine wpAnyH_done (by kernel_rfl) ?_ _
        go_wp2_with fail
        go_ret
        exact ⟨ret_bool (by rw [RF.out]), below_call B3.out hz.out⟩
theorem law3_same (P : Nat → Prop) (S : Nat) (p : Su.Parts) (m : Su.M) (sv : Value) (L : List (List Int)) (w : World) (h : Su.Mem w S p m) (hr : Rr P w sv L) (hn : m.cur.length ≤ 1000000) (hT : Tab w) :
    Calls Tryd.prog 55 #[.pointer (some ⟨S, 0, none⟩), sv] w (Rf.Says (decide (m.cur = L)) w) := by
  by_cases hl : m.cur.length = L.length
  · exact law3_same_go P S p m sv L w h hr hn hl hT
  · rw [decide_eq_false (fun e => hl (by rw [e]))]
    exact law3_same_len P S p m sv L w h hr hl
end Go.Proofs.YtdbjljbkneopcaaDoor
