import Derived.Lib.AppendIntMem
import Derived.Lib.ItoaLen
import Derived.Test.YtdnllmngaljflaaGreatDoorOpParse
namespace Go.Proofs.YtdnllmngaljflaaGreatDoorX.Ho
open Go.RowKit Go.Proofs.YtdnllmngaljflaaGreatDoorW.PrintWords Go.Proofs.YtdnllmngaljflaaGreatDoorW.PrintLast Go.Proofs.YtdnllmngaljflaaGreatDoorW.PrintMore
attribute [local go_sem] max2_int min2_int max_two min_two max_three min_three max_four min_four
set_option linter.unusedVariables false
set_option linter.unusedSimpArgs false
attribute [local go_sem] Go.Proofs.YtdnllmngaljflaaGreatDoor.Hook.cell_two
/-! ### Print -/
section
variable {P : Program} {ops : Array Oper} {Q : Exit → Act → World → Prop} {md : Region.Mode} {S S' : World → Prop}
/-- What is known in a region that draws may grow. -/
theorem wpAnyH_grow (hS : ∀ w, S' w → S w) : ∀ (fuel : Nat) (listed : Array Bool) (a : Act) (w : World), wpAnyH P md ops Q S' fuel listed a w → wpAnyH P md ops Q S fuel listed a w
  | 0, _, _, _, h => h
  | fuel + 1, _, _, _, h => ⟨h.1, fun i hi => wpOp_mono (fun a' w' h' => ⟨hS w' h'.1, wpAnyH_grow hS fuel _ a' w' h'.2⟩) (h.2 i hi)⟩
end
def onB (b : Bool) : Bs := if b = true then bOn else bOff
def vaB (b : Bool) : Bs := if b = true then bGreatest else bLeast
def schT (k u n d : Int) : Bs := schedsL.getD k.toNat [] ++ (if k = 1 then 58 :: Lib.itoa u else if k = 2 then 58 :: Lib.itoa u ++ 58 :: Lib.itoa n ++ 58 :: Lib.itoa d else [])
def wordsP (o : Ov) : List Bs := [kRule ++ 61 :: rulesL.getD o.rule.toNat [], kValue ++ 61 :: vaB o.gr, kLast ++ 61 :: onB o.la, kPhase ++ 61 :: onB o.ph, kNogoods ++ 61 :: onB o.ng, kRestart ++ 61 :: schT o.kind o.unit o.num o.den, kSteps ++ 61 :: Lib.itoa o.steps]
/-- The text of options. -/
def printL (o : Ov) : Bs := Lib.join (wordsP o) [32]
theorem onOffW (b : Bool) (w : World) : Calls Tryz.prog 28 #[.bool b] w fun e w' => e = .returned (.string ⟨(onB b).toArray⟩) ∧ w' = w := by
  cases b <;> (go_enter Tryz.func28, Tryz.ntmps28; go_wp2; go_ret; exact ⟨rfl, rfl⟩)
theorem itoaW (n : Int) (h0 : 0 ≤ n) (h1 : n ≤ 1000000) (w : World) (hE : Env w) : Calls Tryz.prog 26 #[.int .i64 n] w fun e w' => e = .returned (.string ⟨(Lib.itoa n).toArray⟩) ∧ Below w.heap.size w w' :=
  (Tryz.strconv_Itoa n (by omega) (by omega) w hE.tab).mono fun e w' ⟨he, k, os, hw⟩ => ⟨he, by subst hw; exact Lib.below_grow _ w (Nat.le_refl _) k os⟩
def PPr (r : Bs × Int) (w : World) (e : Ending) (w' : World) : Prop := e = .returned (.tuple #[.string ⟨r.1.toArray⟩, .int .i64 r.2]) ∧ Below w.heap.size w w'
theorem sched_at (w w1 : World) (h : Below (w.alloc schedsO).heap.size (w.alloc schedsO) w1) (k : Nat) (hk : k < 5) : w1.cell? ⟨w.heap.size, k, none⟩ = some (.string ⟨(schedsL.getD k []).toArray⟩) := by
  rw [h.cell (by simp), scheds_at w k hk, List.getD_eq_getElem?_getD, List.getElem?_eq_getElem (show k < schedsL.length from hk)]; rfl
theorem rule_at (w w1 : World) (h : Below (w.alloc rulesO).heap.size (w.alloc rulesO) w1) (k : Nat) (hk : k < 6) : w1.cell? ⟨w.heap.size, k, none⟩ = some (.string ⟨(rulesL.getD k []).toArray⟩) := by
  rw [h.cell (by simp), rules_at w k hk, List.getD_eq_getElem?_getD, List.getElem?_eq_getElem (show k < rulesL.length from hk)]; rfl
attribute [-go_sem] run_string_add_if
set_option maxHeartbeats 8000000 in
set_option maxRecDepth 100000 in
theorem printBadW (o : Ov) (ho : goodL o = false) (w : World) : Calls Tryz.prog 11 #[.agg o.pc] w (PPr ([], 2) w) := by
  have HC := Aside0.mk (fun w1 => checkW o w1)
  rw [ho] at HC
  clear ho
  obtain ⟨r, gr, la, ph, ng, k, u, n, d, st⟩ := o
  simp only [Ov.pc] at HC ⊢
  go_enter Tryz.func11, Tryz.ntmps11
  go_wp2_with fail
  refine (HC.out _).mono ?_
  rintro e w1 ⟨rfl, hb⟩
  have HB := Aside0.mk hb
  clear hb
  go_wp2_with fail
  go_ret2
  exact ⟨rfl, below_step (below_alloc (Below.refl _ _) _) HB.out⟩
theorem addS {x y z : Bs} (h : x ++ y = z) (hz : z.length ≤ 1000) : ∀ w : World, (Op.stringOp .add ⟨x.toArray⟩ ⟨y.toArray⟩).run Tryz.prog w = .ok (.string ⟨z.toArray⟩) w := fun w => by
  have hl : x.length + y.length = z.length := by rw [← h, List.length_append]
  rw [run_string_add_sum w _ _ (by show x.toArray.size + y.toArray.size ≤ _; rw [List.size_toArray, List.size_toArray]; omega)]
  congr 2
  rw [← h]
  exact ba_ext (by rw [ByteArray.data_append, Array.toList_append])
theorem itoa_len (n : Nat) (h : n ≤ 1000000) : (Lib.itoa (n : Int)).length ≤ 21 := Lib.itoa_length_le _ (by omega) (by omega)
theorem rule_len : ∀ r, r < 6 → (rulesL.getD r []).length ≤ 8 := by decide
theorem sched_len : ∀ r, r < 5 → (schedsL.getD r []).length ≤ 9 := by decide
theorem onB_len (b : Bool) : (onB b).length ≤ 3 := by cases b <;> decide
theorem vaB_len (b : Bool) : (vaB b).length ≤ 8 := by cases b <;> decide
theorem joinW (y1 y2 y3 y4 y5 y6 y7 R : Bs) (hR : Lib.join [y1, y2, y3, y4, y5, y6, y7] [32] = R) (hl : R.length ≤ 10000) (wq : World) :
    Calls Tryz.prog 17 #[.slice (some ⟨wq.heap.size, 0, none⟩) 7 7, .string ⟨#[32]⟩] (wq.alloc (.cells #[.string ⟨y1.toArray⟩, .string ⟨y2.toArray⟩, .string ⟨y3.toArray⟩, .string ⟨y4.toArray⟩, .string ⟨y5.toArray⟩, .string ⟨y6.toArray⟩, .string ⟨y7.toArray⟩] 9 (0, 0))) (fun e w' => e = .returned (.string ⟨R.toArray⟩) ∧ Below wq.heap.size wq w') := by
  have hc := litCells [y1, y2, y3, y4, y5, y6, y7] wq 9
  have hm : ((btL [y1, y2, y3, y4, y5, y6, y7]).map (·.data.toList)) = [y1, y2, y3, y4, y5, y6, y7] := rfl
  have := Tryz.strings_Join wq.heap.size 0 7 (btL [y1, y2, y3, y4, y5, y6, y7]) ⟨#[32]⟩ (wq.alloc (.cells #[.string ⟨y1.toArray⟩, .string ⟨y2.toArray⟩, .string ⟨y3.toArray⟩, .string ⟨y4.toArray⟩, .string ⟨y5.toArray⟩, .string ⟨y6.toArray⟩, .string ⟨y7.toArray⟩] 9 (0, 0))) (fun j x h => by
    unfold btL at h
    rw [List.getElem?_map] at h
    obtain ⟨y, hy, rfl⟩ := Option.map_eq_some_iff.1 h
    obtain ⟨hj, rfl⟩ := List.getElem?_eq_some_iff.1 hy
    rw [Nat.zero_add]
    exact hc j hj) (by simp) (by show 7 ≤ _; decide) (by show 7 ≤ 7; decide) (by rw [hm]; show (Lib.join _ [32]).length ≤ _; rw [hR]; omega)
  rw [hm] at this
  exact this.mono fun e w' ⟨he, hb⟩ => ⟨by rw [he]; show _ = Ending.returned (.string ⟨R.toArray⟩); rw [← hR], (below_alloc (Below.refl _ _) _).trans (hb.mono (by simp))⟩
theorem join_len (y1 y2 y3 y4 y5 y6 y7 : Bs) : (Lib.join [y1, y2, y3, y4, y5, y6, y7] [32]).length = y1.length + y2.length + y3.length + y4.length + y5.length + y6.length + y7.length + 6 := by
  simp [Lib.join, List.intercalate, List.intersperse]; omega
/-- What holds at region 8: the options' cells, the schedule's. -/
structure PG (w wx : World) (gx : Nat) (cs ks : Array Value) : Prop where
  b : Below w.heap.size w wx
  g : wx.heap[w.heap.size]? = some (.cells cs 29 (0, 0))
  x : wx.heap[gx]? = some (.cells ks 27 (0, 0))
  lt : w.heap.size < gx
theorem PG.below {w wx w1 : World} {gx : Nat} {cs ks : Array Value} (h : PG w wx gx cs ks) (hb : Below wx.heap.size wx w1) : PG w w1 gx cs ks :=
  ⟨below_step h.b hb, (hb.block _ (blk_lt h.g)).trans h.g, (hb.block _ (blk_lt h.x)).trans h.x, h.lt⟩
theorem PG.start {w w1 : World} {cs ks : Array Value} (h : Below (w.alloc (.cells cs 29 (0, 0))).heap.size (w.alloc (.cells cs 29 (0, 0))) w1) : PG w (w1.alloc (.cells ks 27 (0, 0))) w1.heap.size cs ks := by
  have hs : w.heap.size + 1 ≤ w1.heap.size := by have := h.size; simpa using this
  have h0 : w1.heap[w.heap.size]? = some (.cells cs 29 (0, 0)) := (h.block _ (by simp)).trans (blk_new w _)
  have hb : Below w.heap.size w w1 := (below_alloc (Below.refl _ _) _).trans (h.mono (by simp))
  exact ⟨below_alloc hb _, heap_alloc_of h0 _, blk_new w1 _, by omega⟩
set_option maxHeartbeats 8000000 in
set_option maxRecDepth 100000 in
theorem printGoodW (r k u n d st : Nat) (gr la ph ng : Bool) (ho : goodL ⟨r, gr, la, ph, ng, k, u, n, d, st⟩ = true) (w : World) (hE : Env w) : Calls Tryz.prog 11 #[.agg (Ov.pc ⟨r, gr, la, ph, ng, k, u, n, d, st⟩)] w (PPr (printL ⟨r, gr, la, ph, ng, k, u, n, d, st⟩, 0) w) := by
  have HC := Aside0.mk (fun w1 => checkW ⟨r, gr, la, ph, ng, k, u, n, d, st⟩ w1)
  rw [ho] at HC
  have HO := Aside0.mk ho
  have HE := Aside0.mk hE
  have hok : schOk k u n d = true ∧ (0 ≤ (r : Int) ∧ (r : Int) ≤ 5 ∧ 0 ≤ (st : Int) ∧ (st : Int) ≤ 1000000) := by
    rw [goodL_is] at ho
    unfold checkB at ho
    rw [Bool.and_eq_true, decide_eq_true_eq] at ho
    exact ho
  have hsk := (schOk_iff k u n d).1 hok.1
  have hk5 : k < 5 := by omega
  have hr6 : r < 6 := by omega
  have hul : u ≤ 1000000 := by omega
  have hnl : n ≤ 1000000 := by omega
  have hdl : d ≤ 1000000 := by omega
  have hsl : st ≤ 1000000 := by omega
  clear ho hE hok hsk
  obtain ⟨va, hva⟩ : ∃ va, vaB gr = va := ⟨_, rfl⟩
  have HVA := Aside0.mk hva
  simp only [Ov.pc] at HC ⊢
  obtain ⟨RR, hrr⟩ : ∃ RR, printL ⟨r, gr, la, ph, ng, k, u, n, d, st⟩ = RR := ⟨_, rfl⟩
  rw [hrr]
  have HRR := Aside0.mk hrr
  clear hva hrr
  go_enter Tryz.func11, Tryz.ntmps11
  go_wp2_with fail
  refine (HC.out _).mono ?_
  rintro e w1 ⟨rfl, hb⟩
  have HB := Aside0.mk hb
  have hg1 := (hb.block w.heap.size (by simp)).trans (blk_new w _)
  have c0 := blk_cell hg1 0
  have c1 := blk_cell hg1 1
  have c2 := blk_cell hg1 2
  have c3 := blk_cell hg1 3
  have c4 := blk_cell hg1 4
  have c5 := blk_cell hg1 5
  have c6 := blk_cell hg1 6
  have c7 := blk_cell hg1 7
  clear hb hg1
  simp only [if_true]
  go_upto_if 15 with fail
  go_cut [5] (fun s5 wx => s5 = .string ⟨va.toArray⟩ ∧ w1 = wx)
  case first =>
    cases gr
    · obtain rfl : va = bLeast := HVA.out.symm
      go_wp2_with fail
      go_meet
      exact ⟨rfl, rfl⟩
    · obtain rfl : va = bGreatest := HVA.out.symm
      go_wp2_with fail
      go_meet
      exact ⟨rfl, rfl⟩
  case rest =>
  obtain ⟨rfl, rfl⟩ := hcut
  have HP0 := Aside0.mk (PG.start (ks := #[.int .i64 k, .int .i64 u, .int .i64 n, .int .i64 d]) HB.out)
  go_upto_region 8 with fail
  clear c0 c1 c2 c3 c4 c5 c6 c7 HB
  generalize w1.alloc (Obj.cells #[.int .i64 k, .int .i64 u, .int .i64 n, .int .i64 d] 27) = W at *
  generalize w1.heap.size = gx at *
  have k0 := blk_cell HP0.out.x 0
  have hz := Aside0.mk (below_drew (Below.refl W.heap.size W))
  have KC := Aside0.mk (fun (w9 : World) (h9 : Below W.heap.size W w9) => show w9.cell? ⟨gx, 0, none⟩ = some (.int .i64 k) from blk_cell (HP0.out.below h9).x 0)
  clear k0
  have k1 : (0 : Int) ≤ (k : Int) := by omega
  have k2 : (k : Int) < 5 := by omega
  obtain ⟨sn, hsn⟩ : ∃ sn, schedsL.getD k [] = sn := ⟨_, rfl⟩
  have HSN := Aside0.mk hsn
  clear hsn
  go_cut [7] (fun s7 wx => s7 = .string ⟨sn.toArray⟩ ∧ Below W.heap.size W wx)
  case first =>
    refine wp_region_held_drew (S := fun w' => w'.cell? ⟨gx, 0, none⟩ = some (.int .i64 k)) (by kernel_rfl) ?_ (fun hHeld => ?_)
    · exact KC.out _ hz.out
    generalize W.drew = wd at *
    refine wpAnyH_take (i := 1) (oi := { dst := some 19, op := Op.fieldAddr 27 (Operand.tmp 6) 0, type := 0, pos := "opts.go:148", after := #[], guard := none }) (v := ?_) rfl (by kernel_rfl) (by kernel_rfl) (by kernel_rfl) (fun _ _ _ h => h) (Or.inl ⟨by rfl, ?_⟩) (by assumption) ?_
    rotate_left
    · (intro w hSw; (try dsimp only at hSw); go_simp; first | done | with_reducible rfl)
    try simp only [Act.put, List.setIfInBounds_toArray, List.set_cons_zero, List.set_cons_succ]
    refine wpAnyH_take (i := 2) (oi := { dst := some 20, op := Op.load 25 (Operand.tmp 19), type := 25, pos := "opts.go:148", after := #[{ on := 1, ground := Ground.data }], guard := none }) (v := ?_) rfl (by kernel_rfl) (by kernel_rfl) (by kernel_rfl) (fun _ _ _ h => h) (Or.inl ⟨by rfl, ?_⟩) (by assumption) ?_
    rotate_left
    · (intro w hSw; (try dsimp only at hSw); go_simp; first | done | with_reducible rfl)
    try simp only [Act.put, List.setIfInBounds_toArray, List.set_cons_zero, List.set_cons_succ]
    refine wpAnyH_ready (rs := [0]) (by kernel_rfl) (by simp) ?_
    refine AllReadyH.cons (o := { dst := some 18, op := Op.call { callee := Callee.value (Operand.func 25), args := #[], argTypes := #[] }, type := 48, pos := "opts.go:148", after := #[], guard := none }) rfl (fun KK hKK => ?_) AllReadyH.nil
    go_simp
    with_reducible refine (schedsW _).mono ?_
    rintro e w' ⟨rfl, rfl⟩
    replace hz := Aside0.mk (below_alloc hz.out schedsO)
    go_wp2_with fail
    refine hKK.out _ _ ?_ (fun hHeld2 => ?_)
    · exact KC.out _ hz.out
    clear hKK KK hHeld
    have hHeld := hHeld2
    clear hHeld2
    try simp only [Act.put, List.setIfInBounds_toArray, List.set_cons_zero, List.set_cons_succ]
    refine wpAnyH_grow (S' := fun w' => w'.cell? ⟨gx, 0, none⟩ = some (.int .i64 k) ∧ w'.cell? ⟨wd.heap.size, k, none⟩ = some (.string ⟨sn.toArray⟩)) (fun _ h => h.1) _ _ _ _ ?_
    have hHeld2 : (fun (w' : World) => w'.cell? ⟨gx, 0, none⟩ = some (.int .i64 k) ∧ w'.cell? ⟨wd.heap.size, k, none⟩ = some (.string ⟨sn.toArray⟩)) (wd.alloc schedsO) := ⟨hHeld, by rw [← HSN.out]; exact sched_at wd _ (Below.refl _ _) k hk5⟩
    clear hHeld
    have hHeld := hHeld2
    clear hHeld2
    refine wpAnyH_take (i := 3) (oi := { dst := some 21, op := Op.indexAddr 48 (Operand.tmp 18) (Operand.tmp 20), type := 0, pos := "opts.go:148", after := #[{ on := 0, ground := Ground.data }, { on := 2, ground := Ground.data }], guard := none }) (v := ?_) rfl (by kernel_rfl) (by kernel_rfl) (by kernel_rfl) (fun _ _ _ h => h) (Or.inl ⟨by rfl, ?_⟩) (by assumption) ?_
    rotate_left
    · (intro w hSw; (try dsimp only at hSw); go_simp; first | done | with_reducible rfl)
    try simp only [Act.put, List.setIfInBounds_toArray, List.set_cons_zero, List.set_cons_succ]
    refine wpAnyH_take (i := 4) (oi := { dst := some 22, op := Op.load 9 (Operand.tmp 21), type := 9, pos := "opts.go:148", after := #[{ on := 3, ground := Ground.data }], guard := none }) (v := ?_) rfl (by kernel_rfl) (by kernel_rfl) (by kernel_rfl) (fun _ _ _ h => h) (Or.inl ⟨by rfl, ?_⟩) (by assumption) ?_
    rotate_left
    · (intro w hSw; (try dsimp only at hSw); go_simp; first | done | with_reducible rfl)
    try simp only [Act.put, List.setIfInBounds_toArray, List.set_cons_zero, List.set_cons_succ]
    refine wpAnyH_take (i := 5) (oi := { dst := some 7, op := Op.assign (Operand.tmp 22), type := 9, pos := "opts.go:148", after := #[{ on := 4, ground := Ground.data }, { on := 0, ground := Ground.chain }, { on := 0, ground := Ground.phase }, { on := 1, ground := Ground.phase }, { on := 2, ground := Ground.phase }, { on := 3, ground := Ground.phase }, { on := 4, ground := Ground.phase }], guard := none }) (v := ?_) rfl (by kernel_rfl) (by kernel_rfl) (by kernel_rfl) (fun _ _ _ h => h) (Or.inl ⟨by rfl, ?_⟩) (by assumption) ?_
    rotate_left
    · (intro w hSw; (try dsimp only at hSw); go_simp; first | done | with_reducible rfl)
    try simp only [Act.put, List.setIfInBounds_toArray, List.set_cons_zero, List.set_cons_succ]
    refine wpAnyH_done (by kernel_rfl) ?_ _
    go_wp2_with fail
    go_meet
    exact ⟨rfl, hz.out⟩
  case rest =>
  obtain ⟨rfl, hb8⟩ := hcut
  obtain ⟨wk, hwk⟩ : ∃ wk, wk = wc := ⟨_, rfl⟩
  subst hwk
  have HP1 := Aside0.mk (HP0.out.below hb8)
  clear hb8 hz KC HP0
  have HE1 := Aside0.mk (HE.out.below HP1.out.b)
  have q0 := blk_cell HP1.out.x 0
  have q1 := blk_cell HP1.out.x 1
  have q2 := blk_cell HP1.out.x 2
  have q3 := blk_cell HP1.out.x 3
  obtain ⟨iu, hiu⟩ : ∃ iu, Lib.itoa (u : Int) = iu := ⟨_, rfl⟩
  obtain ⟨i2, hi2⟩ : ∃ i2, Lib.itoa (n : Int) = i2 := ⟨_, rfl⟩
  obtain ⟨i3, hi3⟩ : ∃ i3, Lib.itoa (d : Int) = i3 := ⟨_, rfl⟩
  obtain ⟨i4, hi4⟩ : ∃ i4, Lib.itoa (st : Int) = i4 := ⟨_, rfl⟩
  have HIU := Aside0.mk (fun (w1 : World) (h : Env w1) => itoaW (u : Int) (by omega) (by omega) w1 h)
  have HI2 := Aside0.mk (fun (w1 : World) (h : Env w1) => itoaW (n : Int) (by omega) (by omega) w1 h)
  have HI3 := Aside0.mk (fun (w1 : World) (h : Env w1) => itoaW (d : Int) (by omega) (by omega) w1 h)
  have HI4 := Aside0.mk (fun (w1 : World) (h : Env w1) => itoaW (st : Int) (by omega) (by omega) w1 h)
  have LU := itoa_len u (by omega)
  have L2 := itoa_len n (by omega)
  have L3 := itoa_len d (by omega)
  have L4 := itoa_len st (by omega)
  have LS := sched_len k hk5
  rw [hiu] at HIU LU
  rw [hi2] at HI2 L2
  rw [hi3] at HI3 L3
  rw [hi4] at HI4 L4
  rw [HSN.out] at LS
  obtain ⟨ag, hag⟩ : ∃ ag, schT (k : Int) u n d = ag := ⟨_, rfl⟩
  have HAG := Aside0.mk (show sn ++ (if k = 1 then 58 :: iu else if k = 2 then 58 :: iu ++ 58 :: i2 ++ 58 :: i3 else []) = ag from by
    rw [← hag, ← HSN.out, ← hiu, ← hi2, ← hi3]
    unfold schT
    have e1 : ((k : Int) = 1) = (k = 1) := by apply propext; omega
    have e2 : ((k : Int) = 2) = (k = 2) := by apply propext; omega
    simp only [e1, e2]
    rfl)
  have LAG : ag.length ≤ 100 := by
    rw [← HAG.out, List.length_append]
    split
    · simp only [List.length_cons]; omega
    · split
      · simp only [List.length_cons, List.length_append]; omega
      · simp only [List.length_nil]; omega
  have HI4S := Aside0.mk hi4
  have HAGS := Aside0.mk hag
  clear hiu hi2 hi3 hi4 hag
  go_upto_block 0 with fail
  go_cut [7] (fun s7 wx => s7 = .string ⟨ag.toArray⟩ ∧ Below wk.heap.size wk wx)
  case first =>
    by_cases h1 : k = 1
    · have HA := Aside0.mk (show sn ++ (58 :: iu) = ag from by have := HAG.out; rwa [if_pos h1] at this)
      have t1 : ((k : Int) == 1) = true := by rw [beq_iff_eq]; omega
      have t2 : decide ((k : Int) = 1) = true := by rw [decide_eq_true_eq]; omega
      have r1 := addS (x := [58]) (y := iu) (z := 58 :: iu) rfl (by simp only [List.length_cons]; omega)
      have r2 := addS (x := sn) (y := 58 :: iu) (z := ag) HA.out (by omega)
      clear h1
      go_wp2_with (go_at_call 26; ((with_reducible refine (HIU.out _ HE1.out).mono ?_); rintro e w3 ⟨rfl, hb3⟩; have HB3 := Aside0.mk hb3; clear hb3))
      go_meet
      exact ⟨rfl, HB3.out⟩
    · by_cases h2 : k = 2
      · have HA := Aside0.mk (show sn ++ (58 :: iu ++ 58 :: i2 ++ 58 :: i3) = ag from by have := HAG.out; rwa [if_neg h1, if_pos h2] at this)
        have t1 : ((k : Int) == 1) = false := by rw [beq_eq_false_iff_ne]; omega
        have t2 : decide ((k : Int) = 1) = false := by rw [decide_eq_false_iff_not]; omega
        have t3 : ((k : Int) == 2) = true := by rw [beq_iff_eq]; omega
        have t4 : decide ((k : Int) = 2) = true := by rw [decide_eq_true_eq]; omega
        obtain ⟨x1, hx1⟩ : ∃ x, 58 :: iu = x := ⟨_, rfl⟩
        obtain ⟨x2, hx2⟩ : ∃ x, x1 ++ [58] = x := ⟨_, rfl⟩
        obtain ⟨x3, hx3⟩ : ∃ x, x2 ++ i2 = x := ⟨_, rfl⟩
        obtain ⟨x4, hx4⟩ : ∃ x, x3 ++ [58] = x := ⟨_, rfl⟩
        obtain ⟨x5, hx5⟩ : ∃ x, x4 ++ i3 = x := ⟨_, rfl⟩
        have ha : sn ++ x5 = ag := by rw [← HA.out, ← hx5, ← hx4, ← hx3, ← hx2, ← hx1]; simp
        have l1 : x1.length = iu.length + 1 := by rw [← hx1]; rfl
        have l2 : x2.length = x1.length + 1 := by rw [← hx2, List.length_append]; rfl
        have l3 : x3.length = x2.length + i2.length := by rw [← hx3, List.length_append]
        have l4 : x4.length = x3.length + 1 := by rw [← hx4, List.length_append]; rfl
        have l5 : x5.length = x4.length + i3.length := by rw [← hx5, List.length_append]
        have b1 : x1.length ≤ 1000 := by omega
        have b2 : x2.length ≤ 1000 := by omega
        have b3 : x3.length ≤ 1000 := by omega
        have b4 : x4.length ≤ 1000 := by omega
        have b5 : x5.length ≤ 1000 := by omega
        have r1 := addS (x := [58]) (y := iu) (z := x1) hx1 b1
        have r2 := addS hx2 b2
        have r3 := addS hx3 b3
        have r4 := addS hx4 b4
        have r5 := addS hx5 b5
        have r6 := addS ha (by omega)
        have hz := Aside0.mk (below_drew (Below.refl wk.heap.size wk))
        have KC := Aside0.mk (fun (w9 : World) (h9 : Below wk.heap.size wk w9) => show w9.cell? ⟨gx, 1, none⟩ = some (.int .i64 u) ∧ w9.cell? ⟨gx, 2, none⟩ = some (.int .i64 n) ∧ w9.cell? ⟨gx, 3, none⟩ = some (.int .i64 d) from ⟨blk_cell (HP1.out.below h9).x 1, blk_cell (HP1.out.below h9).x 2, blk_cell (HP1.out.below h9).x 3⟩)
        clear h1 h2 hx1 hx2 hx3 hx4 hx5 ha l1 l2 l3 l4 l5 b1 b2 b3 b4 b5
        go_upto_region 13 with fail
        clear q0 q1 q2 q3
        refine wp_region_held_drew (S := fun w' => w'.cell? ⟨gx, 1, none⟩ = some (.int .i64 u) ∧ w'.cell? ⟨gx, 2, none⟩ = some (.int .i64 n) ∧ w'.cell? ⟨gx, 3, none⟩ = some (.int .i64 d)) (by kernel_rfl) ?_ (fun hHeld => ?_)
        · exact KC.out _ hz.out
        refine wpAnyH_take (i := 0) (oi := { dst := some 35, op := Op.move (Operand.tmp 7), type := 9, pos := "opts.go:153", after := #[], guard := none }) (v := ?_) rfl (by kernel_rfl) (by kernel_rfl) (by kernel_rfl) (fun _ _ _ h => h) (Or.inl ⟨by rfl, ?_⟩) (by assumption) ?_
        rotate_left
        · (intro w hSw; (try dsimp only at hSw); go_simp; first | done | with_reducible rfl)
        try simp only [Act.put, List.setIfInBounds_toArray, List.set_cons_zero, List.set_cons_succ]
        refine wpAnyH_take (i := 1) (oi := { dst := some 36, op := Op.fieldAddr 27 (Operand.tmp 6) 1, type := 0, pos := "opts.go:153", after := #[], guard := none }) (v := ?_) rfl (by kernel_rfl) (by kernel_rfl) (by kernel_rfl) (fun _ _ _ h => h) (Or.inl ⟨by rfl, ?_⟩) (by assumption) ?_
        rotate_left
        · (intro w hSw; (try dsimp only at hSw); go_simp; first | done | with_reducible rfl)
        try simp only [Act.put, List.setIfInBounds_toArray, List.set_cons_zero, List.set_cons_succ]
        refine wpAnyH_take (i := 2) (oi := { dst := some 37, op := Op.load 3 (Operand.tmp 36), type := 3, pos := "opts.go:153", after := #[{ on := 1, ground := Ground.data }], guard := none }) (v := ?_) rfl (by kernel_rfl) (by kernel_rfl) (by kernel_rfl) (fun _ _ _ h => h) (Or.inl ⟨by rfl, ?_⟩) (by assumption) ?_
        rotate_left
        · (intro w hSw; (try dsimp only at hSw); go_simp; first | done | with_reducible rfl)
        try simp only [Act.put, List.setIfInBounds_toArray, List.set_cons_zero, List.set_cons_succ]
        refine wpAnyH_take (i := 6) (oi := { dst := some 41, op := Op.fieldAddr 27 (Operand.tmp 6) 2, type := 0, pos := "opts.go:153", after := #[], guard := none }) (v := ?_) rfl (by kernel_rfl) (by kernel_rfl) (by kernel_rfl) (fun _ _ _ h => h) (Or.inl ⟨by rfl, ?_⟩) (by assumption) ?_
        rotate_left
        · (intro w hSw; (try dsimp only at hSw); go_simp; first | done | with_reducible rfl)
        try simp only [Act.put, List.setIfInBounds_toArray, List.set_cons_zero, List.set_cons_succ]
        refine wpAnyH_take (i := 7) (oi := { dst := some 42, op := Op.load 3 (Operand.tmp 41), type := 3, pos := "opts.go:153", after := #[{ on := 6, ground := Ground.data }], guard := none }) (v := ?_) rfl (by kernel_rfl) (by kernel_rfl) (by kernel_rfl) (fun _ _ _ h => h) (Or.inl ⟨by rfl, ?_⟩) (by assumption) ?_
        rotate_left
        · (intro w hSw; (try dsimp only at hSw); go_simp; first | done | with_reducible rfl)
        try simp only [Act.put, List.setIfInBounds_toArray, List.set_cons_zero, List.set_cons_succ]
        refine wpAnyH_take (i := 11) (oi := { dst := some 46, op := Op.fieldAddr 27 (Operand.tmp 6) 3, type := 0, pos := "opts.go:153", after := #[], guard := none }) (v := ?_) rfl (by kernel_rfl) (by kernel_rfl) (by kernel_rfl) (fun _ _ _ h => h) (Or.inl ⟨by rfl, ?_⟩) (by assumption) ?_
        rotate_left
        · (intro w hSw; (try dsimp only at hSw); go_simp; first | done | with_reducible rfl)
        try simp only [Act.put, List.setIfInBounds_toArray, List.set_cons_zero, List.set_cons_succ]
        refine wpAnyH_take (i := 12) (oi := { dst := some 47, op := Op.load 3 (Operand.tmp 46), type := 3, pos := "opts.go:153", after := #[{ on := 11, ground := Ground.data }], guard := none }) (v := ?_) rfl (by kernel_rfl) (by kernel_rfl) (by kernel_rfl) (fun _ _ _ h => h) (Or.inl ⟨by rfl, ?_⟩) (by assumption) ?_
        rotate_left
        · (intro w hSw; (try dsimp only at hSw); go_simp; first | done | with_reducible rfl)
        try simp only [Act.put, List.setIfInBounds_toArray, List.set_cons_zero, List.set_cons_succ]
        refine wpAnyH_ready (rs := [3]) (by kernel_rfl) (by simp) ?_
        refine AllReadyH.cons (o := { dst := some 38, op := Op.call { callee := Callee.value (Operand.func 26), args := #[Operand.tmp 37], argTypes := #[3] }, type := 9, pos := "opts.go:153", after := #[{ on := 2, ground := Ground.data }], guard := none }) rfl (fun KK hKK => ?_) AllReadyH.nil
        go_simp
        with_reducible refine (HIU.out _ (HE1.out.below hz.out)).mono ?_
        rintro e w' ⟨rfl, hb⟩
        replace hz := Aside0.mk (below_step hz.out hb)
        clear hb
        go_wp2_with fail
        refine hKK.out _ _ ?_ (fun hHeld2 => ?_)
        · exact KC.out _ hz.out
        clear hKK KK hHeld
        have hHeld := hHeld2
        clear hHeld2
        try simp only [Act.put, List.setIfInBounds_toArray, List.set_cons_zero, List.set_cons_succ]
        refine wpAnyH_take (i := 4) (oi := { dst := some 39, op := Op.binOp BinOp.add 9 (Operand.const (Value.string { data := #[58] })) (Operand.tmp 38) 9, type := 9, pos := "opts.go:153", after := #[{ on := 3, ground := Ground.data }], guard := none }) (v := ?_) rfl (by kernel_rfl) (by kernel_rfl) (by kernel_rfl) (fun _ _ _ h => h) (Or.inl ⟨by rfl, ?_⟩) (by assumption) ?_
        rotate_left
        · (intro w hSw; (try dsimp only at hSw); go_simp; first | done | with_reducible rfl)
        try simp only [Act.put, List.setIfInBounds_toArray, List.set_cons_zero, List.set_cons_succ]
        refine wpAnyH_take (i := 5) (oi := { dst := some 40, op := Op.binOp BinOp.add 9 (Operand.tmp 39) (Operand.const (Value.string { data := #[58] })) 9, type := 9, pos := "opts.go:153", after := #[{ on := 4, ground := Ground.data }], guard := none }) (v := ?_) rfl (by kernel_rfl) (by kernel_rfl) (by kernel_rfl) (fun _ _ _ h => h) (Or.inl ⟨by rfl, ?_⟩) (by assumption) ?_
        rotate_left
        · (intro w hSw; (try dsimp only at hSw); go_simp; first | done | with_reducible rfl)
        try simp only [Act.put, List.setIfInBounds_toArray, List.set_cons_zero, List.set_cons_succ]
        refine wpAnyH_ready (rs := [8]) (by kernel_rfl) (by simp) ?_
        refine AllReadyH.cons (o := { dst := some 43, op := Op.call { callee := Callee.value (Operand.func 26), args := #[Operand.tmp 42], argTypes := #[3] }, type := 9, pos := "opts.go:153", after := #[{ on := 7, ground := Ground.data }, { on := 3, ground := Ground.chain }], guard := none }) rfl (fun KK hKK => ?_) AllReadyH.nil
        go_simp
        with_reducible refine (HI2.out _ (HE1.out.below hz.out)).mono ?_
        rintro e w' ⟨rfl, hb⟩
        replace hz := Aside0.mk (below_step hz.out hb)
        clear hb
        go_wp2_with fail
        refine hKK.out _ _ ?_ (fun hHeld2 => ?_)
        · exact KC.out _ hz.out
        clear hKK KK hHeld
        have hHeld := hHeld2
        clear hHeld2
        try simp only [Act.put, List.setIfInBounds_toArray, List.set_cons_zero, List.set_cons_succ]
        refine wpAnyH_take (i := 9) (oi := { dst := some 44, op := Op.binOp BinOp.add 9 (Operand.tmp 40) (Operand.tmp 43) 9, type := 9, pos := "opts.go:153", after := #[{ on := 5, ground := Ground.data }, { on := 8, ground := Ground.data }], guard := none }) (v := ?_) rfl (by kernel_rfl) (by kernel_rfl) (by kernel_rfl) (fun _ _ _ h => h) (Or.inl ⟨by rfl, ?_⟩) (by assumption) ?_
        rotate_left
        · (intro w hSw; (try dsimp only at hSw); go_simp; first | done | with_reducible rfl)
        try simp only [Act.put, List.setIfInBounds_toArray, List.set_cons_zero, List.set_cons_succ]
        refine wpAnyH_take (i := 10) (oi := { dst := some 45, op := Op.binOp BinOp.add 9 (Operand.tmp 44) (Operand.const (Value.string { data := #[58] })) 9, type := 9, pos := "opts.go:153", after := #[{ on := 9, ground := Ground.data }], guard := none }) (v := ?_) rfl (by kernel_rfl) (by kernel_rfl) (by kernel_rfl) (fun _ _ _ h => h) (Or.inl ⟨by rfl, ?_⟩) (by assumption) ?_
        rotate_left
        · (intro w hSw; (try dsimp only at hSw); go_simp; first | done | with_reducible rfl)
        try simp only [Act.put, List.setIfInBounds_toArray, List.set_cons_zero, List.set_cons_succ]
        refine wpAnyH_ready (rs := [13]) (by kernel_rfl) (by simp) ?_
        refine AllReadyH.cons (o := { dst := some 48, op := Op.call { callee := Callee.value (Operand.func 26), args := #[Operand.tmp 47], argTypes := #[3] }, type := 9, pos := "opts.go:153", after := #[{ on := 12, ground := Ground.data }, { on := 8, ground := Ground.chain }], guard := none }) rfl (fun KK hKK => ?_) AllReadyH.nil
        go_simp
        with_reducible refine (HI3.out _ (HE1.out.below hz.out)).mono ?_
        rintro e w' ⟨rfl, hb⟩
        replace hz := Aside0.mk (below_step hz.out hb)
        clear hb
        go_wp2_with fail
        refine hKK.out _ _ ?_ (fun hHeld2 => ?_)
        · exact KC.out _ hz.out
        clear hKK KK hHeld
        have hHeld := hHeld2
        clear hHeld2
        try simp only [Act.put, List.setIfInBounds_toArray, List.set_cons_zero, List.set_cons_succ]
        refine wpAnyH_take (i := 14) (oi := { dst := some 49, op := Op.binOp BinOp.add 9 (Operand.tmp 45) (Operand.tmp 48) 9, type := 9, pos := "opts.go:153", after := #[{ on := 10, ground := Ground.data }, { on := 13, ground := Ground.data }], guard := none }) (v := ?_) rfl (by kernel_rfl) (by kernel_rfl) (by kernel_rfl) (fun _ _ _ h => h) (Or.inl ⟨by rfl, ?_⟩) (by assumption) ?_
        rotate_left
        · (intro w hSw; (try dsimp only at hSw); go_simp; first | done | with_reducible rfl)
        try simp only [Act.put, List.setIfInBounds_toArray, List.set_cons_zero, List.set_cons_succ]
        refine wpAnyH_take (i := 15) (oi := { dst := some 50, op := Op.binOp BinOp.add 9 (Operand.tmp 35) (Operand.tmp 49) 9, type := 9, pos := "opts.go:153", after := #[{ on := 0, ground := Ground.data }, { on := 14, ground := Ground.data }], guard := none }) (v := ?_) rfl (by kernel_rfl) (by kernel_rfl) (by kernel_rfl) (fun _ _ _ h => h) (Or.inl ⟨by rfl, ?_⟩) (by assumption) ?_
        rotate_left
        · (intro w hSw; (try dsimp only at hSw); go_simp; first | done | with_reducible rfl)
        try simp only [Act.put, List.setIfInBounds_toArray, List.set_cons_zero, List.set_cons_succ]
        refine wpAnyH_take (i := 16) (oi := { dst := some 7, op := Op.assign (Operand.tmp 50), type := 9, pos := "opts.go:153", after := #[{ on := 15, ground := Ground.data }, { on := 13, ground := Ground.chain }, { on := 0, ground := Ground.phase }, { on := 1, ground := Ground.phase }, { on := 2, ground := Ground.phase }, { on := 3, ground := Ground.phase }, { on := 4, ground := Ground.phase }, { on := 5, ground := Ground.phase }, { on := 6, ground := Ground.phase }, { on := 7, ground := Ground.phase }, { on := 8, ground := Ground.phase }, { on := 9, ground := Ground.phase }, { on := 10, ground := Ground.phase }, { on := 11, ground := Ground.phase }, { on := 12, ground := Ground.phase }, { on := 13, ground := Ground.phase }, { on := 14, ground := Ground.phase }, { on := 15, ground := Ground.phase }], guard := none }) (v := ?_) rfl (by kernel_rfl) (by kernel_rfl) (by kernel_rfl) (fun _ _ _ h => h) (Or.inl ⟨by rfl, ?_⟩) (by assumption) ?_
        rotate_left
        · (intro w hSw; (try dsimp only at hSw); go_simp; first | done | with_reducible rfl)
        try simp only [Act.put, List.setIfInBounds_toArray, List.set_cons_zero, List.set_cons_succ]
        refine wpAnyH_done (by kernel_rfl) ?_ _
        go_wp2_with fail
        go_meet
        exact ⟨rfl, hz.out⟩
      · obtain rfl : ag = sn := by have := HAG.out; rw [if_neg h1, if_neg h2, List.append_nil] at this; exact this.symm
        have t1 : ((k : Int) == 1) = false := by rw [beq_eq_false_iff_ne]; omega
        have t2 : decide ((k : Int) = 1) = false := by rw [decide_eq_false_iff_not]; omega
        have t3 : ((k : Int) == 2) = false := by rw [beq_eq_false_iff_ne]; omega
        have t4 : decide ((k : Int) = 2) = false := by rw [decide_eq_false_iff_not]; omega
        clear h1 h2
        go_wp2_with fail
        go_meet
        exact ⟨rfl, Below.refl _ _⟩
  case rest =>
  obtain ⟨rfl, hb9⟩ := hcut
  have HP2 := Aside0.mk (HP1.out.below hb9)
  have HE2 := Aside0.mk (HE.out.below HP2.out.b)
  clear hb9 q0 q1 q2 q3
  obtain ⟨rn, hrn⟩ : ∃ rn, rulesL.getD r [] = rn := ⟨_, rfl⟩
  have HRN := Aside0.mk hrn
  have LR := rule_len r hr6
  rw [hrn] at LR
  have LV := vaB_len gr
  rw [HVA.out] at LV
  obtain ⟨a1, ha1⟩ : ∃ x, onB la = x := ⟨_, rfl⟩
  obtain ⟨a2, ha2⟩ : ∃ x, onB ph = x := ⟨_, rfl⟩
  obtain ⟨a3, ha3⟩ : ∃ x, onB ng = x := ⟨_, rfl⟩
  have HO1 := Aside0.mk (onOffW la)
  have HO2 := Aside0.mk (onOffW ph)
  have HO3 := Aside0.mk (onOffW ng)
  have M1 := onB_len la
  have M2 := onB_len ph
  have M3 := onB_len ng
  rw [ha1] at HO1 M1
  rw [ha2] at HO2 M2
  rw [ha3] at HO3 M3
  obtain ⟨y1, hy1⟩ : ∃ x, ([114, 117, 108, 101, 61] : Bs) ++ rn = x := ⟨_, rfl⟩
  obtain ⟨y2, hy2⟩ : ∃ x, ([118, 97, 108, 117, 101, 61] : Bs) ++ va = x := ⟨_, rfl⟩
  obtain ⟨y3, hy3⟩ : ∃ x, ([108, 97, 115, 116, 61] : Bs) ++ a1 = x := ⟨_, rfl⟩
  obtain ⟨y4, hy4⟩ : ∃ x, ([112, 104, 97, 115, 101, 61] : Bs) ++ a2 = x := ⟨_, rfl⟩
  obtain ⟨y5, hy5⟩ : ∃ x, ([110, 111, 103, 111, 111, 100, 115, 61] : Bs) ++ a3 = x := ⟨_, rfl⟩
  obtain ⟨y6, hy6⟩ : ∃ x, ([114, 101, 115, 116, 97, 114, 116, 61] : Bs) ++ ag = x := ⟨_, rfl⟩
  obtain ⟨y7, hy7⟩ : ∃ x, ([115, 116, 101, 112, 115, 61] : Bs) ++ i4 = x := ⟨_, rfl⟩
  have hR : Lib.join [y1, y2, y3, y4, y5, y6, y7] [32] = RR := by
    rw [← HRR.out]
    unfold printL wordsP
    have e1 : kRule ++ 61 :: rulesL.getD (r : Int).toNat [] = y1 := by rw [← hy1, ← hrn]; rfl
    have e2 : kValue ++ 61 :: vaB gr = y2 := by rw [← hy2, HVA.out]; rfl
    have e3 : kLast ++ 61 :: onB la = y3 := by rw [← hy3, ha1]; rfl
    have e4 : kPhase ++ 61 :: onB ph = y4 := by rw [← hy4, ha2]; rfl
    have e5 : kNogoods ++ 61 :: onB ng = y5 := by rw [← hy5, ha3]; rfl
    have e6 : kRestart ++ 61 :: schT (k : Int) u n d = y6 := by rw [← hy6, HAGS.out]; rfl
    have e7 : kSteps ++ 61 :: Lib.itoa (st : Int) = y7 := by rw [← hy7, HI4S.out]; rfl
    rw [← e1, ← e2, ← e3, ← e4, ← e5, ← e6, ← e7]
  have z1 : y1.length = 5 + rn.length := by rw [← hy1, List.length_append]; rfl
  have z2 : y2.length = 6 + va.length := by rw [← hy2, List.length_append]; rfl
  have z3 : y3.length = 5 + a1.length := by rw [← hy3, List.length_append]; rfl
  have z4 : y4.length = 6 + a2.length := by rw [← hy4, List.length_append]; rfl
  have z5 : y5.length = 8 + a3.length := by rw [← hy5, List.length_append]; rfl
  have z6 : y6.length = 8 + ag.length := by rw [← hy6, List.length_append]; rfl
  have z7 : y7.length = 6 + i4.length := by rw [← hy7, List.length_append]; rfl
  have HJ := Aside0.mk (joinW y1 y2 y3 y4 y5 y6 y7 RR hR (by rw [← hR, join_len]; omega))
  have r1 := addS hy1 (by omega)
  have r2 := addS hy2 (by omega)
  have r3 := addS hy3 (by omega)
  have r4 := addS hy4 (by omega)
  have r5 := addS hy5 (by omega)
  have r6 := addS hy6 (by omega)
  have r7 := addS hy7 (by omega)
  have k3 : (0 : Int) ≤ (r : Int) := by omega
  have k4 : (r : Int) < 6 := by omega
  have hz := Aside0.mk (below_drew (Below.refl wc.heap.size wc))
  have KC := Aside0.mk (fun (w9 : World) (h9 : Below wc.heap.size wc w9) => show w9.cell? ⟨w.heap.size, 0, none⟩ = some (.int .i64 r) ∧ w9.cell? ⟨w.heap.size, 1, none⟩ = some (.bool la) ∧ w9.cell? ⟨w.heap.size, 2, none⟩ = some (.bool ph) ∧ w9.cell? ⟨w.heap.size, 8, none⟩ = some (.bool ng) ∧ w9.cell? ⟨w.heap.size, 9, none⟩ = some (.int .i64 st) from ⟨blk_cell (HP2.out.below h9).g 0, blk_cell (HP2.out.below h9).g 1, blk_cell (HP2.out.below h9).g 2, blk_cell (HP2.out.below h9).g 8, blk_cell (HP2.out.below h9).g 9⟩)
  clear z1 z2 z3 z4 z5 z6 z7 hR hy1 hy2 hy3 hy4 hy5 hy6 hy7 ha1 ha2 ha3 hrn LU L2 L3 L4 LS LAG LR LV M1 M2 M3
  go_upto_region 14 with fail
  refine wp_region_held_drew (S := fun w' => w'.cell? ⟨w.heap.size, 0, none⟩ = some (.int .i64 r) ∧ w'.cell? ⟨w.heap.size, 1, none⟩ = some (.bool la) ∧ w'.cell? ⟨w.heap.size, 2, none⟩ = some (.bool ph) ∧ w'.cell? ⟨w.heap.size, 8, none⟩ = some (.bool ng) ∧ w'.cell? ⟨w.heap.size, 9, none⟩ = some (.int .i64 st)) (by kernel_rfl) ?_ (fun hHeld => ?_)
  · exact KC.out _ hz.out
  generalize wc.drew = wd at *
  refine wpAnyH_take (i := 1) (oi := { dst := some 52, op := Op.fieldAddr 29 (Operand.tmp 1) 0, type := 0, pos := "opts.go:155", after := #[], guard := none }) (v := ?_) rfl (by kernel_rfl) (by kernel_rfl) (by kernel_rfl) (fun _ _ _ h => h) (Or.inl ⟨by rfl, ?_⟩) (by assumption) ?_
  rotate_left
  · (intro w hSw; (try dsimp only at hSw); go_simp; first | done | with_reducible rfl)
  try simp only [Act.put, List.setIfInBounds_toArray, List.set_cons_zero, List.set_cons_succ]
  refine wpAnyH_take (i := 2) (oi := { dst := some 53, op := Op.fieldAddr 24 (Operand.tmp 52) 0, type := 0, pos := "opts.go:155", after := #[{ on := 1, ground := Ground.data }], guard := none }) (v := ?_) rfl (by kernel_rfl) (by kernel_rfl) (by kernel_rfl) (fun _ _ _ h => h) (Or.inl ⟨by rfl, ?_⟩) (by assumption) ?_
  rotate_left
  · (intro w hSw; (try dsimp only at hSw); go_simp; first | done | with_reducible rfl)
  try simp only [Act.put, List.setIfInBounds_toArray, List.set_cons_zero, List.set_cons_succ]
  refine wpAnyH_take (i := 3) (oi := { dst := some 54, op := Op.load 22 (Operand.tmp 53), type := 22, pos := "opts.go:155", after := #[{ on := 2, ground := Ground.data }], guard := none }) (v := ?_) rfl (by kernel_rfl) (by kernel_rfl) (by kernel_rfl) (fun _ _ _ h => h) (Or.inl ⟨by rfl, ?_⟩) (by assumption) ?_
  rotate_left
  · (intro w hSw; (try dsimp only at hSw); go_simp; first | done | with_reducible rfl)
  try simp only [Act.put, List.setIfInBounds_toArray, List.set_cons_zero, List.set_cons_succ]
  refine wpAnyH_take (i := 7) (oi := { dst := some 58, op := Op.move (Operand.tmp 5), type := 9, pos := "opts.go:155", after := #[], guard := none }) (v := ?_) rfl (by kernel_rfl) (by kernel_rfl) (by kernel_rfl) (fun _ _ _ h => h) (Or.inl ⟨by rfl, ?_⟩) (by assumption) ?_
  rotate_left
  · (intro w hSw; (try dsimp only at hSw); go_simp; first | done | with_reducible rfl)
  try simp only [Act.put, List.setIfInBounds_toArray, List.set_cons_zero, List.set_cons_succ]
  refine wpAnyH_take (i := 8) (oi := { dst := some 59, op := Op.binOp BinOp.add 9 (Operand.const (Value.string { data := #[118, 97, 108, 117, 101, 61] })) (Operand.tmp 58) 9, type := 9, pos := "opts.go:155", after := #[{ on := 7, ground := Ground.data }], guard := none }) (v := ?_) rfl (by kernel_rfl) (by kernel_rfl) (by kernel_rfl) (fun _ _ _ h => h) (Or.inl ⟨by rfl, ?_⟩) (by assumption) ?_
  rotate_left
  · (intro w hSw; (try dsimp only at hSw); go_simp; first | done | with_reducible rfl)
  try simp only [Act.put, List.setIfInBounds_toArray, List.set_cons_zero, List.set_cons_succ]
  refine wpAnyH_take (i := 9) (oi := { dst := some 60, op := Op.fieldAddr 29 (Operand.tmp 1) 0, type := 0, pos := "opts.go:155", after := #[], guard := none }) (v := ?_) rfl (by kernel_rfl) (by kernel_rfl) (by kernel_rfl) (fun _ _ _ h => h) (Or.inl ⟨by rfl, ?_⟩) (by assumption) ?_
  rotate_left
  · (intro w hSw; (try dsimp only at hSw); go_simp; first | done | with_reducible rfl)
  try simp only [Act.put, List.setIfInBounds_toArray, List.set_cons_zero, List.set_cons_succ]
  refine wpAnyH_take (i := 10) (oi := { dst := some 61, op := Op.fieldAddr 24 (Operand.tmp 60) 1, type := 0, pos := "opts.go:155", after := #[{ on := 9, ground := Ground.data }], guard := none }) (v := ?_) rfl (by kernel_rfl) (by kernel_rfl) (by kernel_rfl) (fun _ _ _ h => h) (Or.inl ⟨by rfl, ?_⟩) (by assumption) ?_
  rotate_left
  · (intro w hSw; (try dsimp only at hSw); go_simp; first | done | with_reducible rfl)
  try simp only [Act.put, List.setIfInBounds_toArray, List.set_cons_zero, List.set_cons_succ]
  refine wpAnyH_take (i := 11) (oi := { dst := some 62, op := Op.load 4 (Operand.tmp 61), type := 4, pos := "opts.go:155", after := #[{ on := 10, ground := Ground.data }], guard := none }) (v := ?_) rfl (by kernel_rfl) (by kernel_rfl) (by kernel_rfl) (fun _ _ _ h => h) (Or.inl ⟨by rfl, ?_⟩) (by assumption) ?_
  rotate_left
  · (intro w hSw; (try dsimp only at hSw); go_simp; first | done | with_reducible rfl)
  try simp only [Act.put, List.setIfInBounds_toArray, List.set_cons_zero, List.set_cons_succ]
  refine wpAnyH_take (i := 14) (oi := { dst := some 65, op := Op.fieldAddr 29 (Operand.tmp 1) 0, type := 0, pos := "opts.go:155", after := #[], guard := none }) (v := ?_) rfl (by kernel_rfl) (by kernel_rfl) (by kernel_rfl) (fun _ _ _ h => h) (Or.inl ⟨by rfl, ?_⟩) (by assumption) ?_
  rotate_left
  · (intro w hSw; (try dsimp only at hSw); go_simp; first | done | with_reducible rfl)
  try simp only [Act.put, List.setIfInBounds_toArray, List.set_cons_zero, List.set_cons_succ]
  refine wpAnyH_take (i := 15) (oi := { dst := some 66, op := Op.fieldAddr 24 (Operand.tmp 65) 2, type := 0, pos := "opts.go:155", after := #[{ on := 14, ground := Ground.data }], guard := none }) (v := ?_) rfl (by kernel_rfl) (by kernel_rfl) (by kernel_rfl) (fun _ _ _ h => h) (Or.inl ⟨by rfl, ?_⟩) (by assumption) ?_
  rotate_left
  · (intro w hSw; (try dsimp only at hSw); go_simp; first | done | with_reducible rfl)
  try simp only [Act.put, List.setIfInBounds_toArray, List.set_cons_zero, List.set_cons_succ]
  refine wpAnyH_take (i := 16) (oi := { dst := some 67, op := Op.load 4 (Operand.tmp 66), type := 4, pos := "opts.go:155", after := #[{ on := 15, ground := Ground.data }], guard := none }) (v := ?_) rfl (by kernel_rfl) (by kernel_rfl) (by kernel_rfl) (fun _ _ _ h => h) (Or.inl ⟨by rfl, ?_⟩) (by assumption) ?_
  rotate_left
  · (intro w hSw; (try dsimp only at hSw); go_simp; first | done | with_reducible rfl)
  try simp only [Act.put, List.setIfInBounds_toArray, List.set_cons_zero, List.set_cons_succ]
  refine wpAnyH_take (i := 19) (oi := { dst := some 70, op := Op.fieldAddr 29 (Operand.tmp 1) 2, type := 0, pos := "opts.go:155", after := #[], guard := none }) (v := ?_) rfl (by kernel_rfl) (by kernel_rfl) (by kernel_rfl) (fun _ _ _ h => h) (Or.inl ⟨by rfl, ?_⟩) (by assumption) ?_
  rotate_left
  · (intro w hSw; (try dsimp only at hSw); go_simp; first | done | with_reducible rfl)
  try simp only [Act.put, List.setIfInBounds_toArray, List.set_cons_zero, List.set_cons_succ]
  refine wpAnyH_take (i := 20) (oi := { dst := some 71, op := Op.load 4 (Operand.tmp 70), type := 4, pos := "opts.go:155", after := #[{ on := 19, ground := Ground.data }], guard := none }) (v := ?_) rfl (by kernel_rfl) (by kernel_rfl) (by kernel_rfl) (fun _ _ _ h => h) (Or.inl ⟨by rfl, ?_⟩) (by assumption) ?_
  rotate_left
  · (intro w hSw; (try dsimp only at hSw); go_simp; first | done | with_reducible rfl)
  try simp only [Act.put, List.setIfInBounds_toArray, List.set_cons_zero, List.set_cons_succ]
  refine wpAnyH_take (i := 23) (oi := { dst := some 74, op := Op.move (Operand.tmp 7), type := 9, pos := "opts.go:155", after := #[], guard := none }) (v := ?_) rfl (by kernel_rfl) (by kernel_rfl) (by kernel_rfl) (fun _ _ _ h => h) (Or.inl ⟨by rfl, ?_⟩) (by assumption) ?_
  rotate_left
  · (intro w hSw; (try dsimp only at hSw); go_simp; first | done | with_reducible rfl)
  try simp only [Act.put, List.setIfInBounds_toArray, List.set_cons_zero, List.set_cons_succ]
  refine wpAnyH_take (i := 24) (oi := { dst := some 75, op := Op.binOp BinOp.add 9 (Operand.const (Value.string { data := #[114, 101, 115, 116, 97, 114, 116, 61] })) (Operand.tmp 74) 9, type := 9, pos := "opts.go:155", after := #[{ on := 23, ground := Ground.data }], guard := none }) (v := ?_) rfl (by kernel_rfl) (by kernel_rfl) (by kernel_rfl) (fun _ _ _ h => h) (Or.inl ⟨by rfl, ?_⟩) (by assumption) ?_
  rotate_left
  · (intro w hSw; (try dsimp only at hSw); go_simp; first | done | with_reducible rfl)
  try simp only [Act.put, List.setIfInBounds_toArray, List.set_cons_zero, List.set_cons_succ]
  refine wpAnyH_take (i := 25) (oi := { dst := some 76, op := Op.fieldAddr 29 (Operand.tmp 1) 3, type := 0, pos := "opts.go:155", after := #[], guard := none }) (v := ?_) rfl (by kernel_rfl) (by kernel_rfl) (by kernel_rfl) (fun _ _ _ h => h) (Or.inl ⟨by rfl, ?_⟩) (by assumption) ?_
  rotate_left
  · (intro w hSw; (try dsimp only at hSw); go_simp; first | done | with_reducible rfl)
  try simp only [Act.put, List.setIfInBounds_toArray, List.set_cons_zero, List.set_cons_succ]
  refine wpAnyH_take (i := 26) (oi := { dst := some 77, op := Op.load 3 (Operand.tmp 76), type := 3, pos := "opts.go:155", after := #[{ on := 25, ground := Ground.data }], guard := none }) (v := ?_) rfl (by kernel_rfl) (by kernel_rfl) (by kernel_rfl) (fun _ _ _ h => h) (Or.inl ⟨by rfl, ?_⟩) (by assumption) ?_
  rotate_left
  · (intro w hSw; (try dsimp only at hSw); go_simp; first | done | with_reducible rfl)
  try simp only [Act.put, List.setIfInBounds_toArray, List.set_cons_zero, List.set_cons_succ]
  refine wpAnyH_ready (rs := [0]) (by kernel_rfl) (by simp) ?_
  refine AllReadyH.cons (o := { dst := some 51, op := Op.call { callee := Callee.value (Operand.func 27), args := #[], argTypes := #[] }, type := 48, pos := "opts.go:155", after := #[], guard := none }) rfl (fun KK hKK => ?_) AllReadyH.nil
  go_simp
  with_reducible refine (rulesW _).mono ?_
  rintro e w' ⟨rfl, rfl⟩
  replace hz := Aside0.mk (below_alloc hz.out rulesO)
  have hy := Aside0.mk (Below.refl (wd.alloc rulesO).heap.size (wd.alloc rulesO))
  have KD := Aside0.mk (fun (w9 : World) (h9 : Below wc.heap.size wc w9) (h8 : Below (wd.alloc rulesO).heap.size (wd.alloc rulesO) w9) => show (fun w' => w'.cell? ⟨w.heap.size, 0, none⟩ = some (.int .i64 r) ∧ w'.cell? ⟨w.heap.size, 1, none⟩ = some (.bool la) ∧ w'.cell? ⟨w.heap.size, 2, none⟩ = some (.bool ph) ∧ w'.cell? ⟨w.heap.size, 8, none⟩ = some (.bool ng) ∧ w'.cell? ⟨w.heap.size, 9, none⟩ = some (.int .i64 st) ∧ w'.cell? ⟨wd.heap.size, r, none⟩ = some (.string ⟨rn.toArray⟩)) w9 from (have q := KC.out w9 h9; ⟨q.1, q.2.1, q.2.2.1, q.2.2.2.1, q.2.2.2.2, by rw [← HRN.out]; exact rule_at wd _ h8 r hr6⟩))
  go_wp2_with fail
  refine hKK.out _ _ ?_ (fun hHeld2 => ?_)
  · first | exact KC.out _ hz.out | exact KD.out _ hz.out hy.out
  clear hKK KK hHeld
  have hHeld := hHeld2
  clear hHeld2
  try simp only [Act.put, List.setIfInBounds_toArray, List.set_cons_zero, List.set_cons_succ]
  refine wpAnyH_grow (S' := fun w' => w'.cell? ⟨w.heap.size, 0, none⟩ = some (.int .i64 r) ∧ w'.cell? ⟨w.heap.size, 1, none⟩ = some (.bool la) ∧ w'.cell? ⟨w.heap.size, 2, none⟩ = some (.bool ph) ∧ w'.cell? ⟨w.heap.size, 8, none⟩ = some (.bool ng) ∧ w'.cell? ⟨w.heap.size, 9, none⟩ = some (.int .i64 st) ∧ w'.cell? ⟨wd.heap.size, r, none⟩ = some (.string ⟨rn.toArray⟩)) (fun _ h => ⟨h.1, h.2.1, h.2.2.1, h.2.2.2.1, h.2.2.2.2.1⟩) _ _ _ _ ?_
  have hHeld2 := KD.out _ hz.out hy.out
  clear hHeld
  have hHeld := hHeld2
  clear hHeld2
  refine wpAnyH_take (i := 4) (oi := { dst := some 55, op := Op.indexAddr 48 (Operand.tmp 51) (Operand.tmp 54), type := 0, pos := "opts.go:155", after := #[{ on := 0, ground := Ground.data }, { on := 3, ground := Ground.data }], guard := none }) (v := ?_) rfl (by kernel_rfl) (by kernel_rfl) (by kernel_rfl) (fun _ _ _ h => h) (Or.inl ⟨by rfl, ?_⟩) (by assumption) ?_
  rotate_left
  · (intro w hSw; (try dsimp only at hSw); go_simp; first | done | with_reducible rfl)
  try simp only [Act.put, List.setIfInBounds_toArray, List.set_cons_zero, List.set_cons_succ]
  refine wpAnyH_take (i := 5) (oi := { dst := some 56, op := Op.load 9 (Operand.tmp 55), type := 9, pos := "opts.go:155", after := #[{ on := 4, ground := Ground.data }], guard := none }) (v := ?_) rfl (by kernel_rfl) (by kernel_rfl) (by kernel_rfl) (fun _ _ _ h => h) (Or.inl ⟨by rfl, ?_⟩) (by assumption) ?_
  rotate_left
  · (intro w hSw; (try dsimp only at hSw); go_simp; first | done | with_reducible rfl)
  try simp only [Act.put, List.setIfInBounds_toArray, List.set_cons_zero, List.set_cons_succ]
  refine wpAnyH_take (i := 6) (oi := { dst := some 57, op := Op.binOp BinOp.add 9 (Operand.const (Value.string { data := #[114, 117, 108, 101, 61] })) (Operand.tmp 56) 9, type := 9, pos := "opts.go:155", after := #[{ on := 5, ground := Ground.data }], guard := none }) (v := ?_) rfl (by kernel_rfl) (by kernel_rfl) (by kernel_rfl) (fun _ _ _ h => h) (Or.inl ⟨by rfl, ?_⟩) (by assumption) ?_
  rotate_left
  · (intro w hSw; (try dsimp only at hSw); go_simp; first | done | with_reducible rfl)
  try simp only [Act.put, List.setIfInBounds_toArray, List.set_cons_zero, List.set_cons_succ]
  refine wpAnyH_ready (rs := [12]) (by kernel_rfl) (by simp) ?_
  refine AllReadyH.cons (o := { dst := some 63, op := Op.call { callee := Callee.value (Operand.func 28), args := #[Operand.tmp 62], argTypes := #[4] }, type := 9, pos := "opts.go:155", after := #[{ on := 11, ground := Ground.data }, { on := 0, ground := Ground.chain }], guard := none }) rfl (fun KK hKK => ?_) AllReadyH.nil
  go_simp
  with_reducible refine (HO1.out _).mono ?_
  rintro e w' ⟨rfl, rfl⟩
  go_wp2_with fail
  refine hKK.out _ _ ?_ (fun hHeld2 => ?_)
  · first | exact KC.out _ hz.out | exact KD.out _ hz.out hy.out
  clear hKK KK hHeld
  have hHeld := hHeld2
  clear hHeld2
  try simp only [Act.put, List.setIfInBounds_toArray, List.set_cons_zero, List.set_cons_succ]
  refine wpAnyH_take (i := 13) (oi := { dst := some 64, op := Op.binOp BinOp.add 9 (Operand.const (Value.string { data := #[108, 97, 115, 116, 61] })) (Operand.tmp 63) 9, type := 9, pos := "opts.go:155", after := #[{ on := 12, ground := Ground.data }], guard := none }) (v := ?_) rfl (by kernel_rfl) (by kernel_rfl) (by kernel_rfl) (fun _ _ _ h => h) (Or.inl ⟨by rfl, ?_⟩) (by assumption) ?_
  rotate_left
  · (intro w hSw; (try dsimp only at hSw); go_simp; first | done | with_reducible rfl)
  try simp only [Act.put, List.setIfInBounds_toArray, List.set_cons_zero, List.set_cons_succ]
  refine wpAnyH_ready (rs := [17]) (by kernel_rfl) (by simp) ?_
  refine AllReadyH.cons (o := { dst := some 68, op := Op.call { callee := Callee.value (Operand.func 28), args := #[Operand.tmp 67], argTypes := #[4] }, type := 9, pos := "opts.go:155", after := #[{ on := 16, ground := Ground.data }, { on := 12, ground := Ground.chain }], guard := none }) rfl (fun KK hKK => ?_) AllReadyH.nil
  go_simp
  with_reducible refine (HO2.out _).mono ?_
  rintro e w' ⟨rfl, rfl⟩
  go_wp2_with fail
  refine hKK.out _ _ ?_ (fun hHeld2 => ?_)
  · first | exact KC.out _ hz.out | exact KD.out _ hz.out hy.out
  clear hKK KK hHeld
  have hHeld := hHeld2
  clear hHeld2
  try simp only [Act.put, List.setIfInBounds_toArray, List.set_cons_zero, List.set_cons_succ]
  refine wpAnyH_take (i := 18) (oi := { dst := some 69, op := Op.binOp BinOp.add 9 (Operand.const (Value.string { data := #[112, 104, 97, 115, 101, 61] })) (Operand.tmp 68) 9, type := 9, pos := "opts.go:155", after := #[{ on := 17, ground := Ground.data }], guard := none }) (v := ?_) rfl (by kernel_rfl) (by kernel_rfl) (by kernel_rfl) (fun _ _ _ h => h) (Or.inl ⟨by rfl, ?_⟩) (by assumption) ?_
  rotate_left
  · (intro w hSw; (try dsimp only at hSw); go_simp; first | done | with_reducible rfl)
  try simp only [Act.put, List.setIfInBounds_toArray, List.set_cons_zero, List.set_cons_succ]
  refine wpAnyH_ready (rs := [21]) (by kernel_rfl) (by simp) ?_
  refine AllReadyH.cons (o := { dst := some 72, op := Op.call { callee := Callee.value (Operand.func 28), args := #[Operand.tmp 71], argTypes := #[4] }, type := 9, pos := "opts.go:155", after := #[{ on := 20, ground := Ground.data }, { on := 17, ground := Ground.chain }], guard := none }) rfl (fun KK hKK => ?_) AllReadyH.nil
  go_simp
  with_reducible refine (HO3.out _).mono ?_
  rintro e w' ⟨rfl, rfl⟩
  go_wp2_with fail
  refine hKK.out _ _ ?_ (fun hHeld2 => ?_)
  · first | exact KC.out _ hz.out | exact KD.out _ hz.out hy.out
  clear hKK KK hHeld
  have hHeld := hHeld2
  clear hHeld2
  try simp only [Act.put, List.setIfInBounds_toArray, List.set_cons_zero, List.set_cons_succ]
  refine wpAnyH_take (i := 22) (oi := { dst := some 73, op := Op.binOp BinOp.add 9 (Operand.const (Value.string { data := #[110, 111, 103, 111, 111, 100, 115, 61] })) (Operand.tmp 72) 9, type := 9, pos := "opts.go:155", after := #[{ on := 21, ground := Ground.data }], guard := none }) (v := ?_) rfl (by kernel_rfl) (by kernel_rfl) (by kernel_rfl) (fun _ _ _ h => h) (Or.inl ⟨by rfl, ?_⟩) (by assumption) ?_
  rotate_left
  · (intro w hSw; (try dsimp only at hSw); go_simp; first | done | with_reducible rfl)
  try simp only [Act.put, List.setIfInBounds_toArray, List.set_cons_zero, List.set_cons_succ]
  refine wpAnyH_ready (rs := [27]) (by kernel_rfl) (by simp) ?_
  refine AllReadyH.cons (o := { dst := some 78, op := Op.call { callee := Callee.value (Operand.func 26), args := #[Operand.tmp 77], argTypes := #[3] }, type := 9, pos := "opts.go:155", after := #[{ on := 26, ground := Ground.data }, { on := 21, ground := Ground.chain }], guard := none }) rfl (fun KK hKK => ?_) AllReadyH.nil
  go_simp
  with_reducible refine (HI4.out _ (HE2.out.below hz.out)).mono ?_
  rintro e w' ⟨rfl, hb⟩
  replace hz := Aside0.mk (below_step hz.out hb)
  replace hy := Aside0.mk (below_step hy.out hb)
  clear hb
  go_wp2_with fail
  refine hKK.out _ _ ?_ (fun hHeld2 => ?_)
  · first | exact KC.out _ hz.out | exact KD.out _ hz.out hy.out
  clear hKK KK hHeld
  have hHeld := hHeld2
  clear hHeld2
  try simp only [Act.put, List.setIfInBounds_toArray, List.set_cons_zero, List.set_cons_succ]
  refine wpAnyH_take (i := 28) (oi := { dst := some 79, op := Op.binOp BinOp.add 9 (Operand.const (Value.string { data := #[115, 116, 101, 112, 115, 61] })) (Operand.tmp 78) 9, type := 9, pos := "opts.go:155", after := #[{ on := 27, ground := Ground.data }], guard := none }) (v := ?_) rfl (by kernel_rfl) (by kernel_rfl) (by kernel_rfl) (fun _ _ _ h => h) (Or.inl ⟨by rfl, ?_⟩) (by assumption) ?_
  rotate_left
  · (intro w hSw; (try dsimp only at hSw); go_simp; first | done | with_reducible rfl)
  try simp only [Act.put, List.setIfInBounds_toArray, List.set_cons_zero, List.set_cons_succ]
  refine wpAnyH_ready (rs := [29]) (by kernel_rfl) (by simp) ?_
  refine AllReadyH.cons (o := { dst := some 80, op := Op.buildSlice 48 7 #[(0, Operand.tmp 57), (1, Operand.tmp 59), (2, Operand.tmp 64), (3, Operand.tmp 69), (4, Operand.tmp 73), (5, Operand.tmp 75), (6, Operand.tmp 79)], type := 48, pos := "opts.go:155", after := #[{ on := 6, ground := Ground.data }, { on := 8, ground := Ground.data }, { on := 13, ground := Ground.data }, { on := 18, ground := Ground.data }, { on := 22, ground := Ground.data }, { on := 24, ground := Ground.data }, { on := 28, ground := Ground.data }], guard := none }) rfl (fun KK hKK => ?_) AllReadyH.nil
  go_simp
  refine hKK.out _ _ ?_ (fun hHeld2 => ?_)
  · exact KD.out _ (below_alloc hz.out _) (below_alloc hy.out _)
  clear hKK KK hHeld
  have hHeld := hHeld2
  clear hHeld2
  try simp only [Act.put, List.setIfInBounds_toArray, List.set_cons_zero, List.set_cons_succ]
  refine wpAnyH_ready (rs := [30]) (by kernel_rfl) (by simp) ?_
  refine AllReadyH.cons (o := { dst := some 81, op := Op.call { callee := Callee.value (Operand.func 17), args := #[Operand.tmp 80, Operand.const (Value.string { data := #[32] })], argTypes := #[48, 9] }, type := 9, pos := "opts.go:155", after := #[{ on := 29, ground := Ground.data }, { on := 27, ground := Ground.chain }], guard := none }) rfl (fun KK hKK => ?_) AllReadyH.nil
  go_simp
  with_reducible refine (HJ.out _).mono ?_
  rintro e w' ⟨rfl, hb⟩
  replace hz := Aside0.mk (below_step hz.out hb)
  replace hy := Aside0.mk (below_step hy.out hb)
  clear hb
  go_wp2_with fail
  refine hKK.out _ _ ?_ (fun hHeld2 => ?_)
  · first | exact KC.out _ hz.out | exact KD.out _ hz.out hy.out
  clear hKK KK hHeld
  have hHeld := hHeld2
  clear hHeld2
  try simp only [Act.put, List.setIfInBounds_toArray, List.set_cons_zero, List.set_cons_succ]
  refine wpAnyH_take (i := 31) (oi := { dst := some 2, op := Op.assign (Operand.tmp 81), type := 9, pos := "opts.go:155", after := #[{ on := 30, ground := Ground.data }, { on := 30, ground := Ground.chain }, { on := 0, ground := Ground.phase }, { on := 1, ground := Ground.phase }, { on := 2, ground := Ground.phase }, { on := 3, ground := Ground.phase }, { on := 4, ground := Ground.phase }, { on := 5, ground := Ground.phase }, { on := 6, ground := Ground.phase }, { on := 7, ground := Ground.phase }, { on := 8, ground := Ground.phase }, { on := 9, ground := Ground.phase }, { on := 10, ground := Ground.phase }, { on := 11, ground := Ground.phase }, { on := 12, ground := Ground.phase }, { on := 13, ground := Ground.phase }, { on := 14, ground := Ground.phase }, { on := 15, ground := Ground.phase }, { on := 16, ground := Ground.phase }, { on := 17, ground := Ground.phase }, { on := 18, ground := Ground.phase }, { on := 19, ground := Ground.phase }, { on := 20, ground := Ground.phase }, { on := 21, ground := Ground.phase }, { on := 22, ground := Ground.phase }, { on := 23, ground := Ground.phase }, { on := 24, ground := Ground.phase }, { on := 25, ground := Ground.phase }, { on := 26, ground := Ground.phase }, { on := 27, ground := Ground.phase }, { on := 28, ground := Ground.phase }, { on := 29, ground := Ground.phase }, { on := 30, ground := Ground.phase }], guard := none }) (v := ?_) rfl (by kernel_rfl) (by kernel_rfl) (by kernel_rfl) (fun _ _ _ h => h) (Or.inl ⟨by rfl, ?_⟩) (by assumption) ?_
  rotate_left
  · (intro w hSw; (try dsimp only at hSw); go_simp; first | done | with_reducible rfl)
  try simp only [Act.put, List.setIfInBounds_toArray, List.set_cons_zero, List.set_cons_succ]
  refine wpAnyH_take (i := 32) (oi := { dst := some 3, op := Op.assign (Operand.const (Value.int IntKind.i64 0)), type := 30, pos := "opts.go:155", after := #[{ on := 31, ground := Ground.chain }, { on := 0, ground := Ground.phase }, { on := 1, ground := Ground.phase }, { on := 2, ground := Ground.phase }, { on := 3, ground := Ground.phase }, { on := 4, ground := Ground.phase }, { on := 5, ground := Ground.phase }, { on := 6, ground := Ground.phase }, { on := 7, ground := Ground.phase }, { on := 8, ground := Ground.phase }, { on := 9, ground := Ground.phase }, { on := 10, ground := Ground.phase }, { on := 11, ground := Ground.phase }, { on := 12, ground := Ground.phase }, { on := 13, ground := Ground.phase }, { on := 14, ground := Ground.phase }, { on := 15, ground := Ground.phase }, { on := 16, ground := Ground.phase }, { on := 17, ground := Ground.phase }, { on := 18, ground := Ground.phase }, { on := 19, ground := Ground.phase }, { on := 20, ground := Ground.phase }, { on := 21, ground := Ground.phase }, { on := 22, ground := Ground.phase }, { on := 23, ground := Ground.phase }, { on := 24, ground := Ground.phase }, { on := 25, ground := Ground.phase }, { on := 26, ground := Ground.phase }, { on := 27, ground := Ground.phase }, { on := 28, ground := Ground.phase }, { on := 29, ground := Ground.phase }, { on := 30, ground := Ground.phase }, { on := 31, ground := Ground.phase }], guard := none }) (v := ?_) rfl (by kernel_rfl) (by kernel_rfl) (by kernel_rfl) (fun _ _ _ h => h) (Or.inl ⟨by rfl, ?_⟩) (by assumption) ?_
  rotate_left
  · (intro w hSw; (try dsimp only at hSw); go_simp; first | done | with_reducible rfl)
  try simp only [Act.put, List.setIfInBounds_toArray, List.set_cons_zero, List.set_cons_succ]
  refine wpAnyH_done (by kernel_rfl) ?_ _
  go_wp2_with fail
  go_ret2
  exact ⟨rfl, below_step HP2.out.b hz.out⟩
theorem good_nat (o : Ov) (h : goodL o = true) : ∃ r k u n d st : Nat, o = ⟨r, o.gr, o.la, o.ph, o.ng, k, u, n, d, st⟩ ∧ r < 6 ∧ k < 5 ∧ u ≤ 1000000 ∧ n ≤ 1000000 ∧ d ≤ 1000000 ∧ st ≤ 1000000 := by
  obtain ⟨r, gr, la, ph, ng, k, u, n, d, st⟩ := o
  rw [goodL_is] at h
  unfold checkB at h
  rw [Bool.and_eq_true, decide_eq_true_eq] at h
  obtain ⟨h1, h2⟩ := h
  have hsk := (schOk_iff _ _ _ _).1 h1
  simp only at hsk h2 ⊢
  obtain ⟨r, rfl⟩ := Int.eq_ofNat_of_zero_le (show 0 ≤ r by omega)
  obtain ⟨k, rfl⟩ := Int.eq_ofNat_of_zero_le (show 0 ≤ k by omega)
  obtain ⟨u, rfl⟩ := Int.eq_ofNat_of_zero_le (show 0 ≤ u by omega)
  obtain ⟨n, rfl⟩ := Int.eq_ofNat_of_zero_le (show 0 ≤ n by omega)
  obtain ⟨d, rfl⟩ := Int.eq_ofNat_of_zero_le (show 0 ≤ d by omega)
  obtain ⟨st, rfl⟩ := Int.eq_ofNat_of_zero_le (show 0 ≤ st by omega)
  exact ⟨r, k, u, n, d, st, rfl, by omega, by omega, by omega, by omega, by omega, by omega⟩
def printR (o : Ov) : Bs × Int := if goodL o = true then (printL o, 0) else ([], 2)
theorem printW (o : Ov) (w : World) (hE : Env w) : Calls Tryz.prog 11 #[.agg o.pc] w (PPr (printR o) w) := by
  unfold printR
  by_cases h : goodL o = true
  · rw [if_pos h]
    obtain ⟨r, k, u, n, d, st, he, _⟩ := good_nat o h
    rw [he] at h ⊢
    exact printGoodW r k u n d st _ _ _ _ h w hE
  · rw [if_neg h]
    exact printBadW o (by simpa using h) w
end Go.Proofs.YtdnllmngaljflaaGreatDoorX.Ho
