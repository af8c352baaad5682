-- Printed by wip/tools/hp.sh (functions of the translation, out of Lean's print of them).
import Derived.Test.YtgckohmppefibaaDoorNgFil
import Derived.Test.YtgckohmppefibaaDoorHzx0
import Derived.Test.YtgckohmppefibaaDoorShort
import Derived.Test.YtgckohmppefibaaDoorHzx4
import Derived.Test.YtgckohmppefibaaDoorHzx5
import Derived.Test.YtgckohmppefibaaDoorHzx7
namespace Go.Proofs.YtgckohmppefibaaDoorX.Hz
open Go.RowKit Go.Proofs.YtgckohmppefibaaDoorW.PrintWords Go.Proofs.YtgckohmppefibaaDoorW.PrintLast Go.Proofs.YtgckohmppefibaaDoorW.PrintMore
attribute [local go_sem] max2_int min2_int max_two min_two max_three min_three max_four min_four   -- for this text's walks alone
set_option linter.unusedVariables false
set_option linter.unusedSimpArgs false
attribute [local go_sem] Go.Proofs.YtgckohmppefibaaDoor.Hook.cell_two

theorem info31 : (Tryd.prog.info? 31).map (fun i => (i.zero, i.size, i.bytes)) = some (some (.agg #[(.int .i64 0), (.int .i64 0), (.bool false)]), 3, 24) := by kernel_rfl
theorem info33 : (Tryd.prog.info? 33).map (fun i => (i.zero, i.size, i.bytes)) = some (some (.agg #[(.int .i64 0), (.int .i64 0), (.bool false)]), 3, 24) := by kernel_rfl
/-! ### jigsawlaw24_wakes: function 8 -/
def jigsawlaw24_wakes.f : Option (Bool) := some true
theorem jigsawlaw24_wakes.calls (r : Bool) (w : World) (hT : Go.Proofs.YtgckohmppefibaaDoor.Tab w) (h : jigsawlaw24_wakes.f = some r) :
  Calls Tryd.prog 8 #[] w fun e w' => e = .returned (.bool r) ∧ Below w.heap.size w w' := by
 cases h
 exact wakes_ok w hT
/-! ### jigsawlaw24_NogoodFrom: function 3 -/
def jigsawlaw24_NogoodFrom.l0 : Nat → List (S31) → List (S33) → List (S27) → Int → Int → Option (Bool)
 | 0, _, _, _, _, _ => none
 | k + 1, x3, x4, x11, x12, x13 => if x13 < x12 then (if 0 ≤ x13 then (if x13 < (x11.length : Int) then (if x3.length < 5864062014805 then (if x4.length < 5864062014805 then (jigsawlaw24_NogoodFrom.l0 k (x3 ++ [(⟨(⟨wrap64 ((rd_T27 x11 x13).f0), wrap64 ((rd_T27 x11 x13).f1)⟩ : S29), (rd_T27 x11 x13).f2⟩ : S31)]) (x4 ++ [(⟨wrap64 ((rd_T27 x11 x13).f0), wrap64 ((rd_T27 x11 x13).f1), (rd_T27 x11 x13).f2⟩ : S33)]) x11 x12 (wrap64 (x13 + 1))) else (none)) else (none)) else (none)) else (none)) else ((jigsawlaw24_wakes.f).bind fun t275 => (if t275 = true then ((nogood_From.f k x3).bind fun t276 => ((jigsawref24_From.f k x4).bind fun t279 => ((jigsawlaw24_same.f k t276 t279).bind fun t282 => (some t282)))) else (some false)))
def jigsawlaw24_NogoodFrom.f (k : Nat) (l0 : List (S27)) : Option (Bool) := if 0 ≤ (mn (l0.length : Int) 20) then (if (mn (l0.length : Int) 20) ≤ (l0.length : Int) then ((some (l0.take ((mn (l0.length : Int) 20) : Int).toNat : List (S27))).bind fun y263 => (jigsawlaw24_NogoodFrom.l0 k ([] : List (S31)) ([] : List (S33)) y263 (y263.length : Int) 0)) else (none)) else (none)
theorem jigsawlaw24_NogoodFrom.mono_l : ∀ k, (∀ y0 y1 y2 y3 y4, LeO (jigsawlaw24_NogoodFrom.l0 k y0 y1 y2 y3 y4) (jigsawlaw24_NogoodFrom.l0 (k + 1) y0 y1 y2 y3 y4))
 | 0 => fun _ _ _ _ _ r h => by simp [jigsawlaw24_NogoodFrom.l0] at h
 | k + 1 => by
  have ih0 := jigsawlaw24_NogoodFrom.mono_l k
  ·intro y0 y1 y2 y3 y4
   unfold jigsawlaw24_NogoodFrom.l0
   repeat' first
   | (with_reducible exact ih0 _ _ _ _ _)
   | (with_reducible exact jigsawlaw24_same.mono _ _ _)
   | (with_reducible exact jigsawref24_From.mono _ _)
   | (with_reducible exact nogood_From.mono _ _)
   | (with_reducible exact LeO.refl _)
   | (with_reducible exact LeO.none _)
   | (with_reducible refine LeO.ite ?_ ?_)
   | (with_reducible refine LeO.bind ?_ (fun _ => ?_))
   | exact ih0 _ _ _ _ _
   | exact jigsawlaw24_same.mono _ _ _
   | exact jigsawref24_From.mono _ _
   | exact nogood_From.mono _ _
   | exact LeO.none _
   | refine LeO.ite ?_ ?_
   | refine LeO.bind ?_ (fun _ => ?_)
theorem jigsawlaw24_NogoodFrom.mono : ∀ a0 k, LeO (jigsawlaw24_NogoodFrom.f k a0) (jigsawlaw24_NogoodFrom.f (k + 1) a0) := by
 intro a0 k
 have ih0 := jigsawlaw24_NogoodFrom.mono_l k
 unfold jigsawlaw24_NogoodFrom.f
 repeat' first
   | (with_reducible exact ih0 _ _ _ _ _)
   | (with_reducible exact jigsawlaw24_same.mono _ _ _)
   | (with_reducible exact jigsawref24_From.mono _ _)
   | (with_reducible exact nogood_From.mono _ _)
   | (with_reducible exact LeO.refl _)
   | (with_reducible exact LeO.none _)
   | (with_reducible refine LeO.ite ?_ ?_)
   | (with_reducible refine LeO.bind ?_ (fun _ => ?_))
   | exact ih0 _ _ _ _ _
   | exact jigsawlaw24_same.mono _ _ _
   | exact jigsawref24_From.mono _ _
   | exact nogood_From.mono _ _
   | exact LeO.none _
   | refine LeO.ite ?_ ?_
   | refine LeO.bind ?_ (fun _ => ?_)
set_option maxHeartbeats 8000000 in
set_option maxRecDepth 100000 in
theorem jigsawlaw24_NogoodFrom.calls (k : Nat) (A0 : Option Addr) (c0 : Nat) (l0 : List (S27)) (r : Bool) (w : World) (hT : Go.Proofs.YtgckohmppefibaaDoor.Tab w) (hr0 : Kd.C k27 w A0 l0.length l0) (hc0 : l0.length ≤ c0) (h : jigsawlaw24_NogoodFrom.f k l0 = some r) :
  Calls Tryd.prog 3 #[.slice A0 l0.length c0] w fun e w' => e = .returned (.bool r) ∧ Below w.heap.size w w' := by
 have hu27 := Tryd.underlying27
 have hu29 := Tryd.underlying29
 have hu31 := Tryd.underlying31
 have hu33 := Tryd.underlying33
 have HT := Aside0.mk hT
 clear hT
 have HR0 := Aside0.mk hr0
 have HC0 := Aside0.mk hc0
 clear hr0 hc0
 have HB := Aside0.mk (Below.refl w.heap.size w)
 have H : (if 0 ≤ (mn (l0.length : Int) 20) then (if (mn (l0.length : Int) 20) ≤ (l0.length : Int) then ((some (l0.take ((mn (l0.length : Int) 20) : Int).toNat : List (S27))).bind fun y263 => (jigsawlaw24_NogoodFrom.l0 k ([] : List (S31)) ([] : List (S33)) y263 (y263.length : Int) 0)) else (none)) else (none)) = some r := h
 clear h
 obtain ⟨ji2, hji2⟩ : ∃ j_ : Int, (mn (l0.length : Int) 20) = j_ := ⟨_, rfl⟩
 replace H : (if 0 ≤ (ji2) then (if (ji2) ≤ (l0.length : Int) then ((some (l0.take ((ji2) : Int).toNat : List (S27))).bind fun y263 => (jigsawlaw24_NogoodFrom.l0 k ([] : List (S31)) ([] : List (S33)) y263 (y263.length : Int) 0)) else (none)) else (none)) = some r := by first | (rw [hji2] at H; exact H) | (simp only [hji2] at H ⊢; exact H)
 (try (have hji2h : ji2 ≤ 20 := by (rw [← hji2]; unfold mn; (repeat' split) <;> omega)))
 (try (have hji2g : ji2 ≤ 64 := by omega))
 (try (have hji2l : 0 ≤ ji2 := by (rw [← hji2]; unfold mn; (repeat' split) <;> omega)))
 (try (have hji2m : 0 ≤ ji2 := by omega))
 have hji2_ : (if 20 < (l0.length : Int) then 20 else (l0.length : Int)) = ji2 := hji2
 by_cases c3 : 0 ≤ (ji2)
 ·rw [if_pos c3] at H
  have c3b0 := eq_true c3
  have c3b1 : decide (0 ≤ (ji2)) = true := decide_eq_true c3
  clear c3
  by_cases c4 : (ji2) ≤ (l0.length : Int)
  ·rw [if_pos c4] at H
   have c4b0 := eq_true c4
   have c4b1 : decide ((ji2) ≤ (l0.length : Int)) = true := decide_eq_true c4
   clear c4
   obtain ⟨y263, hy263⟩ : ∃ y_ : List (S27), y_ = (l0.take ((ji2) : Int).toNat) := ⟨_, rfl⟩
   replace H : (jigsawlaw24_NogoodFrom.l0 k ([] : List (S31)) ([] : List (S33)) y263 (y263.length : Int) 0) = some r := by first | (rw [hy263]; with_reducible exact H) | (have H2_ := (Option.bind_some _ _).symm.trans H; rw [hy263]; with_reducible exact H2_) | (have H2_ := (Option.bind_some _ _).symm.trans H; with_reducible exact H2_) | with_reducible exact H | (rw [hy263]; exact H) | exact H
   have Ny263 := Aside0.mk hy263
   clear hy263
   have H' := Aside0.mk H
   clear H
   have q5 : ((ji2) : Int) ≤ ((l0.length : Int) : Int) := of_decide_eq_true (by first | (with_reducible assumption) | assumption)
   obtain ⟨i05, hi05, _, hsz5, _⟩ := info_parts info27
   have hroom5 : l0.length ≤ c0 := HC0.out
   have hC5 : Kd.C k27 _ A0 l0.length l0 := HR0.out
   have hcut5 := cut_to (P := Tryd.prog) 22 27 .i64 Tryd.underlying22 hi05 A0 l0.length c0 (ji2) (of_decide_eq_true (by first | (with_reducible assumption) | assumption)) q5 hroom5
   have hr5 := Kd.C_take (m := ((ji2) : Int).toNat) hC5 (by omega)
   have hy5 : y263.length = ((ji2) : Int).toNat := (by rw [Ny263.out, List.length_take]; omega)
   rw [← Ny263.out] at hr5
   rw [← hy5] at hcut5
   have HR266 := Aside0.mk hr5
   have HC266 := Aside0.mk (show y263.length ≤ c0 from by omega)
   clear hr5 hC5 hroom5 hi05 hsz5
   have KY5 := Aside0.mk hy5
   clear hy5
   replace q5 := eq_true q5
   go_enter Tryd.func3, Tryd.ntmps3
   go_wp2
   go_loopg [3, 4, 13] k (fun kq v3 v4 v13 w' => ∃ (x3_1 : List (S31)) (x4_1 : List (S33)) (x13_1 : Int), v13 = .int .i64 x13_1 ∧ Aside0 (jigsawlaw24_NogoodFrom.l0 kq x3_1 x4_1 y263 (y263.length : Int) x13_1 = some r) ∧ Aside0 (kq ≤ k) ∧ Aside0 (Kd.R k31 31 w' w.heap.size (fun _ => True) v3 x3_1) ∧ Aside0 (Kd.R k33 33 w' w.heap.size (fun _ => True) v4 x4_1) ∧ Aside0 (Below w.heap.size w w'))
   case atStart => exact ⟨(([] : List (S31))), (([] : List (S33))), (0), (by first | rfl | (simp; done) | (simp [*]; done)), H', ⟨Nat.le_refl _⟩, ⟨by first | exact Kd.R_nil _ _ _ _ _ | exact Kd.N_nil _ _ _ _ _ | exact Kd.V_nil _ _ _ _ _ | exact Kd.Q_nil _ _ _ _ _ | exact Kd.S_nil _ _ _ _ _⟩, ⟨by first | exact Kd.R_nil _ _ _ _ _ | exact Kd.N_nil _ _ _ _ _ | exact Kd.V_nil _ _ _ _ _ | exact Kd.Q_nil _ _ _ _ _ | exact Kd.S_nil _ _ _ _ _⟩, ⟨by repeat (first | (with_reducible first | exact HB.out | apply below_alloc | apply pw_below_drewN | apply below_drew1) | exact HB.out)⟩⟩
   case round =>
    clear H'
    try clear p2
    try clear c3
    try clear c3b0
    try clear c3b1
    try clear c4
    try clear c4b0
    try clear c4b1
    try clear q5
    try clear q5
    obtain ⟨x3_1, x4_1, x13_1, rfl, HA, HK1, HO_3, HO_4, HB⟩ := hrel
    cases gk with
    | zero => exact absurd HA.out (by simp [jigsawlaw24_NogoodFrom.l0])
    | succ k1 =>
     have H := HA.out
     clear HA
     simp only [jigsawlaw24_NogoodFrom.l0] at H
     by_cases c6 : x13_1 < (y263.length : Int)
     ·rw [if_pos c6] at H
      have c6b0 : decide (x13_1 < (y263.length : Int)) = true := decide_eq_true c6
      clear c6
      by_cases c7 : 0 ≤ x13_1
      ·rw [if_pos c7] at H
       have c7b0 : decide (0 ≤ x13_1) = true := decide_eq_true c7
       clear c7
       by_cases c8 : x13_1 < (y263.length : Int)
       ·rw [if_pos c8] at H
        have c8b0 : decide (x13_1 < (y263.length : Int)) = true := decide_eq_true c8
        clear c8
        by_cases c9 : x3_1.length < 5864062014805
        ·rw [if_pos c9] at H
         have LMc9 := Aside0.mk c9
         clear c9
         obtain ⟨y269, hy269⟩ : ∃ y_ : List (S31), y_ = (x3_1 ++ [(⟨(⟨wrap64 ((rd_T27 y263 x13_1).f0), wrap64 ((rd_T27 y263 x13_1).f1)⟩ : S29), (rd_T27 y263 x13_1).f2⟩ : S31)]) := ⟨_, rfl⟩
         replace H : (if x4_1.length < 5864062014805 then (jigsawlaw24_NogoodFrom.l0 k1 y269 (x4_1 ++ [(⟨wrap64 ((rd_T27 y263 x13_1).f0), wrap64 ((rd_T27 y263 x13_1).f1), (rd_T27 y263 x13_1).f2⟩ : S33)]) y263 (y263.length : Int) (wrap64 (x13_1 + 1))) else (none)) = some r := by first | (rw [hy269]; with_reducible exact H) | (have H2_ := (Option.bind_some _ _).symm.trans H; rw [hy269]; with_reducible exact H2_) | (have H2_ := (Option.bind_some _ _).symm.trans H; with_reducible exact H2_) | with_reducible exact H | (rw [hy269]; exact H) | exact H
         have Ny269 := Aside0.mk hy269
         clear hy269
         by_cases c10 : x4_1.length < 5864062014805
         ·rw [if_pos c10] at H
          have LMc10 := Aside0.mk c10
          clear c10
          obtain ⟨y272, hy272⟩ : ∃ y_ : List (S33), y_ = (x4_1 ++ [(⟨wrap64 ((rd_T27 y263 x13_1).f0), wrap64 ((rd_T27 y263 x13_1).f1), (rd_T27 y263 x13_1).f2⟩ : S33)]) := ⟨_, rfl⟩
          replace H : (jigsawlaw24_NogoodFrom.l0 k1 y269 y272 y263 (y263.length : Int) (wrap64 (x13_1 + 1))) = some r := by first | (rw [hy272]; with_reducible exact H) | (have H2_ := (Option.bind_some _ _).symm.trans H; rw [hy272]; with_reducible exact H2_) | (have H2_ := (Option.bind_some _ _).symm.trans H; with_reducible exact H2_) | with_reducible exact H | (rw [hy272]; exact H) | exact H
          have Ny272 := Aside0.mk hy272
          clear hy272
          have H' := Aside0.mk H
          clear H
          have p267 : 0 ≤ (x13_1 : Int) := of_decide_eq_true (by first | (with_reducible assumption) | assumption)
          have q267 : x13_1 < (y263.length : Int) := of_decide_eq_true (by first | (with_reducible assumption) | assumption)
          obtain ⟨ad267, e267, hx267_0, hx267_1, hx267_2⟩ := at_T27 HR266.out x13_1 p267 q267
          cases e267
          replace hx267_0 := (HB.out.cell (World.block_lt_of_cell? w _ hx267_0)).trans hx267_0
          replace hx267_1 := (HB.out.cell (World.block_lt_of_cell? w _ hx267_1)).trans hx267_1
          replace hx267_2 := (HB.out.cell (World.block_lt_of_cell? w _ hx267_2)).trans hx267_2
          replace p267 := eq_true p267
          replace q267 := eq_true q267
          go_wp2_with (first | ((with_reducible refine gate_dst (N := 6) rfl ?_); refine box_event ?hg (N := 6) ?hd (cs := #[.int .i8 0, .int .i8 0, .bool false]) (t := 27) ?hr ?_; (case hd => rfl); (case hg => rfl); (case hr => first | (go_simp; done) | (go_simp; rfl)); intro gb268 hg w11 hbox hb; have n0_ := Aside0.mk (Kd.R_below (by (with_reducible repeat (first | apply Kd.R_alloc | apply Kd.R_drewN | apply Kd.R_drew)); exact HO_3.out) hb); have n1_ := Aside0.mk (Kd.R_below (by (with_reducible repeat (first | apply Kd.R_alloc | apply Kd.R_drewN | apply Kd.R_drew)); exact HO_4.out) hb); have n2_ := Aside0.mk (below_step (by repeat (first | (with_reducible first | exact HB.out | apply below_alloc | apply pw_below_drewN | apply below_drew1) | exact HB.out)) hb); have n3_ := Aside0.mk (hbox); have n4_ := Aside0.mk ((by rw [hg]; exact (below_size (by repeat (first | (with_reducible first | exact HB.out | apply below_alloc | apply pw_below_drewN | apply below_drew1) | exact HB.out))) : w.heap.size ≤ gb268)); have n5_ := Aside0.mk ((by rw [hg]; exact (below_size (by repeat (first | (with_reducible first | exact HB.out | apply below_alloc | apply pw_below_drewN | apply below_drew1) | exact HB.out))) : w.heap.size ≤ gb268)); clear HO_3; clear HO_4; clear HB; have HO_3 := n0_; have HO_4 := n1_; have HB := n2_; have BK268 := n3_; have GW268 := n4_; have GE268 := n5_; clear n0_ n1_ n2_ n3_ n4_ n5_; clear hb hbox hg; have hcz12_0 : w11.cell? ⟨gb268, 0, none⟩ = some (.int .i8 0) := (blk_cell BK268.out 0).trans rfl; have hcz12_1 : w11.cell? ⟨gb268, 1, none⟩ = some (.int .i8 0) := (blk_cell BK268.out 1).trans rfl; have hcz12_2 : w11.cell? ⟨gb268, 2, none⟩ = some (.bool false) := (blk_cell BK268.out 2).trans rfl; have hfz12_0 := blk_frozen BK268.out 0; have hfz12_1 := blk_frozen BK268.out 1; have hfz12_2 := blk_frozen BK268.out 2) | ((with_reducible refine gate_builtin (b := .append) (xs := #[.tmp 17, .tmp 28]) rfl ?_); at_builtin; refine Kd.R_append k31 (w0 := w) w.heap.size rfl (.tmp 17) (.tmp 28) 23 31 (.agg #[(.int .i64 0), (.int .i64 0), (.bool false)]) 24 rfl Tryd.underlying23 info31 rfl (by decide) (by omega) u3 x3_1 (⟨(⟨wrap64 ((rd_T27 y263 x13_1).f0), wrap64 ((rd_T27 y263 x13_1).f1)⟩ : S29), (rd_T27 y263 x13_1).f2⟩ : S31) [.int .i64 (wrap64 ((rd_T27 y263 x13_1).f0)), .int .i64 (wrap64 ((rd_T27 y263 x13_1).f1)), .bool ((rd_T27 y263 x13_1).f2)] (fun _ => True) (fun _ => False) rfl (by first | (go_simp; done) | (go_simp; rfl)) ?aP (fun _ hk => hk.elim) ?aF ?aO ?aB ?aS ?aL ?_; (case aP => exact k31_mkM _ _ _ (⟨(⟨wrap64 ((rd_T27 y263 x13_1).f0), wrap64 ((rd_T27 y263 x13_1).f1)⟩ : S29), (rd_T27 y263 x13_1).f2⟩ : S31)); (case aB => exact (by repeat (first | (with_reducible first | exact HB.out | apply below_alloc | apply pw_below_drewN | apply below_drew1 | refine below_set ?_ GE268.out) | exact HB.out))); (case aF => exact (fun _ _ => trivial)); (case aO => exact (by (with_reducible repeat (first | apply Kd.R_alloc | apply Kd.R_drewN | apply Kd.R_drew)); exact Kd.R_mono (Kd.R_far (p := ⟨gb268, 2, none⟩) (Kd.R_far (p := ⟨gb268, 1, none⟩) (Kd.R_far (p := ⟨gb268, 0, none⟩) (Kd.R_types HO_3.out BK268.out (by decide)) (fun _ hk => hk.2) (.int .i8 ((rd_T27 y263 x13_1).f0))) (fun _ hk => hk.2) (.int .i8 ((rd_T27 y263 x13_1).f1))) (fun _ hk => hk.2) (.bool ((rd_T27 y263 x13_1).f2))) (fun _ hk => trivial))); (case aS => exact (below_size (by repeat (first | (with_reducible first | exact HB.out | apply below_alloc | apply pw_below_drewN | apply below_drew1 | refine below_set ?_ GE268.out) | exact HB.out)))); (case aL => have := LMc9.out; omega); intro v270 w13 ho hb hg hat; rw [← Ny269.out] at ho; have n0_ := Aside0.mk (Kd.R_over' (by (with_reducible repeat (first | apply Kd.R_alloc | apply Kd.R_drewN | apply Kd.R_drew)); exact (Kd.R_mono (Kd.R_far (p := ⟨gb268, 2, none⟩) (Kd.R_far (p := ⟨gb268, 1, none⟩) (Kd.R_far (p := ⟨gb268, 0, none⟩) (Kd.R_types HO_4.out BK268.out (by decide)) (fun _ hk => hk.2) (.int .i8 ((rd_T27 y263 x13_1).f0))) (fun _ hk => hk.2) (.int .i8 ((rd_T27 y263 x13_1).f1))) (fun _ hk => hk.2) (.bool ((rd_T27 y263 x13_1).f2))) (fun _ h_ => h_.1))) (Kd.R_typed (by (with_reducible repeat (first | apply Kd.R_alloc | apply Kd.R_drewN | apply Kd.R_drew)); exact (Kd.R_mono (Kd.R_far (p := ⟨gb268, 2, none⟩) (Kd.R_far (p := ⟨gb268, 1, none⟩) (Kd.R_far (p := ⟨gb268, 0, none⟩) (Kd.R_types HO_3.out BK268.out (by decide)) (fun _ hk => hk.2) (.int .i8 ((rd_T27 y263 x13_1).f0))) (fun _ hk => hk.2) (.int .i8 ((rd_T27 y263 x13_1).f1))) (fun _ hk => hk.2) (.bool ((rd_T27 y263 x13_1).f2))) (fun _ h_ => h_.1)))) (by decide) hg); have n1_ := Aside0.mk (blk_grown (g := gb268) (o := .cells #[.int .i8 ((rd_T27 y263 x13_1).f0), .int .i8 ((rd_T27 y263 x13_1).f1), .bool ((rd_T27 y263 x13_1).f2)] 27 (0, 0)) (by (with_reducible repeat (first | refine blk_drewN ?_ _ | refine blk_drew ?_ | refine blk_alloc ?_ _)); refine blk_put (cs := #[.int .i8 ((rd_T27 y263 x13_1).f0), .int .i8 ((rd_T27 y263 x13_1).f1), .bool false]) ?_ 2 _ rfl; (with_reducible repeat (first | refine blk_drewN ?_ _ | refine blk_drew ?_ | refine blk_alloc ?_ _)); refine blk_put (cs := #[.int .i8 ((rd_T27 y263 x13_1).f0), .int .i8 0, .bool false]) ?_ 1 _ rfl; (with_reducible repeat (first | refine blk_drewN ?_ _ | refine blk_drew ?_ | refine blk_alloc ?_ _)); refine blk_put (cs := #[.int .i8 0, .int .i8 0, .bool false]) ?_ 0 _ rfl; (with_reducible repeat (first | refine blk_drewN ?_ _ | refine blk_drew ?_ | refine blk_alloc ?_ _)); exact BK268.out) hg (Kd.R_ne HO_3.out BK268.out (by decide))); have n2_ := Aside0.mk (hb); have n3_ := Aside0.mk (ho); clear HO_4; clear BK268; clear HB; clear HO_3; have HO_4 := n0_; have BK268 := n1_; have HB := n2_; have HO271 := n3_; clear n0_ n1_ n2_ n3_; clear ho hb hg hat; have hcz14_0 : w13.cell? ⟨gb268, 0, none⟩ = some (.int .i8 ((rd_T27 y263 x13_1).f0)) := (blk_cell BK268.out 0).trans rfl; have hcz14_1 : w13.cell? ⟨gb268, 1, none⟩ = some (.int .i8 ((rd_T27 y263 x13_1).f1)) := (blk_cell BK268.out 1).trans rfl; have hcz14_2 : w13.cell? ⟨gb268, 2, none⟩ = some (.bool ((rd_T27 y263 x13_1).f2)) := (blk_cell BK268.out 2).trans rfl; have hfz14_0 := blk_frozen BK268.out 0; have hfz14_1 := blk_frozen BK268.out 1; have hfz14_2 := blk_frozen BK268.out 2) | ((with_reducible refine gate_builtin (b := .append) (xs := #[.tmp 30, .tmp 40]) rfl ?_); at_builtin; refine Kd.R_append k33 (w0 := w) w.heap.size rfl (.tmp 30) (.tmp 40) 24 33 (.agg #[(.int .i64 0), (.int .i64 0), (.bool false)]) 24 rfl Tryd.underlying24 info33 rfl (by decide) (by omega) u4 x4_1 (⟨wrap64 ((rd_T27 y263 x13_1).f0), wrap64 ((rd_T27 y263 x13_1).f1), (rd_T27 y263 x13_1).f2⟩ : S33) [.int .i64 (wrap64 ((rd_T27 y263 x13_1).f0)), .int .i64 (wrap64 ((rd_T27 y263 x13_1).f1)), .bool ((rd_T27 y263 x13_1).f2)] (fun _ => True) (fun _ => False) rfl rfl ?aP (fun _ hk => hk.elim) ?aF ?aO ?aB ?aS ?aL ?_; (case aP => exact k33_mkM _ _ _ (⟨wrap64 ((rd_T27 y263 x13_1).f0), wrap64 ((rd_T27 y263 x13_1).f1), (rd_T27 y263 x13_1).f2⟩ : S33)); (case aB => exact (by repeat (first | (with_reducible first | exact HB.out | apply below_alloc | apply pw_below_drewN | apply below_drew1 | refine below_set ?_ GE268.out) | exact HB.out))); (case aF => exact (fun _ _ => trivial)); (case aO => exact (by (with_reducible repeat (first | apply Kd.R_alloc | apply Kd.R_drewN | apply Kd.R_drew)); exact HO_4.out)); (case aS => exact (below_size (by repeat (first | (with_reducible first | exact HB.out | apply below_alloc | apply pw_below_drewN | apply below_drew1 | refine below_set ?_ GE268.out) | exact HB.out)))); (case aL => have := LMc10.out; omega); intro v273 w15 ho hb hg hat; rw [← Ny272.out] at ho; have n0_ := Aside0.mk (blk_grown (g := gb268) (o := .cells #[.int .i8 ((rd_T27 y263 x13_1).f0), .int .i8 ((rd_T27 y263 x13_1).f1), .bool ((rd_T27 y263 x13_1).f2)] 27 (0, 0)) (by (with_reducible repeat (first | refine blk_drewN ?_ _ | refine blk_drew ?_ | refine blk_alloc ?_ _)); exact BK268.out) hg (Kd.R_ne HO_4.out BK268.out (by decide))); have n1_ := Aside0.mk (Kd.R_over' (by (with_reducible repeat (first | apply Kd.R_alloc | apply Kd.R_drewN | apply Kd.R_drew)); exact HO271.out) (Kd.R_typed (by (with_reducible repeat (first | apply Kd.R_alloc | apply Kd.R_drewN | apply Kd.R_drew)); exact HO_4.out)) (by decide) hg); have n2_ := Aside0.mk (hb); have n3_ := Aside0.mk (ho); clear BK268; clear HO271; clear HB; clear HO_4; have BK268 := n0_; have HO271 := n1_; have HB := n2_; have HO274 := n3_; clear n0_ n1_ n2_ n3_; clear ho hb hg hat))
          go_roundg k1
          case measure => have := HK1.out; omega
          case rel => exact ⟨(y269), (y272), (wrap64 (x13_1 + 1)), (by first | rfl | (simp; done) | (simp [*]; done)), H', ⟨by have := HK1.out; omega⟩, ⟨by (with_reducible repeat (first | apply Kd.R_alloc | apply Kd.R_drewN | apply Kd.R_drew)); exact HO271.out⟩, ⟨by (with_reducible repeat (first | apply Kd.R_alloc | apply Kd.R_drewN | apply Kd.R_drew)); exact HO274.out⟩, ⟨by repeat (first | (with_reducible first | exact HB.out | apply below_alloc | apply pw_below_drewN | apply below_drew1 | refine below_set ?_ GE268.out) | exact HB.out)⟩⟩
         ·rw [if_neg c10] at H
          exact absurd H (by simp)
        ·rw [if_neg c9] at H
         exact absurd H (by simp)
       ·rw [if_neg c8] at H
        exact absurd H (by simp)
      ·rw [if_neg c7] at H
       exact absurd H (by simp)
     ·rw [if_neg c6] at H
      have c6b0 : decide (x13_1 < (y263.length : Int)) = false := decide_eq_false c6
      clear c6
      replace H := Option.bind_eq_some_iff.mp H
      obtain ⟨t275, A160, H⟩ := H
      replace H : (if t275 = true then ((nogood_From.f k1 x3_1).bind fun t276 => ((jigsawref24_From.f k1 x4_1).bind fun t279 => ((jigsawlaw24_same.f k1 t276 t279).bind fun t282 => (some t282)))) else (some false)) = some r := H
      have A16 := Aside0.mk A160
      clear A160
      by_cases c17 : t275 = true
      ·subst c17
       have H1 : ((nogood_From.f k1 x3_1).bind fun t276 => ((jigsawref24_From.f k1 x4_1).bind fun t279 => ((jigsawlaw24_same.f k1 t276 t279).bind fun t282 => (some t282)))) = some r := by rw [if_pos rfl] at H; exact H
       clear H
       have H := H1
       clear H1
       replace H := Option.bind_eq_some_iff.mp H
       obtain ⟨t276, A180, H⟩ := H
       replace H : ((jigsawref24_From.f k1 x4_1).bind fun t279 => ((jigsawlaw24_same.f k1 t276 t279).bind fun t282 => (some t282))) = some r := H
       have A18 := Aside0.mk A180
       clear A180
       replace H := Option.bind_eq_some_iff.mp H
       obtain ⟨t279, A190, H⟩ := H
       replace H : ((jigsawlaw24_same.f k1 t276 t279).bind fun t282 => (some t282)) = some r := H
       have A19 := Aside0.mk A190
       clear A190
       replace H := Option.bind_eq_some_iff.mp H
       obtain ⟨t282, A200, H⟩ := H
       replace H : (some t282) = some r := H
       have A20 := Aside0.mk A200
       clear A200
       obtain rfl := Option.some.inj H
       go_wp2_with (first | ((with_reducible refine gate_callee (f := 8) rfl ?_); refine goesL_ (some 43) rfl rfl Tryd.func8 (by kernel_rfl) rfl #[] rfl (by (try simp only [List.map_toArray, List.map_cons, List.map_nil]); first | done | rfl | (simp only [List.length_drop, List.length_take]; rfl)) ?_; (with_reducible refine (jigsawlaw24_wakes.calls true _ (HT.out.call (by repeat (first | (with_reducible first | exact HB.out | apply below_alloc | apply pw_below_drewN | apply below_drew1) | exact HB.out))) A16.out).mono ?_); rintro e w21 ⟨rfl, hb⟩; refine ⟨_, rfl, ?_⟩; have n0_ := Aside0.mk (Kd.R_below (by (with_reducible repeat (first | apply Kd.R_alloc | apply Kd.R_drewN | apply Kd.R_drew)); exact HO_3.out) hb); have n1_ := Aside0.mk (Kd.R_below (by (with_reducible repeat (first | apply Kd.R_alloc | apply Kd.R_drewN | apply Kd.R_drew)); exact HO_4.out) hb); have n2_ := Aside0.mk (below_step (by repeat (first | (with_reducible first | exact HB.out | apply below_alloc | apply pw_below_drewN | apply below_drew1) | exact HB.out)) hb); clear HO_3; clear HO_4; clear HB; have HO_3 := n0_; have HO_4 := n1_; have HB := n2_; clear n0_ n1_ n2_; (try clear hb); (try clear hb2); (try clear hk); (try clear hi); obtain ⟨Ao22, co22, eo22⟩ := Kd.R_slice HO_3.out; subst eo22) | (go_at_call 10; (with_reducible refine (nogood_From.calls k1 _ _ x3_1 t276 _ ?side1 ?side2 A18.out).mono ?_); (case side1 => repeat (first | exact (Kd.R_reads' HO_3.out).2.2 | (with_reducible refine Kd.C_alloc ?_ _) | (with_reducible refine Kd.C_drewN ?_ _) | (with_reducible refine Kd.C_drew ?_))); (case side2 => exact (Kd.R_reads' HO_3.out).2.1); rintro e w23 ⟨v277, rfl, ho0, hb⟩; have n0_ := Aside0.mk (Kd.R_below (by (with_reducible repeat (first | apply Kd.R_alloc | apply Kd.R_drewN | apply Kd.R_drew)); exact HO_3.out) hb); have n1_ := Aside0.mk (Kd.R_below (by (with_reducible repeat (first | apply Kd.R_alloc | apply Kd.R_drewN | apply Kd.R_drew)); exact HO_4.out) hb); have n2_ := Aside0.mk (Kd.N_lower (Kd.N_mono (ok' := fun k_ => some k_ ≠ (.slice Ao22 x3_1.length co22 : Value).ownBlock ∧ some k_ ≠ (u4 : Value).ownBlock) ho0 (fun k_ hk_ => ⟨(Kd.fresh' (Kd.R_lt (by (with_reducible repeat (first | apply Kd.R_alloc | apply Kd.R_drewN | apply Kd.R_drew)); exact HO_3.out)) k_ hk_), (Kd.fresh' (Kd.R_lt (by (with_reducible repeat (first | apply Kd.R_alloc | apply Kd.R_drewN | apply Kd.R_drew)); exact HO_4.out)) k_ hk_)⟩)) (below_size (by repeat (first | (with_reducible first | exact HB.out | apply below_alloc | apply pw_below_drewN | apply below_drew1) | exact HB.out)))); have n3_ := Aside0.mk (below_step (by repeat (first | (with_reducible first | exact HB.out | apply below_alloc | apply pw_below_drewN | apply below_drew1) | exact HB.out)) hb); clear HO_3; clear HO_4; clear HB; have HO_3 := n0_; have HO_4 := n1_; have HO278 := n2_; have HB := n3_; clear n0_ n1_ n2_ n3_; (try clear hb); (try clear hb2); (try clear hk); (try clear hi); (try clear ho0); obtain ⟨Ao24, co24, eo24⟩ := Kd.R_slice HO_4.out; subst eo24) | (go_at_call 11; (with_reducible refine (jigsawref24_From.calls k1 _ _ x4_1 t279 _ ?side1 ?side2 A19.out).mono ?_); (case side1 => repeat (first | exact (Kd.R_reads' HO_4.out).2.2 | (with_reducible refine Kd.C_alloc ?_ _) | (with_reducible refine Kd.C_drewN ?_ _) | (with_reducible refine Kd.C_drew ?_))); (case side2 => exact (Kd.R_reads' HO_4.out).2.1); rintro e w25 ⟨v280, rfl, ho0, hb⟩; have n0_ := Aside0.mk (Kd.R_below (by (with_reducible repeat (first | apply Kd.R_alloc | apply Kd.R_drewN | apply Kd.R_drew)); exact HO_3.out) hb); have n1_ := Aside0.mk (Kd.R_below (by (with_reducible repeat (first | apply Kd.R_alloc | apply Kd.R_drewN | apply Kd.R_drew)); exact HO_4.out) hb); have n2_ := Aside0.mk (Kd.N_elder' (by (with_reducible repeat (first | apply Kd.N_alloc | apply Kd.N_drewN | apply Kd.N_drew)); exact HO278.out) (Kd.N_base (by first | exact ho0 | exact Kd.S_N ho0)) hb); have n3_ := Aside0.mk (Kd.N_lower (Kd.N_mono (ok' := fun k_ => some k_ ≠ (.slice Ao22 x3_1.length co22 : Value).ownBlock ∧ some k_ ≠ (.slice Ao24 x4_1.length co24 : Value).ownBlock ∧ some k_ ≠ (v277 : Value).ownBlock) (Kd.S_N (Kd.S_bound ho0)) (fun k_ hk_ => ⟨(Kd.fresh' (Kd.R_lt (by (with_reducible repeat (first | apply Kd.R_alloc | apply Kd.R_drewN | apply Kd.R_drew)); exact HO_3.out)) k_ hk_.2.1), (Kd.fresh' (Kd.R_lt (by (with_reducible repeat (first | apply Kd.R_alloc | apply Kd.R_drewN | apply Kd.R_drew)); exact HO_4.out)) k_ hk_.2.1), (Kd.fresh' (Kd.N_lt (by (with_reducible repeat (first | apply Kd.N_alloc | apply Kd.N_drewN | apply Kd.N_drew)); exact HO278.out)) k_ hk_.2.1)⟩)) (below_size (by repeat (first | (with_reducible first | exact HB.out | apply below_alloc | apply pw_below_drewN | apply below_drew1) | exact HB.out)))); have n4_ := Aside0.mk (below_step (by repeat (first | (with_reducible first | exact HB.out | apply below_alloc | apply pw_below_drewN | apply below_drew1) | exact HB.out)) hb); clear HO_3; clear HO_4; clear HO278; clear HB; have HO_3 := n0_; have HO_4 := n1_; have HO278 := n2_; have HO281 := n3_; have HB := n4_; clear n0_ n1_ n2_ n3_ n4_; (try clear hb); (try clear hb2); (try clear hk); (try clear hi); (try clear ho0); obtain ⟨Ao26, co26, eo26⟩ := Kd.N_slice HO278.out; subst eo26; obtain ⟨Ao27, co27, eo27⟩ := Kd.N_slice HO281.out; subst eo27) | (go_at_call 9; (with_reducible refine (jigsawlaw24_same.calls k1 _ _ t276 _ _ t279 t282 _ ?side1 ?side2 ?side3 ?side4 A20.out).mono ?_); (case side1 => repeat (first | exact (Kd.N_reads' HO278.out).2.2 | (with_reducible refine Kd.C_alloc ?_ _) | (with_reducible refine Kd.C_drewN ?_ _) | (with_reducible refine Kd.C_drew ?_))); (case side2 => exact (Kd.N_reads' HO278.out).2.1); (case side3 => repeat (first | exact (Kd.N_reads' HO281.out).2.2 | (with_reducible refine Kd.C_alloc ?_ _) | (with_reducible refine Kd.C_drewN ?_ _) | (with_reducible refine Kd.C_drew ?_))); (case side4 => exact (Kd.N_reads' HO281.out).2.1); rintro e w' ⟨rfl, ⟨nd, rfl⟩⟩))
       go_ret
       exact ⟨by first | rfl | (simp [errW_none, errW_some] <;> rfl) | (simp only [← hji2]; first | rfl | (simp [errW_none, errW_some] <;> rfl)) | (simp [*, errW_none, errW_some] <;> rfl), by repeat (first | (with_reducible first | exact HB.out | apply below_alloc | apply pw_below_drewN | apply below_drew1) | exact HB.out)⟩
      ·replace c17 := Bool.eq_false_iff.mpr c17
       subst c17
       have H1 : (some false) = some r := by rw [if_neg (show ¬ (false = true) by decide)] at H; exact H
       clear H
       have H := H1
       clear H1
       obtain rfl := Option.some.inj H
       go_wp2_with (first | ((with_reducible refine gate_callee (f := 8) rfl ?_); refine goesL_ (some 43) rfl rfl Tryd.func8 (by kernel_rfl) rfl #[] rfl (by (try simp only [List.map_toArray, List.map_cons, List.map_nil]); first | done | rfl | (simp only [List.length_drop, List.length_take]; rfl)) ?_; (with_reducible refine (jigsawlaw24_wakes.calls false _ (HT.out.call (by repeat (first | (with_reducible first | exact HB.out | apply below_alloc | apply pw_below_drewN | apply below_drew1) | exact HB.out))) A16.out).mono ?_); rintro e w28 ⟨rfl, hb⟩; refine ⟨_, rfl, ?_⟩; have n0_ := Aside0.mk (Kd.R_below (by (with_reducible repeat (first | apply Kd.R_alloc | apply Kd.R_drewN | apply Kd.R_drew)); exact HO_3.out) hb); have n1_ := Aside0.mk (Kd.R_below (by (with_reducible repeat (first | apply Kd.R_alloc | apply Kd.R_drewN | apply Kd.R_drew)); exact HO_4.out) hb); have n2_ := Aside0.mk (below_step (by repeat (first | (with_reducible first | exact HB.out | apply below_alloc | apply pw_below_drewN | apply below_drew1) | exact HB.out)) hb); clear HO_3; clear HO_4; clear HB; have HO_3 := n0_; have HO_4 := n1_; have HB := n2_; clear n0_ n1_ n2_; (try clear hb); (try clear hb2); (try clear hk); (try clear hi)))
       go_ret
       exact ⟨by first | rfl | (simp [errW_none, errW_some] <;> rfl) | (simp only [← hji2]; first | rfl | (simp [errW_none, errW_some] <;> rfl)) | (simp [*, errW_none, errW_some] <;> rfl), by repeat (first | (with_reducible first | exact HB.out | apply below_alloc | apply pw_below_drewN | apply below_drew1) | exact HB.out)⟩
  ·rw [if_neg c4] at H
   exact absurd H (by simp)
 ·rw [if_neg c3] at H
  exact absurd H (by simp)

end Go.Proofs.YtgckohmppefibaaDoorX.Hz
