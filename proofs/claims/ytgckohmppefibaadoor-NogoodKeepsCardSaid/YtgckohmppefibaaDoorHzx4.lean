-- Printed by wip/tools/hp.sh (functions of the translation, out of Lean's print of them).
import Derived.Test.YtgckohmppefibaaDoorHzx0
import Derived.Test.YtgckohmppefibaaDoorShort
import Derived.Test.YtgckohmppefibaaDoorHzx1
import Derived.Test.YtgckohmppefibaaDoorHzx3
namespace Go.Proofs.YtgckohmppefibaaDoorX.Hz
open Go.RowKit Go.Proofs.YtgckohmppefibaaDoorW.PrintWords Go.Proofs.YtgckohmppefibaaDoorW.PrintLast Go.Proofs.YtgckohmppefibaaDoorW.PrintMore
attribute [local go_sem] max2_int min2_int max_two min_two max_three min_three max_four min_four   -- for this text's walks alone
set_option linter.unusedVariables false
set_option linter.unusedSimpArgs false
attribute [local go_sem] Go.Proofs.YtgckohmppefibaaDoor.Hook.cell_two

/-! ### nogood_Lit_38: function 38 -/
def nogood_Lit_38.f (l0 : List (S29)) : Option ((List (S29))) := if l0.length ≤ 1000000 then some l0 else none
theorem nogood_Lit_38.calls (A0 : Option Addr) (c0 : Nat) (l0 : List (S29)) (r : List (S29)) (w : World) (hr0 : Kd.C k29 w A0 l0.length l0) (hc0 : l0.length ≤ c0) (h : nogood_Lit_38.f l0 = some r) :
  Calls Tryd.prog 38 #[.slice A0 l0.length c0] w fun e w' => ∃ v0_ : Value, e = .returned (v0_) ∧ Kd.R k29 29 w' w.heap.size (fun _ => True) v0_ r ∧ Below w.heap.size w w' := by
 unfold nogood_Lit_38.f at h
 split at h
 ·rename_i hs
  obtain rfl := Option.some.inj h
  exact clone29 A0 c0 l0 w hr0 hs
 ·cases h

/-! ### nogood_From: function 10 -/
def nogood_From.l0 : Nat → List (List (S29)) → List (S29) → List (S31) → Int → Int → Option ((List (List (S29))))
 | 0, _, _, _, _, _ => none
 | k + 1, x3, x4, x7, x8, x9 => if x9 < x8 then (if 0 ≤ x9 then (if x9 < (x7.length : Int) then (if (rd_T31 x7 x9).f1 = true then ((some (([(⟨(rd_T31 x7 x9).f0.f0, (rd_T31 x7 x9).f0.f1⟩ : S29)] : List (S29)) : List (S29))).bind fun y134 => (if x4.length + y134.length < 8796093022208 then (nogood_From.l0 k x3 (x4 ++ y134) x7 x8 (wrap64 (x9 + 1))) else (none))) else ((nogood_Lit_38.f x4).bind fun t140 => ((some (([(⟨(rd_T31 x7 x9).f0.f0, (rd_T31 x7 x9).f0.f1⟩ : S29)] : List (S29)) : List (S29))).bind fun y143 => (if t140.length + y143.length < 8796093022208 then ((nogood_made.f (t140 ++ y143)).bind fun t149 => ((some (([t149] : List (List (S29))) : List (List (S29)))).bind fun y152 => (if x3.length + y152.length < 5864062014805 then (nogood_From.l0 k (x3 ++ y152) x4 x7 x8 (wrap64 (x9 + 1))) else (none)))) else (none))))) else (none)) else (none)) else (some x3)
def nogood_From.f (k : Nat) (l0 : List (S31)) : Option ((List (List (S29)))) := nogood_From.l0 k ([] : List (List (S29))) ([] : List (S29)) l0 (l0.length : Int) 0
theorem nogood_From.mono_l : ∀ k, (∀ y0 y1 y2 y3 y4, LeO (nogood_From.l0 k y0 y1 y2 y3 y4) (nogood_From.l0 (k + 1) y0 y1 y2 y3 y4))
 | 0 => fun _ _ _ _ _ r h => by simp [nogood_From.l0] at h
 | k + 1 => by
  have ih0 := nogood_From.mono_l k
  ·intro y0 y1 y2 y3 y4
   unfold nogood_From.l0
   repeat' first
   | (with_reducible exact ih0 _ _ _ _ _)
   | (with_reducible exact LeO.refl _)
   | (with_reducible exact LeO.none _)
   | (with_reducible refine LeO.ite ?_ ?_)
   | (with_reducible refine LeO.bind ?_ (fun _ => ?_))
   | exact ih0 _ _ _ _ _
   | exact LeO.none _
   | refine LeO.ite ?_ ?_
   | refine LeO.bind ?_ (fun _ => ?_)
theorem nogood_From.mono : ∀ a0 k, LeO (nogood_From.f k a0) (nogood_From.f (k + 1) a0) := by
 intro a0 k
 have ih0 := nogood_From.mono_l k
 unfold nogood_From.f
 repeat' first
   | (with_reducible exact ih0 _ _ _ _ _)
   | (with_reducible exact LeO.refl _)
   | (with_reducible exact LeO.none _)
   | (with_reducible refine LeO.ite ?_ ?_)
   | (with_reducible refine LeO.bind ?_ (fun _ => ?_))
   | exact ih0 _ _ _ _ _
   | exact LeO.none _
   | refine LeO.ite ?_ ?_
   | refine LeO.bind ?_ (fun _ => ?_)
def nogood_From.T8 : Bool × List (List Nat × List Nat) := (true, [([], []), ([], []), ([1], [1]), ([], []), ([3], [3]), ([4], [4]), ([2, 5, 2], [2, 5]), ([6, 6], [6]), ([7], [7]), ([0, 8, 7], [0, 8]), ([9, 9, 0, 1, 2, 3, 4, 5, 6, 7, 8, 9], [0, 9])])
def nogood_From.B8 : List Nat := [0, 0, 2, 0, 8, 24, 62, 126, 254, 511, 1023]
theorem nogood_From.tab8 : rtab .any (opsOf Tryd.f10 8) = nogood_From.T8 := by kernel_rfl
theorem nogood_From.bits8 : waitsOk nogood_From.T8.2 nogood_From.B8 = true := by kernel_rfl
set_option maxHeartbeats 8000000 in
set_option maxRecDepth 100000 in
theorem nogood_From.calls (k : Nat) (A0 : Option Addr) (c0 : Nat) (l0 : List (S31)) (r : List (List (S29))) (w : World) (hr0 : Kd.C k31 w A0 l0.length l0) (hc0 : l0.length ≤ c0) (h : nogood_From.f k l0 = some r) :
  Calls Tryd.prog 10 #[.slice A0 l0.length c0] w fun e w' => ∃ v0_ : Value, e = .returned (v0_) ∧ Kd.N (Kd.slice 29 k29) 45 w' w.heap.size (fun k_ => (w.heap.size ≤ k_)) v0_ r ∧ Below w.heap.size w w' := by
 have hu31 := Tryd.underlying31
 have hu29 := Tryd.underlying29
 have HR0 := Aside0.mk hr0
 have HC0 := Aside0.mk hc0
 clear hr0 hc0
 have HB := Aside0.mk (Below.refl w.heap.size w)
 have H : (nogood_From.l0 k ([] : List (List (S29))) ([] : List (S29)) l0 (l0.length : Int) 0) = some r := h
 clear h
 have H' := Aside0.mk H
 clear H
 go_enter Tryd.func10, Tryd.ntmps10
 go_wp2
 go_loopg [3, 4, 9] k (fun kq v3 v4 v9 w' => ∃ (x3_1 : List (List (S29))) (x4_1 : List (S29)) (x9_1 : Int), v9 = .int .i64 x9_1 ∧ Aside0 (nogood_From.l0 kq x3_1 x4_1 l0 (l0.length : Int) x9_1 = some r) ∧ Aside0 (kq ≤ k) ∧ Aside0 (Kd.N (Kd.slice 29 k29) 45 w' w.heap.size (fun k_ => (w.heap.size ≤ k_) ∧ some k_ ≠ (v4 : Value).ownBlock) v3 x3_1) ∧ Aside0 (Kd.R k29 29 w' w.heap.size (fun k_ => (w.heap.size ≤ k_)) v4 x4_1) ∧ Aside0 (Below w.heap.size w w'))
 case atStart => exact ⟨(([] : List (List (S29)))), (([] : List (S29))), (0), (by first | rfl | (simp; done) | (simp [*]; done)), H', ⟨Nat.le_refl _⟩, ⟨by first | exact Kd.S_nil _ _ _ _ _ | exact Kd.N_nil _ _ _ _ _ | exact Kd.V_nil _ _ _ _ _ | exact Kd.Q_nil _ _ _ _ _ | exact Kd.R_nil _ _ _ _ _⟩, ⟨by first | exact Kd.R_nil _ _ _ _ _ | exact Kd.N_nil _ _ _ _ _ | exact Kd.V_nil _ _ _ _ _ | exact Kd.Q_nil _ _ _ _ _ | exact Kd.S_nil _ _ _ _ _⟩, ⟨by repeat (first | (with_reducible first | exact HB.out | apply below_alloc | apply pw_below_drewN | apply below_drew1) | exact HB.out)⟩⟩
 case round =>
  clear H'
  try clear c1
  obtain ⟨x3_1, x4_1, x9_1, rfl, HA, HK1, HO_3, HO_4, HB⟩ := hrel
  cases gk with
  | zero => exact absurd HA.out (by simp [nogood_From.l0])
  | succ k1 =>
   have H := HA.out
   clear HA
   simp only [nogood_From.l0] at H
   by_cases c2 : x9_1 < (l0.length : Int)
   ·rw [if_pos c2] at H
    have c2b0 : decide (x9_1 < (l0.length : Int)) = true := decide_eq_true c2
    clear c2
    by_cases c3 : 0 ≤ x9_1
    ·rw [if_pos c3] at H
     have c3b0 : decide (0 ≤ x9_1) = true := decide_eq_true c3
     clear c3
     by_cases c4 : x9_1 < (l0.length : Int)
     ·rw [if_pos c4] at H
      have c4b0 : decide (x9_1 < (l0.length : Int)) = true := decide_eq_true c4
      clear c4
      obtain ⟨bq5, hbq5⟩ : ∃ b_ : Bool, b_ = ((rd_T31 l0 x9_1).f1) := ⟨_, rfl⟩
      replace H : (if bq5 = true then ((some (([(⟨(rd_T31 l0 x9_1).f0.f0, (rd_T31 l0 x9_1).f0.f1⟩ : S29)] : List (S29)) : List (S29))).bind fun y134 => (if x4_1.length + y134.length < 8796093022208 then (nogood_From.l0 k1 x3_1 (x4_1 ++ y134) l0 (l0.length : Int) (wrap64 (x9_1 + 1))) else (none))) else ((nogood_Lit_38.f x4_1).bind fun t140 => ((some (([(⟨(rd_T31 l0 x9_1).f0.f0, (rd_T31 l0 x9_1).f0.f1⟩ : S29)] : List (S29)) : List (S29))).bind fun y143 => (if t140.length + y143.length < 8796093022208 then ((nogood_made.f (t140 ++ y143)).bind fun t149 => ((some (([t149] : List (List (S29))) : List (List (S29)))).bind fun y152 => (if x3_1.length + y152.length < 5864062014805 then (nogood_From.l0 k1 (x3_1 ++ y152) x4_1 l0 (l0.length : Int) (wrap64 (x9_1 + 1))) else (none)))) else (none))))) = some r := by rw [← hbq5] at H; exact H
      have Nbq5 := Aside0.mk hbq5
      clear hbq5
      by_cases c6 : bq5 = true
      ·subst c6
       have H1 : ((some (([(⟨(rd_T31 l0 x9_1).f0.f0, (rd_T31 l0 x9_1).f0.f1⟩ : S29)] : List (S29)) : List (S29))).bind fun y134 => (if x4_1.length + y134.length < 8796093022208 then (nogood_From.l0 k1 x3_1 (x4_1 ++ y134) l0 (l0.length : Int) (wrap64 (x9_1 + 1))) else (none))) = some r := by rw [if_pos rfl] at H; exact H
       clear H
       have H := H1
       clear H1
       obtain ⟨y134, hy134⟩ : ∃ y_ : List (S29), y_ = (([(⟨(rd_T31 l0 x9_1).f0.f0, (rd_T31 l0 x9_1).f0.f1⟩ : S29)] : List (S29))) := ⟨_, rfl⟩
       replace H : (if x4_1.length + y134.length < 8796093022208 then (nogood_From.l0 k1 x3_1 (x4_1 ++ y134) l0 (l0.length : Int) (wrap64 (x9_1 + 1))) else (none)) = some r := by first | (rw [hy134]; with_reducible exact H) | (have H2_ := (Option.bind_some _ _).symm.trans H; rw [hy134]; with_reducible exact H2_) | (have H2_ := (Option.bind_some _ _).symm.trans H; with_reducible exact H2_) | with_reducible exact H | (rw [hy134]; exact H) | exact H
       have Ny134 := Aside0.mk hy134
       clear hy134
       by_cases c7 : x4_1.length + y134.length < 8796093022208
       ·rw [if_pos c7] at H
        have LMc7 := Aside0.mk c7
        clear c7
        obtain ⟨y137, hy137⟩ : ∃ y_ : List (S29), y_ = (x4_1 ++ y134) := ⟨_, rfl⟩
        replace H : (nogood_From.l0 k1 x3_1 y137 l0 (l0.length : Int) (wrap64 (x9_1 + 1))) = some r := by first | (rw [hy137]; with_reducible exact H) | (have H2_ := (Option.bind_some _ _).symm.trans H; rw [hy137]; with_reducible exact H2_) | (have H2_ := (Option.bind_some _ _).symm.trans H; with_reducible exact H2_) | with_reducible exact H | (rw [hy137]; exact H) | exact H
        have Ny137 := Aside0.mk hy137
        clear hy137
        have H' := Aside0.mk H
        clear H
        have p132 : 0 ≤ (x9_1 : Int) := of_decide_eq_true (by first | (with_reducible assumption) | assumption)
        have q132 : x9_1 < (l0.length : Int) := of_decide_eq_true (by first | (with_reducible assumption) | assumption)
        obtain ⟨ad132, e132, hx132_0, hx132_1, hx132_2⟩ := at_T31 HR0.out x9_1 p132 q132
        (try rw [← Nbq5.out] at hx132_2)
        (try rw [← Nbq5.out] at hw132_2)
        cases e132
        replace hx132_0 := (HB.out.cell (World.block_lt_of_cell? w _ hx132_0)).trans hx132_0
        replace hx132_1 := (HB.out.cell (World.block_lt_of_cell? w _ hx132_1)).trans hx132_1
        replace hx132_2 := (HB.out.cell (World.block_lt_of_cell? w _ hx132_2)).trans hx132_2
        replace p132 := eq_true p132
        replace q132 := eq_true q132
        go_wp2_with (first | ((with_reducible refine gate_dst (N := 6) rfl ?_); refine box_event ?hg (N := 6) ?hd (cs := #[.int .i64 0, .int .i64 0, .bool false]) (t := 31) ?hr ?_; (case hd => rfl); (case hg => rfl); (case hr => first | (go_simp; done) | (go_simp; rfl)); intro gb133 hg w8 hbox hb; have n0_ := Aside0.mk (Kd.N_below (Kd.N_elderB (by (with_reducible repeat (first | apply Kd.N_alloc | apply Kd.N_drewN | apply Kd.N_drew)); exact HO_3.out) gb133 (Nat.le_of_eq hg.symm)) hb); have n1_ := Aside0.mk (Kd.R_below (by (with_reducible repeat (first | apply Kd.R_alloc | apply Kd.R_drewN | apply Kd.R_drew)); exact HO_4.out) hb); have n2_ := Aside0.mk (below_step (by repeat (first | (with_reducible first | exact HB.out | apply below_alloc | apply pw_below_drewN | apply below_drew1) | exact HB.out)) hb); have n3_ := Aside0.mk (hbox); have n4_ := Aside0.mk ((by rw [hg]; exact (below_size (by repeat (first | (with_reducible first | exact HB.out | apply below_alloc | apply pw_below_drewN | apply below_drew1) | exact HB.out))) : w.heap.size ≤ gb133)); have n5_ := Aside0.mk ((by rw [hg]; exact (below_size (by repeat (first | (with_reducible first | exact HB.out | apply below_alloc | apply pw_below_drewN | apply below_drew1) | exact HB.out))) : w.heap.size ≤ gb133)); clear HO_3; clear HO_4; clear HB; have HO_3 := n0_; have HO_4 := n1_; have HB := n2_; have BK133 := n3_; have GW133 := n4_; have GE133 := n5_; clear n0_ n1_ n2_ n3_ n4_ n5_; clear hb hbox hg; have hcz9_0 : w8.cell? ⟨gb133, 0, none⟩ = some (.int .i64 0) := (blk_cell BK133.out 0).trans rfl; have hcz9_1 : w8.cell? ⟨gb133, 1, none⟩ = some (.int .i64 0) := (blk_cell BK133.out 1).trans rfl; have hcz9_2 : w8.cell? ⟨gb133, 2, none⟩ = some (.bool false) := (blk_cell BK133.out 2).trans rfl; have hfz9_0 := blk_frozen BK133.out 0; have hfz9_1 := blk_frozen BK133.out 1; have hfz9_2 := blk_frozen BK133.out 2) | ((with_reducible refine gate_dst (N := 18) rfl ?_); refine Kd.R_lit k29 _ 29 ?hg (N := 18) ?hd (xs := ([(⟨(rd_T31 l0 x9_1).f0.f0, (rd_T31 l0 x9_1).f0.f1⟩ : S29)] : List (S29))) (inner := [.int .i64 ((rd_T31 l0 x9_1).f0.f0), .int .i64 ((rd_T31 l0 x9_1).f0.f1)]) (ok := fun _ => True) (okp := fun _ => True) ?hr ?hp (fun _ hk => hk) trivial (Below.refl _ _) (Nat.le_refl _) (by simp) ?_; (case hd => rfl); (case hg => rfl); (case hr => first | (go_simp; done) | (go_simp; rfl)); (case hp => exact (Reps.c2 (show Kd.M k29 _ _ _ (⟨(rd_T31 l0 x9_1).f0.f0, (rd_T31 l0 x9_1).f0.f1⟩ : S29) [.int .i64 ((rd_T31 l0 x9_1).f0.f0), .int .i64 ((rd_T31 l0 x9_1).f0.f1)] from (k29_mkM _ _ _ (⟨(rd_T31 l0 x9_1).f0.f0, (rd_T31 l0 x9_1).f0.f1⟩ : S29) )) (Reps.none _ _))); intro v135 w10 ho11 hb hg_ hnew_; clear hg_ hnew_; (first | rw [← Ny134.out] at ho11 | (simp only [Int.reduceToNat] at ho11; rw [← Ny134.out] at ho11)); have n0_ := Aside0.mk (Kd.N_elder' (by (with_reducible repeat (first | apply Kd.N_alloc | apply Kd.N_drewN | apply Kd.N_drew)); exact (Kd.N_mono (Kd.N_far (p := ⟨gb133, 2, none⟩) (Kd.N_far (p := ⟨gb133, 1, none⟩) (Kd.N_far (p := ⟨gb133, 0, none⟩) (Kd.N_mono HO_3.out (fun k_ hk => (⟨hk, hk.2⟩ : _ ∧ k_ ≠ gb133))) (fun _ hk => hk.2) (.int .i64 ((rd_T31 l0 x9_1).f0.f0))) (fun _ hk => hk.2) (.int .i64 ((rd_T31 l0 x9_1).f0.f1))) (fun _ hk => hk.2) (.bool true)) (fun _ h_ => h_.1))) (Kd.R_base ho11) hb); have n1_ := Aside0.mk (Kd.R_elder' (by (with_reducible repeat (first | apply Kd.R_alloc | apply Kd.R_drewN | apply Kd.R_drew)); exact (Kd.R_mono (Kd.R_far (p := ⟨gb133, 2, none⟩) (Kd.R_far (p := ⟨gb133, 1, none⟩) (Kd.R_far (p := ⟨gb133, 0, none⟩) (Kd.R_types HO_4.out BK133.out (by decide)) (fun _ hk => hk.2) (.int .i64 ((rd_T31 l0 x9_1).f0.f0))) (fun _ hk => hk.2) (.int .i64 ((rd_T31 l0 x9_1).f0.f1))) (fun _ hk => hk.2) (.bool true)) (fun _ h_ => h_.1))) (Kd.R_base ho11) hb); have n2_ := Aside0.mk (Kd.R_lower (Kd.R_new' (Kd.R_newM (M := fun k_ => (w.heap.size ≤ k_)) ho11 (below_size (by repeat (first | (with_reducible first | exact HB.out | apply below_alloc | apply pw_below_drewN | apply below_drew1 | refine below_set ?_ GE133.out) | exact HB.out))) (fun k_ h_ => h_)) (Kd.R_lt (by (with_reducible repeat (first | apply Kd.R_alloc | apply Kd.R_drewN | apply Kd.R_drew)); exact (Kd.R_mono (Kd.R_far (p := ⟨gb133, 2, none⟩) (Kd.R_far (p := ⟨gb133, 1, none⟩) (Kd.R_far (p := ⟨gb133, 0, none⟩) (Kd.R_types HO_4.out BK133.out (by decide)) (fun _ hk => hk.2) (.int .i64 ((rd_T31 l0 x9_1).f0.f0))) (fun _ hk => hk.2) (.int .i64 ((rd_T31 l0 x9_1).f0.f1))) (fun _ hk => hk.2) (.bool true)) (fun _ h_ => h_.1))))) (below_size (by repeat (first | (with_reducible first | exact HB.out | apply below_alloc | apply pw_below_drewN | apply below_drew1 | refine below_set ?_ GE133.out) | exact HB.out)))); have n3_ := Aside0.mk (blk_below (g := gb133) (o := .cells #[.int .i64 ((rd_T31 l0 x9_1).f0.f0), .int .i64 ((rd_T31 l0 x9_1).f0.f1), .bool true] 31 (0, 0)) (by (with_reducible repeat (first | refine blk_drewN ?_ _ | refine blk_drew ?_ | refine blk_alloc ?_ _)); refine blk_put (cs := #[.int .i64 ((rd_T31 l0 x9_1).f0.f0), .int .i64 ((rd_T31 l0 x9_1).f0.f1), .bool false]) ?_ 2 _ rfl; (with_reducible repeat (first | refine blk_drewN ?_ _ | refine blk_drew ?_ | refine blk_alloc ?_ _)); refine blk_put (cs := #[.int .i64 ((rd_T31 l0 x9_1).f0.f0), .int .i64 0, .bool false]) ?_ 1 _ rfl; (with_reducible repeat (first | refine blk_drewN ?_ _ | refine blk_drew ?_ | refine blk_alloc ?_ _)); refine blk_put (cs := #[.int .i64 0, .int .i64 0, .bool false]) ?_ 0 _ rfl; (with_reducible repeat (first | refine blk_drewN ?_ _ | refine blk_drew ?_ | refine blk_alloc ?_ _)); exact BK133.out) hb); have n4_ := Aside0.mk (below_step (by repeat (first | (with_reducible first | exact HB.out | apply below_alloc | apply pw_below_drewN | apply below_drew1 | refine below_set ?_ GE133.out) | exact HB.out)) hb); clear HO_3; clear HO_4; clear BK133; clear HB; have HO_3 := n0_; have HO_4 := n1_; have HO136 := n2_; have BK133 := n3_; have HB := n4_; clear n0_ n1_ n2_ n3_ n4_; clear hb ho11; obtain ⟨Ao13, co13, eo13⟩ := Kd.R_slice HO136.out; subst eo13) | ((with_reducible refine gate_builtin (b := .append) (xs := #[.tmp 15, .tmp 18]) rfl ?_); at_builtin; refine Kd.R_append_rows k29 (w0 := w) w.heap.size rfl (.tmp 15) (.tmp 18) 45 29 (.agg #[(.int .i64 0), (.int .i64 0)]) 16 rfl Tryd.underlying45 info29 rfl (by decide) (by omega) u4 x4_1 y134 _ _ _ (fun k_ => (w.heap.size ≤ k_) ∧ some k_ ≠ (.slice Ao13 y134.length co13 : Value).ownBlock) (fun _ => False) rfl rfl ?aO ?aR (fun _ _ h => h) (fun _ h => h.elim) ?aF ?aB ?aS ?aL ?_; (case aR => repeat (first | exact (Kd.R_reads' HO136.out).2.2 | (with_reducible refine Kd.C_alloc ?_ _) | (with_reducible refine Kd.C_drewN ?_ _) | (with_reducible refine Kd.C_drew ?_))); (case aB => exact (by repeat (first | (with_reducible first | exact HB.out | apply below_alloc | apply pw_below_drewN | apply below_drew1 | refine below_set ?_ GE133.out) | exact HB.out))); (case aF => exact (fun k_ hk => ⟨(Nat.le_trans (below_size (by repeat (first | (with_reducible first | exact HB.out | apply below_alloc | apply pw_below_drewN | apply below_drew1 | refine below_set ?_ GE133.out) | exact HB.out))) hk), Kd.fresh' (Kd.R_lt (by (with_reducible repeat (first | apply Kd.R_alloc | apply Kd.R_drewN | apply Kd.R_drew)); exact HO136.out)) k_ hk⟩)); (case aO => exact (by (with_reducible repeat (first | apply Kd.R_alloc | apply Kd.R_drewN | apply Kd.R_drew)); exact HO_4.out)); (case aS => exact (below_size (by repeat (first | (with_reducible first | exact HB.out | apply below_alloc | apply pw_below_drewN | apply below_drew1 | refine below_set ?_ GE133.out) | exact HB.out)))); (case aL => have := LMc7.out; omega); intro v138 w12 ho hb hg hat; rw [← Ny137.out] at ho; have n0_ := Aside0.mk (Kd.N_afterv (ok := (fun k_ => (w.heap.size ≤ k_) ∧ some k_ ≠ (.slice Ao13 y134.length co13 : Value).ownBlock ∧ k_ ≠ gb133)) (by (with_reducible repeat (first | apply Kd.N_alloc | apply Kd.N_drewN | apply Kd.N_drew)); exact Kd.N_mono HO_3.out (fun _ hk => ⟨⟨hk.1.1.1, ⟨hk.2, hk.1.2⟩⟩, hk.1.1.2⟩)) hg hat); have n1_ := Aside0.mk (blk_grown (g := gb133) (o := .cells #[.int .i64 ((rd_T31 l0 x9_1).f0.f0), .int .i64 ((rd_T31 l0 x9_1).f0.f1), .bool true] 31 (0, 0)) (by (with_reducible repeat (first | refine blk_drewN ?_ _ | refine blk_drew ?_ | refine blk_alloc ?_ _)); exact BK133.out) hg (Kd.R_ne HO_4.out BK133.out (by decide))); have n2_ := Aside0.mk (Kd.R_after (ok := (fun k_ => (w.heap.size ≤ k_))) (by (with_reducible repeat (first | apply Kd.R_alloc | apply Kd.R_drewN | apply Kd.R_drew)); exact Kd.R_mono HO136.out (fun _ hk => ⟨hk.1.1, hk.2⟩)) hg hat); have n3_ := Aside0.mk (hb); have n4_ := Aside0.mk (ho); clear HO_3; clear BK133; clear HO136; clear HB; clear HO_4; have HO_3 := n0_; have BK133 := n1_; have HO136 := n2_; have HB := n3_; have HO139 := n4_; clear n0_ n1_ n2_ n3_ n4_; clear ho hb hg hat))
        go_roundg k1
        case measure => have := HK1.out; omega
        case rel => exact ⟨(x3_1), (y137), (wrap64 (x9_1 + 1)), (by first | rfl | (simp; done) | (simp [*]; done)), H', ⟨by have := HK1.out; omega⟩, ⟨by (with_reducible repeat (first | apply Kd.N_alloc | apply Kd.N_drewN | apply Kd.N_drew)); exact Kd.N_mono HO_3.out (fun _ hk => ⟨hk.1.1, hk.2⟩)⟩, ⟨by (with_reducible repeat (first | apply Kd.R_alloc | apply Kd.R_drewN | apply Kd.R_drew)); exact Kd.R_mono HO139.out (fun _ hk => hk.1)⟩, ⟨by repeat (first | (with_reducible first | exact HB.out | apply below_alloc | apply pw_below_drewN | apply below_drew1 | refine below_set ?_ GE133.out) | exact HB.out)⟩⟩
       ·rw [if_neg c7] at H
        exact absurd H (by simp)
      ·replace c6 := Bool.eq_false_iff.mpr c6
       subst c6
       have H1 : ((nogood_Lit_38.f x4_1).bind fun t140 => ((some (([(⟨(rd_T31 l0 x9_1).f0.f0, (rd_T31 l0 x9_1).f0.f1⟩ : S29)] : List (S29)) : List (S29))).bind fun y143 => (if t140.length + y143.length < 8796093022208 then ((nogood_made.f (t140 ++ y143)).bind fun t149 => ((some (([t149] : List (List (S29))) : List (List (S29)))).bind fun y152 => (if x3_1.length + y152.length < 5864062014805 then (nogood_From.l0 k1 (x3_1 ++ y152) x4_1 l0 (l0.length : Int) (wrap64 (x9_1 + 1))) else (none)))) else (none)))) = some r := by rw [if_neg (show ¬ (false = true) by decide)] at H; exact H
       clear H
       have H := H1
       clear H1
       replace H := Option.bind_eq_some_iff.mp H
       obtain ⟨t140, A140, H⟩ := H
       replace H : ((some (([(⟨(rd_T31 l0 x9_1).f0.f0, (rd_T31 l0 x9_1).f0.f1⟩ : S29)] : List (S29)) : List (S29))).bind fun y143 => (if t140.length + y143.length < 8796093022208 then ((nogood_made.f (t140 ++ y143)).bind fun t149 => ((some (([t149] : List (List (S29))) : List (List (S29)))).bind fun y152 => (if x3_1.length + y152.length < 5864062014805 then (nogood_From.l0 k1 (x3_1 ++ y152) x4_1 l0 (l0.length : Int) (wrap64 (x9_1 + 1))) else (none)))) else (none))) = some r := H
       have A14 := Aside0.mk A140
       clear A140
       obtain ⟨y143, hy143⟩ : ∃ y_ : List (S29), y_ = (([(⟨(rd_T31 l0 x9_1).f0.f0, (rd_T31 l0 x9_1).f0.f1⟩ : S29)] : List (S29))) := ⟨_, rfl⟩
       replace H : (if t140.length + y143.length < 8796093022208 then ((nogood_made.f (t140 ++ y143)).bind fun t149 => ((some (([t149] : List (List (S29))) : List (List (S29)))).bind fun y152 => (if x3_1.length + y152.length < 5864062014805 then (nogood_From.l0 k1 (x3_1 ++ y152) x4_1 l0 (l0.length : Int) (wrap64 (x9_1 + 1))) else (none)))) else (none)) = some r := by first | (rw [hy143]; with_reducible exact H) | (have H2_ := (Option.bind_some _ _).symm.trans H; rw [hy143]; with_reducible exact H2_) | (have H2_ := (Option.bind_some _ _).symm.trans H; with_reducible exact H2_) | with_reducible exact H | (rw [hy143]; exact H) | exact H
       have Ny143 := Aside0.mk hy143
       clear hy143
       by_cases c15 : t140.length + y143.length < 8796093022208
       ·rw [if_pos c15] at H
        have LMc15 := Aside0.mk c15
        clear c15
        obtain ⟨y146, hy146⟩ : ∃ y_ : List (S29), y_ = (t140 ++ y143) := ⟨_, rfl⟩
        replace H : ((nogood_made.f y146).bind fun t149 => ((some (([t149] : List (List (S29))) : List (List (S29)))).bind fun y152 => (if x3_1.length + y152.length < 5864062014805 then (nogood_From.l0 k1 (x3_1 ++ y152) x4_1 l0 (l0.length : Int) (wrap64 (x9_1 + 1))) else (none)))) = some r := by first | (rw [hy146]; with_reducible exact H) | (have H2_ := (Option.bind_some _ _).symm.trans H; rw [hy146]; with_reducible exact H2_) | (have H2_ := (Option.bind_some _ _).symm.trans H; with_reducible exact H2_) | with_reducible exact H | (rw [hy146]; exact H) | exact H
        have Ny146 := Aside0.mk hy146
        clear hy146
        replace H := Option.bind_eq_some_iff.mp H
        obtain ⟨t149, A160, H⟩ := H
        replace H : ((some (([t149] : List (List (S29))) : List (List (S29)))).bind fun y152 => (if x3_1.length + y152.length < 5864062014805 then (nogood_From.l0 k1 (x3_1 ++ y152) x4_1 l0 (l0.length : Int) (wrap64 (x9_1 + 1))) else (none))) = some r := H
        have A16 := Aside0.mk A160
        clear A160
        obtain ⟨y152, hy152⟩ : ∃ y_ : List (List (S29)), y_ = (([t149] : List (List (S29)))) := ⟨_, rfl⟩
        replace H : (if x3_1.length + y152.length < 5864062014805 then (nogood_From.l0 k1 (x3_1 ++ y152) x4_1 l0 (l0.length : Int) (wrap64 (x9_1 + 1))) else (none)) = some r := by first | (rw [hy152]; with_reducible exact H) | (have H2_ := (Option.bind_some _ _).symm.trans H; rw [hy152]; with_reducible exact H2_) | (have H2_ := (Option.bind_some _ _).symm.trans H; with_reducible exact H2_) | with_reducible exact H | (rw [hy152]; exact H) | exact H
        have Ny152 := Aside0.mk hy152
        clear hy152
        by_cases c17 : x3_1.length + y152.length < 5864062014805
        ·rw [if_pos c17] at H
         have LMc17 := Aside0.mk c17
         clear c17
         obtain ⟨y155, hy155⟩ : ∃ y_ : List (List (S29)), y_ = (x3_1 ++ y152) := ⟨_, rfl⟩
         replace H : (nogood_From.l0 k1 y155 x4_1 l0 (l0.length : Int) (wrap64 (x9_1 + 1))) = some r := by first | (rw [hy155]; with_reducible exact H) | (have H2_ := (Option.bind_some _ _).symm.trans H; rw [hy155]; with_reducible exact H2_) | (have H2_ := (Option.bind_some _ _).symm.trans H; with_reducible exact H2_) | with_reducible exact H | (rw [hy155]; exact H) | exact H
         have Ny155 := Aside0.mk hy155
         clear hy155
         have H' := Aside0.mk H
         clear H
         have p132 : 0 ≤ (x9_1 : Int) := of_decide_eq_true (by first | (with_reducible assumption) | assumption)
         have q132 : x9_1 < (l0.length : Int) := of_decide_eq_true (by first | (with_reducible assumption) | assumption)
         obtain ⟨ad132, e132, hx132_0, hx132_1, hx132_2⟩ := at_T31 HR0.out x9_1 p132 q132
         (try rw [← Nbq5.out] at hx132_2)
         (try rw [← Nbq5.out] at hw132_2)
         cases e132
         replace hx132_0 := (HB.out.cell (World.block_lt_of_cell? w _ hx132_0)).trans hx132_0
         replace hx132_1 := (HB.out.cell (World.block_lt_of_cell? w _ hx132_1)).trans hx132_1
         replace hx132_2 := (HB.out.cell (World.block_lt_of_cell? w _ hx132_2)).trans hx132_2
         replace p132 := eq_true p132
         replace q132 := eq_true q132
         try go_wp2_with (first | ((with_reducible refine gate_dst (N := 6) rfl ?_); refine box_event ?hg (N := 6) ?hd (cs := #[.int .i64 0, .int .i64 0, .bool false]) (t := 31) ?hr ?_; (case hd => rfl); (case hg => rfl); (case hr => first | (go_simp; done) | (go_simp; rfl)); intro gb133 hg w18 hbox hb; have n0_ := Aside0.mk (Kd.N_below (Kd.N_elderB (by (with_reducible repeat (first | apply Kd.N_alloc | apply Kd.N_drewN | apply Kd.N_drew)); exact HO_3.out) gb133 (Nat.le_of_eq hg.symm)) hb); have n1_ := Aside0.mk (Kd.R_below (by (with_reducible repeat (first | apply Kd.R_alloc | apply Kd.R_drewN | apply Kd.R_drew)); exact HO_4.out) hb); have n2_ := Aside0.mk (below_step (by repeat (first | (with_reducible first | exact HB.out | apply below_alloc | apply pw_below_drewN | apply below_drew1) | exact HB.out)) hb); have n3_ := Aside0.mk (hbox); have n4_ := Aside0.mk ((by rw [hg]; exact (below_size (by repeat (first | (with_reducible first | exact HB.out | apply below_alloc | apply pw_below_drewN | apply below_drew1) | exact HB.out))) : w.heap.size ≤ gb133)); have n5_ := Aside0.mk ((by rw [hg]; exact (below_size (by repeat (first | (with_reducible first | exact HB.out | apply below_alloc | apply pw_below_drewN | apply below_drew1) | exact HB.out))) : w.heap.size ≤ gb133)); clear HO_3; clear HO_4; clear HB; have HO_3 := n0_; have HO_4 := n1_; have HB := n2_; have BK133 := n3_; have GW133 := n4_; have GE133 := n5_; clear n0_ n1_ n2_ n3_ n4_ n5_; clear hb hbox hg; have hcz19_0 : w18.cell? ⟨gb133, 0, none⟩ = some (.int .i64 0) := (blk_cell BK133.out 0).trans rfl; have hcz19_1 : w18.cell? ⟨gb133, 1, none⟩ = some (.int .i64 0) := (blk_cell BK133.out 1).trans rfl; have hcz19_2 : w18.cell? ⟨gb133, 2, none⟩ = some (.bool false) := (blk_cell BK133.out 2).trans rfl; have hfz19_0 := blk_frozen BK133.out 0; have hfz19_1 := blk_frozen BK133.out 1; have hfz19_2 := blk_frozen BK133.out 2; obtain ⟨Ao20, co20, eo20⟩ := Kd.R_slice HO_4.out; subst eo20; obtain ⟨Ao21, co21, eo21⟩ := Kd.N_slice HO_3.out; subst eo21))
         have n0_ : Aside0 (Kd.N (Kd.slice 29 k29) 45 (((w18.setCell ⟨gb133, 0, none⟩ (.int .i64 ((rd_T31 l0 x9_1).f0.f0))).setCell ⟨gb133, 1, none⟩ (.int .i64 ((rd_T31 l0 x9_1).f0.f1))).setCell ⟨gb133, 2, none⟩ (.bool false)) w.heap.size (fun k_ => (w.heap.size ≤ k_) ∧ some k_ ≠ (.slice Ao20 x4_1.length co20 : Value).ownBlock ∧ k_ ≠ gb133) (.slice Ao21 x3_1.length co21) x3_1) := ⟨by (with_reducible repeat (first | apply Kd.N_alloc | apply Kd.N_drewN | apply Kd.N_drew)); exact Kd.N_mono (Kd.N_far (p := ⟨gb133, 2, none⟩) (Kd.N_far (p := ⟨gb133, 1, none⟩) (Kd.N_far (p := ⟨gb133, 0, none⟩) (Kd.N_mono HO_3.out (fun k_ hk => (⟨hk, hk.2⟩ : _ ∧ k_ ≠ gb133))) (fun _ hk => hk.2) (.int .i64 ((rd_T31 l0 x9_1).f0.f0))) (fun _ hk => hk.2) (.int .i64 ((rd_T31 l0 x9_1).f0.f1))) (fun _ hk => hk.2) (.bool false)) (fun _ hk => ⟨hk.1.1.1, ⟨hk.1.1.2, hk.1.2⟩⟩)⟩
         have n1_ : Aside0 (Kd.R k29 29 (((w18.setCell ⟨gb133, 0, none⟩ (.int .i64 ((rd_T31 l0 x9_1).f0.f0))).setCell ⟨gb133, 1, none⟩ (.int .i64 ((rd_T31 l0 x9_1).f0.f1))).setCell ⟨gb133, 2, none⟩ (.bool false)) w.heap.size (fun k_ => (w.heap.size ≤ k_)) (.slice Ao20 x4_1.length co20) x4_1) := ⟨by (with_reducible repeat (first | apply Kd.R_alloc | apply Kd.R_drewN | apply Kd.R_drew)); exact Kd.R_mono (Kd.R_far (p := ⟨gb133, 2, none⟩) (Kd.R_far (p := ⟨gb133, 1, none⟩) (Kd.R_far (p := ⟨gb133, 0, none⟩) (Kd.R_types HO_4.out BK133.out (by decide)) (fun _ hk => hk.2) (.int .i64 ((rd_T31 l0 x9_1).f0.f0))) (fun _ hk => hk.2) (.int .i64 ((rd_T31 l0 x9_1).f0.f1))) (fun _ hk => hk.2) (.bool false)) (fun _ hk => hk.1)⟩
         have n2_ : Aside0 ((((w18.setCell ⟨gb133, 0, none⟩ (.int .i64 ((rd_T31 l0 x9_1).f0.f0))).setCell ⟨gb133, 1, none⟩ (.int .i64 ((rd_T31 l0 x9_1).f0.f1))).setCell ⟨gb133, 2, none⟩ (.bool false)).heap[gb133]? = some (.cells #[.int .i64 ((rd_T31 l0 x9_1).f0.f0), .int .i64 ((rd_T31 l0 x9_1).f0.f1), .bool false] 31 (0, 0))) := ⟨by (with_reducible repeat (first | refine blk_drewN ?_ _ | refine blk_drew ?_ | refine blk_alloc ?_ _)); refine blk_put (cs := #[.int .i64 ((rd_T31 l0 x9_1).f0.f0), .int .i64 ((rd_T31 l0 x9_1).f0.f1), .bool false]) ?_ 2 _ rfl; (with_reducible repeat (first | refine blk_drewN ?_ _ | refine blk_drew ?_ | refine blk_alloc ?_ _)); refine blk_put (cs := #[.int .i64 ((rd_T31 l0 x9_1).f0.f0), .int .i64 0, .bool false]) ?_ 1 _ rfl; (with_reducible repeat (first | refine blk_drewN ?_ _ | refine blk_drew ?_ | refine blk_alloc ?_ _)); refine blk_put (cs := #[.int .i64 0, .int .i64 0, .bool false]) ?_ 0 _ rfl; (with_reducible repeat (first | refine blk_drewN ?_ _ | refine blk_drew ?_ | refine blk_alloc ?_ _)); exact BK133.out⟩
         have n3_ : Aside0 (Below w.heap.size w (((w18.setCell ⟨gb133, 0, none⟩ (.int .i64 ((rd_T31 l0 x9_1).f0.f0))).setCell ⟨gb133, 1, none⟩ (.int .i64 ((rd_T31 l0 x9_1).f0.f1))).setCell ⟨gb133, 2, none⟩ (.bool false))) := ⟨by repeat (first | (with_reducible first | exact HB.out | apply below_alloc | apply pw_below_drewN | apply below_drew1 | refine below_set ?_ GE133.out) | exact HB.out)⟩
         (try clear HO_3)
         (try clear HO_4)
         (try clear BK133)
         (try clear HB)
         generalize (((w18.setCell ⟨gb133, 0, none⟩ (.int .i64 ((rd_T31 l0 x9_1).f0.f0))).setCell ⟨gb133, 1, none⟩ (.int .i64 ((rd_T31 l0 x9_1).f0.f1))).setCell ⟨gb133, 2, none⟩ (.bool false)) = w22 at n0_ n1_ n2_ n3_ ⊢
         have HO_3 := n0_
         have HO_4 := n1_
         have BK133 := n2_
         have HB := n3_
         clear n0_ n1_ n2_ n3_
         have n0_ := Aside0.mk (Kd.N_drew HO_3.out)
         have n1_ := Aside0.mk (Kd.R_drew HO_4.out)
         have n2_ := Aside0.mk (blk_drew BK133.out)
         have n3_ := Aside0.mk (below_drew1 HB.out)
         clear HO_3
         clear HO_4
         clear BK133
         clear HB
         have HO_3 := n0_
         have HO_4 := n1_
         have BK133 := n2_
         have HB := n3_
         clear n0_ n1_ n2_ n3_
         refine start_ (n := 11) (S := fun w' => w'.cell? ⟨gb133, 0, none⟩ = some (.int .i64 ((rd_T31 l0 x9_1).f0.f0)) ∧ w'.cell? ⟨gb133, 1, none⟩ = some (.int .i64 ((rd_T31 l0 x9_1).f0.f1)) ∧ w'.cell? ⟨gb133, 2, none⟩ = some (.bool false)) (ds := []) #[false, false, false, false, false, false, false, false, false, false, false] (by kernel_rfl) rfl rfl ⟨(blk_cell BK133.out 0).trans rfl, (blk_cell BK133.out 1).trans rfl, (blk_cell BK133.out 2).trans rfl⟩ (fun hHeld => ?_); refine with_tabW nogood_From.tab8 nogood_From.bits8 (fun HT_ HW_ => ?_)
         generalize w22.drew = w23 at HO_3 HO_4 BK133 HB hHeld ⊢
         refine pA 0 20 #[true, false, false, false, false, false, false, false, false, false, false] HT_ ?_
         refine pA 1 21 #[true, true, false, false, false, false, false, false, false, false, false] HT_ ?_
         refine pA 3 23 #[true, true, false, true, false, false, false, false, false, false, false] HT_ ?_
         refine pT3 4 24 #[true, true, false, true, true, false, false, false, false, false, false] HT_ HW_ hHeld ?_
         refine join_ (σ := Value × Value) 5 #[true, true, true, true, true, true, false, false, false, false, false] (fun s_ => [(22, s_.1), (25, s_.2)]) (fun s_ w' => (w'.cell? ⟨gb133, 0, none⟩ = some (.int .i64 ((rd_T31 l0 x9_1).f0.f0)) ∧ w'.cell? ⟨gb133, 1, none⟩ = some (.int .i64 ((rd_T31 l0 x9_1).f0.f1)) ∧ w'.cell? ⟨gb133, 2, none⟩ = some (.bool false)) ∧ (Kd.R k29 29 w' w.heap.size (fun k_ => (w.heap.size ≤ k_) ∧ some k_ ≠ (s_.2 : Value).ownBlock ∧ some k_ ≠ (.slice Ao20 x4_1.length co20 : Value).ownBlock) s_.1 t140) ∧ (Kd.R k29 29 w' w.heap.size (fun k_ => (w.heap.size ≤ k_) ∧ some k_ ≠ (s_.1 : Value).ownBlock ∧ some k_ ≠ (.slice Ao20 x4_1.length co20 : Value).ownBlock) s_.2 y143) ∧ (Kd.N (Kd.slice 29 k29) 45 w' w.heap.size (fun k_ => (w.heap.size ≤ k_) ∧ some k_ ≠ (s_.1 : Value).ownBlock ∧ some k_ ≠ (s_.2 : Value).ownBlock ∧ some k_ ≠ (.slice Ao20 x4_1.length co20 : Value).ownBlock ∧ k_ ≠ gb133) (.slice Ao21 x3_1.length co21) x3_1) ∧ (Kd.R k29 29 w' w.heap.size (fun k_ => (w.heap.size ≤ k_) ∧ some k_ ≠ (s_.1 : Value).ownBlock ∧ some k_ ≠ (s_.2 : Value).ownBlock) (.slice Ao20 x4_1.length co20) x4_1) ∧ (w'.heap[gb133]? = some (.cells #[.int .i64 ((rd_T31 l0 x9_1).f0.f0), .int .i64 ((rd_T31 l0 x9_1).f0.f1), .bool false] 31 (0, 0))) ∧ (Below w.heap.size w w')) ?_ ?_
         rotate_left
         ·intro hCont
          refine two_ (i := 2) (j := 5) (Ni := some 22) (Nj := some 25) #[true, true, true, true, true, false, false, false, false, false, false] #[true, true, false, true, true, true, false, false, false, false, false] rfl rfl rfl rfl (two_of HT_.out (by kernel_rfl)) (by decide) (by decide) (fun K hK => ?_) (fun K hK => ?_)
          ·skip
           refine goes_ Tryd.func38 (by kernel_rfl) rfl #[.slice Ao20 x4_1.length co20] (by rfl) rfl rfl (by (try simp only [List.map_toArray, List.map_cons, List.map_nil]); first | done | rfl | (simp only [List.length_drop, List.length_take]; rfl)) ?_
           with_reducible refine (nogood_Lit_38.calls _ _ x4_1 t140 _ ?side1 ?side2 A14.out).mono ?_
           (case side1 => repeat (first | exact (Kd.R_reads' HO_4.out).2.2 | (with_reducible refine Kd.C_alloc ?_ _) | (with_reducible refine Kd.C_drewN ?_ _) | (with_reducible refine Kd.C_drew ?_)))
           (case side2 => exact (Kd.R_reads' HO_4.out).2.1)
           rintro e w24 ⟨v141, rfl, ho0, hb⟩
           refine ⟨_, rfl, ?_⟩
           have n0_ := Aside0.mk (Kd.N_elder' (by (with_reducible repeat (first | apply Kd.N_alloc | apply Kd.N_drewN | apply Kd.N_drew)); exact HO_3.out) (Kd.R_base ho0) hb)
           have n1_ := Aside0.mk (Kd.R_elder' (by (with_reducible repeat (first | apply Kd.R_alloc | apply Kd.R_drewN | apply Kd.R_drew)); exact HO_4.out) (Kd.R_base ho0) hb)
           have n2_ := Aside0.mk (Kd.R_lower (Kd.R_new' (Kd.R_newM (M := fun k_ => (w.heap.size ≤ k_)) ho0 (below_size (by repeat (first | (with_reducible first | exact HB.out | apply below_alloc | apply pw_below_drewN | apply below_drew1 | refine below_set ?_ GE133.out) | exact HB.out))) (fun k_ h_ => h_)) (Kd.R_lt (by (with_reducible repeat (first | apply Kd.R_alloc | apply Kd.R_drewN | apply Kd.R_drew)); exact HO_4.out))) (below_size (by repeat (first | (with_reducible first | exact HB.out | apply below_alloc | apply pw_below_drewN | apply below_drew1 | refine below_set ?_ GE133.out) | exact HB.out))))
           have n3_ := Aside0.mk (blk_below (g := gb133) (o := .cells #[.int .i64 ((rd_T31 l0 x9_1).f0.f0), .int .i64 ((rd_T31 l0 x9_1).f0.f1), .bool false] 31 (0, 0)) (by (with_reducible repeat (first | refine blk_drewN ?_ _ | refine blk_drew ?_ | refine blk_alloc ?_ _)); exact BK133.out) hb)
           have n4_ := Aside0.mk (below_step (by repeat (first | (with_reducible first | exact HB.out | apply below_alloc | apply pw_below_drewN | apply below_drew1 | refine below_set ?_ GE133.out) | exact HB.out)) hb)
           clear HO_3
           clear HO_4
           clear BK133
           clear HB
           have HO_3 := n0_
           have HO_4 := n1_
           have HO142 := n2_
           have BK133 := n3_
           have HB := n4_
           clear n0_ n1_ n2_ n3_ n4_
           (try clear hb)
           (try clear hb2)
           (try clear hk)
           (try clear hi)
           (try clear ho0)
           refine hK.out _ _ ⟨(blk_cell BK133.out 0).trans rfl, (blk_cell BK133.out 1).trans rfl, (blk_cell BK133.out 2).trans rfl⟩ (fun hHeld => ?_)
           clear hK K
           refine norm_ (a' := ?_) ?_ ?_
           rotate_left
           ·show Act.put _ (some 22) _ = _
            simp only [Act.put, List.setIfInBounds_toArray, List.set_cons_zero, List.set_cons_succ, i64_w, i32_w]
            rfl
           refine one_ (i := 5) (N := some 25) #[true, true, true, true, true, true, false, false, false, false, false] rfl rfl (one_of HT_.out (by kernel_rfl)) (by decide) (fun K hK => ?_)
           refine Kd.R_lit_step k29 _ 29 ?hg (N := 25) ?hd (xs := ([(⟨(rd_T31 l0 x9_1).f0.f0, (rd_T31 l0 x9_1).f0.f1⟩ : S29)] : List (S29))) (inner := [.int .i64 ((rd_T31 l0 x9_1).f0.f0), .int .i64 ((rd_T31 l0 x9_1).f0.f1)]) (ok := fun _ => True) (okp := fun _ => True) ?hr ?hp (fun _ hk => hk) trivial (Below.refl _ _) (Nat.le_refl _) (by simp) ?_; (case hd => rfl); (case hg => rfl); (case hr => first | (go_simp; done) | (go_simp; rfl)); (case hp => exact (Reps.c2 (show Kd.M k29 _ _ _ (⟨(rd_T31 l0 x9_1).f0.f0, (rd_T31 l0 x9_1).f0.f1⟩ : S29) [.int .i64 ((rd_T31 l0 x9_1).f0.f0), .int .i64 ((rd_T31 l0 x9_1).f0.f1)] from (k29_mkM _ _ _ (⟨(rd_T31 l0 x9_1).f0.f0, (rd_T31 l0 x9_1).f0.f1⟩ : S29) )) (Reps.none _ _)))
           intro v144 w25 ho26 hb hg_ hnew_
           clear hg_ hnew_
           (first | rw [← Ny143.out] at ho26 | (simp only [Int.reduceToNat] at ho26; rw [← Ny143.out] at ho26))
           have n0_ := Aside0.mk (Kd.N_elder' (by (with_reducible repeat (first | apply Kd.N_alloc | apply Kd.N_drewN | apply Kd.N_drew)); exact HO_3.out) (Kd.R_base ho26) hb)
           have n1_ := Aside0.mk (Kd.R_elder' (by (with_reducible repeat (first | apply Kd.R_alloc | apply Kd.R_drewN | apply Kd.R_drew)); exact HO_4.out) (Kd.R_base ho26) hb)
           have n2_ := Aside0.mk (Kd.R_elder' (by (with_reducible repeat (first | apply Kd.R_alloc | apply Kd.R_drewN | apply Kd.R_drew)); exact HO142.out) (Kd.R_base ho26) hb)
           have n3_ := Aside0.mk (Kd.R_lower (Kd.R_new' (Kd.R_new' (Kd.R_newM (M := fun k_ => (w.heap.size ≤ k_)) ho26 (below_size (by repeat (first | (with_reducible first | exact HB.out | apply below_alloc | apply pw_below_drewN | apply below_drew1 | refine below_set ?_ GE133.out) | exact HB.out))) (fun k_ h_ => h_)) (Kd.R_lt (by (with_reducible repeat (first | apply Kd.R_alloc | apply Kd.R_drewN | apply Kd.R_drew)); exact HO_4.out))) (Kd.R_lt (by (with_reducible repeat (first | apply Kd.R_alloc | apply Kd.R_drewN | apply Kd.R_drew)); exact HO142.out))) (below_size (by repeat (first | (with_reducible first | exact HB.out | apply below_alloc | apply pw_below_drewN | apply below_drew1 | refine below_set ?_ GE133.out) | exact HB.out))))
           have n4_ := Aside0.mk (blk_below (g := gb133) (o := .cells #[.int .i64 ((rd_T31 l0 x9_1).f0.f0), .int .i64 ((rd_T31 l0 x9_1).f0.f1), .bool false] 31 (0, 0)) (by (with_reducible repeat (first | refine blk_drewN ?_ _ | refine blk_drew ?_ | refine blk_alloc ?_ _)); exact BK133.out) hb)
           have n5_ := Aside0.mk (below_step (by repeat (first | (with_reducible first | exact HB.out | apply below_alloc | apply pw_below_drewN | apply below_drew1 | refine below_set ?_ GE133.out) | exact HB.out)) hb)
           clear HO_3
           clear HO_4
           clear HO142
           clear BK133
           clear HB
           have HO_3 := n0_
           have HO_4 := n1_
           have HO142 := n2_
           have HO145 := n3_
           have BK133 := n4_
           have HB := n5_
           clear n0_ n1_ n2_ n3_ n4_ n5_
           clear hb ho26
           refine hK.out _ _ ⟨(blk_cell BK133.out 0).trans rfl, (blk_cell BK133.out 1).trans rfl, (blk_cell BK133.out 2).trans rfl⟩ (fun hHeld => ?_)
           clear hK K
           refine norm_ (a' := ?_) ?_ ?_
           rotate_left
           ·show Act.put _ (some 25) _ = _
            simp only [Act.put, List.setIfInBounds_toArray, List.set_cons_zero, List.set_cons_succ, i64_w, i32_w]
            rfl
           exact norm_ (by simp only [putAll, Act.put, List.setIfInBounds_toArray, List.set_cons_zero, List.set_cons_succ]) (hCont (v141, v144) _ ⟨hHeld, (by (with_reducible repeat (first | apply Kd.R_alloc | apply Kd.R_drewN | apply Kd.R_drew)); exact Kd.R_mono HO142.out (fun _ hk => ⟨hk.1.1.1, ⟨hk.2, hk.1.2⟩⟩)), (by (with_reducible repeat (first | apply Kd.R_alloc | apply Kd.R_drewN | apply Kd.R_drew)); exact Kd.R_mono HO145.out (fun _ hk => ⟨hk.1.1.1, ⟨hk.2, hk.1.2⟩⟩)), (by (with_reducible repeat (first | apply Kd.N_alloc | apply Kd.N_drewN | apply Kd.N_drew)); exact Kd.N_mono HO_3.out (fun _ hk => ⟨hk.1.1.1, ⟨hk.1.2, ⟨hk.2, ⟨hk.1.1.2.1, hk.1.1.2.2⟩⟩⟩⟩)), (by (with_reducible repeat (first | apply Kd.R_alloc | apply Kd.R_drewN | apply Kd.R_drew)); exact Kd.R_mono HO_4.out (fun _ hk => ⟨hk.1.1, ⟨hk.1.2, hk.2⟩⟩)), (by (with_reducible repeat (first | refine blk_drewN ?_ _ | refine blk_drew ?_ | refine blk_alloc ?_ _)); exact BK133.out), (by repeat (first | (with_reducible first | exact HB.out | apply below_alloc | apply pw_below_drewN | apply below_drew1 | refine below_set ?_ GE133.out) | exact HB.out))⟩)
          ·skip
           refine Kd.R_lit_step k29 _ 29 ?hg (N := 25) ?hd (xs := ([(⟨(rd_T31 l0 x9_1).f0.f0, (rd_T31 l0 x9_1).f0.f1⟩ : S29)] : List (S29))) (inner := [.int .i64 ((rd_T31 l0 x9_1).f0.f0), .int .i64 ((rd_T31 l0 x9_1).f0.f1)]) (ok := fun _ => True) (okp := fun _ => True) ?hr ?hp (fun _ hk => hk) trivial (Below.refl _ _) (Nat.le_refl _) (by simp) ?_; (case hd => rfl); (case hg => rfl); (case hr => first | (go_simp; done) | (go_simp; rfl)); (case hp => exact (Reps.c2 (show Kd.M k29 _ _ _ (⟨(rd_T31 l0 x9_1).f0.f0, (rd_T31 l0 x9_1).f0.f1⟩ : S29) [.int .i64 ((rd_T31 l0 x9_1).f0.f0), .int .i64 ((rd_T31 l0 x9_1).f0.f1)] from (k29_mkM _ _ _ (⟨(rd_T31 l0 x9_1).f0.f0, (rd_T31 l0 x9_1).f0.f1⟩ : S29) )) (Reps.none _ _)))
           intro v144 w24 ho25 hb hg_ hnew_
           clear hg_ hnew_
           (first | rw [← Ny143.out] at ho25 | (simp only [Int.reduceToNat] at ho25; rw [← Ny143.out] at ho25))
           have n0_ := Aside0.mk (Kd.N_elder' (by (with_reducible repeat (first | apply Kd.N_alloc | apply Kd.N_drewN | apply Kd.N_drew)); exact HO_3.out) (Kd.R_base ho25) hb)
           have n1_ := Aside0.mk (Kd.R_elder' (by (with_reducible repeat (first | apply Kd.R_alloc | apply Kd.R_drewN | apply Kd.R_drew)); exact HO_4.out) (Kd.R_base ho25) hb)
           have n2_ := Aside0.mk (Kd.R_lower (Kd.R_new' (Kd.R_newM (M := fun k_ => (w.heap.size ≤ k_)) ho25 (below_size (by repeat (first | (with_reducible first | exact HB.out | apply below_alloc | apply pw_below_drewN | apply below_drew1 | refine below_set ?_ GE133.out) | exact HB.out))) (fun k_ h_ => h_)) (Kd.R_lt (by (with_reducible repeat (first | apply Kd.R_alloc | apply Kd.R_drewN | apply Kd.R_drew)); exact HO_4.out))) (below_size (by repeat (first | (with_reducible first | exact HB.out | apply below_alloc | apply pw_below_drewN | apply below_drew1 | refine below_set ?_ GE133.out) | exact HB.out))))
           have n3_ := Aside0.mk (blk_below (g := gb133) (o := .cells #[.int .i64 ((rd_T31 l0 x9_1).f0.f0), .int .i64 ((rd_T31 l0 x9_1).f0.f1), .bool false] 31 (0, 0)) (by (with_reducible repeat (first | refine blk_drewN ?_ _ | refine blk_drew ?_ | refine blk_alloc ?_ _)); exact BK133.out) hb)
           have n4_ := Aside0.mk (below_step (by repeat (first | (with_reducible first | exact HB.out | apply below_alloc | apply pw_below_drewN | apply below_drew1 | refine below_set ?_ GE133.out) | exact HB.out)) hb)
           clear HO_3
           clear HO_4
           clear BK133
           clear HB
           have HO_3 := n0_
           have HO_4 := n1_
           have HO145 := n2_
           have BK133 := n3_
           have HB := n4_
           clear n0_ n1_ n2_ n3_ n4_
           clear hb ho25
           refine hK.out _ _ ⟨(blk_cell BK133.out 0).trans rfl, (blk_cell BK133.out 1).trans rfl, (blk_cell BK133.out 2).trans rfl⟩ (fun hHeld => ?_)
           clear hK K
           refine norm_ (a' := ?_) ?_ ?_
           rotate_left
           ·show Act.put _ (some 25) _ = _
            simp only [Act.put, List.setIfInBounds_toArray, List.set_cons_zero, List.set_cons_succ, i64_w, i32_w]
            rfl
           refine one_ (i := 2) (N := some 22) #[true, true, true, true, true, true, false, false, false, false, false] rfl rfl (one_of HT_.out (by kernel_rfl)) (by decide) (fun K hK => ?_)
           refine goes_ Tryd.func38 (by kernel_rfl) rfl #[.slice Ao20 x4_1.length co20] (by rfl) rfl rfl (by (try simp only [List.map_toArray, List.map_cons, List.map_nil]); first | done | rfl | (simp only [List.length_drop, List.length_take]; rfl)) ?_
           with_reducible refine (nogood_Lit_38.calls _ _ x4_1 t140 _ ?side1 ?side2 A14.out).mono ?_
           (case side1 => repeat (first | exact (Kd.R_reads' HO_4.out).2.2 | (with_reducible refine Kd.C_alloc ?_ _) | (with_reducible refine Kd.C_drewN ?_ _) | (with_reducible refine Kd.C_drew ?_)))
           (case side2 => exact (Kd.R_reads' HO_4.out).2.1)
           rintro e w26 ⟨v141, rfl, ho0, hb⟩
           refine ⟨_, rfl, ?_⟩
           have n0_ := Aside0.mk (Kd.N_elder' (by (with_reducible repeat (first | apply Kd.N_alloc | apply Kd.N_drewN | apply Kd.N_drew)); exact HO_3.out) (Kd.R_base ho0) hb)
           have n1_ := Aside0.mk (Kd.R_elder' (by (with_reducible repeat (first | apply Kd.R_alloc | apply Kd.R_drewN | apply Kd.R_drew)); exact HO_4.out) (Kd.R_base ho0) hb)
           have n2_ := Aside0.mk (Kd.R_elder' (by (with_reducible repeat (first | apply Kd.R_alloc | apply Kd.R_drewN | apply Kd.R_drew)); exact HO145.out) (Kd.R_base ho0) hb)
           have n3_ := Aside0.mk (Kd.R_lower (Kd.R_new' (Kd.R_new' (Kd.R_newM (M := fun k_ => (w.heap.size ≤ k_)) ho0 (below_size (by repeat (first | (with_reducible first | exact HB.out | apply below_alloc | apply pw_below_drewN | apply below_drew1 | refine below_set ?_ GE133.out) | exact HB.out))) (fun k_ h_ => h_)) (Kd.R_lt (by (with_reducible repeat (first | apply Kd.R_alloc | apply Kd.R_drewN | apply Kd.R_drew)); exact HO_4.out))) (Kd.R_lt (by (with_reducible repeat (first | apply Kd.R_alloc | apply Kd.R_drewN | apply Kd.R_drew)); exact HO145.out))) (below_size (by repeat (first | (with_reducible first | exact HB.out | apply below_alloc | apply pw_below_drewN | apply below_drew1 | refine below_set ?_ GE133.out) | exact HB.out))))
           have n4_ := Aside0.mk (blk_below (g := gb133) (o := .cells #[.int .i64 ((rd_T31 l0 x9_1).f0.f0), .int .i64 ((rd_T31 l0 x9_1).f0.f1), .bool false] 31 (0, 0)) (by (with_reducible repeat (first | refine blk_drewN ?_ _ | refine blk_drew ?_ | refine blk_alloc ?_ _)); exact BK133.out) hb)
           have n5_ := Aside0.mk (below_step (by repeat (first | (with_reducible first | exact HB.out | apply below_alloc | apply pw_below_drewN | apply below_drew1 | refine below_set ?_ GE133.out) | exact HB.out)) hb)
           clear HO_3
           clear HO_4
           clear HO145
           clear BK133
           clear HB
           have HO_3 := n0_
           have HO_4 := n1_
           have HO145 := n2_
           have HO142 := n3_
           have BK133 := n4_
           have HB := n5_
           clear n0_ n1_ n2_ n3_ n4_ n5_
           (try clear hb)
           (try clear hb2)
           (try clear hk)
           (try clear hi)
           (try clear ho0)
           refine hK.out _ _ ⟨(blk_cell BK133.out 0).trans rfl, (blk_cell BK133.out 1).trans rfl, (blk_cell BK133.out 2).trans rfl⟩ (fun hHeld => ?_)
           clear hK K
           refine norm_ (a' := ?_) ?_ ?_
           rotate_left
           ·show Act.put _ (some 22) _ = _
            simp only [Act.put, List.setIfInBounds_toArray, List.set_cons_zero, List.set_cons_succ, i64_w, i32_w]
            rfl
           exact norm_ (by simp only [putAll, Act.put, List.setIfInBounds_toArray, List.set_cons_zero, List.set_cons_succ]) (hCont (v141, v144) _ ⟨hHeld, (by (with_reducible repeat (first | apply Kd.R_alloc | apply Kd.R_drewN | apply Kd.R_drew)); exact Kd.R_mono HO142.out (fun _ hk => ⟨hk.1.1.1, ⟨hk.2, hk.1.2⟩⟩)), (by (with_reducible repeat (first | apply Kd.R_alloc | apply Kd.R_drewN | apply Kd.R_drew)); exact Kd.R_mono HO145.out (fun _ hk => ⟨hk.1.1.1, ⟨hk.2, hk.1.2⟩⟩)), (by (with_reducible repeat (first | apply Kd.N_alloc | apply Kd.N_drewN | apply Kd.N_drew)); exact Kd.N_mono HO_3.out (fun _ hk => ⟨hk.1.1.1, ⟨hk.2, ⟨hk.1.2, ⟨hk.1.1.2.1, hk.1.1.2.2⟩⟩⟩⟩)), (by (with_reducible repeat (first | apply Kd.R_alloc | apply Kd.R_drewN | apply Kd.R_drew)); exact Kd.R_mono HO_4.out (fun _ hk => ⟨hk.1.1, ⟨hk.2, hk.1.2⟩⟩)), (by (with_reducible repeat (first | refine blk_drewN ?_ _ | refine blk_drew ?_ | refine blk_alloc ?_ _)); exact BK133.out), (by repeat (first | (with_reducible first | exact HB.out | apply below_alloc | apply pw_below_drewN | apply below_drew1 | refine below_set ?_ GE133.out) | exact HB.out))⟩)
         rintro ⟨v141, v144⟩ w27 ⟨hS_, h0_, h1_, h2_, h3_, h4_, h5_⟩
         have n0_ : Aside0 (Kd.R k29 29 w27 w.heap.size (fun k_ => (w.heap.size ≤ k_) ∧ some k_ ≠ (v144 : Value).ownBlock ∧ some k_ ≠ (.slice Ao20 x4_1.length co20 : Value).ownBlock) v141 t140) := ⟨h0_⟩
         have n1_ : Aside0 (Kd.R k29 29 w27 w.heap.size (fun k_ => (w.heap.size ≤ k_) ∧ some k_ ≠ (v141 : Value).ownBlock ∧ some k_ ≠ (.slice Ao20 x4_1.length co20 : Value).ownBlock) v144 y143) := ⟨h1_⟩
         have n2_ : Aside0 (Kd.N (Kd.slice 29 k29) 45 w27 w.heap.size (fun k_ => (w.heap.size ≤ k_) ∧ some k_ ≠ (v141 : Value).ownBlock ∧ some k_ ≠ (v144 : Value).ownBlock ∧ some k_ ≠ (.slice Ao20 x4_1.length co20 : Value).ownBlock ∧ k_ ≠ gb133) (.slice Ao21 x3_1.length co21) x3_1) := ⟨h2_⟩
         have n3_ : Aside0 (Kd.R k29 29 w27 w.heap.size (fun k_ => (w.heap.size ≤ k_) ∧ some k_ ≠ (v141 : Value).ownBlock ∧ some k_ ≠ (v144 : Value).ownBlock) (.slice Ao20 x4_1.length co20) x4_1) := ⟨h3_⟩
         have n4_ : Aside0 (w27.heap[gb133]? = some (.cells #[.int .i64 ((rd_T31 l0 x9_1).f0.f0), .int .i64 ((rd_T31 l0 x9_1).f0.f1), .bool false] 31 (0, 0))) := ⟨h4_⟩
         have n5_ : Aside0 (Below w.heap.size w w27) := ⟨h5_⟩
         clear HO_3
         clear HO_4
         clear BK133
         clear HB
         clear h0_ h1_ h2_ h3_ h4_ h5_
         have HO142 := n0_
         have HO145 := n1_
         have HO_3 := n2_
         have HO_4 := n3_
         have BK133 := n4_
         have HB := n5_
         clear n0_ n1_ n2_ n3_ n4_ n5_
         have hHeld : w27.cell? ⟨gb133, 0, none⟩ = some (.int .i64 ((rd_T31 l0 x9_1).f0.f0)) ∧ w27.cell? ⟨gb133, 1, none⟩ = some (.int .i64 ((rd_T31 l0 x9_1).f0.f1)) ∧ w27.cell? ⟨gb133, 2, none⟩ = some (.bool false) := hS_
         obtain ⟨Ao29, co29, eo29⟩ := Kd.R_slice HO145.out
         (first | subst eo29 | (injection eo29 with f1_ f2_ f3_; have f4_ := f1_.symm; have f5_ := f3_.symm; clear f1_ f2_ f3_; subst f4_; subst f5_))
         refine norm_ (a' := ?_) ?_ ?_
         rotate_left
         ·simp only [putAll, Act.put, List.setIfInBounds_toArray, List.set_cons_zero, List.set_cons_succ]
          rfl
         refine one_ (i := 6) (N := some 26) #[true, true, true, true, true, true, true, false, false, false, false] rfl rfl (one_of HT_.out (by kernel_rfl)) (by decide) (fun K hK => ?_)
         refine Kd.R_append_rows_step k29 (w0 := w) w.heap.size (by rfl) (.tmp 22) (.tmp 25) 45 29 (.agg #[(.int .i64 0), (.int .i64 0)]) 16 rfl Tryd.underlying45 info29 rfl (by decide) (by omega) v141 t140 y143 _ _ _ (fun k_ => (w.heap.size ≤ k_) ∧ some k_ ≠ (.slice Ao20 x4_1.length co20 : Value).ownBlock ∧ some k_ ≠ (.slice Ao29 y143.length co29 : Value).ownBlock) (fun _ => False) rfl rfl ?aO ?aR (fun _ _ h => h) (fun _ h => h.elim) ?aF ?aB ?aS ?aL ?_
         (case aR => repeat (first | exact (Kd.R_reads' HO145.out).2.2 | (with_reducible refine Kd.C_alloc ?_ _) | (with_reducible refine Kd.C_drewN ?_ _) | (with_reducible refine Kd.C_drew ?_)))
         (case aB => exact (by repeat (first | (with_reducible first | exact HB.out | apply below_alloc | apply pw_below_drewN | apply below_drew1 | refine below_set ?_ GE133.out) | exact HB.out)))
         (case aF => exact (fun k_ hk => ⟨(Nat.le_trans (below_size (by repeat (first | (with_reducible first | exact HB.out | apply below_alloc | apply pw_below_drewN | apply below_drew1 | refine below_set ?_ GE133.out) | exact HB.out))) hk), Kd.fresh' (Kd.R_lt (by (with_reducible repeat (first | apply Kd.R_alloc | apply Kd.R_drewN | apply Kd.R_drew)); exact HO_4.out)) k_ hk, Kd.fresh' (Kd.R_lt (by (with_reducible repeat (first | apply Kd.R_alloc | apply Kd.R_drewN | apply Kd.R_drew)); exact HO145.out)) k_ hk⟩))
         (case aO => exact (by (with_reducible repeat (first | apply Kd.R_alloc | apply Kd.R_drewN | apply Kd.R_drew)); exact Kd.R_mono HO142.out (fun _ hk => ⟨hk.1, ⟨hk.2.2, hk.2.1⟩⟩)))
         (case aS => exact (below_size (by repeat (first | (with_reducible first | exact HB.out | apply below_alloc | apply pw_below_drewN | apply below_drew1 | refine below_set ?_ GE133.out) | exact HB.out))))
         (case aL => have := LMc15.out; omega)
         intro v147 w28 ho hb hg hat
         rw [← Ny146.out] at ho
         have n0_ := Aside0.mk (Kd.N_afterv (ok := (fun k_ => (w.heap.size ≤ k_) ∧ some k_ ≠ (.slice Ao20 x4_1.length co20 : Value).ownBlock ∧ some k_ ≠ (.slice Ao29 y143.length co29 : Value).ownBlock ∧ k_ ≠ gb133)) (by (with_reducible repeat (first | apply Kd.N_alloc | apply Kd.N_drewN | apply Kd.N_drew)); exact Kd.N_mono HO_3.out (fun _ hk => ⟨⟨hk.1, ⟨hk.2.2.2.1, ⟨hk.2.2.1, hk.2.2.2.2⟩⟩⟩, hk.2.1⟩)) hg hat)
         have n1_ := Aside0.mk (Kd.R_after (ok := (fun k_ => (w.heap.size ≤ k_) ∧ some k_ ≠ (.slice Ao29 y143.length co29 : Value).ownBlock)) (by (with_reducible repeat (first | apply Kd.R_alloc | apply Kd.R_drewN | apply Kd.R_drew)); exact Kd.R_mono HO_4.out (fun _ hk => ⟨⟨hk.1, hk.2.2⟩, hk.2.1⟩)) hg hat)
         have n2_ := Aside0.mk (blk_grown (g := gb133) (o := .cells #[.int .i64 ((rd_T31 l0 x9_1).f0.f0), .int .i64 ((rd_T31 l0 x9_1).f0.f1), .bool false] 31 (0, 0)) (by (with_reducible repeat (first | refine blk_drewN ?_ _ | refine blk_drew ?_ | refine blk_alloc ?_ _)); exact BK133.out) hg (Kd.R_ne HO142.out BK133.out (by decide)))
         have n3_ := Aside0.mk (Kd.R_after (ok := (fun k_ => (w.heap.size ≤ k_) ∧ some k_ ≠ (.slice Ao20 x4_1.length co20 : Value).ownBlock)) (by (with_reducible repeat (first | apply Kd.R_alloc | apply Kd.R_drewN | apply Kd.R_drew)); exact Kd.R_mono HO145.out (fun _ hk => ⟨⟨hk.1, hk.2.2⟩, hk.2.1⟩)) hg hat)
         have n4_ := Aside0.mk (hb)
         have n5_ := Aside0.mk (ho)
         clear HO_3
         clear HO_4
         clear BK133
         clear HO145
         clear HB
         clear HO142
         have HO_3 := n0_
         have HO_4 := n1_
         have BK133 := n2_
         have HO145 := n3_
         have HB := n4_
         have HO148 := n5_
         clear n0_ n1_ n2_ n3_ n4_ n5_
         clear ho hb hg hat
         obtain ⟨Ao30, co30, eo30⟩ := Kd.R_slice HO148.out
         (first | subst eo30 | (injection eo30 with f1_ f2_ f3_; have f4_ := f1_.symm; have f5_ := f3_.symm; clear f1_ f2_ f3_; subst f4_; subst f5_))
         refine hK.out _ _ ⟨(blk_cell BK133.out 0).trans rfl, (blk_cell BK133.out 1).trans rfl, (blk_cell BK133.out 2).trans rfl⟩ (fun hHeld => ?_)
         clear hK K
         refine norm_ (a' := ?_) ?_ ?_
         rotate_left
         ·show Act.put _ (some 26) _ = _
          simp only [Act.put, List.setIfInBounds_toArray, List.set_cons_zero, List.set_cons_succ, i64_w, i32_w]
          rfl
         refine one_ (i := 7) (N := some 27) #[true, true, true, true, true, true, true, true, false, false, false] rfl rfl (one_of HT_.out (by kernel_rfl)) (by decide) (fun K hK => ?_)
         refine goes_ Tryd.func37 (by kernel_rfl) rfl #[.slice Ao30 y146.length co30] (by rfl) rfl rfl (by (try simp only [List.map_toArray, List.map_cons, List.map_nil]); first | done | rfl | (simp only [List.length_drop, List.length_take]; rfl)) ?_
         with_reducible refine (nogood_made.calls _ _ y146 t149 _ ?side1 ?side2 A16.out).mono ?_
         (case side1 => repeat (first | exact (Kd.R_reads' HO148.out).2.2 | (with_reducible refine Kd.C_alloc ?_ _) | (with_reducible refine Kd.C_drewN ?_ _) | (with_reducible refine Kd.C_drew ?_)))
         (case side2 => exact (Kd.R_reads' HO148.out).2.1)
         rintro e w31 ⟨v150, rfl, ho0, hb⟩
         refine ⟨_, rfl, ?_⟩
         have n0_ := Aside0.mk (Kd.N_elder' (by (with_reducible repeat (first | apply Kd.N_alloc | apply Kd.N_drewN | apply Kd.N_drew)); exact HO_3.out) (Kd.R_base ho0) hb)
         have n1_ := Aside0.mk (Kd.R_elder' (by (with_reducible repeat (first | apply Kd.R_alloc | apply Kd.R_drewN | apply Kd.R_drew)); exact HO_4.out) (Kd.R_base ho0) hb)
         have n2_ := Aside0.mk (Kd.R_elder' (by (with_reducible repeat (first | apply Kd.R_alloc | apply Kd.R_drewN | apply Kd.R_drew)); exact HO145.out) (Kd.R_base ho0) hb)
         have n3_ := Aside0.mk (Kd.R_elder' (by (with_reducible repeat (first | apply Kd.R_alloc | apply Kd.R_drewN | apply Kd.R_drew)); exact HO148.out) (Kd.R_base ho0) hb)
         have n4_ := Aside0.mk (Kd.R_lower (Kd.R_new' (Kd.R_new' (Kd.R_new' (Kd.R_newM (M := fun k_ => (w.heap.size ≤ k_)) ho0 (below_size (by repeat (first | (with_reducible first | exact HB.out | apply below_alloc | apply pw_below_drewN | apply below_drew1 | refine below_set ?_ GE133.out) | exact HB.out))) (fun k_ h_ => h_)) (Kd.R_lt (by (with_reducible repeat (first | apply Kd.R_alloc | apply Kd.R_drewN | apply Kd.R_drew)); exact HO_4.out))) (Kd.R_lt (by (with_reducible repeat (first | apply Kd.R_alloc | apply Kd.R_drewN | apply Kd.R_drew)); exact HO145.out))) (Kd.R_lt (by (with_reducible repeat (first | apply Kd.R_alloc | apply Kd.R_drewN | apply Kd.R_drew)); exact HO148.out))) (below_size (by repeat (first | (with_reducible first | exact HB.out | apply below_alloc | apply pw_below_drewN | apply below_drew1 | refine below_set ?_ GE133.out) | exact HB.out))))
         have n5_ := Aside0.mk (blk_below (g := gb133) (o := .cells #[.int .i64 ((rd_T31 l0 x9_1).f0.f0), .int .i64 ((rd_T31 l0 x9_1).f0.f1), .bool false] 31 (0, 0)) (by (with_reducible repeat (first | refine blk_drewN ?_ _ | refine blk_drew ?_ | refine blk_alloc ?_ _)); exact BK133.out) hb)
         have n6_ := Aside0.mk (below_step (by repeat (first | (with_reducible first | exact HB.out | apply below_alloc | apply pw_below_drewN | apply below_drew1 | refine below_set ?_ GE133.out) | exact HB.out)) hb)
         clear HO_3
         clear HO_4
         clear HO145
         clear HO148
         clear BK133
         clear HB
         have HO_3 := n0_
         have HO_4 := n1_
         have HO145 := n2_
         have HO148 := n3_
         have HO151 := n4_
         have BK133 := n5_
         have HB := n6_
         clear n0_ n1_ n2_ n3_ n4_ n5_ n6_
         (try clear hb)
         (try clear hb2)
         (try clear hk)
         (try clear hi)
         (try clear ho0)
         obtain ⟨Ao32, co32, eo32⟩ := Kd.R_slice HO151.out
         (first | subst eo32 | (injection eo32 with f1_ f2_ f3_; have f4_ := f1_.symm; have f5_ := f3_.symm; clear f1_ f2_ f3_; subst f4_; subst f5_))
         refine hK.out _ _ ⟨(blk_cell BK133.out 0).trans rfl, (blk_cell BK133.out 1).trans rfl, (blk_cell BK133.out 2).trans rfl⟩ (fun hHeld => ?_)
         clear hK K
         refine norm_ (a' := ?_) ?_ ?_
         rotate_left
         ·show Act.put _ (some 27) _ = _
          simp only [Act.put, List.setIfInBounds_toArray, List.set_cons_zero, List.set_cons_succ, i64_w, i32_w]
          rfl
         refine one_ (i := 8) (N := some 28) #[true, true, true, true, true, true, true, true, true, false, false] rfl rfl (one_of HT_.out (by kernel_rfl)) (by decide) (fun K hK => ?_)
         refine Kd.N_lit_step (Kd.slice 29 k29) _ 45 ?hg (N' := 28) ?hd (xs := ([t149] : List (List (S29)))) (inner := [.slice Ao32 t149.length co32]) (ok := (fun k_ => (w.heap.size ≤ k_) ∧ some k_ ≠ (.slice Ao21 x3_1.length co21 : Value).ownBlock ∧ some k_ ≠ (.slice Ao20 x4_1.length co20 : Value).ownBlock ∧ some k_ ≠ (.slice Ao29 y143.length co29 : Value).ownBlock ∧ some k_ ≠ (.slice Ao30 y146.length co30 : Value).ownBlock ∧ k_ ≠ gb133)) (okp := (fun k_ => (w.heap.size ≤ k_) ∧ some k_ ≠ (.slice Ao21 x3_1.length co21 : Value).ownBlock ∧ some k_ ≠ (.slice Ao20 x4_1.length co20 : Value).ownBlock ∧ some k_ ≠ (.slice Ao29 y143.length co29 : Value).ownBlock ∧ some k_ ≠ (.slice Ao30 y146.length co30 : Value).ownBlock ∧ k_ ≠ gb133)) ?hr ?hp (fun _ hk => hk) ((show ∀ k_, w31.heap.size ≤ k_ → (fun k_ => (w.heap.size ≤ k_) ∧ some k_ ≠ (.slice Ao21 x3_1.length co21 : Value).ownBlock ∧ some k_ ≠ (.slice Ao20 x4_1.length co20 : Value).ownBlock ∧ some k_ ≠ (.slice Ao29 y143.length co29 : Value).ownBlock ∧ some k_ ≠ (.slice Ao30 y146.length co30 : Value).ownBlock ∧ k_ ≠ gb133) k_ from fun k_ hk => ⟨(Nat.le_trans (below_size (by repeat (first | (with_reducible first | exact HB.out | apply below_alloc | apply pw_below_drewN | apply below_drew1 | refine below_set ?_ GE133.out) | exact HB.out))) hk), Kd.fresh' (Kd.N_lt (by (with_reducible repeat (first | apply Kd.N_alloc | apply Kd.N_drewN | apply Kd.N_drew)); exact HO_3.out)) k_ hk, Kd.fresh' (Kd.R_lt (by (with_reducible repeat (first | apply Kd.R_alloc | apply Kd.R_drewN | apply Kd.R_drew)); exact HO_4.out)) k_ hk, Kd.fresh' (Kd.R_lt (by (with_reducible repeat (first | apply Kd.R_alloc | apply Kd.R_drewN | apply Kd.R_drew)); exact HO145.out)) k_ hk, Kd.fresh' (Kd.R_lt (by (with_reducible repeat (first | apply Kd.R_alloc | apply Kd.R_drewN | apply Kd.R_drew)); exact HO148.out)) k_ hk, Kd.freshB (g := gb133) (o := .cells #[.int .i64 ((rd_T31 l0 x9_1).f0.f0), .int .i64 ((rd_T31 l0 x9_1).f0.f1), .bool false] 31 (0, 0)) (by (with_reducible repeat (first | refine blk_drewN ?_ _ | refine blk_drew ?_ | refine blk_alloc ?_ _)); exact BK133.out) k_ hk⟩) _ (Nat.le_refl _)) (Below.refl _ _) (Nat.le_refl _) (by simp) ?_; (case hd => rfl); (case hg => rfl); (case hr => first | (go_simp; done) | (go_simp; rfl)); (case hp => exact (Reps.one (show Kd.FK (Kd.slice 29 k29) _ _ t149 [.slice Ao32 t149.length co32] from (Kd.FK_slice_mk (Kd.R_reads' (Kd.R_mono (ok' := (fun k_ => (w.heap.size ≤ k_) ∧ some k_ ≠ (.slice Ao21 x3_1.length co21 : Value).ownBlock ∧ some k_ ≠ (.slice Ao20 x4_1.length co20 : Value).ownBlock ∧ some k_ ≠ (.slice Ao29 y143.length co29 : Value).ownBlock ∧ some k_ ≠ (.slice Ao30 y146.length co30 : Value).ownBlock ∧ k_ ≠ gb133)) (Kd.R_types (Kd.R_apart' (HO151.out) (Kd.N_typed HO_3.out) (by decide)) BK133.out (by decide)) (fun k_ hk => ⟨hk.1.1.1.1.1.1, ⟨hk.1.2, ⟨hk.1.1.1.1.2, ⟨hk.1.1.1.2, ⟨hk.1.1.2, hk.2⟩⟩⟩⟩⟩))).2.1 (Kd.R_F (Kd.R_mono (ok' := (fun k_ => (w.heap.size ≤ k_) ∧ some k_ ≠ (.slice Ao21 x3_1.length co21 : Value).ownBlock ∧ some k_ ≠ (.slice Ao20 x4_1.length co20 : Value).ownBlock ∧ some k_ ≠ (.slice Ao29 y143.length co29 : Value).ownBlock ∧ some k_ ≠ (.slice Ao30 y146.length co30 : Value).ownBlock ∧ k_ ≠ gb133)) (Kd.R_types (Kd.R_apart' (HO151.out) (Kd.N_typed HO_3.out) (by decide)) BK133.out (by decide)) (fun k_ hk => ⟨hk.1.1.1.1.1.1, ⟨hk.1.2, ⟨hk.1.1.1.1.2, ⟨hk.1.1.1.2, ⟨hk.1.1.2, hk.2⟩⟩⟩⟩⟩))))) (Reps.none _ _)))
         intro v153 w33 ho34 hb hg_ hnew_
         clear hg_ hnew_
         (first | rw [← Ny152.out] at ho34 | (simp only [Int.reduceToNat] at ho34; rw [← Ny152.out] at ho34))
         have n0_ := Aside0.mk (Kd.N_elder' (by (with_reducible repeat (first | apply Kd.N_alloc | apply Kd.N_drewN | apply Kd.N_drew)); exact HO_3.out) (Kd.N_base ho34) hb)
         have n1_ := Aside0.mk (Kd.R_below (by (with_reducible repeat (first | apply Kd.R_alloc | apply Kd.R_drewN | apply Kd.R_drew)); exact HO_4.out) hb)
         have n2_ := Aside0.mk (Kd.R_below (by (with_reducible repeat (first | apply Kd.R_alloc | apply Kd.R_drewN | apply Kd.R_drew)); exact HO145.out) hb)
         have n3_ := Aside0.mk (Kd.R_below (by (with_reducible repeat (first | apply Kd.R_alloc | apply Kd.R_drewN | apply Kd.R_drew)); exact HO148.out) hb)
         have n4_ := Aside0.mk (Kd.N_lower ho34 (below_size (by repeat (first | (with_reducible first | exact HB.out | apply below_alloc | apply pw_below_drewN | apply below_drew1 | refine below_set ?_ GE133.out) | exact HB.out))))
         have n5_ := Aside0.mk (blk_below (g := gb133) (o := .cells #[.int .i64 ((rd_T31 l0 x9_1).f0.f0), .int .i64 ((rd_T31 l0 x9_1).f0.f1), .bool false] 31 (0, 0)) (by (with_reducible repeat (first | refine blk_drewN ?_ _ | refine blk_drew ?_ | refine blk_alloc ?_ _)); exact BK133.out) hb)
         have n6_ := Aside0.mk (below_step (by repeat (first | (with_reducible first | exact HB.out | apply below_alloc | apply pw_below_drewN | apply below_drew1 | refine below_set ?_ GE133.out) | exact HB.out)) hb)
         clear HO_3
         clear HO_4
         clear HO145
         clear HO148
         clear BK133
         clear HB
         clear HO151
         have HO_3 := n0_
         have HO_4 := n1_
         have HO145 := n2_
         have HO148 := n3_
         have HO154 := n4_
         have BK133 := n5_
         have HB := n6_
         clear n0_ n1_ n2_ n3_ n4_ n5_ n6_
         clear hb ho34
         obtain ⟨Ao36, co36, eo36⟩ := Kd.N_slice HO154.out
         (first | subst eo36 | (injection eo36 with f1_ f2_ f3_; have f4_ := f1_.symm; have f5_ := f3_.symm; clear f1_ f2_ f3_; subst f4_; subst f5_))
         refine hK.out _ _ ⟨(blk_cell BK133.out 0).trans rfl, (blk_cell BK133.out 1).trans rfl, (blk_cell BK133.out 2).trans rfl⟩ (fun hHeld => ?_)
         clear hK K
         refine norm_ (a' := ?_) ?_ ?_
         rotate_left
         ·show Act.put _ (some 28) _ = _
          simp only [Act.put, List.setIfInBounds_toArray, List.set_cons_zero, List.set_cons_succ, i64_w, i32_w]
          rfl
         refine one_ (i := 9) (N := some 29) #[true, true, true, true, true, true, true, true, true, true, false] rfl rfl (one_of HT_.out (by kernel_rfl)) (by decide) (fun K hK => ?_)
         refine Kd.N_append_rows_step (Kd.slice 29 k29) (w0 := w) w.heap.size (by rfl) (.tmp 20) (.tmp 28) 36 45 (.slice none 0 0) 24 rfl Tryd.underlying36 info45 rfl (by decide) (by omega) (.slice Ao21 x3_1.length co21) x3_1 y152 _ _ _ (fun k_ => (w.heap.size ≤ k_) ∧ some k_ ≠ (.slice Ao20 x4_1.length co20 : Value).ownBlock ∧ some k_ ≠ (.slice Ao29 y143.length co29 : Value).ownBlock ∧ some k_ ≠ (.slice Ao30 y146.length co30 : Value).ownBlock ∧ k_ ≠ gb133) (fun k_ => ((fun k_ => (w.heap.size ≤ k_) ∧ some k_ ≠ (.slice Ao20 x4_1.length co20 : Value).ownBlock ∧ some k_ ≠ (.slice Ao29 y143.length co29 : Value).ownBlock ∧ some k_ ≠ (.slice Ao30 y146.length co30 : Value).ownBlock ∧ k_ ≠ gb133)) k_ ∧ some k_ ≠ (.slice Ao21 x3_1.length co21 : Value).ownBlock) rfl rfl ?aO ?aR (fun _ hk => hk) ?aF ?aB ?aS ?aL ?_
         (case aR => exact (by skip; exact Kd.N_F (Kd.N_mono (ok' := (fun k_ => ((fun k_ => (w.heap.size ≤ k_) ∧ some k_ ≠ (.slice Ao20 x4_1.length co20 : Value).ownBlock ∧ some k_ ≠ (.slice Ao29 y143.length co29 : Value).ownBlock ∧ some k_ ≠ (.slice Ao30 y146.length co30 : Value).ownBlock ∧ k_ ≠ gb133)) k_ ∧ some k_ ≠ (.slice Ao21 x3_1.length co21 : Value).ownBlock)) (HO154.out) (fun k_ hk => ⟨⟨hk.1, ⟨hk.2.2.1, ⟨hk.2.2.2.1, ⟨hk.2.2.2.2.1, hk.2.2.2.2.2⟩⟩⟩⟩, hk.2.1⟩))))
         (case aB => exact (by repeat (first | (with_reducible first | exact HB.out | apply below_alloc | apply pw_below_drewN | apply below_drew1 | refine below_set ?_ GE133.out) | exact HB.out)))
         (case aF => exact (fun k_ hk => ⟨(Nat.le_trans (below_size (by repeat (first | (with_reducible first | exact HB.out | apply below_alloc | apply pw_below_drewN | apply below_drew1 | refine below_set ?_ GE133.out) | exact HB.out))) hk), Kd.fresh' (Kd.R_lt (by (with_reducible repeat (first | apply Kd.R_alloc | apply Kd.R_drewN | apply Kd.R_drew)); exact HO_4.out)) k_ hk, Kd.fresh' (Kd.R_lt (by (with_reducible repeat (first | apply Kd.R_alloc | apply Kd.R_drewN | apply Kd.R_drew)); exact HO145.out)) k_ hk, Kd.fresh' (Kd.R_lt (by (with_reducible repeat (first | apply Kd.R_alloc | apply Kd.R_drewN | apply Kd.R_drew)); exact HO148.out)) k_ hk, Kd.freshB (g := gb133) (o := .cells #[.int .i64 ((rd_T31 l0 x9_1).f0.f0), .int .i64 ((rd_T31 l0 x9_1).f0.f1), .bool false] 31 (0, 0)) (by (with_reducible repeat (first | refine blk_drewN ?_ _ | refine blk_drew ?_ | refine blk_alloc ?_ _)); exact BK133.out) k_ hk⟩))
         (case aO => exact (by (with_reducible repeat (first | apply Kd.N_alloc | apply Kd.N_drewN | apply Kd.N_drew)); exact Kd.N_mono HO_3.out (fun _ hk => ⟨hk.1.1.1.1, ⟨hk.1.1.1.2.1, ⟨hk.1.1.1.2.2.1, ⟨hk.1.1.2, hk.1.1.1.2.2.2⟩⟩⟩⟩)))
         (case aS => exact (below_size (by repeat (first | (with_reducible first | exact HB.out | apply below_alloc | apply pw_below_drewN | apply below_drew1 | refine below_set ?_ GE133.out) | exact HB.out))))
         (case aL => have := LMc17.out; omega)
         intro v156 w35 ho hb hg hat
         rw [← Ny155.out] at ho
         have n0_ := Aside0.mk (Kd.R_over' (by (with_reducible repeat (first | apply Kd.R_alloc | apply Kd.R_drewN | apply Kd.R_drew)); exact HO_4.out) (Kd.N_typed (by (with_reducible repeat (first | apply Kd.N_alloc | apply Kd.N_drewN | apply Kd.N_drew)); exact HO_3.out)) (by decide) hg)
         have n1_ := Aside0.mk (blk_grown (g := gb133) (o := .cells #[.int .i64 ((rd_T31 l0 x9_1).f0.f0), .int .i64 ((rd_T31 l0 x9_1).f0.f1), .bool false] 31 (0, 0)) (by (with_reducible repeat (first | refine blk_drewN ?_ _ | refine blk_drew ?_ | refine blk_alloc ?_ _)); exact BK133.out) hg (Kd.N_ne HO_3.out BK133.out (by decide)))
         have n2_ := Aside0.mk (Kd.R_over' (by (with_reducible repeat (first | apply Kd.R_alloc | apply Kd.R_drewN | apply Kd.R_drew)); exact HO145.out) (Kd.N_typed (by (with_reducible repeat (first | apply Kd.N_alloc | apply Kd.N_drewN | apply Kd.N_drew)); exact HO_3.out)) (by decide) hg)
         have n3_ := Aside0.mk (Kd.R_over' (by (with_reducible repeat (first | apply Kd.R_alloc | apply Kd.R_drewN | apply Kd.R_drew)); exact HO148.out) (Kd.N_typed (by (with_reducible repeat (first | apply Kd.N_alloc | apply Kd.N_drewN | apply Kd.N_drew)); exact HO_3.out)) (by decide) hg)
         have n4_ := Aside0.mk (Kd.N_afterv (ok := (fun k_ => (w.heap.size ≤ k_) ∧ some k_ ≠ (.slice Ao20 x4_1.length co20 : Value).ownBlock ∧ some k_ ≠ (.slice Ao29 y143.length co29 : Value).ownBlock ∧ some k_ ≠ (.slice Ao30 y146.length co30 : Value).ownBlock ∧ k_ ≠ gb133)) (by (with_reducible repeat (first | apply Kd.N_alloc | apply Kd.N_drewN | apply Kd.N_drew)); exact Kd.N_mono HO154.out (fun _ hk => ⟨⟨hk.1, ⟨hk.2.2.1, ⟨hk.2.2.2.1, ⟨hk.2.2.2.2.1, hk.2.2.2.2.2⟩⟩⟩⟩, hk.2.1⟩)) hg hat)
         have n5_ := Aside0.mk (hb)
         have n6_ := Aside0.mk (ho)
         clear HO_4
         clear BK133
         clear HO145
         clear HO148
         clear HO154
         clear HB
         clear HO_3
         have HO_4 := n0_
         have BK133 := n1_
         have HO145 := n2_
         have HO148 := n3_
         have HO154 := n4_
         have HB := n5_
         have HO157 := n6_
         clear n0_ n1_ n2_ n3_ n4_ n5_ n6_
         clear ho hb hg hat
         refine hK.out _ _ ⟨(blk_cell BK133.out 0).trans rfl, (blk_cell BK133.out 1).trans rfl, (blk_cell BK133.out 2).trans rfl⟩ (fun hHeld => ?_)
         clear hK K
         refine norm_ (a' := ?_) ?_ ?_
         rotate_left
         ·show Act.put _ (some 29) _ = _
          simp only [Act.put, List.setIfInBounds_toArray, List.set_cons_zero, List.set_cons_succ, i64_w, i32_w]
          rfl
         refine pA 10 3 #[true, true, true, true, true, true, true, true, true, true, true] HT_ ?_
         refine done_ (done_of HT_.out (by kernel_rfl)) ?_
         try go_wp2
         go_roundg k1
         case measure => have := HK1.out; omega
         case rel => exact ⟨(y155), (x4_1), (wrap64 (x9_1 + 1)), (by first | rfl | (simp; done) | (simp [*]; done)), H', ⟨by have := HK1.out; omega⟩, ⟨by (with_reducible repeat (first | apply Kd.N_alloc | apply Kd.N_drewN | apply Kd.N_drew)); exact Kd.N_mono HO157.out (fun _ hk => ⟨hk.1, hk.2.1⟩)⟩, ⟨by (with_reducible repeat (first | apply Kd.R_alloc | apply Kd.R_drewN | apply Kd.R_drew)); exact Kd.R_mono HO_4.out (fun _ hk => hk.1.1.1)⟩, ⟨by repeat (first | (with_reducible first | exact HB.out | apply below_alloc | apply pw_below_drewN | apply below_drew1 | refine below_set ?_ GE133.out) | exact HB.out)⟩⟩
        ·rw [if_neg c17] at H
         exact absurd H (by simp)
       ·rw [if_neg c15] at H
        exact absurd H (by simp)
     ·rw [if_neg c4] at H
      exact absurd H (by simp)
    ·rw [if_neg c3] at H
     exact absurd H (by simp)
   ·rw [if_neg c2] at H
    have c2b0 : decide (x9_1 < (l0.length : Int)) = false := decide_eq_false c2
    clear c2
    obtain rfl := Option.some.inj H
    go_wp2
    go_ret
    exact ⟨_, by first | rfl | (simp [errW_none, errW_some] <;> rfl) | (simp [*, errW_none, errW_some] <;> rfl), by (with_reducible repeat (first | apply Kd.N_alloc | apply Kd.N_drewN | apply Kd.N_drew)); exact Kd.N_mono HO_3.out (fun _ hk => hk.1), by repeat (first | (with_reducible first | exact HB.out | apply below_alloc | apply pw_below_drewN | apply below_drew1) | exact HB.out)⟩

end Go.Proofs.YtgckohmppefibaaDoorX.Hz
