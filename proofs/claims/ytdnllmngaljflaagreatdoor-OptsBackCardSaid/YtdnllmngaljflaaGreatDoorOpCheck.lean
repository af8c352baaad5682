import Derived.RegionTactic
import Derived.BigRegion
import Derived.Test.YtdnllmngaljflaaGreatDoorOpApply
namespace Go.Proofs.YtdnllmngaljflaaGreatDoorX.Ho
open Go.RowKit Go.Proofs.YtdnllmngaljflaaGreatDoorW.PrintWords Go.Proofs.YtdnllmngaljflaaGreatDoorW.PrintLast Go.Proofs.YtdnllmngaljflaaGreatDoorW.PrintMore
attribute [local go_sem] max2_int min2_int max_two min_two max_three min_three max_four min_four
set_option linter.unusedVariables false
set_option linter.unusedSimpArgs false
attribute [local go_sem] Go.Proofs.YtdnllmngaljflaaGreatDoor.Hook.cell_two
/-! ### Check -/
theorem ret_int9 {a b : Int} (h : a = b) : Ending.returned (.int .i64 a) = .returned (.int .i64 b) := by rw [h]
theorem schOk_iff (k u n d : Int) : schOk k u n d = true ↔ (k = 1 ∧ 1 ≤ u ∧ u ≤ 1000000 ∧ n = 0 ∧ d = 0) ∨ (k = 2 ∧ 1 ≤ u ∧ u ≤ 1000000 ∧ 1 ≤ d ∧ d < n ∧ n ≤ 1000) ∨ ((k = 0 ∨ k = 3 ∨ k = 4) ∧ u = 0 ∧ n = 0 ∧ d = 0) := by
  unfold schOk
  by_cases h0 : k = 0 ∨ k = 3 ∨ k = 4
  · rw [if_pos h0, decide_eq_true_eq]; omega
  · rw [if_neg h0]
    by_cases h1 : u < 1 ∨ 1000000 < u
    · rw [if_pos h1]
      constructor
      · intro h; cases h
      · omega
    · rw [if_neg h1]
      by_cases h2 : k = 1
      · rw [if_pos h2, decide_eq_true_eq]; omega
      · rw [if_neg h2, decide_eq_true_eq]; omega
set_option maxHeartbeats 400000 in
theorem schCheckW (k u n d : Int) (w : World) :
    Calls Tryz.prog 33 #[.agg #[.int .i64 k, .int .i64 u, .int .i64 n, .int .i64 d]] w fun e w' => e = .returned (.int .i64 (if schOk k u n d = true then 0 else 2)) ∧ Below w.heap.size w w' := by
  obtain ⟨c, hc⟩ : ∃ c : Int, (if schOk k u n d = true then 0 else 2) = c := ⟨_, rfl⟩
  rw [hc]
  simp only [schOk_iff] at hc
  have HC := Aside0.mk hc
  clear hc
  go_enter Tryz.func33, Tryz.ntmps33
  go_wp2
  all_goals
    go_ret
    refine ⟨ret_int9 ?_, below_alloc (Below.refl _ _) _⟩
    (try simp only [beq_iff_eq, beq_eq_false_iff_ne, ne_eq, decide_eq_true_eq, decide_eq_false_iff_not, Bool.not_eq_true', Bool.not_eq_false'] at *)
    rw [← HC.out]
    first | (rw [if_pos (by omega)]; done) | (rw [if_neg (by omega)]; done)
def NewQ (ok : Bool) (w : World) (e : Ending) (w' : World) : Prop := ∃ p, e = .returned (.tuple #[p, .int .i64 (if ok = true then 0 else 2)]) ∧ Below w.heap.size w w'
set_option maxHeartbeats 2000000 in
set_option maxRecDepth 100000 in
theorem newW (r : Int) (la ph gr : Bool) (w : World) : Calls Tryz.prog 32 #[.agg #[.int .i64 r, .bool la, .bool ph, .bool gr], .int .i64 0, .slice none 0 0] w (NewQ (decide (0 ≤ r ∧ r ≤ 5)) w) := by
  by_cases h1 : r < 0
  · rw [decide_eq_false (by omega)]
    go_enter Tryz.func32, Tryz.ntmps32
    go_wp2
    go_ret2
    exact ⟨_, rfl, below_alloc (below_alloc (Below.refl _ _) _) _⟩
  · by_cases h2 : 6 ≤ r
    · rw [decide_eq_false (by omega)]
      go_enter Tryz.func32, Tryz.ntmps32
      go_wp2
      go_ret2
      exact ⟨_, rfl, below_alloc (below_alloc (Below.refl _ _) _) _⟩
    · rw [decide_eq_true (by omega)]
      have h3 : 0 ≤ r := by omega
      have h4 : r < 6 := by omega
      have hmk : ∀ w : World, (Instr.makeSlice 92 (.int .i64 0) (.int .i64 0)).run Tryz.prog w = .ok (.slice (some ⟨w.heap.size, 0, none⟩) 0 0) (w.alloc (.cells #[] 96)) := fun _ => by kernel_rfl
      clear h1 h2
      go_enter Tryz.func32, Tryz.ntmps32
      go_wp2
      go_region
      all_goals
        go_wp2
        refine wp_loop_rounds 1 ?_
        rw [rounds_succ]
        go_wp2
        refine wp_loop_rounds 1 ?_
        rw [rounds_succ]
        go_wp2
        go_ret2
        exact ⟨_, rfl, below_drew (below_alloc (below_alloc (below_alloc (below_alloc (Below.refl _ _) _) _) _) _)⟩
/-- Options.Check. -/
def checkB (r k u n d st : Int) : Bool := schOk k u n d && decide (0 ≤ r ∧ r ≤ 5 ∧ 0 ≤ st ∧ st ≤ 1000000)
theorem goodL_is (o : Ov) : goodL o = checkB o.rule o.kind o.unit o.num o.den o.steps := rfl
set_option maxHeartbeats 2000000 in
set_option maxRecDepth 100000 in
theorem checkW (o : Ov) (w : World) : Calls Tryz.prog 15 #[.agg o.pc] w fun e w' => e = .returned (.int .i64 (if goodL o = true then 0 else 2)) ∧ Below w.heap.size w w' := by
  obtain ⟨r, gr, la, ph, ng, k, u, n, d, st⟩ := o
  unfold Ov.pc
  rw [goodL_is]
  have hb0 := below_alloc (Below.refl w.heap.size w) (.cells #[.int .i64 r, .bool la, .bool ph, .bool gr, .int .i64 k, .int .i64 u, .int .i64 n, .int .i64 d, .bool ng, .int .i64 st] 29 (0, 0))
  have B0 := Aside0.mk (blk_new w (.cells #[.int .i64 r, .bool la, .bool ph, .bool gr, .int .i64 k, .int .i64 u, .int .i64 n, .int .i64 d, .bool ng, .int .i64 st] 29 (0, 0)))
  have HN := Aside0.mk (fun w1 => newW r la ph gr w1)
  have HS := Aside0.mk (fun w1 => schCheckW k u n d w1)
  have HZ := Aside0.mk hb0
  have CELLS := Aside0.mk (fun (w1 : World) (h1 : Below (w.alloc (.cells #[.int .i64 r, .bool la, .bool ph, .bool gr, .int .i64 k, .int .i64 u, .int .i64 n, .int .i64 d, .bool ng, .int .i64 st] 29 (0, 0))).heap.size (w.alloc (.cells #[.int .i64 r, .bool la, .bool ph, .bool gr, .int .i64 k, .int .i64 u, .int .i64 n, .int .i64 d, .bool ng, .int .i64 st] 29 (0, 0))) w1) => (h1.block w.heap.size (blk_lt B0.out)).trans B0.out)
  obtain ⟨q, hq⟩ : ∃ q, checkB r k u n d st = q := ⟨_, rfl⟩
  rw [hq]
  unfold checkB at hq
  generalize schOk k u n d = sk at hq HS
  have HQ := Aside0.mk hq
  clear hq hb0 B0
  by_cases h1 : 0 ≤ r ∧ r ≤ 5
  · rw [decide_eq_true h1] at HN
    cases sk with
    | true =>
      by_cases h2 : st < 0
      · have hqf : q = false := by rw [← HQ.out, decide_eq_false (by omega)]; rfl
        subst hqf
        clear h1 HQ
        go_enter Tryz.func15, Tryz.ntmps15
        go_wp2_with (first
          | (go_at_call 32; ((with_reducible refine (HN.out _).mono ?_); rintro e w1 ⟨p, rfl, hb1⟩; have hblk := CELLS.out w1 hb1; have c4 := blk_cell hblk 4; have c5 := blk_cell hblk 5; have c6 := blk_cell hblk 6; have c7 := blk_cell hblk 7; have c9 := blk_cell hblk 9; have HB1 := Aside0.mk (below_step HZ.out hb1); have HBK := Aside0.mk hblk; clear hb1 hblk; (try simp only [if_true, Bool.false_eq_true, if_false])))
          | (go_at_call 33; ((with_reducible refine (HS.out _).mono ?_); rintro e w2 ⟨rfl, hb2⟩; have hblk2 := (hb2.block w.heap.size (blk_lt HBK.out)).trans HBK.out; have e9 := blk_cell hblk2 9; have HB2 := Aside0.mk (below_step HB1.out hb2); clear hb2 hblk2; (try simp only [if_true, Bool.false_eq_true, if_false]))))
        go_ret
        exact ⟨rfl, by first | exact HB2.out | exact HB1.out⟩
      · by_cases h3 : 1000000 < st
        · have hqf : q = false := by rw [← HQ.out, decide_eq_false (by omega)]; rfl
          subst hqf
          clear h1 HQ
          go_enter Tryz.func15, Tryz.ntmps15
          go_wp2_with (first
            | (go_at_call 32; ((with_reducible refine (HN.out _).mono ?_); rintro e w1 ⟨p, rfl, hb1⟩; have hblk := CELLS.out w1 hb1; have c4 := blk_cell hblk 4; have c5 := blk_cell hblk 5; have c6 := blk_cell hblk 6; have c7 := blk_cell hblk 7; have c9 := blk_cell hblk 9; have HB1 := Aside0.mk (below_step HZ.out hb1); have HBK := Aside0.mk hblk; clear hb1 hblk; (try simp only [if_true, Bool.false_eq_true, if_false])))
            | (go_at_call 33; ((with_reducible refine (HS.out _).mono ?_); rintro e w2 ⟨rfl, hb2⟩; have hblk2 := (hb2.block w.heap.size (blk_lt HBK.out)).trans HBK.out; have e9 := blk_cell hblk2 9; have HB2 := Aside0.mk (below_step HB1.out hb2); clear hb2 hblk2; (try simp only [if_true, Bool.false_eq_true, if_false]))))
          go_ret
          exact ⟨rfl, by first | exact HB2.out | exact HB1.out⟩
        · have hqf : q = true := by rw [← HQ.out, decide_eq_true (by omega)]; rfl
          subst hqf
          have h4 : 0 ≤ st := by omega
          have h5 : st ≤ 1000000 := by omega
          clear h1 HQ
          go_enter Tryz.func15, Tryz.ntmps15
          go_wp2_with (first
            | (go_at_call 32; ((with_reducible refine (HN.out _).mono ?_); rintro e w1 ⟨p, rfl, hb1⟩; have hblk := CELLS.out w1 hb1; have c4 := blk_cell hblk 4; have c5 := blk_cell hblk 5; have c6 := blk_cell hblk 6; have c7 := blk_cell hblk 7; have c9 := blk_cell hblk 9; have HB1 := Aside0.mk (below_step HZ.out hb1); have HBK := Aside0.mk hblk; clear hb1 hblk; (try simp only [if_true, Bool.false_eq_true, if_false])))
            | (go_at_call 33; ((with_reducible refine (HS.out _).mono ?_); rintro e w2 ⟨rfl, hb2⟩; have hblk2 := (hb2.block w.heap.size (blk_lt HBK.out)).trans HBK.out; have e9 := blk_cell hblk2 9; have HB2 := Aside0.mk (below_step HB1.out hb2); clear hb2 hblk2; (try simp only [if_true, Bool.false_eq_true, if_false]))))
          go_ret
          exact ⟨rfl, by first | exact HB2.out | exact HB1.out⟩
    | false =>
      have hqf : q = false := by rw [← HQ.out]; rfl
      subst hqf
      clear h1 HQ
      go_enter Tryz.func15, Tryz.ntmps15
      go_wp2_with (first
        | (go_at_call 32; ((with_reducible refine (HN.out _).mono ?_); rintro e w1 ⟨p, rfl, hb1⟩; have hblk := CELLS.out w1 hb1; have c4 := blk_cell hblk 4; have c5 := blk_cell hblk 5; have c6 := blk_cell hblk 6; have c7 := blk_cell hblk 7; have c9 := blk_cell hblk 9; have HB1 := Aside0.mk (below_step HZ.out hb1); have HBK := Aside0.mk hblk; clear hb1 hblk; (try simp only [if_true, Bool.false_eq_true, if_false])))
        | (go_at_call 33; ((with_reducible refine (HS.out _).mono ?_); rintro e w2 ⟨rfl, hb2⟩; have hblk2 := (hb2.block w.heap.size (blk_lt HBK.out)).trans HBK.out; have e9 := blk_cell hblk2 9; have HB2 := Aside0.mk (below_step HB1.out hb2); clear hb2 hblk2; (try simp only [if_true, Bool.false_eq_true, if_false]))))
      go_ret
      exact ⟨rfl, by first | exact HB2.out | exact HB1.out⟩
  · rw [decide_eq_false h1] at HN
    have hqf : q = false := by rw [← HQ.out, decide_eq_false (by omega), Bool.and_false]
    subst hqf
    clear h1 HQ
    go_enter Tryz.func15, Tryz.ntmps15
    go_wp2_with (first
      | (go_at_call 32; ((with_reducible refine (HN.out _).mono ?_); rintro e w1 ⟨p, rfl, hb1⟩; have hblk := CELLS.out w1 hb1; have c4 := blk_cell hblk 4; have c5 := blk_cell hblk 5; have c6 := blk_cell hblk 6; have c7 := blk_cell hblk 7; have c9 := blk_cell hblk 9; have HB1 := Aside0.mk (below_step HZ.out hb1); have HBK := Aside0.mk hblk; clear hb1 hblk; (try simp only [if_true, Bool.false_eq_true, if_false])))
      | (go_at_call 33; ((with_reducible refine (HS.out _).mono ?_); rintro e w2 ⟨rfl, hb2⟩; have hblk2 := (hb2.block w.heap.size (blk_lt HBK.out)).trans HBK.out; have e9 := blk_cell hblk2 9; have HB2 := Aside0.mk (below_step HB1.out hb2); clear hb2 hblk2; (try simp only [if_true, Bool.false_eq_true, if_false]))))
    go_ret
    exact ⟨rfl, by first | exact HB2.out | exact HB1.out⟩
end Go.Proofs.YtdnllmngaljflaaGreatDoorX.Ho
