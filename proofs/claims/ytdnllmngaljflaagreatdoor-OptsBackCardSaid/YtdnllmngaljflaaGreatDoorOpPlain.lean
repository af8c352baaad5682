import Derived.Test.YtdnllmngaljflaaGreatDoorOpPrint
namespace Go.Proofs.YtdnllmngaljflaaGreatDoorX.Ho
open Go.RowKit Go.Proofs.YtdnllmngaljflaaGreatDoorW.PrintWords Go.Proofs.YtdnllmngaljflaaGreatDoorW.PrintLast Go.Proofs.YtdnllmngaljflaaGreatDoorW.PrintMore
attribute [local go_sem] max2_int min2_int max_two min_two max_three min_three max_four min_four
set_option linter.unusedVariables false
set_option linter.unusedSimpArgs false
attribute [local go_sem] Go.Proofs.YtdnllmngaljflaaGreatDoor.Hook.cell_two
/-! ### plain, of, wakes -/
/-- The document's options, in their ten cells. -/
def Ov.rc (o : Ov) : Array Value := #[.int .i64 o.rule, .bool o.gr, .bool o.la, .bool o.ph, .bool o.ng, .int .i64 o.kind, .int .i64 o.unit, .int .i64 o.num, .int .i64 o.den, .int .i64 o.steps]
theorem plainW (o : Ov) (w : World) : Calls Tryz.prog 10 #[.agg o.pc] w fun e w' => e = .returned (.agg o.rc) ∧ Below w.heap.size w w' := by
  obtain ⟨r, gr, la, ph, ng, k, u, n, d, st⟩ := o
  unfold Ov.pc Ov.rc
  simp only
  go_enter Tryz.func10, Tryz.ntmps10
  go_wp2_with fail
  exact bodyPost_ret (v := .agg #[.int .i64 r, .bool gr, .bool la, .bool ph, .bool ng, .int .i64 k, .int .i64 u, .int .i64 n, .int .i64 d, .int .i64 st]) (by simp [results, Tryz.results10, go_sem]) rfl ⟨rfl, below_alloc (below_alloc (Below.refl _ _) _) _⟩
theorem ofW (o : Ov) (w : World) : Calls Tryz.prog 12 #[.agg o.rc] w fun e w' => e = .returned (.agg o.pc) ∧ Below w.heap.size w w' := by
  obtain ⟨r, gr, la, ph, ng, k, u, n, d, st⟩ := o
  unfold Ov.pc Ov.rc
  simp only
  go_enter Tryz.func12, Tryz.ntmps12
  go_wp2_with fail
  exact bodyPost_ret (v := .agg #[.int .i64 r, .bool la, .bool ph, .bool gr, .int .i64 k, .int .i64 u, .int .i64 n, .int .i64 d, .bool ng, .int .i64 st]) (by simp [results, Tryz.results12, go_sem]) rfl ⟨rfl, below_alloc (below_alloc (Below.refl _ _) _) _⟩
def wText0 : Bs := [114, 117, 108, 101, 61, 105, 110, 112, 117, 116, 32, 118, 97, 108, 117, 101, 61, 108, 101, 97, 115, 116, 32, 108, 97, 115, 116, 61, 111, 102, 102, 32, 112, 104, 97, 115, 101, 61, 111, 102, 102, 32, 110, 111, 103, 111, 111, 100, 115, 61, 111, 102, 102, 32, 114, 101, 115, 116, 97, 114, 116, 61, 110, 111, 110, 101, 32, 115, 116, 101, 112, 115, 61, 48]
theorem print_wakes : printR ov0 = (wText0, 0) := by kernel_rfl
theorem parse_wakes1 : parseL [114, 101, 115, 116, 97, 114, 116, 61, 108, 117, 98, 121, 58, 53, 32, 114, 117, 108, 101, 61, 105, 109, 112, 97, 99, 116] = (⟨4, false, false, false, false, 1, 5, 0, 0, 1000000⟩, 0, 0) := by kernel_rfl
theorem parse_wakes2 : parseL [108, 97, 115, 116, 61, 111, 110, 32, 120] = (ov0, 1, 14) := by kernel_rfl
set_option maxHeartbeats 4000000 in
set_option maxRecDepth 100000 in
theorem wakesW (w : World) (hE : Env w) : Calls Tryz.prog 9 #[] w fun e w' => e = .returned (.bool true) ∧ Below w.heap.size w w' := by
  have HP := Aside0.mk (printW ov0 w hE)
  have H1 := Aside0.mk (fun (w1 : World) (h : Env w1) => parseW ⟨#[114, 101, 115, 116, 97, 114, 116, 61, 108, 117, 98, 121, 58, 53, 32, 114, 117, 108, 101, 61, 105, 109, 112, 97, 99, 116]⟩ (by decide) w1 h)
  have H2 := Aside0.mk (fun (w1 : World) (h : Env w1) => parseW ⟨#[108, 97, 115, 116, 61, 111, 110, 32, 120]⟩ (by decide) w1 h)
  rw [print_wakes] at HP
  rw [parse_wakes1] at H1
  rw [parse_wakes2] at H2
  simp only [Ov.pc, ov0] at HP H1 H2
  have HE := Aside0.mk hE
  clear hE
  go_enter Tryz.func9, Tryz.ntmps9
  go_wp2_with fail
  with_reducible refine HP.out.mono ?_
  rintro e w1 ⟨rfl, hb⟩
  have HB1 := Aside0.mk hb
  clear hb
  go_wp2_with fail
  with_reducible refine (H1.out _ (HE.out.below HB1.out)).mono ?_
  rintro e w2 ⟨rfl, hb⟩
  simp only [Ov.pc]
  have HB2 := Aside0.mk (below_step HB1.out hb)
  clear hb
  go_upto_region 3 with fail
  generalize hw3 : w2.alloc _ = w3
  have hc := blk_new w2 (.cells #[.int .i64 4, .bool false, .bool false, .bool false, .int .i64 1, .int .i64 5, .int .i64 0, .int .i64 0, .bool false, .int .i64 1000000] 29 (0, 0))
  have hb3 := below_alloc HB2.out (.cells #[.int .i64 4, .bool false, .bool false, .bool false, .int .i64 1, .int .i64 5, .int .i64 0, .int .i64 0, .bool false, .int .i64 1000000] 29 (0, 0))
  rw [hw3] at hc hb3
  have HB3 := Aside0.mk hb3
  have HC := Aside0.mk hc
  clear hw3 hc hb3
  go_wp2_with fail
  with_reducible refine (H2.out _ (HE.out.below HB3.out)).mono ?_
  rintro e w4 ⟨rfl, hb⟩
  simp only [Ov.pc, ov0]
  have HB4 := Aside0.mk (below_step HB3.out hb)
  have hc := (hb.block _ (blk_lt HC.out)).trans HC.out
  have HC4 := Aside0.mk hc
  clear hb hc
  go_upto_region 4 with fail
  generalize hw5 : w4.alloc _ = w5
  have hc := heap_alloc_of HC4.out (.cells ov0.pc 29 (0, 0))
  have hb5 := below_alloc HB4.out (.cells ov0.pc 29 (0, 0))
  simp only [Ov.pc, ov0] at hc hb5
  rw [hw5] at hc hb5
  have HB5 := Aside0.mk hb5
  have c0 := blk_cell hc 0
  have c5 := blk_cell hc 5
  have c9 := blk_cell hc 9
  clear hc hw5 hb5
  go_wp2_with fail
  go_ret
  exact ⟨rfl, HB5.out⟩
end Go.Proofs.YtdnllmngaljflaaGreatDoorX.Ho
