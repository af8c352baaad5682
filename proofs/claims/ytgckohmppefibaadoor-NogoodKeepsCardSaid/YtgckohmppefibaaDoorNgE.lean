import Derived.Test.YtgckohmppefibaaDoorProg
import Derived.WalkKit
import Derived.WalkSpells
import Derived.Deep.RegionHeld3
import Derived.Deep.LoopGhost
import Derived.Lib.Hide
import Derived.Shelf.SlSortCmp.NoneTotal
import Derived.Shelf.SlicesG.Cmp
import Derived.Deep.Draws
import Derived.Lib.Walk
import Derived.Sort.WalkB12
import Derived.Lib.SliceRun
import Derived.Lib.SlicesCompact
import Derived.Laws.StructEq
import Derived.RegionTactic
import Derived.ChangeAlike
import Derived.BigRegion
/- Chapter 24: the order of literals, walked: what the sort of the library asks of it. -/
namespace Go.Proofs.YtgckohmppefibaaDoor
open Go Go.Shelf Go.RowKit Go.Lib Go.Sort
set_option linter.unusedVariables false
set_option linter.unusedSimpArgs false
def Ng.cmp (a b : Int) : Int := if a < b then -1 else if a > b then 1 else 0
def Ng.or (a b : Int) : Int := if a = 0 then b else a
def Ng.cf (x y : Int × Int) : Int := Ng.or (Ng.cmp x.1 y.1) (Ng.cmp x.2 y.2)
set_option maxHeartbeats 1000000 in
theorem ng_cmp (a b : Int) (w : World) : Calls Tryd.prog 83 #[.int .i64 a, .int .i64 b] w fun e w' => e = .returned (.int .i64 (Ng.cmp a b)) ∧ w = w' := by
  unfold Ng.cmp
  by_cases h1 : a < b
  · rw [if_pos h1]
    go_enter Tryd.func83, Tryd.ntmps83
    go_wp2
    go_ret
    exact ⟨rfl, rfl⟩
  · by_cases h2 : b < a
    · rw [if_neg h1, if_pos h2]
      go_enter Tryd.func83, Tryd.ntmps83
      go_wp2
      go_ret
      exact ⟨rfl, rfl⟩
    · rw [if_neg h1, if_neg h2]
      go_enter Tryd.func83, Tryd.ntmps83
      go_wp2
      go_ret
      exact ⟨rfl, rfl⟩
set_option maxHeartbeats 1000000 in
theorem ng_or (g : Nat) (a b : Int) (w : World) (h0 : w.cell? ⟨g, 0, none⟩ = some (.int .i64 a)) (h1 : w.cell? ⟨g, 1, none⟩ = some (.int .i64 b)) :
    Calls Tryd.prog 82 #[.slice (some ⟨g, 0, none⟩) 2 2] w fun e w' => e = .returned (.int .i64 (Ng.or a b)) ∧ w = w' := by
  unfold Ng.or
  by_cases ha : a = 0
  · subst ha
    rw [if_pos rfl]
    by_cases hb : b = 0
    · subst hb
      go_enter Tryd.func82, Tryd.ntmps82
      go_wp2
      refine wp_loop_rounds 3 ?_
      rw [rounds_succ]
      go_wp2
      rw [rounds_succ]
      go_wp2
      rw [rounds_succ]
      go_wp2
      go_ret
      exact ⟨rfl, rfl⟩
    · have hb1 : (b != 0) = true := bne_iff_ne.2 hb
      clear hb
      go_enter Tryd.func82, Tryd.ntmps82
      go_wp2
      refine wp_loop_rounds 2 ?_
      rw [rounds_succ]
      go_wp2
      rw [rounds_succ]
      go_wp2
      go_ret
      exact ⟨rfl, rfl⟩
  · rw [if_neg ha]
    have ha1 : (a != 0) = true := bne_iff_ne.2 ha
    clear ha
    go_enter Tryd.func82, Tryd.ntmps82
    go_wp2
    refine wp_loop_rounds 1 ?_
    rw [rounds_succ]
    go_wp2
    go_ret
    exact ⟨rfl, rfl⟩
/-- A world that has only drawn and grown. -/
def Ng.Gr (W w : World) : Prop := ∃ q os, w = grow (W.drewN q) os
theorem Ng.Gr.refl (W : World) : Ng.Gr W W := ⟨0, #[], by rw [grow_empty]; rfl⟩
theorem Ng.Gr.alloc {W w : World} (h : Ng.Gr W w) (o : Obj) : Ng.Gr W (w.alloc o) := by
  obtain ⟨q, os, rfl⟩ := h
  exact ⟨q, os ++ #[o], by rw [alloc_eq_grow, grow_grow]⟩
theorem Ng.Gr.drew {W w : World} (h : Ng.Gr W w) : Ng.Gr W w.drew := by
  obtain ⟨q, os, rfl⟩ := h
  exact ⟨q + 1, os, rfl⟩
set_option maxHeartbeats 2000000 in
set_option maxRecDepth 100000 in
theorem ng_order (x y : Int × Int) (W : World) : Calls Tryd.prog 66 #[.agg #[.int .i64 x.1, .int .i64 x.2], .agg #[.int .i64 y.1, .int .i64 y.2]] W fun e w' => e = .returned (.int .i64 (Ng.cf x y)) ∧ Ng.Gr W w' := by
  obtain ⟨x1, x2⟩ := x
  obtain ⟨y1, y2⟩ := y
  unfold Ng.cf
  simp only
  obtain ⟨c1, hc1⟩ : ∃ c, c = Ng.cmp x1 y1 := ⟨_, rfl⟩
  obtain ⟨c2, hc2⟩ : ∃ c, c = Ng.cmp x2 y2 := ⟨_, rfl⟩
  have H1 : ∀ w, Calls Tryd.prog 83 #[.int .i64 x1, .int .i64 y1] w fun e w' => e = .returned (.int .i64 c1) ∧ w = w' := fun w => by rw [hc1]; exact ng_cmp x1 y1 w
  have H2 : ∀ w, Calls Tryd.prog 83 #[.int .i64 x2, .int .i64 y2] w fun e w' => e = .returned (.int .i64 c2) ∧ w = w' := fun w => by rw [hc2]; exact ng_cmp x2 y2 w
  have H3 : ∀ g w, w.cell? ⟨g, 0, none⟩ = some (.int .i64 c1) → w.cell? ⟨g, 1, none⟩ = some (.int .i64 c2) → Calls Tryd.prog 82 #[.slice (some ⟨g, 0, none⟩) 2 2] w fun e w' => e = .returned (.int .i64 (Ng.or c1 c2)) ∧ w = w' := fun g w h0 h1 => ng_or g c1 c2 w h0 h1
  rw [← hc1, ← hc2]
  clear hc1 hc2
  generalize Ng.or c1 c2 = r at H3 ⊢
  have G1 := Lib.hid H1
  have G2 := Lib.hid H2
  have G3 := Lib.hid H3
  clear H1 H2 H3
  go_enter Tryd.func66, Tryd.ntmps66
  go_wp2_with fail
  go_region_held3 (fun w' => w'.cell? ⟨W.heap.size, 0, none⟩ = some (.int .i64 x1) ∧ w'.cell? ⟨W.heap.size, 1, none⟩ = some (.int .i64 x2) ∧ w'.cell? ⟨W.heap.size + 1, 0, none⟩ = some (.int .i64 y1) ∧ w'.cell? ⟨W.heap.size + 1, 1, none⟩ = some (.int .i64 y2))
    (exact ⟨by simp [go_sem], by simp [go_sem], by simp [go_sem], by simp [go_sem]⟩)
    (first
      | (go_at_call 83; ((with_reducible refine (G1.out _).mono ?_); rintro e w' ⟨rfl, rfl⟩))
      | (go_at_call 83; ((with_reducible refine (G2.out _).mono ?_); rintro e w' ⟨rfl, rfl⟩))
      | (go_at_call 82; ((with_reducible refine (G3.out _ _ (by simp [go_sem]) (by simp [go_sem])).mono ?_); rintro e w' ⟨rfl, rfl⟩)))
  go_wp2
  go_ret
  exact ⟨rfl, (((Ng.Gr.refl W).alloc _).alloc _).drew.alloc _⟩
end Go.Proofs.YtgckohmppefibaaDoor
/- Chapter 24: slices.Compact at literals, walked (after the walk of the library at one cell). -/
namespace Go.Proofs.YtgckohmppefibaaDoor
open Go Go.Shelf Go.RowKit Go.Lib Go.Sort
set_option linter.unusedVariables false
set_option linter.unusedSimpArgs false
def Ng.enc (x : Int × Int) : List Value := [.int .i64 x.1, .int .i64 x.2]
theorem Ng.enc_one (x : Int × Int) : ∀ v ∈ Ng.enc x, v.oneCell' = true := by
  intro v hv
  simp [Ng.enc] at hv
  rcases hv with rfl | rfl <;> rfl
theorem Ng.eqLit : EqlAt Tryd.prog 29 (fun x => .agg (Ng.enc x).toArray) (fun x y => x.1 == y.1 && x.2 == y.2) := by
  refine ⟨fun x y w => ?_, GuardAt.agg _ (by kernel_rfl)⟩
  have u3 := Tryd.underlying3
  have a3 := Tryd.isAgg3
  have z3 := Tryd.sizeOf3
  have hS : Tryd.prog.underlying 29 = some (.struct (Tryd.prog.fieldsOf 29)) := by kernel_rfl
  have hp : Tryd.prog.stoodInHeld 29 = false := by kernel_rfl
  simp only [Ng.enc]
  rw [run_eql_struct, show (10000 : Nat) = 9999 + 1 from rfl, run_equalIn_agg w 9999 29 _ _ hS hp]
  simp only [Program.fieldsOf, Tryd.underlying29]
  go_simp
  by_cases h1 : x.fst = y.fst <;> by_cases h2 : x.snd = y.snd <;> simp [h1, h2]
theorem Ng.flat_set (dk : Array (Int × Int)) (i : Nat) (hi : i < dk.size) (x : Int × Int) : setMany (flatK Ng.enc 2 dk) (i * 2) [.int .i64 x.1, .int .i64 x.2] = flatK Ng.enc 2 (dk.setIfInBounds i x) := by
  apply Array.ext
  · simp
  · intro t h1 h2
    have ht : t < dk.size * 2 := by simpa using h1
    rw [← getElem!_pos _ t h1, ← getElem!_pos _ t h2, get_setMany _ _ _ _ (by simpa using ht), get_flatK _ _ dk _ ht, get_flatK _ _ (dk.setIfInBounds i x) _ (by simpa using ht)]
    by_cases hc : t / 2 = i
    · rw [hc, getElem!_set_same dk i x hi, if_pos (by simp; omega)]
      have h2 : t % 2 = 0 ∨ t % 2 = 1 := by omega
      rcases h2 with h2 | h2
      · rw [h2, show t - i * 2 = 0 from by omega]; rfl
      · rw [h2, show t - i * 2 = 1 from by omega]; rfl
    · rw [getElem!_set_other dk i (t / 2) x hc, if_neg (by simp; omega)]
theorem Ng.store2 {w wr : World} {n blk off : Nat} {dk : Array (Int × Int)} {i : Nat} (hi : i < dk.size) (hwr : wr = putRowK Ng.enc 2 (Sort.ahead w n) blk off dk) (x : Int × Int) :
    ((wr.setCell ⟨blk, off + i * 2, none⟩ (.int .i64 x.1)).setCell ⟨blk, off + i * 2 + 1, none⟩ (.int .i64 x.2)).drew = putRowK Ng.enc 2 (Sort.ahead w (n + 1)) blk off (dk.setIfInBounds i x) := by
  subst hwr
  have h := setCells_putRow (Sort.ahead w n) blk off [.int .i64 x.1, .int .i64 x.2] (i * 2) (flatK Ng.enc 2 dk) (by simp; omega)
  rw [Ng.flat_set dk i hi x] at h
  unfold putRowK
  rw [show (((putRow id (Sort.ahead w n) blk off (flatK Ng.enc 2 dk)).setCell ⟨blk, off + i * 2, none⟩ (.int .i64 x.1)).setCell ⟨blk, off + i * 2 + 1, none⟩ (.int .i64 x.2)) = putRow id (Sort.ahead w n) blk off (flatK Ng.enc 2 (dk.setIfInBounds i x)) from h]
  rfl
end Go.Proofs.YtgckohmppefibaaDoor
/- Chapter 24: slices.Compact at literals, walked. -/
namespace Go.Proofs.YtgckohmppefibaaDoor
open Go Go.Shelf Go.RowKit Go.Lib Go.Sort
set_option linter.unusedVariables false
set_option linter.unusedSimpArgs false
/-- What slices.Compact leaves. -/
def Ng.Comp (blk off cap : Nat) (d : Array (Int × Int)) (w : World) (e : Ending) (w' : World) : Prop :=
  ∃ (F : Array Value) (q : Nat), e = .returned (.slice (some ⟨blk, off, none⟩) (compactUpTo d d.size).length cap) ∧ w' = putRow id (Sort.ahead w q) blk off F ∧ F.size = d.size * 2 ∧
    ∀ j, j < (compactUpTo d d.size).length → F[j * 2]! = .int .i64 (compactUpTo d d.size)[j]!.1 ∧ F[j * 2 + 1]! = .int .i64 (compactUpTo d d.size)[j]!.2
theorem Ng.comp_same {blk off cap : Nat} {d : Array (Int × Int)} {w : World} (hH : HoldsK Ng.enc 2 w blk off d) (q : Nat) (hall : ∀ j, j < d.size → keeps d j = true) : Ng.Comp blk off cap d w (.returned (.slice (some ⟨blk, off, none⟩) d.size cap)) (w.drewN q) := by
  have e : compactUpTo d d.size = d.toList := by rw [compactUpTo_all d _ hall, range_map_get]
  refine ⟨flatK Ng.enc 2 d, q, by rw [e]; rfl, (putRowK_self Ng.enc 2 (Sort.ahead w q) blk off d (holdsK_ahead Ng.enc 2 w q blk off d hH)).symm, by simp, fun j hj => ?_⟩
  rw [e] at hj ⊢
  have hj2 : j < d.size := by simpa using hj
  have e3 : d.toList[j]! = d[j]! := by simp [hj2]
  rw [get_flatK _ _ _ _ (by omega), get_flatK _ _ _ _ (by omega), e3, show j * 2 / 2 = j from by omega, show (j * 2 + 1) / 2 = j from by omega, show j * 2 % 2 = 0 from by omega, show (j * 2 + 1) % 2 = 1 from by omega]
  exact ⟨rfl, rfl⟩
theorem Ng.comp_done {blk off cap : Nat} {d dk : Array (Int × Int)} {w wr : World} {k q : Nat} (hI : CompInv d d.size k dk) (hwr : wr = putRowK Ng.enc 2 (Sort.ahead w q) blk off dk) (vs : List Value) (hv : vs.length = (d.size - k) * 2) :
    Ng.Comp blk off cap d w (.returned (.slice (some ⟨blk, off, none⟩) k cap)) (wr.setCells blk (off + k * 2) vs) := by
  have hs := hI.size
  have hk := hI.lt
  have hlen := hI.len
  refine ⟨setMany (flatK Ng.enc 2 dk) (k * 2) vs, q, by rw [hlen], ?_, by simp [hs], fun j hj => ?_⟩
  · rw [hwr]
    exact setCells_putRow (Sort.ahead w q) blk off vs (k * 2) (flatK Ng.enc 2 dk) (by simp; omega)
  · rw [hlen] at hj
    have hlo := hI.low j hj
    have e3 : (compactUpTo d d.size)[j]! = dk[j]! := by
      rw [List.getElem!_eq_getElem?_getD, hlo]; rfl
    rw [e3, get_setMany _ _ _ _ (by simp; omega), get_setMany _ _ _ _ (by simp; omega), if_neg (by omega), if_neg (by omega), get_flatK _ _ _ _ (by omega), get_flatK _ _ _ _ (by omega), show j * 2 / 2 = j from by omega, show (j * 2 + 1) / 2 = j from by omega, show j * 2 % 2 = 0 from by omega, show (j * 2 + 1) % 2 = 1 from by omega]
    exact ⟨rfl, rfl⟩
theorem Ng.run_clear (w : World) (ty : TypeId) (b o n c : Nat) (hn : 0 < n) (hc : ∀ j, j < n * 2 → (w.cell? ⟨b, o + j, none⟩).isSome = true) (hf : ∀ j, j < n * 2 → w.frozen? ⟨b, o + j, none⟩ = false) :
    (Builtin.clear_ #[45] ty #[.slice (some ⟨b, o, none⟩) n c]).run Tryd.prog w = .ok (.tuple #[]) (w.setCells b o (List.replicate (n * 2) (.int .i64 0))) := by
  have hv : ∀ w, (zeroValue 29).run Tryd.prog w = .ok (.agg #[.int .i64 0, .int .i64 0]) w := Tryd.zeroValue29
  have hzc : (Builtin.zeroCells (Value.agg #[.int .i64 0, .int .i64 0]).cells n).toList = List.replicate (n * 2) (.int .i64 0) := by
    show (Builtin.zeroCells #[.int .i64 0, .int .i64 0] n).toList = _
    simp [Builtin.zeroCells]
    apply List.ext_getElem
    · simp
    · intro i h1 h2
      simp
      have h3 : i % 2 = 0 ∨ i % 2 = 1 := by omega
      rcases h3 with h3 | h3 <;> simp [h3]
  have hst := run_storeCells_cells (P := Tryd.prog) b o (List.replicate (n * 2) (.int .i64 0)) 0 w (by simpa using hc) (by simpa using hf) (by intro v hv'; rw [List.eq_of_mem_replicate hv']; rfl)
  simp only [Nat.add_zero] at hst
  obtain ⟨m, rfl⟩ : ∃ m, n = m + 1 := ⟨n - 1, by omega⟩
  simp [Builtin.clear_, run_underlying Tryd.underlying45, hv, hzc, hst]
end Go.Proofs.YtgckohmppefibaaDoor
/- Chapter 24: slices.Compact at literals, its two loops walked. -/
namespace Go.Proofs.YtgckohmppefibaaDoor
open Go Go.Shelf Go.RowKit Go.Lib Go.Sort
set_option linter.unusedVariables false
set_option linter.unusedSimpArgs false
theorem Ng.neLit (x1 x2 y1 y2 : Int) (w : World) : Sem.run Tryd.prog (binOp .neq 29 (.agg #[.int .i64 x1, .int .i64 x2]) (.agg #[.int .i64 y1, .int .i64 y2])) w = .ok (.bool (!(x1 == y1 && x2 == y2))) w := by
  have u3 := Tryd.underlying3
  have a3 := Tryd.isAgg3
  have z3 := Tryd.sizeOf3
  have hS : Tryd.prog.underlying 29 = some (.struct (Tryd.prog.fieldsOf 29)) := by kernel_rfl
  have hp : Tryd.prog.stoodInHeld 29 = false := by kernel_rfl
  rw [run_neq_struct, show (10000 : Nat) = 9999 + 1 from rfl, run_equalIn_agg w 9999 29 _ _ hS hp]
  simp only [Program.fieldsOf, Tryd.underlying29]
  go_simp
  by_cases h1 : x1 = y1 <;> by_cases h2 : x2 = y2 <;> simp [h1, h2]
set_option maxHeartbeats 4000000 in
set_option maxRecDepth 1000000 in
theorem ng_compact (blk off cap : Nat) (d : Array (Int × Int)) (w : World) (hH : HoldsK Ng.enc 2 w blk off d) (hsz : d.size ≤ 1000000) (hcap : d.size ≤ cap) :
    Calls Tryd.prog 67 #[.slice (some ⟨blk, off, none⟩) d.size cap] w (Ng.Comp blk off cap d w) := by
  have heq' : ∀ (x1 x2 y1 y2 : Int) (w : World), Sem.run Tryd.prog (binOp .eql 29 (.agg #[.int .i64 x1, .int .i64 x2]) (.agg #[.int .i64 y1, .int .i64 y2])) w = .ok (.bool (x1 == y1 && x2 == y2)) w := fun x1 x2 y1 y2 w => Ng.eqLit.1 (x1, x2) (y1, y2) w
  have hgd' : ∀ (op : BinOp) (a b : Operand) (x1 x2 y1 y2 : Int) (w : World), Sem.run Tryd.prog (eqGuard op 29 a b (.agg #[.int .i64 x1, .int .i64 x2]) (.agg #[.int .i64 y1, .int .i64 y2])) w = .ok () w := fun op a b x1 x2 y1 y2 w => Ng.eqLit.2 op a b (x1, x2) (y1, y2) w
  have hnq' : ∀ (x1 x2 y1 y2 : Int) (w : World), Sem.run Tryd.prog (binOp .neq 29 (.agg #[.int .i64 x1, .int .i64 x2]) (.agg #[.int .i64 y1, .int .i64 y2])) w = .ok (.bool (!(x1 == y1 && x2 == y2))) w := fun x1 x2 y1 y2 w => Ng.neLit x1 x2 y1 y2 w
  have same : ∀ q, (∀ j, j < d.size → keeps d j = true) → Ng.Comp blk off cap d w (.returned (.slice (some ⟨blk, off, none⟩) d.size cap)) (w.drewN q) := fun q h => Ng.comp_same hH q h
  have HS := Lib.hid same
  clear same
  by_cases h2 : d.size < 2
  · clear hH heq' hgd' hnq'
    go_enter Tryd.func67, Tryd.ntmps67
    go_wp2
    go_ret
    exact HS.out 0 (fun j hj => keeps_lt_one d j (by omega))
  · go_enter Tryd.func67, Tryd.ntmps67
    go_wp2
    go_loopg [3] d.size (fun g s3 wr => ∃ k q : Nat, 1 ≤ k ∧ k ≤ d.size ∧ d.size - k ≤ g ∧ s3 = .int .i64 k ∧ wr = w.drewN q ∧ ∀ j, j < k → keeps d j = true)
    case atStart => exact ⟨1, 0, Nat.le_refl _, by omega, by omega, rfl, rfl, keeps_lt_one d⟩
    case round =>
      obtain ⟨k, q, hk1, hk, hg, rfl, rfl, hall⟩ := hrel
      by_cases hlt : k < d.size
      · have c1a : w.cell? ⟨blk, off + k * 2, none⟩ = some (.int .i64 d[k]!.1) := (HoldsK.cell hH hlt (c := 0) (by omega)).1
        have c1b : w.cell? ⟨blk, off + k * 2 + 1, none⟩ = some (.int .i64 d[k]!.2) := (HoldsK.cell hH hlt (c := 1) (by omega)).1
        have c0a : w.cell? ⟨blk, off + (k - 1) * 2, none⟩ = some (.int .i64 d[k - 1]!.1) := (HoldsK.cell hH (i := k - 1) (by omega) (c := 0) (by omega)).1
        have c0b : w.cell? ⟨blk, off + (k - 1) * 2 + 1, none⟩ = some (.int .i64 d[k - 1]!.2) := (HoldsK.cell hH (i := k - 1) (by omega) (c := 1) (by omega)).1
        have A := Lib.hid hall
        have HH := Lib.hid hH
        clear hall hH
        generalize hx : d[k]! = x at c1a c1b
        generalize hy : d[k - 1]! = y at c0a c0b
        obtain ⟨x1, x2⟩ := x
        obtain ⟨y1, y2⟩ := y
        simp only at c1a c1b c0a c0b
        have B := Lib.hid (And.intro hx hy)
        clear hx hy
        by_cases hdup : x1 = y1 ∧ x2 = y2
        · obtain ⟨rfl, rfl⟩ := hdup
          go_wp2_with fail
          go_region
          go_wp2
          clear c0a c0b c1a c1b
          go_loopg [3, 5] d.size (fun g s3 s5 wr => ∃ (kk k2 q2 : Nat) (dk : Array (Int × Int)), s3 = .int .i64 kk ∧ s5 = .int .i64 k2 ∧ 1 ≤ k2 ∧ k + k2 ≤ d.size ∧ d.size - (k + k2) ≤ g ∧ wr = putRowK Ng.enc 2 (Sort.ahead w q2) blk off dk ∧ CompInv d (k + k2) kk dk)
          case atStart => exact ⟨k, 1, q + 1, d, rfl, rfl, Nat.le_refl _, by omega, by omega, (putRowK_self Ng.enc 2 (Sort.ahead w (q + 1)) blk off d (holdsK_ahead Ng.enc 2 w (q + 1) blk off d HH.out)).symm, CompInv.start A.out (keeps_neg (by omega) (by rw [B.out.1, B.out.2]))⟩
          case round =>
            obtain ⟨kk, k2, q2, dk, rfl, rfl, h1, hle, hg2, hwr, hI⟩ := hrel
            have hkk := hI.lt
            have hds := hI.size
            have hHk : HoldsK Ng.enc 2 wr blk off dk := by rw [hwr]; exact holdsK_putRowK Ng.enc 2 _ blk off d dk (holdsK_ahead Ng.enc 2 w q2 blk off d HH.out) hds
            have W2 := Lib.hid hwr
            have I2 := Lib.hid hI
            clear hwr
            by_cases hlt2 : k + k2 < d.size
            · have cma : wr.cell? ⟨blk, off + k * 2 + k2 * 2, none⟩ = some (.int .i64 dk[k + k2]!.1) := by have := (HoldsK.cell hHk (i := k + k2) (by omega) (c := 0) (by omega)).1; rw [show off + (k + k2) * 2 + 0 = off + k * 2 + k2 * 2 from by omega] at this; exact this
              have cmb : wr.cell? ⟨blk, off + k * 2 + k2 * 2 + 1, none⟩ = some (.int .i64 dk[k + k2]!.2) := by have := (HoldsK.cell hHk (i := k + k2) (by omega) (c := 1) (by omega)).1; rw [show off + (k + k2) * 2 + 1 = off + k * 2 + k2 * 2 + 1 from by omega] at this; exact this
              have cpa : wr.cell? ⟨blk, off + k * 2 + (k2 - 1) * 2, none⟩ = some (.int .i64 dk[k + k2 - 1]!.1) := by have := (HoldsK.cell hHk (i := k + k2 - 1) (by omega) (c := 0) (by omega)).1; rw [show off + (k + k2 - 1) * 2 + 0 = off + k * 2 + (k2 - 1) * 2 from by omega] at this; exact this
              have cpb : wr.cell? ⟨blk, off + k * 2 + (k2 - 1) * 2 + 1, none⟩ = some (.int .i64 dk[k + k2 - 1]!.2) := by have := (HoldsK.cell hHk (i := k + k2 - 1) (by omega) (c := 1) (by omega)).1; rw [show off + (k + k2 - 1) * 2 + 1 = off + k * 2 + (k2 - 1) * 2 + 1 from by omega] at this; exact this
              have cka : wr.cell? ⟨blk, off + kk * 2, none⟩ = some (.int .i64 dk[kk]!.1) := (HoldsK.cell hHk (i := kk) (by omega) (c := 0) (by omega)).1
              have ckb : wr.cell? ⟨blk, off + kk * 2 + 1, none⟩ = some (.int .i64 dk[kk]!.2) := (HoldsK.cell hHk (i := kk) (by omega) (c := 1) (by omega)).1
              have fka : wr.frozen? ⟨blk, off + kk * 2, none⟩ = false := (HoldsK.cell hHk (i := kk) (by omega) (c := 0) (by omega)).2
              have fkb : wr.frozen? ⟨blk, off + kk * 2 + 1, none⟩ = false := (HoldsK.cell hHk (i := kk) (by omega) (c := 1) (by omega)).2
              rw [hI.high (k + k2) (by omega)] at cma cmb
              rw [hI.high (k + k2 - 1) (by omega)] at cpa cpb
              clear hHk hI
              generalize hu : d[k + k2]! = u at cma cmb
              generalize hv : d[k + k2 - 1]! = v at cpa cpb
              generalize dk[kk]! = old at cka ckb
              have C := Lib.hid (And.intro hu hv)
              clear hu hv
              obtain ⟨u1, u2⟩ := u
              obtain ⟨v1, v2⟩ := v
              simp only at cma cmb cpa cpb
              by_cases huv : u1 = v1 ∧ u2 = v2
              · obtain ⟨rfl, rfl⟩ := huv
                go_wp2_with fail
                go_region
                go_wp2
                go_roundg (d.size - (k + (k2 + 1)))
                case measure => omega
                case rel => exact ⟨kk, k2 + 1, q2 + 1, dk, rfl, by go_num, by omega, by omega, Nat.le_refl _, by rw [W2.out]; rfl, I2.out.skip (keeps_neg (by omega) (by rw [C.out.1, C.out.2]))⟩
              · have hne : (u1 == v1 && u2 == v2) = false := by
                  cases h : (u1 == v1 && u2 == v2) with
                  | false => rfl
                  | true => rw [Bool.and_eq_true, beq_iff_eq, beq_iff_eq] at h; exact absurd h huv
                have HV := Lib.hid huv
                clear huv
                go_wp2_with fail
                go_region
                go_wp2
                go_roundg (d.size - (k + (k2 + 1)))
                case measure => omega
                case rel => exact ⟨kk + 1, k2 + 1, q2 + 1, dk.setIfInBounds kk (u1, u2), by go_num, by go_num, by omega, by omega, Nat.le_refl _, Ng.store2 (by omega) W2.out (u1, u2), by
                  have h5 := I2.out.keep hlt2 (keeps_pos (by rw [C.out.1, C.out.2]; intro h; cases h; exact HV.out ⟨rfl, rfl⟩))
                  rwa [C.out.1] at h5⟩
            · have hend : k + k2 = d.size := by omega
              have hcl : ∀ ty, (Builtin.clear_ #[45] ty #[.slice (some ⟨blk, off + kk * 2, none⟩) (d.size - kk) (cap - kk)]).run Tryd.prog wr = .ok (.tuple #[]) (wr.setCells blk (off + kk * 2) (List.replicate ((d.size - kk) * 2) (.int .i64 0))) :=
                fun ty => Ng.run_clear wr ty blk (off + kk * 2) _ _ (by omega)
                  (fun j hj => by
                    have h5 := (HoldsK.cell hHk (i := kk + j / 2) (by omega) (c := j % 2) (by omega)).1
                    rw [show off + (kk + j / 2) * 2 + j % 2 = off + kk * 2 + j from by omega] at h5
                    rw [h5]; rfl)
                  (fun j hj => by
                    have h5 := (HoldsK.cell hHk (i := kk + j / 2) (by omega) (c := j % 2) (by omega)).2
                    rw [show off + (kk + j / 2) * 2 + j % 2 = off + kk * 2 + j from by omega] at h5
                    exact h5)
              clear hHk hI
              go_wp2
              go_ret
              have hI := I2.out
              rw [hend] at hI
              exact Ng.comp_done hI W2.out _ (by simp)
        · have hne : (x1 == y1 && x2 == y2) = false := by
            cases h : (x1 == y1 && x2 == y2) with
            | false => rfl
            | true => rw [Bool.and_eq_true, beq_iff_eq, beq_iff_eq] at h; exact absurd h hdup
          have HV := Lib.hid hdup
          clear hdup
          go_wp2_with fail
          go_region
          go_wp2
          go_roundg (d.size - (k + 1))
          case measure => omega
          case rel =>
            refine ⟨k + 1, q + 1, by omega, by omega, Nat.le_refl _, by go_num, rfl, fun j hj => ?_⟩
            by_cases e : j = k
            · subst e
              exact keeps_pos (by rw [B.out.1, B.out.2]; intro h; cases h; exact HV.out ⟨rfl, rfl⟩)
            · exact A.out j (by omega)
      · have : k = d.size := by omega
        subst this
        have HH := Lib.hid hH
        have A := Lib.hid hall
        clear hH hall
        go_wp2
        go_ret
        exact HS.out q A.out
end Go.Proofs.YtgckohmppefibaaDoor
