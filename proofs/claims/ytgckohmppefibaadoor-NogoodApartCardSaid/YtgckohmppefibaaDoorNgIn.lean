import Derived.Test.YtgckohmppefibaaDoorNgPlain
namespace Go.Proofs.YtgckohmppefibaaDoorX.Hz
open Go.RowKit Go.Proofs.YtgckohmppefibaaDoorW.PrintWords Go.Proofs.YtgckohmppefibaaDoorW.PrintLast Go.Proofs.YtgckohmppefibaaDoorW.PrintMore
attribute [local go_sem] max2_int min2_int max_two min_two max_three min_three max_four min_four
set_option linter.unusedVariables false
set_option linter.unusedSimpArgs false
attribute [local go_sem] Go.Proofs.YtgckohmppefibaaDoor.Hook.cell_two
/-- The place of the first that meets p, or -1. -/
def fstG {α : Type} (p : α → Bool) : List α → Int → Int
  | [], _ => -1
  | x :: l, i => if p x then i else fstG p l (i + 1)
theorem fstG_any {α : Type} (p : α → Bool) : ∀ (L : List α) (i : Int), 0 ≤ i → decide (0 ≤ fstG p L i) = L.any p
  | [], i, _ => by unfold fstG; simp
  | x :: l, i, h => by
    unfold fstG
    cases hx : p x with
    | true => simp [hx, h]
    | false => simp only [Bool.false_eq_true, if_false, List.any_cons, hx, Bool.false_or]; exact fstG_any p l (i + 1) (by omega)
/-- Is a literal this one? -/
def isL (a b : Int) (y : S29) : Bool := a == y.f0 && b == y.f1
set_option maxHeartbeats 4000000 in
set_option maxRecDepth 100000 in
/-- slices.Index over literals. -/
theorem idxLit (A : Option Addr) (c : Nat) (l : List S29) (a b : Int) (w : World) (hr : Kd.C k29 w A l.length l) (hb : l.length ≤ 1000000) :
    Calls Tryd.prog 64 #[.slice A l.length c, .agg #[.int .i64 a, .int .i64 b]] w fun e w' => e = .returned (.int .i64 (fstG (isL a b) l 0)) ∧ Below w.heap.size w w' := by
  have heq' : ∀ (x1 x2 y1 y2 : Int) (w : World), Sem.run Tryd.prog (binOp .eql 29 (.agg #[.int .i64 x1, .int .i64 x2]) (.agg #[.int .i64 y1, .int .i64 y2])) w = .ok (.bool (x1 == y1 && x2 == y2)) w := fun x1 x2 y1 y2 w => Go.Proofs.YtgckohmppefibaaDoor.Ng.eqLit.1 (x1, x2) (y1, y2) w
  have hgd' : ∀ (op : BinOp) (a b : Operand) (x1 x2 y1 y2 : Int) (w : World), Sem.run Tryd.prog (eqGuard op 29 a b (.agg #[.int .i64 x1, .int .i64 x2]) (.agg #[.int .i64 y1, .int .i64 y2])) w = .ok () w := fun op a b x1 x2 y1 y2 w => Go.Proofs.YtgckohmppefibaaDoor.Ng.eqLit.2 op a b (x1, x2) (y1, y2) w
  rcases Nat.eq_zero_or_pos l.length with h0 | hn
  · have e0 : l = [] := List.eq_nil_of_length_eq_zero h0
    subst e0
    clear hr h0 hb
    go_enter Tryd.func64, Tryd.ntmps64
    go_wp2
    refine wp_loop_rounds 1 ?_
    rw [rounds_succ]
    go_wp2
    go_ret
    exact ⟨rfl, below_alloc (Below.refl _ _) _⟩
  · obtain ⟨bb, o, rfl, hbw, hcell⟩ := raw29 hr hn
    have HC := Aside0.mk hcell
    have HE := Aside0.mk (fun j (hj : j < l.length) => List.drop_eq_getElem_cons hj)
    clear hr hcell
    go_enter Tryd.func64, Tryd.ntmps64
    go_wp2
    go_loopg [5, 8] l.length (fun kx s5 s8 wr => ∃ j : Nat, s8 = .int .i64 j ∧ j ≤ l.length ∧ l.length - j ≤ kx ∧ Aside0 (Below (w.alloc (.cells #[.int .i64 a, .int .i64 b] 29 (0, 0))).heap.size (w.alloc (.cells #[.int .i64 a, .int .i64 b] 29 (0, 0))) wr) ∧ Aside0 (fstG (isL a b) l 0 = fstG (isL a b) (l.drop j) j))
    case atStart => exact ⟨0, rfl, Nat.zero_le _, by omega, Aside0.mk (Below.refl _ _), Aside0.mk rfl⟩
    case round =>
      obtain ⟨j, rfl, hjn, hg, HB, HI⟩ := hrel
      have hbx : wr.heap[w.heap.size]? = some (.cells #[.int .i64 a, .int .i64 b] 29 (0, 0)) := by
        rw [HB.out.block w.heap.size (by simp)]; exact blk_new w _
      have b0 : wr.cell? ⟨w.heap.size, 0, none⟩ = some (.int .i64 a) := blk_cell hbx 0
      have b1 : wr.cell? ⟨w.heap.size, 1, none⟩ = some (.int .i64 b) := blk_cell hbx 1
      have HBW : Aside0 (Below w.heap.size w wr) := Aside0.mk (below_step (below_alloc (Below.refl _ _) _) HB.out)
      clear hbx
      by_cases hlt : j < l.length
      · obtain ⟨d0, d1⟩ := HC.out j hlt
        have e0 : wr.cell? ⟨bb, o + j * 2, none⟩ = some (.int .i64 l[j].f0) := (HBW.out.cell (p := ⟨bb, o + j * 2, none⟩) hbw).trans d0
        have e1 : wr.cell? ⟨bb, o + j * 2 + 1, none⟩ = some (.int .i64 l[j].f1) := (HBW.out.cell (p := ⟨bb, o + j * 2 + 1, none⟩) hbw).trans d1
        have X := Aside0.mk (HE.out j hlt)
        have hi0 : (0 : Int) ≤ (j : Int) := by omega
        have hi1 : (j : Int) < (l.length : Int) := by omega
        clear d0 d1
        generalize l[j] = y at e0 e1 X
        obtain ⟨y1, y2⟩ := y
        simp only at e0 e1
        cases hp : (a == y1 && b == y2) with
        | true =>
          have HH : Aside0 (fstG (isL a b) l 0 = (j : Int)) := Aside0.mk (by rw [HI.out, X.out]; unfold fstG; rw [show isL a b ⟨y1, y2⟩ = true from hp]; rfl)
          go_wp2_with fail
          go_region
          go_wp2
          go_ret
          exact ⟨by rw [HH.out]; rfl, by first | exact HBW.out | exact below_drew1 HBW.out⟩
        | false =>
          have HH : Aside0 (fstG (isL a b) l 0 = fstG (isL a b) (l.drop (j + 1)) (j + 1 : Nat)) := Aside0.mk (by rw [HI.out, X.out]; conv => { lhs; unfold fstG }; rw [show isL a b ⟨y1, y2⟩ = false from hp]; simp)
          go_wp2_with fail
          go_region
          go_wp2
          go_roundg (l.length - (j + 1))
          case measure => omega
          case rel => exact ⟨j + 1, rfl, by omega, Nat.le_refl _, Aside0.mk (by first | exact HB.out | exact below_drew1 HB.out), HH⟩
      · have hj : j = l.length := by omega
        subst hj
        have HH : Aside0 (fstG (isL a b) l 0 = -1) := Aside0.mk (by rw [HI.out, List.drop_length]; rfl)
        go_wp2_with fail
        go_ret
        exact ⟨by rw [HH.out]; rfl, HBW.out⟩
set_option maxHeartbeats 1000000 in
/-- slices.Contains over literals. -/
theorem hasLit (A : Option Addr) (c : Nat) (l : List S29) (a b : Int) (w : World) (hr : Kd.C k29 w A l.length l) (hb : l.length ≤ 1000000) :
    Calls Tryd.prog 34 #[.slice A l.length c, .agg #[.int .i64 a, .int .i64 b]] w fun e w' => e = .returned (.bool (l.any (isL a b))) ∧ Below w.heap.size w w' := by
  have HC := Aside0.mk (fun w1 (h1 : Below w.heap.size w w1) => idxLit A c l a b w1 (Kd.C_below hr h1) hb)
  have HA := Aside0.mk (fstG_any (isL a b) l 0 (Int.le_refl _))
  clear hr hb
  go_enter Tryd.func34, Tryd.ntmps34
  go_wp2_with (go_at_call 64; ((with_reducible refine (HC.out _ (below_alloc (Below.refl _ _) _)).mono ?_); rintro e w1 ⟨rfl, hb⟩; have HB := Aside0.mk (below_step (below_alloc (Below.refl _ _) _) hb); clear hb))
  go_ret
  exact ⟨by rw [← HA.out]; rfl, HB.out⟩
set_option maxHeartbeats 1000000 in
/-- NogoodApart's inner predicate: is a literal none of y's (y lies in a cell)? -/
theorem notIn (g : Nat) (A : Option Addr) (c : Nat) (l : List S29) (a b : Int) (w : World) (hg : w.cell? ⟨g, 0, none⟩ = some (.slice A l.length c)) (hr : Kd.C k29 w A l.length l) (hb : l.length ≤ 1000000) :
    Calls Tryd.prog 33 #[.agg #[.int .i64 a, .int .i64 b], .pointer (some ⟨g, 0, none⟩)] w fun e w' => e = .returned (.bool (!l.any (isL a b))) ∧ Below w.heap.size w w' := by
  have HC := Aside0.mk (fun w1 (h1 : Below w.heap.size w w1) => hasLit A c l a b w1 (Kd.C_below hr h1) hb)
  have hg2 : ∀ ob, (w.alloc ob).cell? ⟨g, 0, none⟩ = some (.slice A l.length c) := fun ob => ((below_alloc (Below.refl w.heap.size w) ob).cell (p := ⟨g, 0, none⟩) (World.block_lt_of_cell? _ _ hg)).trans hg
  clear hr hb
  go_enter Tryd.func33, Tryd.ntmps33
  go_wp2_with (go_at_call 34; ((with_reducible refine (HC.out _ (below_alloc (Below.refl _ _) _)).mono ?_); rintro e w1 ⟨rfl, hb⟩; have HB := Aside0.mk (below_step (below_alloc (Below.refl _ _) _) hb); clear hb))
  go_ret
  exact ⟨rfl, HB.out⟩
set_option maxHeartbeats 4000000 in
set_option maxRecDepth 100000 in
/-- slices.IndexFunc over literals, by a predicate of one captured value. -/
theorem idxFLit (A : Option Addr) (c : Nat) (l : List S29) (f : Nat) (pv : Value) (p : S29 → Bool) (w : World) (hr : Kd.C k29 w A l.length l) (hb : l.length ≤ 1000000) (hf : f = 33)
    (hP : ∀ (x : S29) (w1 : World), x ∈ l → Below w.heap.size w w1 → Calls Tryd.prog f #[.agg #[.int .i64 x.f0, .int .i64 x.f1], pv] w1 fun e w' => e = .returned (.bool (p x)) ∧ Below w1.heap.size w1 w') :
    Calls Tryd.prog 53 #[.slice A l.length c, .func (.func f) #[] #[pv]] w fun e w' => e = .returned (.int .i64 (fstG p l 0)) ∧ Below w.heap.size w w' := by
  subst hf
  rcases Nat.eq_zero_or_pos l.length with h0 | hn
  · have e0 : l = [] := List.eq_nil_of_length_eq_zero h0
    subst e0
    clear hr h0 hb hP
    go_enter Tryd.func53, Tryd.ntmps53
    go_wp2
    refine wp_loop_rounds 1 ?_
    rw [rounds_succ]
    go_wp2
    go_ret
    exact ⟨rfl, Below.refl _ _⟩
  · obtain ⟨bb, o, rfl, hbw, hcell⟩ := raw29 hr hn
    have HC := Aside0.mk hcell
    have HP := Aside0.mk hP
    have HE := Aside0.mk (fun j (hj : j < l.length) => List.drop_eq_getElem_cons hj)
    clear hr hcell hP
    go_enter Tryd.func53, Tryd.ntmps53
    go_wp2
    go_loopg [5, 8] l.length (fun kx s5 s8 wr => ∃ j : Nat, s8 = .int .i64 j ∧ j ≤ l.length ∧ l.length - j ≤ kx ∧ Aside0 (Below w.heap.size w wr) ∧ Aside0 (fstG p l 0 = fstG p (l.drop j) j))
    case atStart => exact ⟨0, rfl, Nat.zero_le _, by omega, Aside0.mk (Below.refl _ _), Aside0.mk rfl⟩
    case round =>
      obtain ⟨j, rfl, hjn, hg, HB, HI⟩ := hrel
      by_cases hlt : j < l.length
      · obtain ⟨d0, d1⟩ := HC.out j hlt
        have e0 : wr.cell? ⟨bb, o + j * 2, none⟩ = some (.int .i64 l[j].f0) := (HB.out.cell (p := ⟨bb, o + j * 2, none⟩) hbw).trans d0
        have e1 : wr.cell? ⟨bb, o + j * 2 + 1, none⟩ = some (.int .i64 l[j].f1) := (HB.out.cell (p := ⟨bb, o + j * 2 + 1, none⟩) hbw).trans d1
        have hc := HP.out l[j] wr (List.getElem_mem hlt) HB.out
        have X := Aside0.mk (HE.out j hlt)
        clear d0 d1
        generalize l[j] = y at e0 e1 X hc
        obtain ⟨y1, y2⟩ := y
        simp only at e0 e1 hc
        have HCC := Aside0.mk hc
        clear hc
        cases hp : p ⟨y1, y2⟩ with
        | true =>
          have HH : Aside0 (fstG p l 0 = (j : Int)) := Aside0.mk (by rw [HI.out, X.out]; unfold fstG; rw [hp]; rfl)
          rw [hp] at HCC
          clear hp
          go_wp2_with (go_at_call 33; ((with_reducible refine HCC.out.mono ?_); rintro e w2 ⟨rfl, hb2⟩; have HB2 := Aside0.mk (below_step HB.out hb2); clear hb2))
          go_ret
          exact ⟨by rw [HH.out]; rfl, HB2.out⟩
        | false =>
          have HH : Aside0 (fstG p l 0 = fstG p (l.drop (j + 1)) (j + 1 : Nat)) := Aside0.mk (by rw [HI.out, X.out]; conv => { lhs; unfold fstG }; rw [hp]; simp)
          rw [hp] at HCC
          clear hp
          go_wp2_with (go_at_call 33; ((with_reducible refine HCC.out.mono ?_); rintro e w2 ⟨rfl, hb2⟩; have HB2 := Aside0.mk (below_step HB.out hb2); clear hb2))
          go_roundg (l.length - (j + 1))
          case measure => omega
          case rel => exact ⟨j + 1, rfl, by omega, Nat.le_refl _, HB2, HH⟩
      · have hj : j = l.length := by omega
        subst hj
        have HH : Aside0 (fstG p l 0 = -1) := Aside0.mk (by rw [HI.out, List.drop_length]; rfl)
        go_wp2_with fail
        go_ret
        exact ⟨by rw [HH.out]; rfl, HB.out⟩
set_option maxHeartbeats 1000000 in
theorem contFLit (A : Option Addr) (c : Nat) (l : List S29) (pv : Value) (p : S29 → Bool) (w : World) (hr : Kd.C k29 w A l.length l) (hb : l.length ≤ 1000000)
    (hP : ∀ (x : S29) (w1 : World), x ∈ l → Below w.heap.size w w1 → Calls Tryd.prog 33 #[.agg #[.int .i64 x.f0, .int .i64 x.f1], pv] w1 fun e w' => e = .returned (.bool (p x)) ∧ Below w1.heap.size w1 w') :
    Calls Tryd.prog 26 #[.slice A l.length c, .func (.func 33) #[] #[pv]] w fun e w' => e = .returned (.bool (l.any p)) ∧ Below w.heap.size w w' := by
  have HC := Aside0.mk (idxFLit A c l 33 pv p w hr hb rfl hP)
  have HA := Aside0.mk (fstG_any p l 0 (Int.le_refl _))
  clear hr hb hP
  go_enter Tryd.func26, Tryd.ntmps26
  go_wp2_with (go_at_call 53; ((with_reducible refine HC.out.mono ?_); rintro e w1 ⟨rfl, hb⟩; have HB := Aside0.mk hb; clear hb))
  go_ret
  exact ⟨by rw [← HA.out]; rfl, HB.out⟩
set_option maxHeartbeats 1000000 in
/-- NogoodApart's 'in': are all of x y's? -/
theorem inA (A : Option Addr) (c : Nat) (x : List S29) (A1 : Option Addr) (c1 : Nat) (y : List S29) (w : World) (hx : Kd.C k29 w A x.length x) (hxb : x.length ≤ 1000000) (hy : Kd.C k29 w A1 y.length y) (hyb : y.length ≤ 1000000) :
    Calls Tryd.prog 32 #[.slice A x.length c, .slice A1 y.length c1] w fun e w' => e = .returned (.bool (inL x y)) ∧ Below w.heap.size w w' := by
  have he : (!x.any fun z => !y.any (isL z.f0 z.f1)) = inL x y := by
    have e1 : ∀ z : S29, y.any (isL z.f0 z.f1) = decide (pr29 z ∈ y.map pr29) := by
      intro z
      rw [Bool.eq_iff_iff, List.any_eq_true, decide_eq_true_eq, List.mem_map]
      constructor
      · rintro ⟨u, hu, h⟩
        unfold isL at h
        rw [Bool.and_eq_true, beq_iff_eq, beq_iff_eq] at h
        exact ⟨u, hu, by unfold pr29; rw [h.1, h.2]⟩
      · rintro ⟨u, hu, h⟩
        unfold pr29 at h
        injection h with h1 h2
        exact ⟨u, hu, by unfold isL; rw [h1, h2]; simp⟩
    unfold inL
    rw [List.all_eq_not_any_not]
    congr 2
    funext z
    rw [e1]
  have HE := Aside0.mk he
  have HC := Aside0.mk (fun w1 (h1 : Below w.heap.size w w1) (hg : w1.cell? ⟨w.heap.size, 0, none⟩ = some (.slice A1 y.length c1)) => contFLit A c x (.pointer (some ⟨w.heap.size, 0, none⟩)) (fun z => !y.any (isL z.f0 z.f1)) w1 (Kd.C_below hx h1) hxb (fun z w2 hz h2 => notIn w.heap.size A1 c1 y z.f0 z.f1 w2 ((h2.cell (p := ⟨w.heap.size, 0, none⟩) (World.block_lt_of_cell? _ _ hg)).trans hg) (Kd.C_below (Kd.C_below hy h1) h2) hyb))
  clear hx hy he hxb hyb
  go_enter Tryd.func32, Tryd.ntmps32
  go_wp2_with (go_at_call 26; ((with_reducible refine (HC.out _ (below_alloc (Below.refl _ _) _) (blk_cell (blk_new w _) 0)).mono ?_); rintro e w1 ⟨rfl, hb⟩; have HB := Aside0.mk (below_step (below_alloc (Below.refl _ _) _) hb); clear hb))
  go_ret
  exact ⟨by rw [← HE.out]; rfl, HB.out⟩
end Go.Proofs.YtgckohmppefibaaDoorX.Hz
