import Derived.Test.YtgckohmppefibaaDoorNgKA
namespace Go.Proofs.YtgckohmppefibaaDoorX.Hz
open Go.RowKit Go.Proofs.YtgckohmppefibaaDoorW.PrintWords Go.Proofs.YtgckohmppefibaaDoorW.PrintLast Go.Proofs.YtgckohmppefibaaDoorW.PrintMore
attribute [local go_sem] max2_int min2_int max_two min_two max_three min_three max_four min_four
set_option linter.unusedVariables false
set_option linter.unusedSimpArgs false
attribute [local go_sem] Go.Proofs.YtgckohmppefibaaDoor.Hook.cell_two
/-- The place of the first that meets p, or -1. -/
def fstG {α : Type} (p : α → Bool) : List α → Int → Int
  | [], _ => -1
  | x :: l, i => if p x then i else fstG p l (i + 1)
theorem fstG_any {α : Type} (p : α → Bool) : ∀ (L : List α) (i : Int), 0 ≤ i → decide (0 ≤ fstG p L i) = L.any p
  | [], i, _ => by unfold fstG; simp
  | x :: l, i, h => by
    unfold fstG
    cases hx : p x with
    | true => simp [hx, h]
    | false => simp only [Bool.false_eq_true, if_false, List.any_cons, hx, Bool.false_or]; exact fstG_any p l (i + 1) (by omega)
/-- An argument's numbers, by their cells. -/
theorem raw64 {w : World} {A : Option Addr} {l : List Int} (h : Kd.C (Kd.int .i64) w A l.length l) (hn : 0 < l.length) : ∃ b o, A = some ⟨b, o, none⟩ ∧ b < w.heap.size ∧ ∀ j (hj : j < l.length), w.cell? ⟨b, o + j, none⟩ = some (.int .i64 l[j]) := by
  obtain ⟨ad, hA, hc⟩ := h.2.2 hn
  have get : ∀ j (hj : j < l.length), w.cell? (ad.add j) = some (.int .i64 l[j]) := by
    intro j hj
    obtain ⟨c, _, hK, hcell⟩ := hc j l[j] (List.getElem?_eq_getElem hj)
    have hK' : c = [.int .i64 l[j]] := hK
    subst hK'
    have h3 := hcell 0 _ rfl
    have e : j * (Kd.int .i64).sz + 0 = j := Nat.mul_one j
    rw [e] at h3
    exact h3
  obtain ⟨b, o, sp⟩ := ad
  have h0 := get 0 hn
  have hsp : sp = none := by
    cases sp with
    | none => rfl
    | some x =>
      exfalso
      simp only [World.cell?, Addr.add] at h0
      simp at h0
      split at h0 <;> cases h0
  subst hsp
  have e : ∀ m, (⟨b, o, none⟩ : Addr).add m = ⟨b, o + m, none⟩ := by intro m; unfold Addr.add; split <;> simp_all
  rw [e] at h0
  refine ⟨b, o, hA, World.block_lt_of_cell? w _ h0, fun j hj => ?_⟩
  have h1 := get j hj
  rw [e] at h1
  exact h1
set_option maxHeartbeats 4000000 in
set_option maxRecDepth 100000 in
/-- NogoodKeeps' innermost predicate: hasn't the row (in a cell) this pair? -/
theorem outW (g : Nat) (A : Option Addr) (c : Nat) (row : List Int) (a b : Int) (w : World) (hg : w.cell? ⟨g, 0, none⟩ = some (.slice A row.length c)) (hr : Kd.C (Kd.int .i64) w A row.length row) (hb : row.length ≤ 1000000) :
    Calls Tryd.prog 27 #[.agg #[.int .i64 a, .int .i64 b], .pointer (some ⟨g, 0, none⟩)] w fun e w' => e = .returned (.bool (outR row (a, b))) ∧ Below w.heap.size w w' := by
  have hg2 : (w.alloc (.cells #[.int .i64 a, .int .i64 b] 29 (0, 0))).cell? ⟨g, 0, none⟩ = some (.slice A row.length c) := ((below_alloc (Below.refl w.heap.size w) _).cell (p := ⟨g, 0, none⟩) (World.block_lt_of_cell? _ _ hg)).trans hg
  have b0 : (w.alloc (.cells #[.int .i64 a, .int .i64 b] 29 (0, 0))).cell? ⟨w.heap.size, 0, none⟩ = some (.int .i64 a) := blk_cell (blk_new w _) 0
  have b1 : (w.alloc (.cells #[.int .i64 a, .int .i64 b] 29 (0, 0))).cell? ⟨w.heap.size, 1, none⟩ = some (.int .i64 b) := blk_cell (blk_new w _) 1
  by_cases h1 : a < 0
  · have HO : Aside0 (outR row (a, b) = true) := Aside0.mk (by unfold outR; rw [decide_eq_true h1]; rfl)
    clear hr
    go_enter Tryd.func27, Tryd.ntmps27
    go_wp2_with fail
    go_quiet (fail)
    go_wp2_with fail
    go_ret
    exact ⟨by rw [HO.out]; rfl, pw_below_drewN (below_alloc (Below.refl _ _) _) _⟩
  · by_cases h2 : (row.length : Int) ≤ a
    · have HO : Aside0 (outR row (a, b) = true) := Aside0.mk (by unfold outR; rw [decide_eq_true h2]; simp)
      clear hr
      go_enter Tryd.func27, Tryd.ntmps27
      go_wp2_with fail
      go_quiet (fail)
      go_wp2_with fail
      go_ret
      exact ⟨by rw [HO.out]; rfl, pw_below_drewN (below_alloc (Below.refl _ _) _) _⟩
    · obtain ⟨m, rfl⟩ : ∃ m : Nat, a = (m : Int) := ⟨a.toNat, by omega⟩
      have hm : m < row.length := by omega
      obtain ⟨bb, o, rfl, hbw, hcell⟩ := raw64 hr (by omega)
      have e0 : (w.alloc (.cells #[.int .i64 (m : Int), .int .i64 b] 29 (0, 0))).cell? ⟨bb, o + m, none⟩ = some (.int .i64 row[m]) := ((below_alloc (Below.refl w.heap.size w) _).cell (p := ⟨bb, o + m, none⟩) hbw).trans (hcell m hm)
      have HO : Aside0 (outR row ((m : Int), b) = !decide (row[m] = b)) := Aside0.mk (by
        unfold outR
        rw [decide_eq_false h1, decide_eq_false h2, Int.toNat_natCast, List.getD_eq_getElem?_getD, List.getElem?_eq_getElem hm]
        rfl)
      clear hcell hr
      generalize row[m] = y at e0 HO
      have hne : (y == b) = decide (y = b) := by rw [Bool.eq_iff_iff]; simp
      have h3 : (m : Int) < (row.length : Int) := by omega
      have h4 : (0 : Int) ≤ (m : Int) := by omega
      go_enter Tryd.func27, Tryd.ntmps27
      go_wp2_with fail
      go_quiet (fail)
      go_wp2_with fail
      go_ret
      refine ⟨?_, pw_below_drewN (below_alloc (Below.refl _ _) _) _⟩
      rw [HO.out]
      show Ending.returned (.bool (decide ((m : Int) < 0) || decide (row.length ≤ m) || y != b)) = _
      rw [decide_eq_false (by omega : ¬ (m : Int) < 0), decide_eq_false (by omega : ¬ row.length ≤ m), Bool.false_or, Bool.false_or, bne, hne]
set_option maxHeartbeats 4000000 in
set_option maxRecDepth 100000 in
/-- slices.IndexFunc over literals, by a predicate of one captured value. -/
theorem idxF27 (A : Option Addr) (c : Nat) (l : List S29) (f : Nat) (pv : Value) (p : S29 → Bool) (w : World) (hr : Kd.C k29 w A l.length l) (hb : l.length ≤ 1000000) (hf : f = 27)
    (hP : ∀ (x : S29) (w1 : World), x ∈ l → Below w.heap.size w w1 → Calls Tryd.prog f #[.agg #[.int .i64 x.f0, .int .i64 x.f1], pv] w1 fun e w' => e = .returned (.bool (p x)) ∧ Below w1.heap.size w1 w') :
    Calls Tryd.prog 53 #[.slice A l.length c, .func (.func f) #[] #[pv]] w fun e w' => e = .returned (.int .i64 (fstG p l 0)) ∧ Below w.heap.size w w' := by
  subst hf
  rcases Nat.eq_zero_or_pos l.length with h0 | hn
  · have e0 : l = [] := List.eq_nil_of_length_eq_zero h0
    subst e0
    clear hr h0 hb hP
    go_enter Tryd.func53, Tryd.ntmps53
    go_wp2
    refine wp_loop_rounds 1 ?_
    rw [rounds_succ]
    go_wp2
    go_ret
    exact ⟨rfl, Below.refl _ _⟩
  · obtain ⟨bb, o, rfl, hbw, hcell⟩ := raw29 hr hn
    have HC := Aside0.mk hcell
    have HP := Aside0.mk hP
    have HE := Aside0.mk (fun j (hj : j < l.length) => List.drop_eq_getElem_cons hj)
    clear hr hcell hP
    go_enter Tryd.func53, Tryd.ntmps53
    go_wp2
    go_loopg [5, 8] l.length (fun kx s5 s8 wr => ∃ j : Nat, s8 = .int .i64 j ∧ j ≤ l.length ∧ l.length - j ≤ kx ∧ Aside0 (Below w.heap.size w wr) ∧ Aside0 (fstG p l 0 = fstG p (l.drop j) j))
    case atStart => exact ⟨0, rfl, Nat.zero_le _, by omega, Aside0.mk (Below.refl _ _), Aside0.mk rfl⟩
    case round =>
      obtain ⟨j, rfl, hjn, hg, HB, HI⟩ := hrel
      by_cases hlt : j < l.length
      · obtain ⟨d0, d1⟩ := HC.out j hlt
        have e0 : wr.cell? ⟨bb, o + j * 2, none⟩ = some (.int .i64 l[j].f0) := (HB.out.cell (p := ⟨bb, o + j * 2, none⟩) hbw).trans d0
        have e1 : wr.cell? ⟨bb, o + j * 2 + 1, none⟩ = some (.int .i64 l[j].f1) := (HB.out.cell (p := ⟨bb, o + j * 2 + 1, none⟩) hbw).trans d1
        have hc := HP.out l[j] wr (List.getElem_mem hlt) HB.out
        have X := Aside0.mk (HE.out j hlt)
        clear d0 d1
        generalize l[j] = y at e0 e1 X hc
        obtain ⟨y1, y2⟩ := y
        simp only at e0 e1 hc
        have HCC := Aside0.mk hc
        clear hc
        cases hp : p ⟨y1, y2⟩ with
        | true =>
          have HH : Aside0 (fstG p l 0 = (j : Int)) := Aside0.mk (by rw [HI.out, X.out]; unfold fstG; rw [hp]; rfl)
          rw [hp] at HCC
          clear hp
          go_wp2_with (go_at_call 27; ((with_reducible refine HCC.out.mono ?_); rintro e w2 ⟨rfl, hb2⟩; have HB2 := Aside0.mk (below_step HB.out hb2); clear hb2))
          go_ret
          exact ⟨by rw [HH.out]; rfl, HB2.out⟩
        | false =>
          have HH : Aside0 (fstG p l 0 = fstG p (l.drop (j + 1)) (j + 1 : Nat)) := Aside0.mk (by rw [HI.out, X.out]; conv => { lhs; unfold fstG }; rw [hp]; simp)
          rw [hp] at HCC
          clear hp
          go_wp2_with (go_at_call 27; ((with_reducible refine HCC.out.mono ?_); rintro e w2 ⟨rfl, hb2⟩; have HB2 := Aside0.mk (below_step HB.out hb2); clear hb2))
          go_roundg (l.length - (j + 1))
          case measure => omega
          case rel => exact ⟨j + 1, rfl, by omega, Nat.le_refl _, HB2, HH⟩
      · have hj : j = l.length := by omega
        subst hj
        have HH : Aside0 (fstG p l 0 = -1) := Aside0.mk (by rw [HI.out, List.drop_length]; rfl)
        go_wp2_with fail
        go_ret
        exact ⟨by rw [HH.out]; rfl, HB.out⟩
set_option maxHeartbeats 1000000 in
theorem contF27 (A : Option Addr) (c : Nat) (l : List S29) (pv : Value) (p : S29 → Bool) (w : World) (hr : Kd.C k29 w A l.length l) (hb : l.length ≤ 1000000)
    (hP : ∀ (x : S29) (w1 : World), x ∈ l → Below w.heap.size w w1 → Calls Tryd.prog 27 #[.agg #[.int .i64 x.f0, .int .i64 x.f1], pv] w1 fun e w' => e = .returned (.bool (p x)) ∧ Below w1.heap.size w1 w') :
    Calls Tryd.prog 26 #[.slice A l.length c, .func (.func 27) #[] #[pv]] w fun e w' => e = .returned (.bool (l.any p)) ∧ Below w.heap.size w w' := by
  have HC := Aside0.mk (idxF27 A c l 27 pv p w hr hb rfl hP)
  have HA := Aside0.mk (fstG_any p l 0 (Int.le_refl _))
  clear hr hb hP
  go_enter Tryd.func26, Tryd.ntmps26
  go_wp2_with (go_at_call 53; ((with_reducible refine HC.out.mono ?_); rintro e w1 ⟨rfl, hb⟩; have HB := Aside0.mk hb; clear hb))
  go_ret
  exact ⟨by rw [← HA.out]; rfl, HB.out⟩
set_option maxHeartbeats 4000000 in
set_option maxRecDepth 100000 in
theorem idx25 (A : Option Addr) (c : Nat) (L : List (List S29)) (pv : Value) (P : List S29 → Bool) (w : World) (hL : Kd.C (Kd.slice 29 k29) w A L.length L) (hb : L.length ≤ 1000000)
    (hP : ∀ (x : List S29) (Ax : Option Addr) (cx : Nat) (w1 : World), x ∈ L → Below w.heap.size w w1 → Kd.C k29 w1 Ax x.length x → x.length ≤ cx → Calls Tryd.prog 25 #[.slice Ax x.length cx, pv] w1 fun e w' => e = .returned (.bool (P x)) ∧ Below w1.heap.size w1 w') :
    Calls Tryd.prog 52 #[.slice A L.length c, .func (.func 25) #[] #[pv]] w fun e w' => e = .returned (.int .i64 (fstG P L 0)) ∧ Below w.heap.size w w' := by
  rcases Nat.eq_zero_or_pos L.length with h0 | hn
  · have e0 : L = [] := List.eq_nil_of_length_eq_zero h0
    subst e0
    clear hL hP h0 hb
    go_enter Tryd.func52, Tryd.ntmps52
    go_wp2
    refine wp_loop_rounds 1 ?_
    rw [rounds_succ]
    go_wp2
    go_ret
    exact ⟨rfl, Below.refl _ _⟩
  · obtain ⟨b, o, rfl, hbw, hcell⟩ := rawL hL hn
    have HC := Aside0.mk hcell
    have HP := Aside0.mk hP
    have HE := Aside0.mk (fun j (hj : j < L.length) => List.drop_eq_getElem_cons hj)
    clear hL hP hcell
    go_enter Tryd.func52, Tryd.ntmps52
    go_wp2
    go_loopg [5, 8] L.length (fun kx s5 s8 wr => ∃ j : Nat, s8 = .int .i64 j ∧ j ≤ L.length ∧ L.length - j ≤ kx ∧ Aside0 (Below w.heap.size w wr) ∧ Aside0 (fstG P L 0 = fstG P (L.drop j) j))
    case atStart => exact ⟨0, rfl, Nat.zero_le _, by omega, Aside0.mk (Below.refl _ _), Aside0.mk rfl⟩
    case round =>
      obtain ⟨j, rfl, hjn, hg, HB, HI⟩ := hrel
      by_cases hlt : j < L.length
      · obtain ⟨Aj, cj, e0, e1, e2⟩ := HC.out j hlt
        have e0' : wr.cell? ⟨b, o + j, none⟩ = some (.slice Aj L[j].length cj) := by
          rw [HB.out.cell (p := ⟨b, o + j, none⟩) hbw]; exact e0
        have hc := HP.out L[j] Aj cj wr (List.getElem_mem hlt) HB.out (Kd.C_below e2 HB.out) e1
        have X := HE.out j hlt
        clear e0 e1 e2
        generalize L[j] = y at e0' hc X
        have HX := Aside0.mk X
        have HCC := Aside0.mk hc
        clear X hc
        cases hp : P y with
        | true =>
          have HH : Aside0 (fstG P L 0 = (j : Int)) := Aside0.mk (by rw [HI.out, HX.out]; unfold fstG; rw [hp]; rfl)
          rw [hp] at HCC
          clear hp HX HI
          go_wp2_with (go_at_call 25; ((with_reducible refine HCC.out.mono ?_); rintro e w2 ⟨rfl, hb2⟩; have HB2 := Aside0.mk (below_step HB.out hb2); clear hb2))
          go_ret
          exact ⟨by rw [HH.out]; rfl, HB2.out⟩
        | false =>
          have HH : Aside0 (fstG P L 0 = fstG P (L.drop (j + 1)) (j + 1 : Nat)) := Aside0.mk (by rw [HI.out, HX.out]; conv => { lhs; unfold fstG }; rw [hp]; simp)
          rw [hp] at HCC
          clear hp HX HI
          go_wp2_with (go_at_call 25; ((with_reducible refine HCC.out.mono ?_); rintro e w2 ⟨rfl, hb2⟩; have HB2 := Aside0.mk (below_step HB.out hb2); clear hb2))
          go_roundg (L.length - (j + 1))
          case measure => omega
          case rel => exact ⟨j + 1, rfl, by omega, Nat.le_refl _, HB2, HH⟩
      · have hj : j = L.length := by omega
        subst hj
        have HH : Aside0 (fstG P L 0 = -1) := Aside0.mk (by rw [HI.out, List.drop_length]; rfl)
        clear HI
        go_wp2_with fail
        go_ret
        exact ⟨by rw [HH.out]; rfl, HB.out⟩
set_option maxHeartbeats 1000000 in
theorem cont25 (A : Option Addr) (c : Nat) (L : List (List S29)) (pv : Value) (P : List S29 → Bool) (w : World) (hL : Kd.C (Kd.slice 29 k29) w A L.length L) (hb : L.length ≤ 1000000)
    (hP : ∀ (x : List S29) (Ax : Option Addr) (cx : Nat) (w1 : World), x ∈ L → Below w.heap.size w w1 → Kd.C k29 w1 Ax x.length x → x.length ≤ cx → Calls Tryd.prog 25 #[.slice Ax x.length cx, pv] w1 fun e w' => e = .returned (.bool (P x)) ∧ Below w1.heap.size w1 w') :
    Calls Tryd.prog 24 #[.slice A L.length c, .func (.func 25) #[] #[pv]] w fun e w' => e = .returned (.bool (L.any P)) ∧ Below w.heap.size w w' := by
  have HC := Aside0.mk (idx25 A c L pv P w hL hb hP)
  have HA := Aside0.mk (fstG_any P L 0 (Int.le_refl _))
  clear hL hb hP
  go_enter Tryd.func24, Tryd.ntmps24
  go_wp2_with (go_at_call 52; ((with_reducible refine HC.out.mono ?_); rintro e w1 ⟨rfl, hb⟩; have HB := Aside0.mk hb; clear hb))
  go_ret
  exact ⟨by rw [← HA.out]; rfl, HB.out⟩
set_option maxHeartbeats 1000000 in
/-- Is a nogood all there? No: one of it the row (in a cell) hasn't. -/
theorem allW (g : Nat) (A1 : Option Addr) (c1 : Nat) (row : List Int) (A : Option Addr) (c : Nat) (n : List S29) (w : World) (hg : w.cell? ⟨g, 0, none⟩ = some (.slice A1 row.length c1)) (hr : Kd.C (Kd.int .i64) w A1 row.length row) (hb : row.length ≤ 1000000) (hn : Kd.C k29 w A n.length n) (hnb : n.length ≤ 1000000) :
    Calls Tryd.prog 25 #[.slice A n.length c, .pointer (some ⟨g, 0, none⟩)] w fun e w' => e = .returned (.bool (!(n.map pr29).any (outR row))) ∧ Below w.heap.size w w' := by
  have HC := Aside0.mk (contF27 A c n (.pointer (some ⟨g, 0, none⟩)) (fun x => outR row (x.f0, x.f1)) w hn hnb (fun x w1 _ h1 => outW g A1 c1 row x.f0 x.f1 w1 ((h1.cell (p := ⟨g, 0, none⟩) (World.block_lt_of_cell? _ _ hg)).trans hg) (Kd.C_below hr h1) hb))
  have HE := Aside0.mk (show (n.map pr29).any (outR row) = n.any (fun x => outR row (x.f0, x.f1)) from by rw [List.any_map]; rfl)
  clear hg hr hb hn hnb
  go_enter Tryd.func25, Tryd.ntmps25
  go_wp2_with (go_at_call 26; ((with_reducible refine HC.out.mono ?_); rintro e w1 ⟨rfl, hb⟩; have HB := Aside0.mk hb; clear hb))
  go_ret
  exact ⟨by rw [HE.out]; rfl, HB.out⟩
set_option maxHeartbeats 1000000 in
/-- NogoodKeeps' 'free'; the base by the cell that holds it. -/
theorem freeW (base : Nat) (F : Nat → Prop) (gc g : Nat) (L : List (List (Int × Int))) (A : Option Addr) (c : Nat) (row : List Int) (w : World) (hN : NB base F w g (L.map (List.map un29))) (hLb : L.length ≤ 1000000) (hx : ∀ x ∈ L, x.length ≤ 1000000) (hc : w.cell? ⟨gc, 0, none⟩ = some (.pointer (some ⟨g, 0, none⟩))) (hr : Kd.C (Kd.int .i64) w A row.length row) (hb : row.length ≤ 1000000) :
    Calls Tryd.prog 23 #[.slice A row.length c, .pointer (some ⟨gc, 0, none⟩)] w fun e w' => e = .returned (.bool (freeR L row)) ∧ Below w.heap.size w w' := by
  have HL := Aside0.mk (fun w1 (h1 : Below w.heap.size w w1) => listNB base F w1 g (L.map (List.map un29)) (hN.below h1) (by rw [List.length_map]; exact hLb) (fun x hx1 => by obtain ⟨q, hq, rfl⟩ := List.mem_map.1 hx1; rw [List.length_map]; exact hx q hq))
  have HC0 := (fun (w1 : World) (A1 : Option Addr) (c1 : Nat) (h1 : Below w.heap.size w w1) (hg : w1.cell? ⟨w.heap.size, 0, none⟩ = some (.slice A row.length c)) (hl : Kd.C (Kd.slice 29 k29) w1 A1 (L.map (List.map un29)).length (L.map (List.map un29))) =>
    cont25 A1 c1 (L.map (List.map un29)) (.pointer (some ⟨w.heap.size, 0, none⟩)) (fun n => !(n.map pr29).any (outR row)) w1 hl (by rw [List.length_map]; exact hLb) (fun n Ax cx w2 hn h2 hC hcx => allW w.heap.size A c row Ax cx n w2 ((h2.cell (p := ⟨w.heap.size, 0, none⟩) (World.block_lt_of_cell? _ _ hg)).trans hg) (Kd.C_below (Kd.C_below hr h1) h2) hb hC (by obtain ⟨q, hq, rfl⟩ := List.mem_map.1 hn; rw [List.length_map]; exact hx q hq)))
  have HE : (L.map (List.map un29)).any (fun n => !(n.map pr29).any (outR row)) = !freeR L row := by
    unfold freeR
    rw [List.all_eq_not_any_not, List.any_map, Bool.not_not]
    congr 1
    funext n
    show (!((n.map un29).map pr29).any (outR row)) = _
    rw [pr_un]
  rw [HE] at HC0
  simp only [List.length_map] at HC0
  have HC := Aside0.mk HC0
  clear HC0 HE
  have hc2 : (w.alloc (.cells #[.slice A row.length c] 63 (0, 0))).cell? ⟨gc, 0, none⟩ = some (.pointer (some ⟨g, 0, none⟩)) := ((below_alloc (Below.refl w.heap.size w) _).cell (p := ⟨gc, 0, none⟩) (World.block_lt_of_cell? _ _ hc)).trans hc
  clear hN hr hb hx hLb
  go_enter Tryd.func23, Tryd.ntmps23
  go_wp2_with (first
    | (go_at_call 21; ((with_reducible refine (HL.out _ (below_alloc (Below.refl _ _) _)).mono ?_); rintro e w1 ⟨v1, rfl, hR, hb⟩; obtain ⟨A1, c1, rfl, _, hC1⟩ := Kd.R_reads hR; simp only [List.length_map] at hC1 ⊢; have HR := Aside0.mk hC1; have HB := Aside0.mk (below_step (below_alloc (Below.refl _ _) _) hb); have HG := Aside0.mk (show w1.cell? ⟨w.heap.size, 0, none⟩ = some (.slice A row.length c) from (hb.cell (p := ⟨w.heap.size, 0, none⟩) (World.block_lt_of_cell? _ _ (blk_cell (blk_new w (.cells #[.slice A row.length c] 63 (0, 0))) 0))).trans (blk_cell (blk_new w (.cells #[.slice A row.length c] 63 (0, 0))) 0)); clear hb hR hC1))
    | (go_at_call 24; ((with_reducible refine (HC.out _ A1 c1 HB.out HG.out HR.out).mono ?_); rintro e w2 ⟨rfl, hb⟩; have HB2 := Aside0.mk (below_step HB.out hb); clear hb)))
  go_ret
  exact ⟨rfl, HB2.out⟩
end Go.Proofs.YtgckohmppefibaaDoorX.Hz
