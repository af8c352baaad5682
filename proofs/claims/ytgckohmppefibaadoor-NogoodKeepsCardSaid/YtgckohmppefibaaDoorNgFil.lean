import Derived.Test.YtgckohmppefibaaDoorNgDom
import Derived.Test.YtgckohmppefibaaDoorHzx4
namespace Go.Proofs.YtgckohmppefibaaDoorX.Hz
open Go.RowKit Go.Proofs.YtgckohmppefibaaDoorW.PrintWords Go.Proofs.YtgckohmppefibaaDoorW.PrintLast Go.Proofs.YtgckohmppefibaaDoorW.PrintMore
attribute [local go_sem] max2_int min2_int max_two min_two max_three min_three max_four min_four
set_option linter.unusedVariables false
set_option linter.unusedSimpArgs false
attribute [local go_sem] Go.Proofs.YtgckohmppefibaaDoor.Hook.cell_two
/-- The place of the first domain that is empty, or -1. -/
def fstE : List (List Int) → Int → Int
  | [], _ => -1
  | x :: l, i => if x.isEmpty then i else fstE l (i + 1)
theorem fstE_any : ∀ (L : List (List Int)) (i : Int), 0 ≤ i → decide (0 ≤ fstE L i) = L.any fun x => x.isEmpty
  | [], i, _ => by unfold fstE; simp
  | x :: l, i, h => by
    unfold fstE
    cases hx : x.isEmpty with
    | true => simp [hx, h]
    | false => simp only [Bool.false_eq_true, if_false, List.any_cons, hx, Bool.false_or]; exact fstE_any l (i + 1) (by omega)
set_option maxHeartbeats 1000000 in
theorem zeroD (off : Int) (sv : Value) (lo hi : Int) (l : List Int) (w : World) : Calls Tryd.prog 47 #[.agg #[.int .i64 off, sv, .int .i64 lo, .int .i64 hi, .int .i64 l.length]] w fun e w' => e = .returned (.bool l.isEmpty) ∧ Below w.heap.size w w' := by
  have HS : Aside0 (∀ w1 : World, Calls Tryd.prog 36 #[.agg #[.int .i64 off, sv, .int .i64 lo, .int .i64 hi, .int .i64 l.length]] w1 fun e w' => e = .returned (.int .i64 l.length) ∧ Below w1.heap.size w1 w') := Aside0.mk (fun w1 => by
    go_enter Tryd.func36, Tryd.ntmps36
    go_wp2
    go_ret
    exact ⟨rfl, by repeat (first | exact Below.refl _ _ | refine below_drewN ?_ _ | refine below_alloc ?_ _)⟩)
  have he : ((l.length : Int) == 0) = l.isEmpty := by cases l <;> simp <;> omega
  have HE := Aside0.mk he
  clear he
  go_enter Tryd.func47, Tryd.ntmps47
  go_wp2_with (go_at_call 36; ((with_reducible refine (HS.out _).mono ?_); rintro e w2 ⟨rfl, hb⟩; have HB := Aside0.mk (below_step (below_alloc (Below.refl _ _) _) hb); clear hb))
  go_ret
  exact ⟨by rw [← HE.out]; rfl, HB.out⟩
set_option maxHeartbeats 4000000 in
set_option maxRecDepth 100000 in
theorem idxD (A : Option Addr) (c : Nat) (D : List (List Int)) (w : World) (hD : DRow w A D) (hb : D.length ≤ 1000000) :
    Calls Tryd.prog 71 #[.slice A D.length c, .func (.func 47) #[] #[]] w fun e w' => e = .returned (.int .i64 (fstE D 0)) ∧ Below w.heap.size w w' := by
  rcases Nat.eq_zero_or_pos D.length with h0 | hn
  · have e0 : D = [] := List.eq_nil_of_length_eq_zero h0
    subst e0
    clear hD h0 hb
    go_enter Tryd.func71, Tryd.ntmps71
    go_wp2
    refine wp_loop_rounds 1 ?_
    rw [rounds_succ]
    go_wp2
    go_ret
    exact ⟨rfl, Below.refl _ _⟩
  · obtain ⟨b, o, rfl, hbw, hcell⟩ := hD.pos hn
    have HC := Aside0.mk hcell
    have HE := Aside0.mk (fun j (hj : j < D.length) => List.drop_eq_getElem_cons hj)
    clear hD hcell
    go_enter Tryd.func71, Tryd.ntmps71
    go_wp2
    go_loopg [5, 8] D.length (fun kx s5 s8 wr => ∃ j : Nat, s8 = .int .i64 j ∧ j ≤ D.length ∧ D.length - j ≤ kx ∧ Aside0 (Below w.heap.size w wr) ∧ Aside0 (fstE D 0 = fstE (D.drop j) j))
    case atStart => exact ⟨0, rfl, Nat.zero_le _, by omega, Aside0.mk (Below.refl _ _), Aside0.mk rfl⟩
    case round =>
      obtain ⟨j, rfl, hjn, hg, HB, HI⟩ := hrel
      by_cases hlt : j < D.length
      · obtain ⟨off, sv, ws, hx, d0, d1, d2, d3, d4⟩ := (HC.out j hlt).below hbw HB.out
        obtain ⟨Aw, cw, rfl⟩ := hx.sl.len
        have X := HE.out j hlt
        have HZ := Aside0.mk (zeroD off (.slice Aw ws.length cw) (D[j].headD 0) (D[j].getLastD 0) D[j])
        clear hx
        generalize D[j].headD 0 = lo at *
        generalize D[j].getLastD 0 = hi at *
        generalize D[j] = y at *
        have HX := Aside0.mk X
        clear X
        cases hp : y.isEmpty with
        | true =>
          have HH : Aside0 (fstE D 0 = (j : Int)) := Aside0.mk (by rw [HI.out, HX.out]; unfold fstE; rw [hp]; rfl)
          rw [hp] at HZ
          clear hp HX HI
          go_wp2_with (go_at_call 47; ((with_reducible refine (HZ.out _).mono ?_); rintro e w2 ⟨rfl, hb2⟩; have HB2 := Aside0.mk (below_step HB.out hb2); clear hb2))
          go_ret
          exact ⟨by rw [HH.out]; rfl, HB2.out⟩
        | false =>
          have HH : Aside0 (fstE D 0 = fstE (D.drop (j + 1)) (j + 1 : Nat)) := Aside0.mk (by rw [HI.out, HX.out]; conv => { lhs; unfold fstE }; rw [hp]; simp)
          rw [hp] at HZ
          clear hp HX HI
          go_wp2_with (go_at_call 47; ((with_reducible refine (HZ.out _).mono ?_); rintro e w2 ⟨rfl, hb2⟩; have HB2 := Aside0.mk (below_step HB.out hb2); clear hb2))
          go_roundg (D.length - (j + 1))
          case measure => omega
          case rel => exact ⟨j + 1, rfl, by omega, Nat.le_refl _, HB2, HH⟩
      · have hj : j = D.length := by omega
        subst hj
        have HH : Aside0 (fstE D 0 = -1) := Aside0.mk (by rw [HI.out, List.drop_length]; rfl)
        clear HI
        go_wp2_with fail
        go_ret
        exact ⟨by rw [HH.out]; rfl, HB.out⟩
set_option maxHeartbeats 1000000 in
theorem contD (A : Option Addr) (c : Nat) (D : List (List Int)) (w : World) (hD : DRow w A D) (hb : D.length ≤ 1000000) :
    Calls Tryd.prog 46 #[.slice A D.length c, .func (.func 47) #[] #[]] w fun e w' => e = .returned (.bool (D.any fun x => x.isEmpty)) ∧ Below w.heap.size w w' := by
  have HC := Aside0.mk (idxD A c D w hD hb)
  have HA := Aside0.mk (fstE_any D 0 (Int.le_refl _))
  clear hD hb
  go_enter Tryd.func46, Tryd.ntmps46
  go_wp2_with (go_at_call 71; ((with_reducible refine HC.out.mono ?_); rintro e w1 ⟨rfl, hb⟩; have HB := Aside0.mk hb; clear hb))
  go_ret
  exact ⟨by rw [← HA.out]; rfl, HB.out⟩
theorem info62c : (Tryd.prog.info? 62).map (fun i => (i.zero, i.size, i.bytes)) = some (some (.agg #[.int .i64 0, .slice none 0 0, .int .i64 0, .int .i64 0, .int .i64 0]), 5, 56) := by kernel_rfl
/-- The cells of some domains, one behind the other. -/
def cells5 (V : List (Int × Value × Int × Int × Int)) : List Value := V.flatMap fun x => [.int .i64 x.1, x.2.1, .int .i64 x.2.2.1, .int .i64 x.2.2.2.1, .int .i64 x.2.2.2.2]
theorem cells5_len : ∀ V, (cells5 V).length = V.length * 5
  | [] => rfl
  | x :: V => by
    unfold cells5
    rw [List.flatMap_cons, List.length_append, List.length_cons]
    have := cells5_len V
    unfold cells5 at this
    rw [this]
    simp; omega
theorem cells5_at : ∀ (V : List (Int × Value × Int × Int × Int)) (j q : Nat) (hj : j < V.length), q < 5 → (cells5 V)[j * 5 + q]? = [Value.int .i64 V[j].1, V[j].2.1, .int .i64 V[j].2.2.1, .int .i64 V[j].2.2.2.1, .int .i64 V[j].2.2.2.2][q]?
  | x :: V, 0, q, _, hq => by
    unfold cells5
    rw [List.flatMap_cons, List.getElem?_append_left (by simp; omega), Nat.zero_mul, Nat.zero_add]
    rfl
  | x :: V, j + 1, q, hj, hq => by
    have := cells5_at V j q (by simp at hj; omega) hq
    unfold cells5 at this ⊢
    rw [List.flatMap_cons, List.getElem?_append_right (by simp; omega), List.getElem_cons_succ]
    rw [← this]
    congr 1
    simp; omega
theorem cells5_mem {V : List (Int × Value × Int × Int × Int)} (h : ∀ x ∈ V, x.2.1.oneCell' = true) : ∀ u ∈ cells5 V, u.oneCell' = true := by
  intro u hu
  unfold cells5 at hu
  obtain ⟨x, hx, hu⟩ := List.mem_flatMap.1 hu
  simp only [List.mem_cons, List.not_mem_nil, or_false] at hu
  rcases hu with rfl | rfl | rfl | rfl | rfl
  · rfl
  · exact h x hx
  · rfl
  · rfl
  · rfl
set_option maxHeartbeats 1000000 in
/-- slices.Clone over domains. -/
theorem cloneD (A : Option Addr) (c : Nat) (D : List (List Int)) (w : World) (hD : DRow w A D) (hb : D.length ≤ 1000000) :
    Calls Tryd.prog 48 #[.slice A D.length c] w fun e w' => ∃ A' c', e = .returned (.slice A' D.length c') ∧ Below w.heap.size w w' ∧ ((A' = none ∧ D = []) ∨ ∃ gd, A' = some ⟨gd, 0, none⟩ ∧ DB w.heap.size gd c' w' D) := by
  rcases hD with ⟨rfl, rfl⟩ | ⟨b, o, rfl, hbw, hc⟩
  · refine (show Calls Tryd.prog 48 #[.slice none 0 c] w fun e w' => e = .returned (.slice none 0 0) ∧ w' = w from AnyE.slices_Clone_nil Tryd.cloneDom 0 c w).mono ?_
    rintro e w' ⟨rfl, rfl⟩
    exact ⟨none, 0, rfl, Below.refl _ _, .inl ⟨rfl, rfl⟩⟩
  · obtain ⟨i0, hi, hz0, hz1, hz2⟩ := info_parts info62c
    obtain ⟨V, hVl, hV⟩ := list_of D.length (fun j (x : Int × Value × Int × Int × Int) => ∀ hj : j < D.length, (∃ ws, Go.Proofs.YtgckohmppefibaaDoor.Dm.RepX w x.1 x.2.1 ws D[j]) ∧ x.2.2.1 = D[j].headD 0 ∧ x.2.2.2.1 = D[j].getLastD 0 ∧ x.2.2.2.2 = D[j].length ∧ ∀ q u, q < 5 → [Value.int .i64 x.1, x.2.1, .int .i64 x.2.2.1, .int .i64 x.2.2.2.1, .int .i64 x.2.2.2.2][q]? = some u → w.cell? ⟨b, o + j * 5 + q, none⟩ = some u) (fun j hj => by
      obtain ⟨off, sv, ws, h0, h1, h2, h3, h4, h5⟩ := hc j hj
      refine ⟨(off, sv, D[j].headD 0, D[j].getLastD 0, D[j].length), fun _ => ⟨⟨ws, h0⟩, rfl, rfl, rfl, fun q u hq hu => ?_⟩⟩
      match q, hu with
      | 0, hu => cases hu; exact h1
      | 1, hu => cases hu; exact h2
      | 2, hu => cases hu; exact h3
      | 3, hu => cases hu; exact h4
      | 4, hu => cases hu; exact h5
      | q + 5, hu => omega)
    have hone : ∀ x ∈ V, x.2.1.oneCell' = true := by
      intro x hx
      obtain ⟨j, hj, rfl⟩ := List.getElem_of_mem hx
      obtain ⟨⟨ws, h0⟩, _⟩ := hV j hj (by omega)
      obtain ⟨A1, c1, e⟩ := h0.sl.len
      rw [e]; rfl
    have hcl : (cells5 V).length = D.length * 5 := by rw [cells5_len, hVl]
    have hz23 : ∀ w, (Go.sizeOf 62).run Tryd.prog w = .ok 5 w := fun w => by simp [Go.sizeOf, typeInfo, hi, hz1]
    refine (show Calls Tryd.prog 48 #[.slice (some ⟨b, o, none⟩) D.length c] w fun e w' => ∃ v', e = .returned v' ∧ w'.ownsRow w.heap.size 62 5 v' D.length (cells5 V) ∧ v' ≠ .slice none 0 0 ∧ Below w.heap.size w w' from AnyE.slices_Clone Tryd.cloneDom i0 _ 5 56 hi hz0 hz1 hz2 rfl (by decide) hz23 b o D.length c (cells5 V) w hcl (by unfold maxLen; omega) (by omega) (fun j u hu => ?_) (cells5_mem hone)).mono ?_
    · have hjl : j < D.length * 5 := by rw [← hcl]; exact (List.getElem?_eq_some_iff.1 hu).1
      have hj5 : j / 5 < D.length := by omega
      have e5 : j / 5 * 5 + j % 5 = j := by omega
      have h9 := cells5_at V (j / 5) (j % 5) (by omega) (by omega)
      rw [e5, hu] at h9
      have := (hV (j / 5) (by omega) hj5).2.2.2.2 (j % 5) u (by omega) h9.symm
      rw [show o + j / 5 * 5 + j % 5 = o + j from by omega] at this
      exact this
    · rintro e w' ⟨v', rfl, ⟨hlen, hor⟩, hne, hbl⟩
      rcases hor with ⟨rfl, _⟩ | ⟨gd, cap, cur, rfl, hg1, hg2, hg3, hg4, hg5, hg6⟩
      · exact absurd rfl hne
      · refine ⟨some ⟨gd, 0, none⟩, cap, rfl, hbl, .inr ⟨gd, rfl, hg1, ⟨cur, hg2, hg5⟩, hg3, hg4, fun j hj => ?_⟩⟩
        obtain ⟨⟨ws, h0⟩, x1, x2, x3, _⟩ := hV j (by omega) hj
        have cl : ∀ q u, q < 5 → [Value.int .i64 V[j].1, V[j].2.1, .int .i64 V[j].2.2.1, .int .i64 V[j].2.2.2.1, .int .i64 V[j].2.2.2.2][q]? = some u → w'.cell? ⟨gd, 0 + j * 5 + q, none⟩ = some u := by
          intro q u hq hu
          rw [← cells5_at V j q (by omega) hq, ← hg6, List.getElem?_take, if_pos (by omega), Array.getElem?_toList] at hu
          rw [blk_cell hg2, Nat.zero_add]
          exact hu
        refine ⟨V[j].1, V[j].2.1, ws, h0.call hbl, ?_, ?_, ?_, ?_, ?_⟩
        · exact cl 0 _ (by decide) rfl
        · exact cl 1 _ (by decide) rfl
        · rw [← x1]; exact cl 2 _ (by decide) rfl
        · rw [← x2]; exact cl 3 _ (by decide) rfl
        · rw [← x3]; exact cl 4 _ (by decide) rfl
def total : List (List Int) → Nat
  | [] => 0
  | x :: l => x.length + total l
theorem total_set : ∀ (D : List (List Int)) (v : Nat) (l' : List Int), v < D.length → total (D.set v l') + (D.getD v []).length = total D + l'.length
  | x :: D, 0, l', _ => by simp [total]; omega
  | x :: D, v + 1, l', h => by
    have := total_set D v l' (by simpa using h)
    simp only [List.set_cons_succ, total, List.getD_cons_succ]
    omega
theorem filter_less (l : List Int) (u : Int) (h : u ∈ l) : (l.filter fun x => !decide (x = u)).length < l.length := by
  have h1 : (l.filter fun x => !decide (x = u)).length ≤ l.length := List.length_filter_le _ _
  rcases Nat.lt_or_eq_of_le h1 with h2 | h2
  · exact h2
  · have h3 := List.length_filter_eq_length_iff.1 h2 u h
    simp at h3
theorem passL_total : ∀ (L : List (List S29)) (D : List (List Int)) (ch : Bool), (passL L D ch).2.1 = true → total (passL L D ch).2.2 ≤ total D ∧ ((passL L D ch).1 = true → ch = true ∨ total (passL L D ch).2.2 < total D) ∧ (passL L D ch).2.2.length = D.length
  | [], D, ch, _ => ⟨Nat.le_refl _, fun h => .inl h, rfl⟩
  | n :: L, D, ch, h => by
    unfold passL at h ⊢
    by_cases h0 : (openL D n (0, 0) 0).2.2 = 0
    · rw [if_pos h0] at h; cases h
    · by_cases h1 : (openL D n (0, 0) 0).2.2 = 1
      · rw [if_neg h0, if_pos h1] at h ⊢
        obtain ⟨a1, a2, a3⟩ := openL_at D n (0, 0) 0 h1 (.inl rfl)
        generalize openL D n (0, 0) 0 = r at h h1 a1 a2 a3 ⊢
        have hs := total_set D r.1.toNat ((D.getD r.1.toNat []).filter fun u => !decide (u = r.2.1)) (by omega)
        have hl := filter_less _ _ a3
        obtain ⟨b1, _, b3⟩ := passL_total L _ true h
        refine ⟨by omega, fun _ => .inr (by omega), by rw [b3, List.length_set]⟩
      · rw [if_neg h0, if_neg h1] at h ⊢
        exact passL_total L D ch h
/-- Filter's rounds. -/
def filtL : Nat → List (List S29) → List (List Int) → Option (List (List Int))
  | 0, _, _ => none
  | k + 1, L, D => if (passL L D false).2.1 = true then (if (passL L D false).1 = true then filtL k L (passL L D false).2.2 else some (passL L D false).2.2) else none
theorem filtL_more : ∀ (k k' : Nat) (L : List (List S29)) (D : List (List Int)), total D < k → total D < k' → filtL k L D = filtL k' L D
  | 0, _, _, _, h, _ => by omega
  | _, 0, _, _, _, h => by omega
  | k + 1, k' + 1, L, D, h, h' => by
    unfold filtL
    by_cases h1 : (passL L D false).2.1 = true
    · rw [if_pos h1, if_pos h1]
      by_cases h2 : (passL L D false).1 = true
      · rw [if_pos h2, if_pos h2]
        obtain ⟨_, b, _⟩ := passL_total L D false h1
        rcases b h2 with b | b
        · cases b
        · exact filtL_more k k' L _ (by omega) (by omega)
      · rw [if_neg h2, if_neg h2]
    · rw [if_neg h1, if_neg h1]
/-- What Filter answers. -/
def filt (L : List (List S29)) (D : List (List Int)) : Option (List (List Int)) := if D.any (fun x => x.isEmpty) = true then none else filtL (total D + 1) L D
theorem pass0L : ∀ (L : List (List S29)) (ch : Bool), (passL L [] ch).2.1 = true → passL L [] ch = (ch, true, [])
  | [], ch, _ => rfl
  | n :: L, ch, h => by
    unfold passL at h ⊢
    by_cases h0 : (openL [] n (0, 0) 0).2.2 = 0
    · rw [if_pos h0] at h; cases h
    · by_cases h1 : (openL [] n (0, 0) 0).2.2 = 1
      · obtain ⟨a1, a2, _⟩ := openL_at [] n (0, 0) 0 h1 (.inl rfl)
        simp at a2; omega
      · rw [if_neg h0, if_neg h1] at h ⊢
        exact pass0L L ch h
set_option maxHeartbeats 4000000 in
set_option maxRecDepth 100000 in
theorem passN (base cap : Nat) (F : Nat → Prop) (w : World) (g : Nat) (L : List (List S29)) (h : NB base F w g L) (hb : L.length ≤ 1000000) (hx : ∀ x ∈ L, x.length ≤ 1000000) :
    Calls Tryd.prog 49 #[.pointer (some ⟨g, 0, none⟩), .slice none 0 cap] w fun e w' => e = .returned (.tuple #[.bool (passL L [] false).1, .bool (passL L [] false).2.1]) ∧ Below w.heap.size w w' := by
  obtain ⟨v, hgb, hbg, hFg, hR⟩ := h
  obtain ⟨A, c, rfl⟩ := Kd.R_slice hR
  have hc := blk_cell hgb 0
  have hgw : g < w.heap.size := blk_lt hgb
  rcases Nat.eq_zero_or_pos L.length with h0 | hn
  · have e0 : L = [] := List.eq_nil_of_length_eq_zero h0
    subst e0
    clear hR hgb hx
    go_enter Tryd.func49, Tryd.ntmps49
    go_wp2
    refine wp_loop_rounds 1 ?_
    rw [rounds_succ]
    go_wp2
    go_ret2
    exact ⟨rfl, Below.refl _ _⟩
  · obtain ⟨b, o, rfl⟩ : ∃ b o, A = some ⟨b, o, none⟩ := by
      obtain ⟨A2, c2, e, _, hC⟩ := Kd.R_reads hR
      cases e
      obtain ⟨b2, o2, e, _, _⟩ := rawL hC hn
      exact ⟨b2, o2, e⟩
    have RA : Aside0 (∀ (wr : World) (hbt : Below w.heap.size w wr) j (hj : j < L.length), ∃ Aj cj, wr.cell? ⟨b, o + j, none⟩ = some (.slice Aj L[j].length cj) ∧ L[j].length ≤ cj ∧ Kd.C k29 wr Aj L[j].length L[j]) := Aside0.mk (fun wr hbt j hj => by
      obtain ⟨A2, c2, e, _, hC⟩ := Kd.R_reads (Kd.R_below hR hbt)
      cases e
      obtain ⟨b2, o2, e, _, hcell⟩ := rawL hC (by omega)
      cases e
      exact hcell j hj)
    have HX := Aside0.mk hx
    have PL := Aside0.mk (fun j (hj : j < L.length) => List.drop_eq_getElem_cons hj)
    clear hR hgb hx
    go_enter Tryd.func49, Tryd.ntmps49
    go_wp2
    go_loopg [6, 8, 9, 10, 16] L.length (fun kx s6 s8 s9 s10 s16 wr => ∃ (j : Nat), s6 = .bool false ∧ s16 = .int .i64 j ∧ j ≤ L.length ∧ L.length - j ≤ kx ∧ Aside0 (Below w.heap.size w wr ∧ passL L [] false = passL (L.drop j) [] false))
    case atStart => exact ⟨0, rfl, rfl, Nat.zero_le _, by omega, Aside0.mk ⟨Below.refl _ _, by rw [List.drop_zero]⟩⟩
    case round =>
      obtain ⟨j, rfl, rfl, hjn, hg, HI⟩ := hrel
      by_cases hlt : j < L.length
      · obtain ⟨Aj, cj, e0, e1, e2⟩ := RA.out wr HI.out.1 j hlt
        have hxl := HX.out _ (List.getElem_mem hlt)
        have X := Aside0.mk (PL.out j hlt)
        generalize L[j] = n at e0 e1 e2 hxl X
        have ho := openD Aj cj n none cap [] wr e2 e1 (.inl ⟨rfl, rfl⟩) (Nat.zero_le _) hxl (by decide)
        rw [show ([] : List (List Int)).length = 0 from rfl] at ho
        have HO := Aside0.mk ho
        have HAT := Aside0.mk (openL_at [] n (0, 0) 0)
        have H012 := openL_02 [] n (0, 0) 0
        clear ho e1 e2 hc
        generalize hr : openL [] n (0, 0) 0 = r at HO HAT H012
        obtain ⟨r1, r2, r3⟩ := r
        have HR := Aside0.mk hr
        clear hr
        simp only at H012 HO
        rcases H012 with rfl | rfl | rfl
        · go_wp2_with (go_at_call 72; ((with_reducible refine HO.out.mono ?_); rintro e w2 ⟨rfl, hb2⟩; have HB2 := Aside0.mk hb2; clear hb2))
          go_ret2
          have e3 : passL L [] false = (false, false, []) := by
            rw [HI.out.2, X.out]; unfold passL; rw [HR.out]; rfl
          rw [e3]
          exact ⟨rfl, below_step HI.out.1 (below_alloc HB2.out _)⟩
        · obtain ⟨a1, a2, _⟩ := HAT.out rfl (.inl rfl)
          simp at a1 a2
          omega
        · go_wp2_with (go_at_call 72; ((with_reducible refine HO.out.mono ?_); rintro e w2 ⟨rfl, hb2⟩; have HB2 := Aside0.mk hb2; clear hb2))
          have e3 : passL L [] false = passL (L.drop (j + 1)) [] false := by
            rw [HI.out.2, X.out]; conv => { lhs; unfold passL }; rw [HR.out]; rfl
          go_roundg (L.length - (j + 1))
          case measure => omega
          case rel => exact ⟨j + 1, rfl, rfl, by omega, Nat.le_refl _, Aside0.mk ⟨below_step HI.out.1 (below_alloc HB2.out _), e3⟩⟩
      · have hj : j = L.length := by omega
        subst hj
        go_wp2_with fail
        go_ret2
        have e3 : passL L [] false = (false, true, []) := by
          rw [HI.out.2, List.drop_length]; rfl
        rw [e3]
        exact ⟨rfl, HI.out.1⟩
/-- What a call that filters leaves. -/
def FPost (o : Option (List (List Int))) (n : Nat) (w : World) (e : Ending) (w' : World) : Prop :=
  Below w.heap.size w w' ∧ match o with
    | none => e = .returned (.tuple #[.slice none 0 0, .bool false])
    | some D2 => ∃ A' c', e = .returned (.tuple #[.slice A' n c', .bool true]) ∧ D2.length = n ∧ ((A' = none ∧ D2 = []) ∨ ∃ gd, A' = some ⟨gd, 0, none⟩ ∧ DB w.heap.size gd c' w' D2)
theorem DB.lower {base base' gd cap : Nat} {w : World} {D : List (List Int)} (h : DB base gd cap w D) (hb : base' ≤ base) : DB base' gd cap w D := ⟨Nat.le_trans hb h.1, h.2⟩
set_option maxHeartbeats 1000000 in
/-- Filter where something is empty; whatever the base. -/
theorem filterE (p : Value) (A : Option Addr) (c : Nat) (D : List (List Int)) (w : World) (hD : DRow w A D) (hb : D.length ≤ 1000000) (he : D.any (fun x => x.isEmpty) = true) :
    Calls Tryd.prog 17 #[p, .slice A D.length c] w (FPost none D.length w) := by
  have hc := contD A c D w hD hb
  rw [he] at hc
  have HC := Aside0.mk hc
  clear hc hD
  go_enter Tryd.func17, Tryd.ntmps17
  go_wp2_with (go_at_call 46; ((with_reducible refine HC.out.mono ?_); rintro e w2 ⟨rfl, hb2⟩; have HB := Aside0.mk hb2; clear hb2))
  go_ret2
  exact ⟨HB.out, rfl⟩
set_option maxHeartbeats 4000000 in
set_option maxRecDepth 100000 in
/-- Filter of a base, nothing being empty. -/
theorem filterG (base : Nat) (F : Nat → Prop) (g : Nat) (L : List (List S29)) (A : Option Addr) (c : Nat) (D : List (List Int)) (w : World) (hT : Go.Proofs.YtgckohmppefibaaDoor.Tab w) (hN : NB base F w g L) (hLb : L.length ≤ 1000000) (hx : ∀ x ∈ L, x.length ≤ 1000000) (hD : DRow w A D) (hb : D.length ≤ 1000000) (he : D.any (fun x => x.isEmpty) = false) :
    Calls Tryd.prog 17 #[.pointer (some ⟨g, 0, none⟩), .slice A D.length c] w (FPost (filtL (total D + 1) L D) D.length w) := by
  have hNb := hN.bound
  have hbw : base ≤ w.heap.size := by
    obtain ⟨v, h1, h2, _⟩ := hN
    have := blk_lt h1
    omega
  have hc := contD A c D w hD hb
  rw [he] at hc
  have HC := Aside0.mk hc
  have HL := Aside0.mk (fun w1 (hb1 : Below w.heap.size w w1) => cloneD A c D w1 (hD.below hb1) hb)
  have HN := Aside0.mk hNb
  have HX := Aside0.mk hx
  have HT := Aside0.mk hT
  clear hc hD hN hNb hx hT
  go_enter Tryd.func17, Tryd.ntmps17
  go_upto_region 4 with (first | (go_at_call 46; ((with_reducible refine HC.out.mono ?_); rintro e w2 ⟨rfl, hb2⟩; have HB := Aside0.mk hb2; clear hb2)) | (go_at_call 48; ((with_reducible refine (HL.out _ HB.out).mono ?_); rintro e w3 ⟨A', c', rfl, hb3, hor⟩; have H3 := Aside0.mk (below_step HB.out hb3); have hor' := hor; clear hb3 hor)))
  rcases hor' with ⟨rfl, rfl⟩ | ⟨gd, rfl, hDB⟩
  · have HP := Aside0.mk (passN base c' _ w3 g L (HN.out.below H3.out) hLb HX.out)
    have P0 := Aside0.mk (pass0L L false)
    cases hp : (passL L [] false).2.1 with
    | true =>
      have e0 := P0.out hp
      rw [e0] at HP
      have E : Aside0 (filtL (total [] + 1) L [] = some []) := Aside0.mk (by unfold filtL; rw [if_pos hp, if_neg (by rw [e0]; decide), e0])
      clear e0 hp
      go_wp2_with fail
      refine wp_loop_rounds 2 ?_
      rw [rounds_succ]
      go_wp2_with (go_at_call 49; ((with_reducible refine HP.out.mono ?_); rintro e w4 ⟨rfl, hb4⟩; have HB4 := Aside0.mk hb4; clear hb4))
      rw [rounds_succ]
      go_wp2_with fail
      go_ret2
      refine ⟨below_step H3.out HB4.out, ?_⟩
      rw [E.out]
      exact ⟨none, c', rfl, rfl, .inl ⟨rfl, rfl⟩⟩
    | false =>
      rw [hp] at HP
      have E : Aside0 (filtL (total [] + 1) L [] = none) := Aside0.mk (by unfold filtL; rw [if_neg (by rw [hp]; decide)])
      clear hp
      go_wp2_with fail
      refine wp_loop_rounds 1 ?_
      rw [rounds_succ]
      go_wp2_with (go_at_call 49; ((with_reducible refine HP.out.mono ?_); rintro e w4 ⟨rfl, hb4⟩; have HB4 := Aside0.mk hb4; clear hb4))
      go_ret2
      refine ⟨below_step H3.out HB4.out, ?_⟩
      rw [E.out]
      exact rfl
  · have hgd : w.heap.size ≤ gd := Nat.le_trans HB.out.size hDB.1
    have h0d : 0 ≠ gd := by have := HT.out.lt; omega
    have HD0 := Aside0.mk (And.intro ((hDB.lower HB.out.size).lower hbw) hDB)
    have HFd : ¬ ((fun k => F k ∧ k < w.heap.size) gd) := fun h => by have := h.2; omega
    have hcap : D.length ≤ 1000000 := hb
    clear hDB
    go_wp2_with fail
    go_loopg [7, 8] (total D + 2) (fun kx s7 s8 wr => ∃ (ch : Bool) (D2 : List (List Int)), s7 = .bool ch ∧ (ch = true → total D2 + 1 ≤ kx) ∧ D2.length = D.length ∧ Aside0 (Bt base gd w3 wr ∧ DB base gd c' wr D2 ∧ filtL (total D + 1) L D = if ch = true then filtL (total D2 + 1) L D2 else some D2))
    case atStart => exact ⟨true, D, rfl, fun _ => by omega, rfl, Aside0.mk ⟨⟨Below.refl _ _, KeepBut.refl _ _ _⟩, HD0.out.1, by rw [if_pos rfl]⟩⟩
    case round =>
      obtain ⟨ch, D2, rfl, hm, hl2, HI⟩ := hrel
      cases ch with
      | false =>
        go_wp2_with fail
        go_ret2
        have e3 := HI.out.2.2
        rw [if_neg (by decide)] at e3
        rw [e3]
        refine ⟨?_, some ⟨gd, 0, none⟩, c', rfl, hl2, .inr ⟨gd, rfl, hgd, HI.out.2.1.2⟩⟩
        obtain ⟨b1, b2⟩ := HI.out.1
        exact ⟨b1.os.trans H3.out.os, b1.tape.trans H3.out.tape, b1.output.trans H3.out.output, Nat.le_trans H3.out.size b2.1, fun k hk => (b2.2 k (Nat.lt_of_lt_of_le hk H3.out.size) (by omega) (by simp)).trans (H3.out.block k hk)⟩
      | true =>
        have hm2 := hm rfl
        clear hm
        have hp := passD base gd c' _ wr g L D2 (HI.out.1.tab (HT.out.call H3.out) h0d) h0d ((HN.out.below H3.out).step (fun k hk hlt => HI.out.1.2.2 k hlt (fun e => HFd (e ▸ hk)) (by simp))) HFd hLb HX.out HI.out.2.1 (by omega)
        rw [hl2] at hp
        have HP := Aside0.mk hp
        have PT := Aside0.mk (passL_total L D2 false)
        clear hp
        have E3 := Aside0.mk (show filtL (total D + 1) L D = filtL (total D2 + 1) L D2 from by have := HI.out.2.2; rwa [if_pos rfl] at this)
        cases hok : (passL L D2 false).2.1 with
        | false =>
          have E4 : Aside0 (filtL (total D + 1) L D = none) := Aside0.mk (by rw [E3.out]; unfold filtL; rw [if_neg (by rw [hok]; decide)])
          rw [hok] at HP
          clear hok
          generalize (passL L D2 false).1 = ch2 at HP
          go_wp2_with (go_at_call 49; ((with_reducible refine HP.out.mono ?_); rintro e w4 ⟨D3, rfl, hb4, _⟩; have HB4 := Aside0.mk hb4; clear hb4))
          go_ret2
          have hbt : Bt base gd w3 w4 := ⟨HI.out.1.1.trans HB4.out.1, Nat.le_trans HI.out.1.2.1 HB4.out.2.1, fun k hk h1 h2 => (HB4.out.2.2 k (Nat.lt_of_lt_of_le hk HI.out.1.2.1) h1 h2).trans (HI.out.1.2.2 k hk h1 h2)⟩
          obtain ⟨b1, b2⟩ := hbt
          refine ⟨⟨b1.os.trans H3.out.os, b1.tape.trans H3.out.tape, b1.output.trans H3.out.output, Nat.le_trans H3.out.size b2.1, fun k hk => (b2.2 k (Nat.lt_of_lt_of_le hk H3.out.size) (by omega) (by simp)).trans (H3.out.block k hk)⟩, ?_⟩
          rw [E4.out]
          exact rfl
        | true =>
          obtain ⟨t1, t2, t3⟩ := PT.out hok
          have E4 : Aside0 (filtL (total D + 1) L D = if (passL L D2 false).1 = true then filtL (total (passL L D2 false).2.2 + 1) L (passL L D2 false).2.2 else some (passL L D2 false).2.2) := Aside0.mk (by
            rw [E3.out]
            conv => { lhs; unfold filtL }
            rw [if_pos hok]
            split
            · rename_i h
              rcases t2 h with h | h
              · cases h
              · exact filtL_more _ _ _ _ h (by omega)
            · rfl)
          rw [hok] at HP
          clear hok
          generalize (passL L D2 false).1 = ch2 at HP E4 t2
          generalize (passL L D2 false).2.2 = D4 at HP E4 t1 t2 t3
          go_wp2_with (go_at_call 49; ((with_reducible refine HP.out.mono ?_); rintro e w4 ⟨D3, rfl, hb4, hdb4, hl4, hd4⟩; have HB4 := Aside0.mk hb4; have HD4 := Aside0.mk hdb4; have e4 := hd4 rfl; clear hb4 hdb4 hd4))
          subst e4
          go_roundg (if ch2 = true then total D3 + 1 else 0)
          case measure =>
            cases ch2 with
            | false => rw [if_neg (by decide)]; omega
            | true =>
              rw [if_pos rfl]
              rcases t2 rfl with h | h
              · cases h
              · omega
          case rel => exact ⟨ch2, D3, rfl, fun h => by rw [if_pos h]; exact Nat.le_refl _, by omega, Aside0.mk ⟨⟨HI.out.1.1.trans HB4.out.1, Nat.le_trans HI.out.1.2.1 HB4.out.2.1, fun k hk h1 h2 => (HB4.out.2.2 k (Nat.lt_of_lt_of_le hk HI.out.1.2.1) h1 h2).trans (HI.out.1.2.2 k hk h1 h2)⟩, HD4.out, E4.out⟩⟩
/-- Filter, whatever the base's nogoods. -/
theorem filterNB (base : Nat) (F : Nat → Prop) (g : Nat) (L : List (List S29)) (A : Option Addr) (c : Nat) (D : List (List Int)) (w : World) (hT : Go.Proofs.YtgckohmppefibaaDoor.Tab w) (hN : NB base F w g L) (hLb : L.length ≤ 1000000) (hx : ∀ x ∈ L, x.length ≤ 1000000) (hD : DRow w A D) (hb : D.length ≤ 1000000) :
    Calls Tryd.prog 17 #[.pointer (some ⟨g, 0, none⟩), .slice A D.length c] w (FPost (filt L D) D.length w) := by
  unfold filt
  cases he : D.any (fun x => x.isEmpty) with
  | true => rw [if_pos rfl]; exact filterE _ A c D w hD hb he
  | false => rw [if_neg (by decide)]; exact filterG base F g L A c D w hT hN hLb hx hD hb he
/-- Are all literals of one another one's? -/
def inL (a b : List S29) : Bool := a.all fun x => decide (pr29 x ∈ b.map pr29)
theorem within_l0 (a b : List S29) (hb : ordB (b.map pr29) = true) (hl : b.length ≤ 1000000) (ha : a.length ≤ 1000000) :
    ∀ (m i k : Nat), a.length = i + m → m + 1 ≤ k → nogood_within.l0 k b a (a.length : Int) (i : Int) = some (inL (a.drop i) b)
  | 0, i, k, hm, hk => by
    obtain ⟨k, rfl⟩ : ∃ k', k = k' + 1 := ⟨k - 1, by omega⟩
    rw [nogood_within.l0, if_neg (by omega), List.drop_eq_nil_of_le (by omega)]
    rfl
  | m + 1, i, k, hm, hk => by
    obtain ⟨k, rfl⟩ : ∃ k', k = k' + 1 := ⟨k - 1, by omega⟩
    have hi : i < a.length := by omega
    have IH := within_l0 a b hb hl ha m (i + 1) k (by omega) (by omega)
    have ex : rd_T29 a (i : Int) = a[i] := by
      unfold rd_T29
      rw [Int.toNat_natCast, List.getD_eq_getElem?_getD, List.getElem?_eq_getElem hi]; rfl
    have e1 : wrap64 ((i : Int) + 1) = ((i + 1 : Nat) : Int) := by unfold wrap64; omega
    rw [List.drop_eq_getElem_cons hi, nogood_within.l0, if_pos (by omega), if_pos (by omega), if_pos (by omega), ex]
    generalize a[i] = x
    have es : search_order.f b x.f0 x.f1 = some (((plc b (x.f0, x.f1) : Nat) : Int), decide ((x.f0, x.f1) ∈ b.map pr29)) := by
      unfold search_order.f
      rw [if_pos ⟨hl, hb⟩]
    rw [es, Option.bind_some]
    have ei : inL (x :: a.drop (i + 1)) b = (decide ((x.f0, x.f1) ∈ b.map pr29) && inL (a.drop (i + 1)) b) := rfl
    rw [ei]
    cases decide ((x.f0, x.f1) ∈ b.map pr29) with
    | true => rw [if_pos rfl, e1, IH, Bool.true_and]
    | false => rw [if_neg (by simp), Bool.false_and]
theorem within_pure (a b : List S29) (k : Nat) (hk : a.length + 1 ≤ k) (hb : ordB (b.map pr29) = true) (hl : b.length ≤ 1000000) (ha : a.length ≤ 1000000) : nogood_within.f k a b = some (inL a b) := by
  have := within_l0 a b hb hl ha a.length 0 k (by omega) (by omega)
  rw [List.drop_zero] at this
  exact this
theorem pr_un (l : List (Int × Int)) : (l.map un29).map pr29 = l := by rw [List.map_map]; exact List.map_id _
theorem madeL_mk (l : List S29) : madeL l = (Go.Proofs.YtgckohmppefibaaDoor.Ng.mk (l.map pr29)).map un29 := by unfold madeL; rw [Go.Proofs.YtgckohmppefibaaDoor.Ng.made_mk]
def wk0 : List S29 := [⟨0, 1⟩, ⟨1, 2⟩]
def wk1 : List S29 := [⟨0, 1⟩, ⟨2, 3⟩, ⟨2, 4⟩]
theorem made0 : madeL wk0 = wk0 := by rw [madeL_mk]; kernel_rfl
theorem made1 : madeL wk1 = wk1 := by rw [madeL_mk]; kernel_rfl
def wkl : List S31 := [⟨⟨0, 1⟩, true⟩, ⟨⟨1, 2⟩, false⟩, ⟨⟨2, 3⟩, true⟩, ⟨⟨2, 4⟩, false⟩]
theorem from0 : nogood_From.f 5 wkl = some [madeL wk0, madeL wk1] := by kernel_rfl
theorem filt0 : filt [wk0] [[1], [2, 3], [2, 3]] = some [[1], [3], [2, 3]] := by kernel_rfl
theorem filt1 : filt [wk0] [[1], []] = none := by kernel_rfl
theorem of1 : Go.Proofs.YtgckohmppefibaaDoor.Rf.of [1] = [1] := by decide +kernel
theorem of23 : Go.Proofs.YtgckohmppefibaaDoor.Rf.of [2, 3] = [2, 3] := by decide +kernel
theorem code1 : Go.Proofs.YtgckohmppefibaaDoor.Rf.code [1] = 0 := by decide +kernel
theorem code23 : Go.Proofs.YtgckohmppefibaaDoor.Rf.code [2, 3] = 0 := by decide +kernel
theorem add0 : addL inL [] wk0 = ([wk0], true) := by kernel_rfl
theorem add1' : addL inL [wk0] wk0 = ([wk0], false) := by kernel_rfl
def lit12 : Array Value := #[.int .i64 0, .int .i64 1, .bool true, .int .i64 1, .int .i64 2, .bool false, .int .i64 2, .int .i64 3, .bool true, .int .i64 2, .int .i64 4, .bool false]
theorem lit31 (w : World) : Kd.C k31 (w.alloc (.cells lit12 31 (0, 0))) (some ⟨w.heap.size, 0, none⟩) wkl.length wkl := by
  have hb : ∀ i, (w.alloc (.cells lit12 31 (0, 0))).cell? ⟨w.heap.size, i, none⟩ = lit12[i]? := fun i => blk_cell (blk_new w _) i
  refine ⟨rfl, by decide, fun _ => ⟨⟨w.heap.size, 0, none⟩, rfl, fun j p hj => ?_⟩⟩
  have h9 : ∀ m, (⟨w.heap.size, 0, none⟩ : Addr).add m = ⟨w.heap.size, 0 + m, none⟩ := by intro m; unfold Addr.add; split <;> simp_all
  match j, hj with
  | 0, hj => cases hj; exact ⟨_, rfl, k31_mk _ ⟨⟨0, 1⟩, true⟩, fun i u hu => by rw [h9, hb]; match i, hu with | 0, hu => exact hu | 1, hu => exact hu | 2, hu => exact hu | i + 3, hu => simp at hu⟩
  | 1, hj => cases hj; exact ⟨_, rfl, k31_mk _ ⟨⟨1, 2⟩, false⟩, fun i u hu => by rw [h9, hb]; match i, hu with | 0, hu => exact hu | 1, hu => exact hu | 2, hu => exact hu | i + 3, hu => simp at hu⟩
  | 2, hj => cases hj; exact ⟨_, rfl, k31_mk _ ⟨⟨2, 3⟩, true⟩, fun i u hu => by rw [h9, hb]; match i, hu with | 0, hu => exact hu | 1, hu => exact hu | 2, hu => exact hu | i + 3, hu => simp at hu⟩
  | 3, hj => cases hj; exact ⟨_, rfl, k31_mk _ ⟨⟨2, 4⟩, false⟩, fun i u hu => by rw [h9, hb]; match i, hu with | 0, hu => exact hu | 1, hu => exact hu | 2, hu => exact hu | i + 3, hu => simp at hu⟩
  | j + 4, hj => simp [wkl] at hj
/-- What From leaves of the four decisions. -/
def FW (w : World) (e : Ending) (w' : World) : Prop := ∃ b o c A0 c0 A1 c1, e = .returned (.slice (some ⟨b, o, none⟩) 2 c) ∧ w'.cell? ⟨b, o, none⟩ = some (.slice A0 2 c0) ∧ w'.cell? ⟨b, o + 1, none⟩ = some (.slice A1 3 c1) ∧ b < w'.heap.size ∧ Kd.C k29 w' A0 wk0.length wk0 ∧ Below w.heap.size w w'
theorem fromW (w : World) : Calls Tryd.prog 10 #[.slice (some ⟨w.heap.size, 0, none⟩) 4 4] (w.alloc (.cells lit12 31 (0, 0))) (FW w) := by
  have h := nogood_From.calls 5 (some ⟨w.heap.size, 0, none⟩) 4 wkl [madeL wk0, madeL wk1] (w.alloc (.cells lit12 31 (0, 0))) (lit31 w) (by decide) from0
  refine h.mono ?_
  rintro e w' ⟨v, rfl, hN, hb⟩
  rw [made0, made1] at hN
  obtain ⟨A, c, rfl, hl, hC⟩ := Kd.N_reads hN
  obtain ⟨b, o, rfl, hbw, hcell⟩ := rawL hC (by decide)
  obtain ⟨A0, c0, h1, _, h2⟩ := hcell 0 (by decide)
  obtain ⟨A1, c1, h3, _, _⟩ := hcell 1 (by decide)
  exact ⟨b, o, c, A0, c0, A1, c1, rfl, h1, h3, hbw, h2, below_step (below_alloc (Below.refl _ _) _) hb⟩
/-- Add of the first nogood: the first time, and again. -/
theorem addW0 (base : Nat) (F : Nat → Prop) (w : World) (g : Nat) (A : Option Addr) (c : Nat) (hN : NB base F w g []) (hC : Kd.C k29 w A wk0.length wk0) :
    Calls Tryd.prog 14 #[.pointer (some ⟨g, 0, none⟩), .slice A 2 c] w fun e w' => e = .returned (.bool true) ∧ NB base (fun k => F k ∨ w.heap.size ≤ k) w' g [wk0] ∧ Below base w w' := by
  have h := addNB 5 inL base F w g [] hN (by decide) A c wk0 hC (by decide) (fun x hx => absurd hx (by simp)) (fun x hx => absurd hx (by simp))
  rw [made0, add0] at h
  exact h.mono (fun e w' h => ⟨h.1, h.2.1, h.2.2.1⟩)
theorem addW1 (base : Nat) (F : Nat → Prop) (w : World) (g : Nat) (A : Option Addr) (c : Nat) (hN : NB base F w g [wk0]) (hC : Kd.C k29 w A wk0.length wk0) :
    Calls Tryd.prog 14 #[.pointer (some ⟨g, 0, none⟩), .slice A 2 c] w fun e w' => e = .returned (.bool false) ∧ NB base (fun k => F k ∨ w.heap.size ≤ k) w' g [wk0] ∧ Below base w w' := by
  have hw : nogood_within.f 5 wk0 wk0 = some (inL wk0 wk0) := within_pure wk0 wk0 5 (by decide) (by decide +kernel) (by decide) (by decide)
  have h := addNB 5 inL base F w g [wk0] hN (by decide) A c wk0 hC (by decide) (fun x hx => by rw [List.mem_singleton.1 hx, made0]; exact hw) (fun x hx => by rw [List.mem_singleton.1 hx, made0]; exact hw)
  rw [made0, add1'] at h
  exact h.mono (fun e w' h => ⟨h.1, h.2.1, h.2.2.1⟩)
/-- The domain of some literal numbers. -/
def OfW (l : List Int) (w : World) (e : Ending) (w' : World) : Prop := ∃ off A n c, e = .returned (.tuple #[.agg #[.int .i64 off, .slice A n c, .int .i64 (l.headD 0), .int .i64 (l.getLastD 0), .int .i64 l.length], .int .i64 0]) ∧ (∃ ws, Go.Proofs.YtgckohmppefibaaDoor.Dm.RepX w' off (.slice A n c) ws l) ∧ Below w.heap.size w w'
theorem ofW (l : List Int) (w0 w : World) (sv : Value) (hb0 : Below w0.heap.size w0 w) (h : Go.Proofs.YtgckohmppefibaaDoor.Rd w sv l) (hT : Go.Proofs.YtgckohmppefibaaDoor.Tab w) (ho : Go.Proofs.YtgckohmppefibaaDoor.Rf.of l = l) (hc : Go.Proofs.YtgckohmppefibaaDoor.Rf.code l = 0) : Calls Tryd.prog 30 #[sv] w (OfW l w0) := by
  refine (Go.Proofs.YtgckohmppefibaaDoor.dom_of_rd sv l w h hT).mono ?_
  rintro e w' ⟨v, rfl, ⟨off, sv', ws, rfl, hx⟩, hb, _⟩
  rw [hc]
  rw [ho] at hx ⊢
  obtain ⟨A, c, rfl⟩ := hx.sl.len
  exact ⟨off, A, ws.length, c, rfl, ⟨ws, hx⟩, below_step hb0 hb⟩
theorem rdW1 (w : World) : Go.Proofs.YtgckohmppefibaaDoor.Rd (w.alloc (.cells #[.int .i64 1] 3 (0, 0))) (.slice (some ⟨w.heap.size, 0, none⟩) 1 1) [1] := by
  refine ⟨⟨_, _, rfl⟩, by decide, fun A n c h => ?_, fun _ => ⟨w.heap.size, 0, 1, rfl, by simp, fun j hj => ?_⟩⟩
  · cases h; exact ⟨by omega, fun h => by cases h⟩
  · have : j = 0 := by simp at hj; omega
    subst this
    exact blk_cell (blk_new w _) 0
theorem rdW2 (w : World) (q : Nat) (hq : q = w.heap.size) : Go.Proofs.YtgckohmppefibaaDoor.Rd (w.alloc (.cells #[.int .i64 2, .int .i64 3] 3 (0, 0))) (.slice (some ⟨q, 0, none⟩) 2 2) [2, 3] := by
  subst hq
  refine ⟨⟨_, _, rfl⟩, by decide, fun A n c h => ?_, fun _ => ⟨w.heap.size, 0, 2, rfl, by simp, fun j hj => ?_⟩⟩
  · cases h; exact ⟨by omega, fun h => by cases h⟩
  · match j, hj with
    | 0, _ => exact blk_cell (blk_new w _) 0
    | 1, _ => exact blk_cell (blk_new w _) 1
    | j + 2, hj => simp at hj; omega
theorem datW {w w' : World} {off : Int} {sv : Value} {ws : List Nat} {l : List Int} (b p : Nat) (hx : Go.Proofs.YtgckohmppefibaaDoor.Dm.RepX w off sv ws l) (hb : Below w.heap.size w w') (h : w'.cell? ⟨b, p, none⟩ = some (.int .i64 off) ∧ w'.cell? ⟨b, p + 1, none⟩ = some sv ∧ w'.cell? ⟨b, p + 2, none⟩ = some (.int .i64 (l.headD 0)) ∧ w'.cell? ⟨b, p + 3, none⟩ = some (.int .i64 (l.getLastD 0)) ∧ w'.cell? ⟨b, p + 4, none⟩ = some (.int .i64 l.length)) : DAt w' b p l := ⟨off, sv, ws, hx.call hb, h⟩
theorem drow3 (w : World) (q : Nat) (hq : q = w.heap.size) {off1 off2 : Int} {sv1 sv2 : Value} {ws1 ws2 : List Nat} (h1 : Go.Proofs.YtgckohmppefibaaDoor.Dm.RepX w off1 sv1 ws1 [1]) (h2 : Go.Proofs.YtgckohmppefibaaDoor.Dm.RepX w off2 sv2 ws2 [2, 3]) :
    DRow (w.alloc (.cells #[.int .i64 off1, sv1, .int .i64 1, .int .i64 1, .int .i64 1, .int .i64 off2, sv2, .int .i64 2, .int .i64 3, .int .i64 2, .int .i64 off2, sv2, .int .i64 2, .int .i64 3, .int .i64 2] 62 (0, 0))) (some ⟨q, 0, none⟩) [[1], [2, 3], [2, 3]] := by
  subst hq
  have hb : ∀ i, (w.alloc (.cells #[.int .i64 off1, sv1, .int .i64 1, .int .i64 1, .int .i64 1, .int .i64 off2, sv2, .int .i64 2, .int .i64 3, .int .i64 2, .int .i64 off2, sv2, .int .i64 2, .int .i64 3, .int .i64 2] 62 (0, 0))).cell? ⟨w.heap.size, i, none⟩ = #[.int .i64 off1, sv1, .int .i64 1, .int .i64 1, .int .i64 1, .int .i64 off2, sv2, .int .i64 2, .int .i64 3, .int .i64 2, .int .i64 off2, sv2, .int .i64 2, .int .i64 3, .int .i64 2][i]? := fun i => blk_cell (blk_new w _) i
  refine .inr ⟨w.heap.size, 0, rfl, by simp, fun j hj => ?_⟩
  match j, hj with
  | 0, _ => exact datW _ _ h1 (below_alloc (Below.refl _ _) _) ⟨hb 0, hb 1, hb 2, hb 3, hb 4⟩
  | 1, _ => exact datW _ _ h2 (below_alloc (Below.refl _ _) _) ⟨hb 5, hb 6, hb 7, hb 8, hb 9⟩
  | 2, _ => exact datW _ _ h2 (below_alloc (Below.refl _ _) _) ⟨hb 10, hb 11, hb 12, hb 13, hb 14⟩
  | j + 3, hj => simp at hj; omega
theorem drow2 (w : World) (q : Nat) (hq : q = w.heap.size) {off1 : Int} {sv1 : Value} {ws1 : List Nat} (h1 : Go.Proofs.YtgckohmppefibaaDoor.Dm.RepX w off1 sv1 ws1 [1]) :
    DRow (w.alloc (.cells #[.int .i64 off1, sv1, .int .i64 1, .int .i64 1, .int .i64 1, .int .i64 0, .slice none 0 0, .int .i64 0, .int .i64 0, .int .i64 0] 62 (0, 0))) (some ⟨q, 0, none⟩) [[1], []] := by
  subst hq
  have hb : ∀ i, (w.alloc (.cells #[.int .i64 off1, sv1, .int .i64 1, .int .i64 1, .int .i64 1, .int .i64 0, .slice none 0 0, .int .i64 0, .int .i64 0, .int .i64 0] 62 (0, 0))).cell? ⟨w.heap.size, i, none⟩ = #[.int .i64 off1, sv1, .int .i64 1, .int .i64 1, .int .i64 1, .int .i64 0, .slice none 0 0, .int .i64 0, .int .i64 0, .int .i64 0][i]? := fun i => blk_cell (blk_new w _) i
  refine .inr ⟨w.heap.size, 0, rfl, by simp, fun j hj => ?_⟩
  match j, hj with
  | 0, _ => exact datW _ _ h1 (below_alloc (Below.refl _ _) _) ⟨hb 0, hb 1, hb 2, hb 3, hb 4⟩
  | 1, _ =>
    obtain ⟨off, sv, ws, e, hx⟩ := Go.Proofs.YtgckohmppefibaaDoor.Dm.none_ w
    unfold Go.Proofs.YtgckohmppefibaaDoor.Dm.val at e
    injection e with e
    have e1 := congrArg (fun a : Array Value => a[0]?) e
    have e2 := congrArg (fun a : Array Value => a[1]?) e
    simp at e1 e2
    subst e1; subst e2
    exact datW _ _ hx (below_alloc (Below.refl _ _) _) ⟨hb 5, hb 6, hb 7, hb 8, hb 9⟩
  | j + 2, hj => simp at hj; omega
theorem filtW3 (base : Nat) (F : Nat → Prop) (g : Nat) (A : Option Addr) (c : Nat) (w : World) (hT : Go.Proofs.YtgckohmppefibaaDoor.Tab w) (hN : NB base F w g [wk0]) (hD : DRow w A [[1], [2, 3], [2, 3]]) :
    Calls Tryd.prog 17 #[.pointer (some ⟨g, 0, none⟩), .slice A 3 c] w fun e w' => ∃ gd c', e = .returned (.tuple #[.slice (some ⟨gd, 0, none⟩) 3 c', .bool true]) ∧ DB w.heap.size gd c' w' [[1], [3], [2, 3]] ∧ Below w.heap.size w w' := by
  have h := filterNB base F g [wk0] A c [[1], [2, 3], [2, 3]] w hT hN (by decide) (fun x hx => by rw [List.mem_singleton.1 hx]; decide) hD (by decide)
  rw [filt0] at h
  refine h.mono ?_
  rintro e w' ⟨hb, A', c', rfl, _, ⟨_, h⟩ | ⟨gd, rfl, hdb⟩⟩
  · cases h
  · exact ⟨gd, c', rfl, hdb, hb⟩
theorem filtW2 (base : Nat) (F : Nat → Prop) (g : Nat) (A : Option Addr) (c : Nat) (w : World) (hT : Go.Proofs.YtgckohmppefibaaDoor.Tab w) (hN : NB base F w g [wk0]) (hD : DRow w A [[1], []]) :
    Calls Tryd.prog 17 #[.pointer (some ⟨g, 0, none⟩), .slice A 2 c] w fun e w' => e = .returned (.tuple #[.slice none 0 0, .bool false]) ∧ Below w.heap.size w w' := by
  have h := filterNB base F g [wk0] A c [[1], []] w hT hN (by decide) (fun x hx => by rw [List.mem_singleton.1 hx]; decide) hD (by decide)
  rw [filt1] at h
  exact h.mono (fun e w' h => ⟨h.2, h.1⟩)
theorem sizeD (off : Int) (sv : Value) (lo hi sz : Int) (w : World) : Calls Tryd.prog 36 #[.agg #[.int .i64 off, sv, .int .i64 lo, .int .i64 hi, .int .i64 sz]] w fun e w' => e = .returned (.int .i64 sz) ∧ Below w.heap.size w w' := by
  go_enter Tryd.func36, Tryd.ntmps36
  go_wp2
  go_ret
  exact ⟨rfl, by repeat (first | exact Below.refl _ _ | refine below_drewN ?_ _ | refine below_alloc ?_ _)⟩
theorem has3 {w : World} {off : Int} {sv : Value} {ws : List Nat} (h : Go.Proofs.YtgckohmppefibaaDoor.Dm.RepX w off sv ws [3]) : Calls Tryd.prog 29 #[.agg #[.int .i64 off, sv, .int .i64 3, .int .i64 3, .int .i64 1], .int .i64 3] w fun e w' => e = .returned (.bool true) ∧ Below w.heap.size w w' :=
  Go.Proofs.YtgckohmppefibaaDoor.dom_has _ [3] 3 w ⟨off, sv, ws, rfl, h⟩
set_option maxHeartbeats 4000000 in
set_option maxRecDepth 100000 in
theorem wakes_ok (w : World) (hT : Go.Proofs.YtgckohmppefibaaDoor.Tab w) : Calls Tryd.prog 8 #[] w fun e w' => e = .returned (.bool true) ∧ Below w.heap.size w w' := by
  have FF := Aside0.mk (fromW w)
  unfold lit12 at FF
  go_enter Tryd.func8, Tryd.ntmps8
  go_upto_region 3 with (first | (go_at_call 10; ((with_reducible refine FF.out.mono ?_); rintro e w2 ⟨b, o, c, A0, c0, A1, c1, rfl, h0, h1, hbw, hC, hb2⟩; have HC := Aside0.mk hC; have HB := Aside0.mk hb2; clear hC hb2)) | (go_at_call 12; (refine (newNB _).mono ?_; rintro e w3 ⟨rfl, rfl⟩)))
  have N3 := Aside0.mk (NB.new w2)
  have CE : Aside0 (∀ wx, Below w2.heap.size w2 wx → wx.cell? ⟨b, o, none⟩ = some (.slice A0 2 c0) ∧ wx.cell? ⟨b, o + 1, none⟩ = some (.slice A1 3 c1) ∧ Kd.C k29 wx A0 wk0.length wk0) := Aside0.mk (fun wx hb => ⟨(hb.cell (p := ⟨b, o, none⟩) hbw).trans h0, (hb.cell (p := ⟨b, o + 1, none⟩) hbw).trans h1, Kd.C_below HC.out hb⟩)
  clear h0 h1 hbw
  have z1 := (CE.out _ (below_alloc (Below.refl _ _) (.cells #[.slice none 0 0] 88 (0, 0)))).1
  have z2 := (CE.out _ (below_alloc (Below.refl _ _) (.cells #[.slice none 0 0] 88 (0, 0)))).2.1
  go_upto_region 5 with (first
    | (go_at_call 14; ((with_reducible refine (addW0 w2.heap.size _ _ w2.heap.size A0 c0 N3.out (CE.out _ (below_alloc (Below.refl _ _) _)).2.2).mono ?_); rintro e w4 ⟨rfl, hN4, hB4⟩; have B4 : Aside0 (Below w2.heap.size w2 w4) := Aside0.mk ((below_alloc (Below.refl _ _) _).trans hB4); have N4 := Aside0.mk hN4; have z3 := (CE.out _ B4.out).1; clear hN4 hB4 z1 z2))
    | (go_at_call 14; ((with_reducible refine (addW1 w2.heap.size _ _ w2.heap.size A0 c0 N4.out (CE.out _ B4.out).2.2).mono ?_); rintro e w5 ⟨rfl, hN5, hB5⟩; have B5 : Aside0 (Below w2.heap.size w2 w5) := Aside0.mk (B4.out.trans hB5); have N5 := Aside0.mk hN5; clear hN5 hB5 z3)))
  have B6 : Aside0 (Below w.heap.size w w5) := Aside0.mk (HB.out.trans (B5.out.mono HB.out.size))
  have T5 := Aside0.mk (hT.call B6.out)
  clear HC FF N3 CE N4 B4 B5
  go_upto_region 7 with (first
    | (go_at_call 30; ((with_reducible refine (ofW [1] w5 _ _ (below_alloc (Below.refl _ _) _) (rdW1 w5) (T5.out.alloc _) of1 code1).mono ?_); rintro e w6 ⟨off1, X1, n1, x1, rfl, ⟨ws1, hx1⟩, hb6⟩; have R1 := Aside0.mk hx1; have B7 := Aside0.mk hb6; have T6 := Aside0.mk (T5.out.call hb6); clear hx1 hb6))
    | (go_at_call 30; ((with_reducible refine (ofW [2, 3] _ _ _ (below_alloc (Below.refl _ _) _) (rdW2 _ (w6.heap.size + 1) (by simp)) ((T6.out.alloc _).alloc _) of23 code23).mono ?_); rintro e w7 ⟨off2, X2, n2, x2, rfl, ⟨ws2, hx2⟩, hb7⟩; have R2 := Aside0.mk hx2; have B8 := Aside0.mk hb7; clear hx2 hb7)))
  have BX := Aside0.mk ((B8.out.block w6.heap.size (by simp)).trans (blk_new w6 _))
  have C67 : Aside0 (Below w6.heap.size w6 w7) := Aside0.mk (below_step (below_alloc (Below.refl _ _) _) B8.out)
  have C57 : Aside0 (Below w5.heap.size w5 w7) := Aside0.mk (below_step B7.out C67.out)
  have BX7 := Aside0.mk (blk_alloc BX.out (.cells #[.int .i64 off2, .slice X2 n2 x2, .int .i64 2, .int .i64 3, .int .i64 2] 62 (0, 0)))
  have BY7 := Aside0.mk (blk_new w7 (.cells #[.int .i64 off2, .slice X2 n2 x2, .int .i64 2, .int .i64 3, .int .i64 2] 62 (0, 0)))
  have C58 := Aside0.mk (below_alloc C57.out (.cells #[.int .i64 off2, .slice X2 n2 x2, .int .i64 2, .int .i64 3, .int .i64 2] 62 (0, 0)))
  have R17 := Aside0.mk ((R1.out.call C67.out).call (below_alloc (Below.refl _ _) (.cells #[.int .i64 off2, .slice X2 n2 x2, .int .i64 2, .int .i64 3, .int .i64 2] 62 (0, 0))))
  have R27 := Aside0.mk (R2.out.call (below_alloc (Below.refl _ _) (.cells #[.int .i64 off2, .slice X2 n2 x2, .int .i64 2, .int .i64 3, .int .i64 2] 62 (0, 0))))
  have hq : w7.heap.size + 1 = (w7.alloc (.cells #[.int .i64 off2, .slice X2 n2 x2, .int .i64 2, .int .i64 3, .int .i64 2] 62 (0, 0))).heap.size := by simp
  clear BX B7 B8 T6 R1 R2
  generalize w7.alloc (.cells #[.int .i64 off2, .slice X2 n2 x2, .int .i64 2, .int .i64 3, .int .i64 2] 62 (0, 0)) = W at *
  have a0 : W.cell? ⟨w6.heap.size, 0, none⟩ = some (.int .i64 off1) := blk_cell BX7.out 0
  have a1 : W.cell? ⟨w6.heap.size, 1, none⟩ = some (.slice X1 n1 x1) := blk_cell BX7.out 1
  have a2 : W.cell? ⟨w6.heap.size, 2, none⟩ = some (.int .i64 1) := blk_cell BX7.out 2
  have a3 : W.cell? ⟨w6.heap.size, 3, none⟩ = some (.int .i64 1) := blk_cell BX7.out 3
  have a4 : W.cell? ⟨w6.heap.size, 4, none⟩ = some (.int .i64 1) := blk_cell BX7.out 4
  have b0 : W.cell? ⟨w7.heap.size, 0, none⟩ = some (.int .i64 off2) := blk_cell BY7.out 0
  have b1 : W.cell? ⟨w7.heap.size, 1, none⟩ = some (.slice X2 n2 x2) := blk_cell BY7.out 1
  have b2 : W.cell? ⟨w7.heap.size, 2, none⟩ = some (.int .i64 2) := blk_cell BY7.out 2
  have b3 : W.cell? ⟨w7.heap.size, 3, none⟩ = some (.int .i64 3) := blk_cell BY7.out 3
  have b4 : W.cell? ⟨w7.heap.size, 4, none⟩ = some (.int .i64 2) := blk_cell BY7.out 4
  go_upto_region 9 with (first
    | (go_at_call 17; ((with_reducible refine (filtW3 w2.heap.size _ w2.heap.size _ 3 _ (T5.out.call (below_alloc C58.out _)) (N5.out.below (below_alloc C58.out _)) (drow3 W _ rfl R17.out R27.out)).mono ?_); rintro e w8 ⟨gd, cd, rfl, hdb, hb8⟩; have D8 := Aside0.mk hdb; have B8 : Aside0 (Below W.heap.size W w8) := Aside0.mk (below_step (below_alloc (Below.refl _ _) _) hb8); have BX8 := (B8.out.block _ (blk_lt BX7.out)).trans BX7.out; have a0 : w8.cell? ⟨w6.heap.size, 0, none⟩ = some (.int .i64 off1) := blk_cell BX8 0; have a1 : w8.cell? ⟨w6.heap.size, 1, none⟩ = some (.slice X1 n1 x1) := blk_cell BX8 1; have a2 : w8.cell? ⟨w6.heap.size, 2, none⟩ = some (.int .i64 1) := blk_cell BX8 2; have a3 : w8.cell? ⟨w6.heap.size, 3, none⟩ = some (.int .i64 1) := blk_cell BX8 3; have a4 : w8.cell? ⟨w6.heap.size, 4, none⟩ = some (.int .i64 1) := blk_cell BX8 4; clear hdb hb8 BX8))
    | (go_at_call 17; ((with_reducible refine (filtW2 w2.heap.size _ w2.heap.size _ 2 _ (T5.out.call (below_alloc (below_step C58.out B8.out) _)) (N5.out.below (below_alloc (below_step C58.out B8.out) _)) (drow2 w8 _ rfl (R17.out.call B8.out))).mono ?_); rintro e w9 ⟨rfl, hb9⟩; have B9 : Aside0 (Below w8.heap.size w8 w9) := Aside0.mk (below_step (below_alloc (Below.refl _ _) _) hb9); clear hb9)))
  obtain ⟨off3, sv3, ws3, hx3, e0, e1, e2, e3, e4⟩ := (D8.out.below B9.out).2.2.2.2 1 (by decide)
  obtain ⟨X3, x3, rfl⟩ := hx3.sl.len
  have HX3 := Aside0.mk (show Go.Proofs.YtgckohmppefibaaDoor.Dm.RepX w9 off3 (.slice X3 ws3.length x3) ws3 [3] from hx3)
  clear hx3
  have f0 : w9.cell? ⟨gd, 5, none⟩ = some (.int .i64 off3) := e0
  have f1 : w9.cell? ⟨gd, 6, none⟩ = some (.slice X3 ws3.length x3) := e1
  have f2 : w9.cell? ⟨gd, 7, none⟩ = some (.int .i64 3) := e2
  have f3 : w9.cell? ⟨gd, 8, none⟩ = some (.int .i64 3) := e3
  have f4 : w9.cell? ⟨gd, 9, none⟩ = some (.int .i64 1) := e4
  have CF := Aside0.mk (fun wx (hb : Below w9.heap.size w9 wx) i v (h : w9.cell? ⟨gd, i, none⟩ = some v) => (hb.cell (p := ⟨gd, i, none⟩) (World.block_lt_of_cell? _ _ h)).trans h)
  have G0 := Aside0.mk f0
  have G1 := Aside0.mk f1
  have G2 := Aside0.mk f2
  have G3 := Aside0.mk f3
  have G4 := Aside0.mk f4
  have C59 : Aside0 (Below w5.heap.size w5 w9) := Aside0.mk (below_step (below_step C58.out B8.out) B9.out)
  clear e0 e1 e2 e3 e4 a0 a1 a2 a3 a4 b0 b1 b2 b3 b4 hq
  go_wp2_with (first
    | (go_at_call 36; ((with_reducible refine (sizeD _ _ _ _ _ _).mono ?_); rintro e w10 ⟨rfl, hb10⟩; have B10 := Aside0.mk hb10; have f0 := CF.out w10 hb10 _ _ G0.out; have f1 := CF.out w10 hb10 _ _ G1.out; have f2 := CF.out w10 hb10 _ _ G2.out; have f3 := CF.out w10 hb10 _ _ G3.out; have f4 := CF.out w10 hb10 _ _ G4.out; clear hb10))
    | (go_at_call 29; ((with_reducible refine (has3 (HX3.out.call B10.out)).mono ?_); rintro e w11 ⟨rfl, hb11⟩; have B11 : Aside0 (Below w9.heap.size w9 w11) := Aside0.mk (below_step B10.out hb11); clear hb11))
    | (go_at_call 22; ((with_reducible refine (lenNB w2.heap.size _ w11 w2.heap.size [wk0] (N5.out.below (below_step C59.out B11.out))).mono ?_); rintro e w12 ⟨rfl, rfl⟩)))
  go_ret
  exact ⟨rfl, below_step B6.out (below_step C59.out B11.out)⟩
end Go.Proofs.YtgckohmppefibaaDoorX.Hz
