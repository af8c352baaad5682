import Derived.Test.YtgckohmppefibaaDoorNgIn
import Derived.Test.YtgckohmppefibaaDoorNgAdds
namespace Go.Proofs.YtgckohmppefibaaDoorX.Hz
open Go.RowKit Go.Proofs.YtgckohmppefibaaDoorW.PrintWords Go.Proofs.YtgckohmppefibaaDoorW.PrintLast Go.Proofs.YtgckohmppefibaaDoorW.PrintMore
attribute [local go_sem] max2_int min2_int max_two min_two max_three min_three max_four min_four
set_option linter.unusedVariables false
set_option linter.unusedSimpArgs false
attribute [local go_sem] Go.Proofs.YtgckohmppefibaaDoor.Hook.cell_two
set_option maxHeartbeats 1000000 in
/-- NogoodApart's second predicate: are all of y the one's in the cell? -/
theorem in35 (g1 g2 : Nat) (A : Option Addr) (c : Nat) (y : List S29) (A1 : Option Addr) (c1 : Nat) (x : List S29) (w : World) (h1 : w.cell? ⟨g1, 0, none⟩ = some (.func (.func 32) #[] #[])) (h2 : w.cell? ⟨g2, 0, none⟩ = some (.slice A1 x.length c1)) (hy : Kd.C k29 w A y.length y) (hyb : y.length ≤ 1000000) (hx : Kd.C k29 w A1 x.length x) (hxb : x.length ≤ 1000000) :
    Calls Tryd.prog 35 #[.slice A y.length c, .pointer (some ⟨g1, 0, none⟩), .pointer (some ⟨g2, 0, none⟩)] w fun e w' => e = .returned (.bool (inL y x)) ∧ Below w.heap.size w w' := by
  have HC := Aside0.mk (inA A c y A1 c1 x w hy hyb hx hxb)
  clear hy hx hyb hxb
  go_enter Tryd.func35, Tryd.ntmps35
  go_wp2_with (go_at_call 32; ((with_reducible refine HC.out.mono ?_); rintro e w1 ⟨rfl, hb⟩; have HB := Aside0.mk hb; clear hb))
  go_ret
  exact ⟨rfl, HB.out⟩
set_option maxHeartbeats 4000000 in
set_option maxRecDepth 100000 in
theorem idx35 (A : Option Addr) (c : Nat) (L : List (List S29)) (pv pv2 : Value) (P : List S29 → Bool) (w : World) (hL : Kd.C (Kd.slice 29 k29) w A L.length L) (hb : L.length ≤ 1000000)
    (hP : ∀ (x : List S29) (Ax : Option Addr) (cx : Nat) (w1 : World), x ∈ L → Below w.heap.size w w1 → Kd.C k29 w1 Ax x.length x → x.length ≤ cx → Calls Tryd.prog 35 #[.slice Ax x.length cx, pv, pv2] w1 fun e w' => e = .returned (.bool (P x)) ∧ Below w1.heap.size w1 w') :
    Calls Tryd.prog 52 #[.slice A L.length c, .func (.func 35) #[] #[pv, pv2]] w fun e w' => e = .returned (.int .i64 (fstG P L 0)) ∧ Below w.heap.size w w' := by
  rcases Nat.eq_zero_or_pos L.length with h0 | hn
  · have e0 : L = [] := List.eq_nil_of_length_eq_zero h0
    subst e0
    clear hL hP h0 hb
    go_enter Tryd.func52, Tryd.ntmps52
    go_wp2
    refine wp_loop_rounds 1 ?_
    rw [rounds_succ]
    go_wp2
    go_ret
    exact ⟨rfl, Below.refl _ _⟩
  · obtain ⟨b, o, rfl, hbw, hcell⟩ := rawL hL hn
    have HC := Aside0.mk hcell
    have HP := Aside0.mk hP
    have HE := Aside0.mk (fun j (hj : j < L.length) => List.drop_eq_getElem_cons hj)
    clear hL hP hcell
    go_enter Tryd.func52, Tryd.ntmps52
    go_wp2
    go_loopg [5, 8] L.length (fun kx s5 s8 wr => ∃ j : Nat, s8 = .int .i64 j ∧ j ≤ L.length ∧ L.length - j ≤ kx ∧ Aside0 (Below w.heap.size w wr) ∧ Aside0 (fstG P L 0 = fstG P (L.drop j) j))
    case atStart => exact ⟨0, rfl, Nat.zero_le _, by omega, Aside0.mk (Below.refl _ _), Aside0.mk rfl⟩
    case round =>
      obtain ⟨j, rfl, hjn, hg, HB, HI⟩ := hrel
      by_cases hlt : j < L.length
      · obtain ⟨Aj, cj, e0, e1, e2⟩ := HC.out j hlt
        have e0' : wr.cell? ⟨b, o + j, none⟩ = some (.slice Aj L[j].length cj) := by
          rw [HB.out.cell (p := ⟨b, o + j, none⟩) hbw]; exact e0
        have hc := HP.out L[j] Aj cj wr (List.getElem_mem hlt) HB.out (Kd.C_below e2 HB.out) e1
        have X := HE.out j hlt
        clear e0 e1 e2
        generalize L[j] = y at e0' hc X
        have HX := Aside0.mk X
        have HCC := Aside0.mk hc
        clear X hc
        cases hp : P y with
        | true =>
          have HH : Aside0 (fstG P L 0 = (j : Int)) := Aside0.mk (by rw [HI.out, HX.out]; unfold fstG; rw [hp]; rfl)
          rw [hp] at HCC
          clear hp HX HI
          go_wp2_with (go_at_call 35; ((with_reducible refine HCC.out.mono ?_); rintro e w2 ⟨rfl, hb2⟩; have HB2 := Aside0.mk (below_step HB.out hb2); clear hb2))
          go_ret
          exact ⟨by rw [HH.out]; rfl, HB2.out⟩
        | false =>
          have HH : Aside0 (fstG P L 0 = fstG P (L.drop (j + 1)) (j + 1 : Nat)) := Aside0.mk (by rw [HI.out, HX.out]; conv => { lhs; unfold fstG }; rw [hp]; simp)
          rw [hp] at HCC
          clear hp HX HI
          go_wp2_with (go_at_call 35; ((with_reducible refine HCC.out.mono ?_); rintro e w2 ⟨rfl, hb2⟩; have HB2 := Aside0.mk (below_step HB.out hb2); clear hb2))
          go_roundg (L.length - (j + 1))
          case measure => omega
          case rel => exact ⟨j + 1, rfl, by omega, Nat.le_refl _, HB2, HH⟩
      · have hj : j = L.length := by omega
        subst hj
        have HH : Aside0 (fstG P L 0 = -1) := Aside0.mk (by rw [HI.out, List.drop_length]; rfl)
        clear HI
        go_wp2_with fail
        go_ret
        exact ⟨by rw [HH.out]; rfl, HB.out⟩
set_option maxHeartbeats 1000000 in
theorem cont35 (A : Option Addr) (c : Nat) (L : List (List S29)) (pv pv2 : Value) (P : List S29 → Bool) (w : World) (hL : Kd.C (Kd.slice 29 k29) w A L.length L) (hb : L.length ≤ 1000000)
    (hP : ∀ (x : List S29) (Ax : Option Addr) (cx : Nat) (w1 : World), x ∈ L → Below w.heap.size w w1 → Kd.C k29 w1 Ax x.length x → x.length ≤ cx → Calls Tryd.prog 35 #[.slice Ax x.length cx, pv, pv2] w1 fun e w' => e = .returned (.bool (P x)) ∧ Below w1.heap.size w1 w') :
    Calls Tryd.prog 24 #[.slice A L.length c, .func (.func 35) #[] #[pv, pv2]] w fun e w' => e = .returned (.bool (L.any P)) ∧ Below w.heap.size w w' := by
  have HC := Aside0.mk (idx35 A c L pv pv2 P w hL hb hP)
  have HA := Aside0.mk (fstG_any P L 0 (Int.le_refl _))
  clear hL hb hP
  go_enter Tryd.func24, Tryd.ntmps24
  go_wp2_with (go_at_call 52; ((with_reducible refine HC.out.mono ?_); rintro e w1 ⟨rfl, hb⟩; have HB := Aside0.mk hb; clear hb))
  go_ret
  exact ⟨by rw [← HA.out]; rfl, HB.out⟩
/-- A nil base's answers. -/
theorem nilLen (w : World) : Calls Tryd.prog 22 #[.pointer none] w fun e w' => e = .returned (.int .i64 0) ∧ w' = w := by
  go_enter Tryd.func22, Tryd.ntmps22
  go_wp2
  go_ret
  exact ⟨rfl, rfl⟩
theorem nilList (w : World) : Calls Tryd.prog 21 #[.pointer none] w fun e w' => e = .returned (.slice none 0 0) ∧ w' = w := by
  go_enter Tryd.func21, Tryd.ntmps21
  go_wp2
  go_ret
  exact ⟨rfl, rfl⟩
set_option maxHeartbeats 1000000 in
theorem nilAdd (w : World) : Calls Tryd.prog 14 #[.pointer none, .slice none 0 0] w fun e w' => e = .returned (.bool false) ∧ Below w.heap.size w w' := by
  have hm : Calls Tryd.prog 37 #[.slice none 0 0] w fun e w' => ∃ A c, e = .returned (.slice A 0 c) ∧ Below w.heap.size w w' := (made29 none 0 [] w ⟨rfl, by decide, fun h => absurd h (by decide)⟩ (by decide)).mono (by
    rintro e w' ⟨v0, rfl, hR, hb⟩
    have e1 : madeL [] = [] := by rw [madeL_mk]; rfl
    rw [e1] at hR
    obtain ⟨A, c, rfl⟩ := Kd.R_slice hR
    exact ⟨A, c, rfl, hb⟩)
  have HM := Aside0.mk hm
  clear hm
  go_enter Tryd.func14, Tryd.ntmps14
  go_wp2_with (go_at_call 37; ((with_reducible refine HM.out.mono ?_); rintro e w1 ⟨A, c, rfl, hb⟩; have HB := Aside0.mk hb; clear hb))
  go_ret
  exact ⟨rfl, below_alloc HB.out _⟩
/-- What the laws know of a base: none within another one; each that was added has one within it. -/
structure Apart (L E : List (List (Int × Int))) : Prop where
  anti : L.Pairwise fun a b => inP a b = false ∧ inP b a = false
  has : ∀ P ∈ E, ∃ y ∈ L, inP y P = true
theorem inP_iff (a b : List (Int × Int)) : inP a b = true ↔ ∀ x ∈ a, x ∈ b := by unfold inP; rw [List.all_eq_true]; simp
theorem inP_mk (P : List (Int × Int)) : inP (Go.Proofs.YtgckohmppefibaaDoor.Ng.mk P) P = true := (inP_iff _ _).2 fun x hx => (Go.Proofs.YtgckohmppefibaaDoor.Ng.mem_mk P x).1 hx
theorem Apart.add {L E : List (List (Int × Int))} (h : Apart L E) (P : List (Int × Int)) : Apart (addP L (Go.Proofs.YtgckohmppefibaaDoor.Ng.mk P)).1 (E ++ [P]) := by
  unfold addP
  split
  · rename_i ha
    refine ⟨h.anti, fun Q hQ => ?_⟩
    rcases List.mem_append.1 hQ with hQ | hQ
    · exact h.has Q hQ
    · rw [List.mem_singleton.1 hQ]
      obtain ⟨y, hy, hin⟩ := List.any_eq_true.1 ha
      exact ⟨y, hy, (inP_iff _ _).2 fun x hx => (Go.Proofs.YtgckohmppefibaaDoor.Ng.mem_mk P x).1 ((inP_iff _ _).1 hin x hx)⟩
  · rename_i ha
    have hn : ∀ y ∈ L, inP y (Go.Proofs.YtgckohmppefibaaDoor.Ng.mk P) = false := fun y hy => by
      cases hin : inP y (Go.Proofs.YtgckohmppefibaaDoor.Ng.mk P) with
      | false => rfl
      | true => exact absurd (List.any_eq_true.2 ⟨y, hy, hin⟩) ha
    refine ⟨List.pairwise_append.2 ⟨h.anti.filter _, List.pairwise_singleton _ _, fun a ha2 b hb => ?_⟩, fun Q hQ => ?_⟩
    · rw [List.mem_singleton.1 hb]
      obtain ⟨h1, h2⟩ := List.mem_filter.1 ha2
      exact ⟨hn a h1, by simpa using h2⟩
    · rcases List.mem_append.1 hQ with hQ | hQ
      · obtain ⟨y, hy, hin⟩ := h.has Q hQ
        cases hy2 : inP (Go.Proofs.YtgckohmppefibaaDoor.Ng.mk P) y with
        | false => exact ⟨y, List.mem_append_left _ (List.mem_filter.2 ⟨hy, by simp [hy2]⟩), hin⟩
        | true => exact ⟨Go.Proofs.YtgckohmppefibaaDoor.Ng.mk P, List.mem_append_right _ (List.mem_singleton.2 rfl), (inP_iff _ _).2 fun x hx => (inP_iff _ _).1 hin x ((inP_iff _ _).1 hy2 x hx)⟩
      · rw [List.mem_singleton.1 hQ]
        exact ⟨Go.Proofs.YtgckohmppefibaaDoor.Ng.mk P, List.mem_append_right _ (List.mem_singleton.2 rfl), inP_mk P⟩
theorem Apart.ne {L E : List (List (Int × Int))} (h : Apart L E) (i k : Nat) (hi : i < L.length) (hk : k < L.length) (hne : i ≠ k) : inP L[i] L[k] = false := by
  rcases Nat.lt_or_gt_of_ne hne with hlt | hlt
  · exact (List.pairwise_iff_getElem.1 h.anti i k hi hk hlt).1
  · exact (List.pairwise_iff_getElem.1 h.anti k i hk hi hlt).2
/-- lits, the program's own row kept. -/
theorem litsR (w : World) (A : Option Addr) (c : Nat) (l : List S27) (most : Nat) (hm : most ≤ 100) (hr : Kd.C k27 w A l.length l) (hc : l.length ≤ c) :
    Calls Tryd.prog 13 #[.slice A l.length c, .int .i64 (most : Int)] w fun e w' => ∃ Ax cx v1, e = .returned (.tuple #[.slice Ax ((l.take most).map de).length cx, v1]) ∧ Kd.R k29 29 w' w.heap.size (fun k => w.heap.size ≤ k ∧ k < w'.heap.size) (.slice Ax ((l.take most).map de).length cx) (((l.take most).map de).map un29) ∧ Below w.heap.size w w' := by
  refine (jigsawlaw24_lits.calls (most + 1) A c l most _ _ w hr hc (lits_pure l most (by omega) (most + 1) (Nat.le_refl _))).mono ?_
  rintro e w' ⟨v0, v1, rfl, h0, _, hb⟩
  obtain ⟨Ax, cx, rfl⟩ := Kd.R_slice h0
  have h1 := Kd.R_mono (Kd.R_bound h0) (ok' := fun k => w.heap.size ≤ k ∧ k < w'.heap.size) (fun k hk => ⟨hk.2.1, hk.2.2.1⟩)
  simp only [List.length_map] at h1 ⊢
  exact ⟨Ax, cx, v1, rfl, h1, hb⟩
end Go.Proofs.YtgckohmppefibaaDoorX.Hz
