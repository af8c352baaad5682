import Derived.Test.YtgckohmppefibaaDoorNgPlain
namespace Go.Proofs.YtgckohmppefibaaDoorX.Hz
open Go.RowKit Go.Proofs.YtgckohmppefibaaDoorW.PrintWords Go.Proofs.YtgckohmppefibaaDoorW.PrintLast Go.Proofs.YtgckohmppefibaaDoorW.PrintMore
attribute [local go_sem] max2_int min2_int max_two min_two max_three min_three max_four min_four
set_option linter.unusedVariables false
set_option linter.unusedSimpArgs false
attribute [local go_sem] Go.Proofs.YtgckohmppefibaaDoor.Hook.cell_two
theorem rawA {w : World} {A : Option Addr} {L : List (List S27)} (h : Kd.C (Kd.slice 27 k27) w A L.length L) (hn : 0 < L.length) : ∃ b o, A = some ⟨b, o, none⟩ ∧ b < w.heap.size ∧ ∀ j (hj : j < L.length), ∃ Aj cj, w.cell? ⟨b, o + j, none⟩ = some (.slice Aj L[j].length cj) ∧ L[j].length ≤ cj ∧ Kd.C k27 w Aj L[j].length L[j] := by
  obtain ⟨ad, hA, hc⟩ := h.2.2 hn
  have get : ∀ j (hj : j < L.length), ∃ Aj cj, w.cell? (ad.add j) = some (.slice Aj L[j].length cj) ∧ L[j].length ≤ cj ∧ Kd.C k27 w Aj L[j].length L[j] := by
    intro j hj
    obtain ⟨c, _, hK, hcell⟩ := hc j L[j] (List.getElem?_eq_getElem hj)
    obtain ⟨Aj, cj, rfl, h1, h2⟩ := hK
    have h3 := hcell 0 _ rfl
    have e : j * (Kd.slice 27 k27).sz + 0 = j := Nat.mul_one j
    rw [e] at h3
    exact ⟨Aj, cj, h3, h1, h2⟩
  obtain ⟨b, o, sp⟩ := ad
  obtain ⟨_, _, h0, _, _⟩ := get 0 hn
  have hsp : sp = none := by
    cases sp with
    | none => rfl
    | some x =>
      exfalso
      simp only [World.cell?, Addr.add] at h0
      simp at h0
      split at h0 <;> cases h0
  subst hsp
  have e : ∀ m, (⟨b, o, none⟩ : Addr).add m = ⟨b, o + m, none⟩ := by intro m; unfold Addr.add; split <;> simp_all
  rw [e] at h0
  refine ⟨b, o, hA, World.block_lt_of_cell? w _ h0, fun j hj => ?_⟩
  have h1 := get j hj
  rw [e] at h1
  exact h1
/-- What the loop of NogoodAdds holds. -/
structure AI (w0 : World) (g : Nat) (wr : World) (L : List (List (Int × Int))) (v : Value) (F okr : Nat → Prop) : Prop where
  below : Below w0.heap.size w0 wr
  nb : NB w0.heap.size F wr g (L.map (List.map un29))
  r : ∃ A c, v = .slice A L.length c ∧ L.length ≤ c ∧ Kd.F (Kd.slice 84 k84) wr okr A L.length (L.map (List.map un84))
  apart : ∀ k, F k → ¬ okr k
  bF : ∀ k, F k → k < wr.heap.size
  bR : ∀ k, okr k → k < wr.heap.size
theorem AI.step {w0 : World} {g : Nat} {wr w1 : World} {L : List (List (Int × Int))} {v : Value} {F okr : Nat → Prop} (h : AI w0 g wr L v F okr) (hb : Below wr.heap.size wr w1) : AI w0 g w1 L v F okr :=
  ⟨below_step h.below hb, h.nb.below hb, by obtain ⟨A, c, h1, h2, h3⟩ := h.r; exact ⟨A, c, h1, h2, Kd.F_below h3 hb⟩, h.apart, fun k hk => Nat.lt_of_lt_of_le (h.bF k hk) hb.size, fun k hk => Nat.lt_of_lt_of_le (h.bR k hk) hb.size⟩
/-- Base.Add, of pairs. -/
theorem addNBP (base : Nat) (F : Nat → Prop) (w : World) (g : Nat) (L : List (List (Int × Int))) (h : NB base F w g (L.map (List.map un29))) (n most : Nat) (hn : n ≤ 100) (hm : most ≤ 100) (hL : LOk L n most) (P : List (Int × Int)) (hP : P.length ≤ most) (A : Option Addr) (c : Nat) (hr : Kd.C k29 w A P.length (P.map un29)) :
    Calls Tryd.prog 14 #[.pointer (some ⟨g, 0, none⟩), .slice A P.length c] w fun e w' => e = .returned (.bool (addP L (Go.Proofs.YtgckohmppefibaaDoor.Ng.mk P)).2) ∧ NB base (fun k => F k ∨ w.heap.size ≤ k) w' g ((addP L (Go.Proofs.YtgckohmppefibaaDoor.Ng.mk P)).1.map (List.map un29)) ∧ Stay base F w w' := by
  have hmk := Nat.le_trans (mk_len P) hP
  have hlp : (P.map un29).length = P.length := List.length_map _
  have hord : ordB (((Go.Proofs.YtgckohmppefibaaDoor.Ng.mk P).map un29).map pr29) = true := by rw [pr_un, ordB_ord]; exact Go.Proofs.YtgckohmppefibaaDoor.Ng.ord_mk P
  have := addNB 20000 inL base F w g (L.map (List.map un29)) h (by rw [List.length_map]; have := hL.len; omega) A c (P.map un29) (by rw [hlp]; exact hr) (by rw [hlp]; omega)
    (fun x hx => by
      obtain ⟨q, hq, rfl⟩ := List.mem_map.1 hx
      have := hL.short q hq
      rw [madeL_un]
      exact within_pure _ _ 20000 (by rw [List.length_map]; omega) hord (by rw [List.length_map]; omega) (by rw [List.length_map]; omega))
    (fun x hx => by
      obtain ⟨q, hq, rfl⟩ := List.mem_map.1 hx
      have := hL.short q hq
      rw [madeL_un]
      exact within_pure _ _ 20000 (by rw [List.length_map]; omega) (by rw [pr_un, ordB_ord]; exact hL.ord q hq) (by rw [List.length_map]; omega) (by rw [List.length_map]; omega))
  rw [madeL_un, addL_P, hlp] at this
  exact this
/-- lits, of pairs. -/
theorem litsP (w : World) (A : Option Addr) (c : Nat) (l : List S27) (most : Nat) (hm : most ≤ 100) (hr : Kd.C k27 w A l.length l) (hc : l.length ≤ c) :
    Calls Tryd.prog 13 #[.slice A l.length c, .int .i64 (most : Int)] w fun e w' => ∃ Ax cx Ay cy, e = .returned (.tuple #[.slice Ax ((l.take most).map de).length cx, .slice Ay ((l.take most).map de).length cy]) ∧ Kd.C k29 w' Ax ((l.take most).map de).length (((l.take most).map de).map un29) ∧ Kd.C k84 w' Ay ((l.take most).map de).length (((l.take most).map de).map un84) ∧ ((l.take most).map de).length ≤ cx ∧ ((l.take most).map de).length ≤ cy ∧ Below w.heap.size w w' := by
  refine (jigsawlaw24_lits.calls (most + 1) A c l most _ _ w hr hc (lits_pure l most (by omega) (most + 1) (Nat.le_refl _))).mono ?_
  rintro e w' ⟨v0, v1, rfl, h0, h1, hb⟩
  obtain ⟨Ax, cx, rfl, hx, hX⟩ := Kd.R_reads h0
  obtain ⟨Ay, cy, rfl, hy, hY⟩ := Kd.R_reads h1
  simp only [List.length_map] at hx hX hy hY ⊢
  exact ⟨Ax, cx, Ay, cy, rfl, hX, hY, hx, hy, hb⟩
/-- Behind both Adds. -/
theorem AI.added {w0 : World} {g : Nat} {wr w2 w3 w4 : World} {L L' : List (List (Int × Int))} {v : Value} {F okr : Nat → Prop} (h : AI w0 g wr L v F okr) (hb2 : Below wr.heap.size wr w2) (hb3 : Below w2.heap.size w2 w3) {A : Option Addr} {c : Nat} (hc : L'.length ≤ c) (hF3 : Kd.F (Kd.slice 84 k84) w3 (fun k => okr k ∨ w2.heap.size ≤ k) A L'.length (L'.map (List.map un84)))
    (hN : NB w0.heap.size (fun k => F k ∨ w3.heap.size ≤ k) w4 g (L'.map (List.map un29))) (hS : Stay w0.heap.size F w3 w4) :
    AI w0 g w4 L' (.slice A L'.length c) (fun k => (F k ∨ w3.heap.size ≤ k) ∧ k < w4.heap.size) (fun k => (okr k ∨ w2.heap.size ≤ k) ∧ k < w3.heap.size) := by
  have h2 := hb2.size
  have h3 := hb3.size
  refine ⟨(below_step (below_step h.below hb2) hb3).trans hS.1, hN.bound, ⟨A, c, rfl, hc, ?_⟩, fun k hk ho => ?_, fun k hk => hk.2, fun k hk => Nat.lt_of_lt_of_le hk.2 hS.2.1⟩
  · exact Kd.F_step (Kd.F_bound hF3) (fun k hk hlt => hS.2.2 k hlt (fun hf => by
      rcases hk.1 with ho | ho
      · exact h.apart k hf ho
      · have := h.bF k hf; omega))
  · rcases hk.1 with hf | hf
    · rcases ho.1 with ho | ho
      · exact h.apart k hf ho
      · have := h.bF k hf; omega
    · have := ho.2; omega
theorem info22c : (Tryd.prog.info? 22).map (fun i => (i.zero, i.size, i.bytes)) = some (some (.slice none 0 0), 1, 24) := by kernel_rfl
theorem AI.start (w : World) : AI w w.heap.size (w.alloc (.cells #[.slice none 0 0] 88 (0, 0))) [] (.slice none 0 0) (fun k => w.heap.size ≤ k ∧ k < (w.alloc (.cells #[.slice none 0 0] 88 (0, 0))).heap.size) (fun _ => False) :=
  ⟨below_alloc (Below.refl _ _) _, (NB.new w).bound, ⟨none, 0, rfl, Nat.le_refl _, Kd.F_nil _ _ _⟩, fun _ _ h => h, fun k hk => hk.2, fun k hk => hk.elim⟩
end Go.Proofs.YtgckohmppefibaaDoorX.Hz
