import Derived.Test.YtgckohmppefibaaDoorNgPlain
namespace Go.Proofs.YtgckohmppefibaaDoorX.Hz
open Go.RowKit Go.Proofs.YtgckohmppefibaaDoorW.PrintWords Go.Proofs.YtgckohmppefibaaDoorW.PrintLast Go.Proofs.YtgckohmppefibaaDoorW.PrintMore
attribute [local go_sem] max2_int min2_int max_two min_two max_three min_three max_four min_four
set_option linter.unusedVariables false
set_option linter.unusedSimpArgs false
attribute [local go_sem] Go.Proofs.YtgckohmppefibaaDoor.Hook.cell_two
theorem rawA {w : World} {A : Option Addr} {L : List (List S27)} (h : Kd.C (Kd.slice 27 k27) w A L.length L) (hn : 0 < L.length) : ∃ b o, A = some ⟨b, o, none⟩ ∧ b < w.heap.size ∧ ∀ j (hj : j < L.length), ∃ Aj cj, w.cell? ⟨b, o + j, none⟩ = some (.slice Aj L[j].length cj) ∧ L[j].length ≤ cj ∧ Kd.C k27 w Aj L[j].length L[j] := by
  obtain ⟨ad, hA, hc⟩ := h.2.2 hn
  have get : ∀ j (hj : j < L.length), ∃ Aj cj, w.cell? (ad.add j) = some (.slice Aj L[j].length cj) ∧ L[j].length ≤ cj ∧ Kd.C k27 w Aj L[j].length L[j] := by
    intro j hj
    obtain ⟨c, _, hK, hcell⟩ := hc j L[j] (List.getElem?_eq_getElem hj)
    obtain ⟨Aj, cj, rfl, h1, h2⟩ := hK
    have h3 := hcell 0 _ rfl
    have e : j * (Kd.slice 27 k27).sz + 0 = j := Nat.mul_one j
    rw [e] at h3
    exact ⟨Aj, cj, h3, h1, h2⟩
  obtain ⟨b, o, sp⟩ := ad
  obtain ⟨_, _, h0, _, _⟩ := get 0 hn
  have hsp : sp = none := by
    cases sp with
    | none => rfl
    | some x =>
      exfalso
      simp only [World.cell?, Addr.add] at h0
      simp at h0
      split at h0 <;> cases h0
  subst hsp
  have e : ∀ m, (⟨b, o, none⟩ : Addr).add m = ⟨b, o + m, none⟩ := by intro m; unfold Addr.add; split <;> simp_all
  rw [e] at h0
  refine ⟨b, o, hA, World.block_lt_of_cell? w _ h0, fun j hj => ?_⟩
  have h1 := get j hj
  rw [e] at h1
  exact h1
/-- What the loop of NogoodAdds holds. -/
structure AI (w0 : World) (g : Nat) (wr : World) (L : List (List (Int × Int))) (v : Value) (F okr : Nat → Prop) : Prop where
  below : Below w0.heap.size w0 wr
  nb : NB w0.heap.size F wr g (L.map (List.map un29))
  r : ∃ A c, v = .slice A L.length c ∧ L.length ≤ c ∧ Kd.F (Kd.slice 84 k84) wr okr A L.length (L.map (List.map un84))
  apart : ∀ k, F k → ¬ okr k
  bF : ∀ k, F k → k < wr.heap.size
  bR : ∀ k, okr k → k < wr.heap.size
theorem AI.step {w0 : World} {g : Nat} {wr w1 : World} {L : List (List (Int × Int))} {v : Value} {F okr : Nat → Prop} (h : AI w0 g wr L v F okr) (hb : Below wr.heap.size wr w1) : AI w0 g w1 L v F okr :=
  ⟨below_step h.below hb, h.nb.below hb, by obtain ⟨A, c, h1, h2, h3⟩ := h.r; exact ⟨A, c, h1, h2, Kd.F_below h3 hb⟩, h.apart, fun k hk => Nat.lt_of_lt_of_le (h.bF k hk) hb.size, fun k hk => Nat.lt_of_lt_of_le (h.bR k hk) hb.size⟩
/-- The document's base after its Add: the same facts, the base itself still as it was. -/
theorem refAddP {w0 : World} {g : Nat} {wr : World} {L : List (List (Int × Int))} {A : Option Addr} {c : Nat} {F okr : Nat → Prop} (h : AI w0 g wr L (.slice A L.length c) F okr) (n most : Nat) (hn : n ≤ 100) (hm : most ≤ 100) (hL : LOk L n most) (P : List (Int × Int)) (hP : P.length ≤ most) (Ay : Option Addr) (cy : Nat) (hy : Kd.C k84 wr Ay P.length (P.map un84)) (hcy : P.length ≤ cy) :
    Calls Tryd.prog 15 #[.slice A L.length c, .slice Ay P.length cy] wr fun e w' => ∃ A' c', e = .returned (.tuple #[.slice A' (addP L (Go.Proofs.YtgckohmppefibaaDoor.Ng.mk P)).1.length c', .bool (addP L (Go.Proofs.YtgckohmppefibaaDoor.Ng.mk P)).2]) ∧ Kd.F (Kd.slice 84 k84) w' (fun k => okr k ∨ wr.heap.size ≤ k) A' (addP L (Go.Proofs.YtgckohmppefibaaDoor.Ng.mk P)).1.length ((addP L (Go.Proofs.YtgckohmppefibaaDoor.Ng.mk P)).1.map (List.map un84)) ∧ (addP L (Go.Proofs.YtgckohmppefibaaDoor.Ng.mk P)).1.length ≤ c' ∧ Below wr.heap.size wr w' := by
  obtain ⟨A9, c9, e, hc, hF⟩ := h.r
  cases e
  have hmk := Nat.le_trans (mk_len P) hP
  have hlen : (L.map (List.map un84)).length = L.length := List.length_map _
  have hlp : (P.map un84).length = P.length := List.length_map _
  have := refAdd A c (L.map (List.map un84)) Ay cy (P.map un84) okr wr (by rw [hlen]; exact hF) (by rw [hlen]; exact hc) (by rw [hlen]; have := hL.len; omega) (by rw [hlp]; exact hy) (by rw [hlp]; exact hcy) ((Go.Proofs.YtgckohmppefibaaDoor.Ng.mk P).map un84) W84 20000 (made84 P (by omega) 20000 (by have : P.length * (P.length + 3) ≤ 100 * 103 := Nat.mul_le_mul (by omega) (by omega); omega))
    (fun x hx => by
      obtain ⟨q, hq, rfl⟩ := List.mem_map.1 hx
      rw [W84_un]
      have := hL.short q hq
      exact within84 q _ (by omega) (by omega) 20000 (by omega))
    (fun x hx => by
      obtain ⟨q, hq, rfl⟩ := List.mem_map.1 hx
      rw [W84_un]
      have := hL.short q hq
      exact within84 _ q (by omega) (by omega) 20000 (by omega))
  rw [addR_P, hlen, hlp] at this
  refine this.mono ?_
  rintro e w' ⟨A', c', rfl, h1, h2, h3⟩
  simp only [List.length_map] at h1 h2 ⊢
  exact ⟨A', c', rfl, h1, h2, h3⟩
/-- Base.Add, of pairs. -/
theorem addNBP (base : Nat) (F : Nat → Prop) (w : World) (g : Nat) (L : List (List (Int × Int))) (h : NB base F w g (L.map (List.map un29))) (n most : Nat) (hn : n ≤ 100) (hm : most ≤ 100) (hL : LOk L n most) (P : List (Int × Int)) (hP : P.length ≤ most) (A : Option Addr) (c : Nat) (hr : Kd.C k29 w A P.length (P.map un29)) :
    Calls Tryd.prog 14 #[.pointer (some ⟨g, 0, none⟩), .slice A P.length c] w fun e w' => e = .returned (.bool (addP L (Go.Proofs.YtgckohmppefibaaDoor.Ng.mk P)).2) ∧ NB base (fun k => F k ∨ w.heap.size ≤ k) w' g ((addP L (Go.Proofs.YtgckohmppefibaaDoor.Ng.mk P)).1.map (List.map un29)) ∧ Stay base F w w' := by
  have hmk := Nat.le_trans (mk_len P) hP
  have hlp : (P.map un29).length = P.length := List.length_map _
  have hord : ordB (((Go.Proofs.YtgckohmppefibaaDoor.Ng.mk P).map un29).map pr29) = true := by rw [pr_un, ordB_ord]; exact Go.Proofs.YtgckohmppefibaaDoor.Ng.ord_mk P
  have := addNB 20000 inL base F w g (L.map (List.map un29)) h (by rw [List.length_map]; have := hL.len; omega) A c (P.map un29) (by rw [hlp]; exact hr) (by rw [hlp]; omega)
    (fun x hx => by
      obtain ⟨q, hq, rfl⟩ := List.mem_map.1 hx
      have := hL.short q hq
      rw [madeL_un]
      exact within_pure _ _ 20000 (by rw [List.length_map]; omega) hord (by rw [List.length_map]; omega) (by rw [List.length_map]; omega))
    (fun x hx => by
      obtain ⟨q, hq, rfl⟩ := List.mem_map.1 hx
      have := hL.short q hq
      rw [madeL_un]
      exact within_pure _ _ 20000 (by rw [List.length_map]; omega) (by rw [pr_un, ordB_ord]; exact hL.ord q hq) (by rw [List.length_map]; omega) (by rw [List.length_map]; omega))
  rw [madeL_un, addL_P, hlp] at this
  exact this
/-- lits, of pairs. -/
theorem litsP (w : World) (A : Option Addr) (c : Nat) (l : List S27) (most : Nat) (hm : most ≤ 100) (hr : Kd.C k27 w A l.length l) (hc : l.length ≤ c) :
    Calls Tryd.prog 13 #[.slice A l.length c, .int .i64 (most : Int)] w fun e w' => ∃ Ax cx Ay cy, e = .returned (.tuple #[.slice Ax ((l.take most).map de).length cx, .slice Ay ((l.take most).map de).length cy]) ∧ Kd.C k29 w' Ax ((l.take most).map de).length (((l.take most).map de).map un29) ∧ Kd.C k84 w' Ay ((l.take most).map de).length (((l.take most).map de).map un84) ∧ ((l.take most).map de).length ≤ cx ∧ ((l.take most).map de).length ≤ cy ∧ Below w.heap.size w w' := by
  refine (jigsawlaw24_lits.calls (most + 1) A c l most _ _ w hr hc (lits_pure l most (by omega) (most + 1) (Nat.le_refl _))).mono ?_
  rintro e w' ⟨v0, v1, rfl, h0, h1, hb⟩
  obtain ⟨Ax, cx, rfl, hx, hX⟩ := Kd.R_reads h0
  obtain ⟨Ay, cy, rfl, hy, hY⟩ := Kd.R_reads h1
  simp only [List.length_map] at hx hX hy hY ⊢
  exact ⟨Ax, cx, Ay, cy, rfl, hX, hY, hx, hy, hb⟩
theorem lenNBP (base : Nat) (F : Nat → Prop) (w : World) (g : Nat) (L : List (List (Int × Int))) (h : NB base F w g (L.map (List.map un29))) : Calls Tryd.prog 22 #[.pointer (some ⟨g, 0, none⟩)] w fun e w' => e = .returned (.int .i64 L.length) ∧ w' = w := by
  have := lenNB base F w g _ h
  rwa [List.length_map] at this
theorem listNBP (base : Nat) (F : Nat → Prop) (w : World) (g : Nat) (L : List (List (Int × Int))) (h : NB base F w g (L.map (List.map un29))) (n most : Nat) (hn : n ≤ 100) (hm : most ≤ 100) (hL : LOk L n most) : Calls Tryd.prog 21 #[.pointer (some ⟨g, 0, none⟩)] w fun e w' => ∃ A c, e = .returned (.slice A L.length c) ∧ L.length ≤ c ∧ Kd.C (Kd.slice 29 k29) w' A L.length (L.map (List.map un29)) ∧ Below w.heap.size w w' := by
  refine (listNB base F w g _ h (by rw [List.length_map]; have := hL.len; omega) (fun x hx => by
    obtain ⟨q, hq, rfl⟩ := List.mem_map.1 hx
    have := hL.short q hq
    rw [List.length_map]; omega)).mono ?_
  rintro e w' ⟨v, rfl, hR, hb⟩
  obtain ⟨A, c, rfl, hc, hC⟩ := Kd.R_reads hR
  simp only [List.length_map] at hc hC ⊢
  exact ⟨A, c, rfl, hc, hC, hb⟩
/-- Behind both Adds. -/
theorem AI.added {w0 : World} {g : Nat} {wr w2 w3 w4 : World} {L L' : List (List (Int × Int))} {v : Value} {F okr : Nat → Prop} (h : AI w0 g wr L v F okr) (hb2 : Below wr.heap.size wr w2) (hb3 : Below w2.heap.size w2 w3) {A : Option Addr} {c : Nat} (hc : L'.length ≤ c) (hF3 : Kd.F (Kd.slice 84 k84) w3 (fun k => okr k ∨ w2.heap.size ≤ k) A L'.length (L'.map (List.map un84)))
    (hN : NB w0.heap.size (fun k => F k ∨ w3.heap.size ≤ k) w4 g (L'.map (List.map un29))) (hS : Stay w0.heap.size F w3 w4) :
    AI w0 g w4 L' (.slice A L'.length c) (fun k => (F k ∨ w3.heap.size ≤ k) ∧ k < w4.heap.size) (fun k => (okr k ∨ w2.heap.size ≤ k) ∧ k < w3.heap.size) := by
  have h2 := hb2.size
  have h3 := hb3.size
  refine ⟨(below_step (below_step h.below hb2) hb3).trans hS.1, hN.bound, ⟨A, c, rfl, hc, ?_⟩, fun k hk ho => ?_, fun k hk => hk.2, fun k hk => Nat.lt_of_lt_of_le hk.2 hS.2.1⟩
  · exact Kd.F_step (Kd.F_bound hF3) (fun k hk hlt => hS.2.2 k hlt (fun hf => by
      rcases hk.1 with ho | ho
      · exact h.apart k hf ho
      · have := h.bF k hf; omega))
  · rcases hk.1 with hf | hf
    · rcases ho.1 with ho | ho
      · exact h.apart k hf ho
      · have := h.bF k hf; omega
    · have := ho.2; omega
theorem samesP {w0 : World} {g : Nat} (w : World) (L : List (List (Int × Int))) (A0 : Option Addr) (c0 : Nat) (A1 : Option Addr) (c1 : Nat) {F okr : Nat → Prop} (h0 : Kd.C (Kd.slice 29 k29) w A0 L.length (L.map (List.map un29))) (hc0 : L.length ≤ c0) (h : AI w0 g w L (.slice A1 L.length c1) F okr) (hc1 : L.length ≤ c1) (hs : jigsawlaw24_same.f 100000 (L.map (List.map un29)) (L.map (List.map un84)) = some true) :
    Calls Tryd.prog 9 #[.slice A0 L.length c0, .slice A1 L.length c1] w fun e w' => e = .returned (.bool true) ∧ Below w.heap.size w w' := by
  obtain ⟨A9, c9, e, _, hF⟩ := h.r
  cases e
  have := jigsawlaw24_same.calls 100000 A0 c0 (L.map (List.map un29)) A1 c1 (L.map (List.map un84)) true w (by rw [List.length_map]; exact h0) (by rw [List.length_map]; exact hc0) (by rw [List.length_map]; exact Kd.F_now hF) (by rw [List.length_map]; exact hc1) hs
  simp only [List.length_map] at this
  refine this.mono ?_
  rintro e w' ⟨rfl, nd, rfl⟩
  exact ⟨rfl, pw_below_drewN (Below.refl _ _) nd⟩
theorem info22c : (Tryd.prog.info? 22).map (fun i => (i.zero, i.size, i.bytes)) = some (some (.slice none 0 0), 1, 24) := by kernel_rfl
theorem AI.start (w : World) : AI w w.heap.size (w.alloc (.cells #[.slice none 0 0] 88 (0, 0))) [] (.slice none 0 0) (fun k => w.heap.size ≤ k ∧ k < (w.alloc (.cells #[.slice none 0 0] 88 (0, 0))).heap.size) (fun _ => False) :=
  ⟨below_alloc (Below.refl _ _) _, (NB.new w).bound, ⟨none, 0, rfl, Nat.le_refl _, Kd.F_nil _ _ _⟩, fun _ _ h => h, fun k hk => hk.2, fun k hk => hk.elim⟩
set_option maxHeartbeats 4000000 in
set_option maxRecDepth 100000 in
theorem lawAdds (A : Option Addr) (c : Nat) (all : List (List S27)) (w : World) (hT : Go.Proofs.YtgckohmppefibaaDoor.Tab w) (hC : Kd.C (Kd.slice 27 k27) w A all.length all) (hc : all.length ≤ c) :
    Calls Tryd.prog 5 #[.slice A all.length c] w fun e w' => e = .returned (.bool true) ∧ Below w.heap.size w w' := by
  obtain ⟨ji, hji⟩ : ∃ ji : Int, (if 20 < (all.length : Int) then 20 else (all.length : Int)) = ji := ⟨_, rfl⟩
  have hj0 : 0 ≤ ji ∧ ji ≤ all.length ∧ ji ≤ 20 := by rw [← hji]; split <;> omega
  obtain ⟨hj1, hj2, hj3⟩ := hj0
  obtain ⟨m, rfl⟩ : ∃ m : Nat, ji = (m : Int) := ⟨ji.toNat, by omega⟩
  obtain ⟨i05, hi05, _⟩ := info_parts info22c
  have hcut := cut_to (P := Tryd.prog) 41 22 .i64 Tryd.underlying41 hi05 A all.length c (m : Int) hj1 hj2 hc
  rw [Int.toNat_natCast] at hcut
  have HT := Aside0.mk hT
  have HC := Aside0.mk hC
  clear hC hi05 hT
  go_enter Tryd.func5, Tryd.ntmps5
  go_wp2_with (go_at_call 12; (refine (newNB _).mono ?_; rintro e w1 ⟨rfl, rfl⟩))
  go_loopg [4, 6, 7, 8, 9, 10, 18] m (fun kx s4 s6 s7 s8 s9 s10 s18 wr => ∃ (j : Nat) (L : List (List (Int × Int))) (F okr : Nat → Prop), s18 = .int .i64 j ∧ j ≤ m ∧ m - j ≤ kx ∧ Aside0 (AI w w.heap.size wr L s4 F okr) ∧ Aside0 (LOk L j 8))
  case atStart => exact ⟨0, [], _, _, rfl, Nat.zero_le _, by omega, Aside0.mk (AI.start w), Aside0.mk ⟨Nat.zero_le _, fun x hx => (by cases hx), fun x hx => (by cases hx)⟩⟩
  case round =>
    obtain ⟨j, L, F, okr, rfl, hjm, hg, HI, HL⟩ := hrel
    by_cases hlt : j < m
    · obtain ⟨b, o, rfl, hbw, hcell⟩ := rawA HC.out (by omega)
      obtain ⟨Aj, cj, e0, e1, e2⟩ := hcell j (by omega)
      have e0' : wr.cell? ⟨b, o + j, none⟩ = some (.slice Aj all[j].length cj) := (HI.out.below.cell (p := ⟨b, o + j, none⟩) hbw).trans e0
      have hl := litsP wr Aj cj all[j] 8 (by decide) (Kd.C_below e2 HI.out.below) e1
      rw [show ((8 : Nat) : Int) = 8 from rfl] at hl
      clear hcell e0 e1 e2
      generalize all[j] = y at e0' hl
      have hP : ((y.take 8).map de).length ≤ 8 := by rw [List.length_map, List.length_take]; omega
      generalize (y.take 8).map de = P at hl hP
      have HLI := Aside0.mk hl
      clear hl
      obtain ⟨Ar, cr, rfl, hcr, _⟩ := HI.out.r
      have hLn : L.length ≤ 20 := Nat.le_trans HL.out.len (by omega)
      have hadd := HL.out.add P hP
      have HLA := Aside0.mk hadd
      generalize hN : addP L (Go.Proofs.YtgckohmppefibaaDoor.Ng.mk P) = q at hadd HLA
      have HN := Aside0.mk hN
      clear hN hadd
      obtain ⟨L', ok'⟩ := q
      go_upto_region 8 with (first
        | (go_at_call 13; ((with_reducible refine HLI.out.mono ?_); rintro e w2 ⟨Ax, cx, Ay, cy, rfl, hx, hy, hcx, hcy, hb2⟩; have HX := Aside0.mk hx; have HY := Aside0.mk (And.intro hy hcy); have HB2 := Aside0.mk hb2; clear hx hy hb2))
        | (go_at_call 15; ((with_reducible refine (refAddP (HI.out.step HB2.out) j 8 (by omega) (by decide) HL.out P hP Ay cy HY.out.1 HY.out.2).mono ?_); rw [HN.out]; rintro e w3 ⟨A3, c3, rfl, hf3, hc3, hb3⟩; have HF3 := Aside0.mk hf3; have HB3 := Aside0.mk hb3; clear hf3 hb3)))
      have SM := Aside0.mk (same24 L' (by have := HLA.out.len; omega) (fun M hM => by have := HLA.out.short M hM; omega) 100000 (by have := HLA.out.len; omega))
      have hnn : (ok' != ok') = false := by cases ok' <;> rfl
      go_wp2_with (first
        | (go_at_call 14; ((with_reducible refine (addNBP w.heap.size F w3 w.heap.size L (HI.out.step (below_step HB2.out HB3.out)).nb j 8 (by omega) (by decide) HL.out P hP Ax cx (Kd.C_below HX.out HB3.out)).mono ?_); rw [HN.out]; rintro e w4 ⟨rfl, hn4, hs4⟩; have AI4 := Aside0.mk (HI.out.added HB2.out HB3.out hc3 HF3.out hn4 hs4); clear hn4 hs4))
        | (go_at_call 21; ((with_reducible refine (listNBP w.heap.size _ w4 w.heap.size L' AI4.out.nb (j + 1) 8 (by omega) (by decide) HLA.out).mono ?_); rintro e w5 ⟨A5, c5, rfl, hc5, hC5, hb5⟩; have AI5 := Aside0.mk (AI4.out.step hb5); have HC5 := Aside0.mk hC5; clear hC5 hb5))
        | (go_at_call 9; ((with_reducible refine (samesP w5 L' A5 c5 A3 c3 HC5.out hc5 AI5.out hc3 SM.out).mono ?_); rintro e w6 ⟨rfl, hb6⟩; have AI6 := Aside0.mk (AI5.out.step hb6); clear hb6))
        | (go_at_call 22; ((with_reducible refine (lenNBP w.heap.size _ w6 w.heap.size L' AI6.out.nb).mono ?_); rintro e w7 ⟨rfl, rfl⟩)))
      go_roundg (m - (j + 1))
      case measure => omega
      case rel => exact ⟨j + 1, L', _, _, rfl, by omega, Nat.le_refl _, AI6, Aside0.mk HLA.out⟩
    · have hj : j = m := by omega
      subst hj
      go_wp2_with (go_at_call 8; ((with_reducible refine (wakes_ok wr (HT.out.call HI.out.below)).mono ?_); rintro e w2 ⟨rfl, hb2⟩; have HB2 := Aside0.mk (below_step HI.out.below hb2); clear hb2))
      go_ret
      exact ⟨rfl, HB2.out⟩
end Go.Proofs.YtgckohmppefibaaDoorX.Hz
