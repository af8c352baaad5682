import Derived.Test.YtgckohmppefibaaDoorNgApart
namespace Go.Proofs.YtgckohmppefibaaDoorX.Hz
open Go.RowKit Go.Proofs.YtgckohmppefibaaDoorW.PrintWords Go.Proofs.YtgckohmppefibaaDoorW.PrintLast Go.Proofs.YtgckohmppefibaaDoorW.PrintMore
attribute [local go_sem] max2_int min2_int max_two min_two max_three min_three max_four min_four
set_option linter.unusedVariables false
set_option linter.unusedSimpArgs false
attribute [local go_sem] Go.Proofs.YtgckohmppefibaaDoor.Hook.cell_two
/-- What the first loop of NogoodApart holds. -/
structure AJ (w0 : World) (g : Nat) (wr : World) (L E : List (List (Int × Int))) (v : Value) (F okE : Nat → Prop) : Prop where
  below : Below w0.heap.size w0 wr
  nb : NB w0.heap.size F wr g (L.map (List.map un29))
  ev : Kd.R (Kd.slice 29 k29) 45 wr w0.heap.size okE v (E.map (List.map un29))
  apart : ∀ k, F k → ¬ okE k
  bF : ∀ k, F k → k < wr.heap.size
  bE : ∀ k, okE k → k < wr.heap.size
theorem AJ.start (w : World) : AJ w w.heap.size (w.alloc (.cells #[.slice none 0 0] 88 (0, 0))) [] [] (.slice none 0 0) (fun k => w.heap.size ≤ k ∧ k < (w.alloc (.cells #[.slice none 0 0] 88 (0, 0))).heap.size) (fun _ => False) :=
  ⟨below_alloc (Below.refl _ _) _, (NB.new w).bound, Kd.R_nil _ _ _ _ _, fun _ _ h => h, fun k hk => hk.2, fun k hk => hk.elim⟩
/-- Between Add and the append. -/
structure AK (w0 : World) (g : Nat) (wr w2 w4 : World) (L' E : List (List (Int × Int))) (v : Value) (P : List (Int × Int)) (Ax : Option Addr) (cx : Nat) (F okE : Nat → Prop) : Prop where
  below : Below w0.heap.size w0 w4
  nb : NB w0.heap.size (fun k => (F k ∨ w2.heap.size ≤ k) ∧ k < w4.heap.size) w4 g (L'.map (List.map un29))
  ev : Kd.R (Kd.slice 29 k29) 45 w4 w0.heap.size okE v (E.map (List.map un29))
  x : Kd.R k29 29 w4 w0.heap.size (fun k => wr.heap.size ≤ k ∧ k < w2.heap.size) (.slice Ax P.length cx) (P.map un29)
  apart : ∀ k, F k → ¬ okE k
  bF : ∀ k, F k → k < wr.heap.size
  bE : ∀ k, okE k → k < wr.heap.size
  s1 : wr.heap.size ≤ w2.heap.size
  s2 : w2.heap.size ≤ w4.heap.size
theorem AJ.toAK {w0 : World} {g : Nat} {wr w2 w4 : World} {L L' E : List (List (Int × Int))} {v : Value} {P : List (Int × Int)} {Ax : Option Addr} {cx : Nat} {F okE : Nat → Prop} (h : AJ w0 g wr L E v F okE) (hb2 : Below wr.heap.size wr w2) (hx : Kd.R k29 29 w2 wr.heap.size (fun k => wr.heap.size ≤ k ∧ k < w2.heap.size) (.slice Ax P.length cx) (P.map un29))
    (hN : NB w0.heap.size (fun k => F k ∨ w2.heap.size ≤ k) w4 g (L'.map (List.map un29))) (hS : Stay w0.heap.size F w2 w4) : AK w0 g wr w2 w4 L' E v P Ax cx F okE :=
  ⟨(below_step h.below hb2).trans hS.1, hN.bound, Kd.R_step (Kd.R_below h.ev hb2) (fun k hk hlt => hS.2.2 k hlt (fun hf => h.apart k hf hk)), Kd.R_step (Kd.R_lower hx h.below.size) (fun k hk hlt => hS.2.2 k hlt (fun hf => by have := h.bF k hf; omega)), h.apart, h.bF, h.bE, hb2.size, hS.2.1⟩
/-- The blocks of every, behind the append. -/
def okX (wr w2 w4 : World) (okE : Nat → Prop) (k : Nat) : Prop := okE k ∨ (wr.heap.size ≤ k ∧ k < w2.heap.size) ∨ w4.heap.size ≤ k
theorem AK.toAJ {w0 : World} {g : Nat} {wr w2 w4 w5 : World} {L' E : List (List (Int × Int))} {v v1 : Value} {P : List (Int × Int)} {Ax : Option Addr} {cx : Nat} {F okE : Nat → Prop} (h : AK w0 g wr w2 w4 L' E v P Ax cx F okE)
    (ho : Kd.R (Kd.slice 29 k29) 45 w5 w0.heap.size (okX wr w2 w4 okE) v1 (E.map (List.map un29) ++ [P.map un29])) (hb : Below w0.heap.size w4 w5) (hg : w4.grownBy w5 v.ownBlock) :
    AJ w0 g w5 L' (E ++ [P]) v1 (fun k => (F k ∨ w2.heap.size ≤ k) ∧ k < w4.heap.size) (fun k => okX wr w2 w4 okE k ∧ k < w5.heap.size) := by
  have e1 := h.s1
  have e2 := h.s2
  refine ⟨h.below.trans hb, h.nb.step (fun k hk hlt => hg.block k hlt (fun he => ?_)), ?_, fun k hk ho2 => ?_, fun k hk => Nat.lt_of_lt_of_le hk.2 hb.size, fun k hk => hk.2⟩
  · have h9 := h.ev.1 k he.symm
    rcases hk.1 with hf | hf
    · exact h.apart k hf h9
    · have := h.bE k h9; omega
  · rw [List.map_append]
    exact Kd.R_mono (Kd.R_bound ho) (fun k hk => ⟨hk.1, hk.2.2.1⟩)
  · rcases ho2.1 with ho2 | ho2 | ho2
    · rcases hk.1 with hf | hf
      · exact h.apart k hf ho2
      · have := h.bE k ho2; omega
    · rcases hk.1 with hf | hf
      · have := h.bF k hf; omega
      · omega
    · have := hk.2; omega
theorem inAP (A : Option Addr) (c : Nat) (x : List (Int × Int)) (A1 : Option Addr) (c1 : Nat) (y : List (Int × Int)) (w : World) (hx : Kd.C k29 w A x.length (x.map un29)) (hxb : x.length ≤ 1000000) (hy : Kd.C k29 w A1 y.length (y.map un29)) (hyb : y.length ≤ 1000000) :
    Calls Tryd.prog 32 #[.slice A x.length c, .slice A1 y.length c1] w fun e w' => e = .returned (.bool (inP x y)) ∧ Below w.heap.size w w' := by
  have := inA A c (x.map un29) A1 c1 (y.map un29) w (by rw [List.length_map]; exact hx) (by rw [List.length_map]; exact hxb) (by rw [List.length_map]; exact hy) (by rw [List.length_map]; exact hyb)
  rw [inL_un] at this
  simpa only [List.length_map] using this
/-- The rows of a list of pairs that is read. -/
theorem rowsP {w : World} {A : Option Addr} {L : List (List (Int × Int))} (h : Kd.C (Kd.slice 29 k29) w A L.length (L.map (List.map un29))) (hn : 0 < L.length) :
    ∃ b o, A = some ⟨b, o, none⟩ ∧ ∀ wy, Below w.heap.size w wy → ∀ j (hj : j < L.length), ∃ Aj cj, wy.cell? ⟨b, o + j, none⟩ = some (.slice Aj L[j].length cj) ∧ Kd.C k29 wy Aj L[j].length (L[j].map un29) ∧ L[j].length ≤ cj := by
  have hLl : (L.map (List.map un29)).length = L.length := List.length_map _
  obtain ⟨b, o, rfl, hbw, hcell⟩ := rawL (L := L.map (List.map un29)) (by rw [hLl]; exact h) (by rw [hLl]; exact hn)
  refine ⟨b, o, rfl, fun wy hb j hj => ?_⟩
  obtain ⟨Aj, cj, h1, h2, h3⟩ := hcell j (by rw [hLl]; exact hj)
  have e : (L.map (List.map un29))[j]'(by rw [hLl]; exact hj) = L[j].map un29 := List.getElem_map _
  rw [e, List.length_map] at h1 h2 h3
  exact ⟨Aj, cj, (hb.cell (p := ⟨b, o + j, none⟩) hbw).trans h1, Kd.C_below h3 hb, h2⟩
theorem cont35P (A : Option Addr) (c : Nat) (L : List (List (Int × Int))) (n most : Nat) (hn : n ≤ 100) (hm : most ≤ 100) (hL : LOk L n most) (g1 g2 : Nat) (A1 : Option Addr) (c1 : Nat) (x : List (Int × Int)) (w : World) (h1 : w.cell? ⟨g1, 0, none⟩ = some (.func (.func 32) #[] #[])) (h2 : w.cell? ⟨g2, 0, none⟩ = some (.slice A1 x.length c1)) (hC : Kd.C (Kd.slice 29 k29) w A L.length (L.map (List.map un29))) (hx : Kd.C k29 w A1 x.length (x.map un29)) (hxb : x.length ≤ 1000000) :
    Calls Tryd.prog 24 #[.slice A L.length c, .func (.func 35) #[] #[.pointer (some ⟨g1, 0, none⟩), .pointer (some ⟨g2, 0, none⟩)]] w fun e w' => e = .returned (.bool (L.any fun y => inP y x)) ∧ Below w.heap.size w w' := by
  have hLl : (L.map (List.map un29)).length = L.length := List.length_map _
  have hxl : (x.map un29).length = x.length := List.length_map _
  have := cont35 A c (L.map (List.map un29)) (.pointer (some ⟨g1, 0, none⟩)) (.pointer (some ⟨g2, 0, none⟩)) (fun y => inL y (x.map un29)) w (by rw [hLl]; exact hC) (by rw [hLl]; have := hL.len; omega) (fun y Ay cy w1 hy hb hCy hcy => by
    obtain ⟨q, hq, rfl⟩ := List.mem_map.1 hy
    have hs := hL.short q hq
    have := in35 g1 g2 Ay cy (q.map un29) A1 c1 (x.map un29) w1 ((hb.cell (p := ⟨g1, 0, none⟩) (World.block_lt_of_cell? _ _ h1)).trans h1) (by rw [hxl]; exact (hb.cell (p := ⟨g2, 0, none⟩) (World.block_lt_of_cell? _ _ h2)).trans h2) hCy (by rw [List.length_map]; omega) (by rw [hxl]; exact Kd.C_below hx hb) (by rw [hxl]; exact hxb)
    exact this)
  have ea : (L.map (List.map un29)).any (fun y => inL y (x.map un29)) = L.any fun y => inP y x := by rw [List.any_map]; congr 1; funext y; exact inL_un y x
  rw [ea, hLl] at this
  exact this
theorem drow1 (w : World) {off1 : Int} {sv1 : Value} {ws1 : List Nat} (h1 : Go.Proofs.YtgckohmppefibaaDoor.Dm.RepX w off1 sv1 ws1 [1]) :
    DRow (w.alloc (.cells #[.int .i64 off1, sv1, .int .i64 1, .int .i64 1, .int .i64 1] 62 (0, 0))) (some ⟨w.heap.size, 0, none⟩) [[1]] := by
  have hb : ∀ i, (w.alloc (.cells #[.int .i64 off1, sv1, .int .i64 1, .int .i64 1, .int .i64 1] 62 (0, 0))).cell? ⟨w.heap.size, i, none⟩ = #[.int .i64 off1, sv1, .int .i64 1, .int .i64 1, .int .i64 1][i]? := fun i => blk_cell (blk_new w _) i
  refine .inr ⟨w.heap.size, 0, rfl, by simp, fun j hj => ?_⟩
  match j, hj with
  | 0, _ => exact datW _ _ h1 (below_alloc (Below.refl _ _) _) ⟨hb 0, hb 1, hb 2, hb 3, hb 4⟩
  | j + 1, hj => simp at hj
theorem nilFilt (A : Option Addr) (c : Nat) (w : World) (hD : DRow w A [[1]]) : Calls Tryd.prog 17 #[.pointer none, .slice A 1 c] w fun e w' => ∃ A' c', e = .returned (.tuple #[.slice A' 1 c', .bool true]) ∧ Below w.heap.size w w' := by
  refine (filterNil A c [[1]] w hD (by decide) rfl).mono ?_
  rintro e w' ⟨hb, A', c', rfl, _⟩
  exact ⟨A', c', rfl, hb⟩
set_option maxHeartbeats 8000000 in
set_option maxRecDepth 100000 in
theorem lawApart (A : Option Addr) (c : Nat) (all : List (List S27)) (w : World) (hT : Go.Proofs.YtgckohmppefibaaDoor.Tab w) (hC : Kd.C (Kd.slice 27 k27) w A all.length all) (hc : all.length ≤ c) :
    Calls Tryd.prog 7 #[.slice A all.length c] w fun e w' => e = .returned (.bool true) ∧ Below w.heap.size w w' := by
  obtain ⟨ji, hji⟩ : ∃ ji : Int, (if 20 < (all.length : Int) then 20 else (all.length : Int)) = ji := ⟨_, rfl⟩
  have hj0 : 0 ≤ ji ∧ ji ≤ all.length ∧ ji ≤ 20 := by rw [← hji]; split <;> omega
  obtain ⟨hj1, hj2, hj3⟩ := hj0
  obtain ⟨m, rfl⟩ : ∃ m : Nat, ji = (m : Int) := ⟨ji.toNat, by omega⟩
  obtain ⟨i05, hi05, _⟩ := info_parts info22c
  have hcut := cut_to (P := Tryd.prog) 41 22 .i64 Tryd.underlying41 hi05 A all.length c (m : Int) hj1 hj2 hc
  rw [Int.toNat_natCast] at hcut
  have hst : ∀ (w : World), Sem.run Tryd.prog (store ⟨w.heap.size, 0, none⟩ (.func (.func 32) #[] #[])) (w.alloc (.cells #[.nilFunc] 83 (0, 0))) = .ok () ((w.alloc (.cells #[.nilFunc] 83 (0, 0))).setCell ⟨w.heap.size, 0, none⟩ (.func (.func 32) #[] #[])) := fun w => by
    rw [run_store _ _ _ _ _ rfl]
    simp [go_sem]
  have HT := Aside0.mk hT
  have HC := Aside0.mk hC
  clear hC hi05 hT
  go_enter Tryd.func7, Tryd.ntmps7
  go_wp2_with (go_at_call 12; (refine (newNB _).mono ?_; rintro e w1 ⟨rfl, rfl⟩))
  go_loopg [4, 6, 7, 8, 29] m (fun kx s4 s6 s7 s8 s29 wr => ∃ (j : Nat) (L E : List (List (Int × Int))) (F okE : Nat → Prop), s29 = .int .i64 j ∧ j ≤ m ∧ m - j ≤ kx ∧ E.length ≤ j ∧ Aside0 (AJ w w.heap.size wr L E s4 F okE) ∧ Aside0 (LOk L j 6 ∧ Apart L E ∧ ∀ P ∈ E, P.length ≤ 6))
  case atStart => exact ⟨0, [], [], _, _, rfl, Nat.zero_le _, by omega, Nat.le_refl _, Aside0.mk (AJ.start w), Aside0.mk ⟨⟨Nat.zero_le _, fun x hx => (by cases hx), fun x hx => (by cases hx)⟩, ⟨List.Pairwise.nil, fun x hx => (by cases hx)⟩, fun x hx => (by cases hx)⟩⟩
  case round =>
    obtain ⟨j, L, E, F, okE, rfl, hjm, hg, hEl, HI, HL⟩ := hrel
    by_cases hlt : j < m
    · obtain ⟨b, o, rfl, hbw, hcell⟩ := rawA HC.out (by omega)
      obtain ⟨Aj, cj, e0, e1, e2⟩ := hcell j (by omega)
      have e0' : wr.cell? ⟨b, o + j, none⟩ = some (.slice Aj all[j].length cj) := (HI.out.below.cell (p := ⟨b, o + j, none⟩) hbw).trans e0
      have hl := litsR wr Aj cj all[j] 6 (by decide) (Kd.C_below e2 HI.out.below) e1
      rw [show ((6 : Nat) : Int) = 6 from rfl] at hl
      clear hcell e0 e1 e2
      generalize all[j] = y at e0' hl
      have hP : ((y.take 6).map de).length ≤ 6 := by rw [List.length_map, List.length_take]; omega
      generalize (y.take 6).map de = P at hl hP
      have HLI := Aside0.mk hl
      clear hl
      have HLA := Aside0.mk (And.intro (HL.out.1.add P hP) (And.intro (HL.out.2.1.add P) (fun Q (hQ : Q ∈ E ++ [P]) => (List.mem_append.1 hQ).elim (fun h => HL.out.2.2 Q h) (fun h => by rw [List.mem_singleton.1 h]; exact hP))))
      have HN : Aside0 (∀ w2, Below wr.heap.size wr w2 → ∀ Ax cx, Kd.C k29 w2 Ax P.length (P.map un29) → Calls Tryd.prog 14 #[.pointer (some ⟨w.heap.size, 0, none⟩), .slice Ax P.length cx] w2 fun e w' => e = .returned (.bool (addP L (Go.Proofs.YtgckohmppefibaaDoor.Ng.mk P)).2) ∧ NB w.heap.size (fun k => F k ∨ w2.heap.size ≤ k) w' w.heap.size ((addP L (Go.Proofs.YtgckohmppefibaaDoor.Ng.mk P)).1.map (List.map un29)) ∧ Stay w.heap.size F w2 w') := Aside0.mk (fun w2 hb2 Ax cx hx => addNBP w.heap.size F w2 w.heap.size L (HI.out.nb.below hb2) j 6 (by omega) (by decide) HL.out.1 P hP Ax cx hx)
      generalize hq : addP L (Go.Proofs.YtgckohmppefibaaDoor.Ng.mk P) = q at HLA HN
      clear hq
      obtain ⟨L', ok'⟩ := q
      simp only at HLA HN
      go_wp2_with (first
        | (go_at_call 13; ((with_reducible refine HLI.out.mono ?_); rintro e w2 ⟨Ax, cx, v1, rfl, hx, hb2⟩; have HX := Aside0.mk hx; have HB2 := Aside0.mk hb2; have CX : Aside0 (Kd.C k29 w2 Ax P.length (P.map un29)) := Aside0.mk (by obtain ⟨A9, c9, e9, _, h9⟩ := Kd.R_reads hx; simp only [List.length_map] at e9 h9; cases e9; exact h9); clear hx hb2))
        | (go_at_call 14; ((with_reducible refine (HN.out w2 HB2.out Ax cx CX.out).mono ?_); rintro e w4 ⟨rfl, hn4, hs4⟩; have HK := Aside0.mk (HI.out.toAK HB2.out HX.out hn4 hs4); clear hn4 hs4))
        | ((with_reducible refine gate_builtin (b := .append) (xs := #[.tmp 41, .tmp 43]) rfl ?_); at_builtin; (refine Kd.R_append (Kd.slice 29 k29) (w0 := w4) (W := w4) w.heap.size rfl (.tmp 41) (.tmp 43) 36 45 (.slice none 0 0) 24 rfl Tryd.underlying36 info45c rfl (by decide) (by decide) u4 (E.map (List.map un29)) (P.map un29) [.slice Ax P.length cx] (okX wr w2 w4 okE) (fun k => wr.heap.size ≤ k ∧ k < w2.heap.size) rfl rfl ⟨_, rfl, HK.out.x⟩ (fun k hk => ⟨.inr (.inl hk), fun he => by have h9 := HK.out.bE k (HK.out.ev.1 k he.symm); omega⟩) (fun k hk => .inr (.inr hk)) (Kd.R_mono HK.out.ev (fun k hk => .inl hk)) (Below.refl _ _) HK.out.below.size (by rw [List.length_map]; omega) ?_); intro v2 w5 ho hbel hg5 hat; have HJ := Aside0.mk (HK.out.toAJ ho hbel hg5); clear ho hbel hg5 hat))
      go_roundg (m - (j + 1))
      case measure => omega
      case rel => exact ⟨j + 1, L', E ++ [P], _, _, rfl, by omega, Nat.le_refl _, by rw [List.length_append]; simp; omega, HJ, HLA⟩
    · have hj : j = m := by omega
      subst hj
      have LL := Aside0.mk (listNBP w.heap.size F wr w.heap.size L HI.out.nb j 6 (by omega) (by decide) HL.out.1)
      obtain ⟨Ae, ce, rfl, hce, hCe⟩ := Kd.R_reads HI.out.ev
      rw [List.length_map] at hCe hce
      have HCE := Aside0.mk hCe
      clear hCe
      go_upto_region 12 with (go_at_call 21; ((with_reducible refine LL.out.mono ?_); rintro e w2 ⟨Al, cl, rfl, hcl, hCl, hb2⟩; have HCL := Aside0.mk hCl; have HB2 := Aside0.mk hb2; clear hCl hb2))
      have bx := Aside0.mk (blk_new w2 (.cells #[.func (.func 32) #[] #[]] 83 (0, 0)))
      have BW : Aside0 (Below w2.heap.size w2 (w2.alloc (.cells #[.func (.func 32) #[] #[]] 83 (0, 0)))) := Aside0.mk (below_alloc (Below.refl _ _) _)
      have hLn : L.length ≤ 20 := by have := HL.out.1.len; omega
      have hEn : E.length ≤ 20 := by omega
      generalize w2.alloc (.cells #[.func (.func 32) #[] #[]] 83 (0, 0)) = W0 at bx BW ⊢
      have HB0 : Aside0 (Below w.heap.size w W0) := Aside0.mk (below_step (below_step HI.out.below HB2.out) BW.out)
      have CL0 := Aside0.mk (Kd.C_below HCL.out BW.out)
      have CE0 := Aside0.mk (Kd.C_below (Kd.C_below HCE.out HB2.out) BW.out)
      have hLl : (L.map (List.map un29)).length = L.length := List.length_map _
      have hEE : (E.map (List.map un29)).length = E.length := List.length_map _
      clear HCL HCE LL
      go_wp2_with fail
      go_loopg [11, 12, 13, 14, 50] L.length (fun kx s11 s12 s13 s14 s50 wr => ∃ i : Nat, s50 = .int .i64 i ∧ i ≤ L.length ∧ L.length - i ≤ kx ∧ Aside0 (Below W0.heap.size W0 wr))
      case atStart => exact ⟨0, rfl, Nat.zero_le _, by omega, Aside0.mk (Below.refl _ _)⟩
      case round =>
        obtain ⟨i, rfl, hil, hgi, HW⟩ := hrel
        by_cases hlt : i < L.length
        · obtain ⟨b2, o2, rfl, hrow⟩ := rowsP CL0.out (by omega)
          have ROW := Aside0.mk hrow
          obtain ⟨Ai, ci, e0, hCi, _⟩ := hrow wr HW.out i hlt
          have AP := Aside0.mk (fun k (hk : k < L.length) (hne : i ≠ k) => HL.out.2.1.ne i k hlt hk hne)
          have LI := Aside0.mk (HL.out.1.short L[i] (List.getElem_mem hlt))
          have CI := Aside0.mk hCi
          have BI := Aside0.mk HW.out
          clear hrow hCi
          generalize L[i] = xi at e0 AP LI CI
          go_wp2_with fail
          go_loopg [13, 14, 57] L.length (fun kx s13 s14 s57 wq => ∃ k : Nat, s57 = .int .i64 k ∧ k ≤ L.length ∧ L.length - k ≤ kx ∧ Aside0 (Below W0.heap.size W0 wq ∧ Kd.C k29 wq Ai xi.length (xi.map un29)))
          case atStart => exact ⟨0, rfl, Nat.zero_le _, by omega, Aside0.mk ⟨BI.out, CI.out⟩⟩
          case round =>
            obtain ⟨k, rfl, hkl, hgk, HQ⟩ := hrel
            by_cases hlk : k < L.length
            · obtain ⟨Ak, ck, f0, hCk, _⟩ := ROW.out wr HQ.out.1 k hlk
              have LK := Aside0.mk (HL.out.1.short L[k] (List.getElem_mem hlk))
              have APK := Aside0.mk (AP.out k hlk)
              have CK := Aside0.mk hCk
              clear hCk
              generalize L[k] = xk at f0 LK APK CK
              by_cases hik : i = k
              · subst hik
                have ht : ((i : Int) != (i : Int)) = false := by simp
                go_wp2_with fail
                go_roundg (L.length - (i + 1))
                case measure => omega
                case rel => exact ⟨i + 1, rfl, by omega, Nat.le_refl _, HQ⟩
              · have ht : ((i : Int) != (k : Int)) = true := by simp; omega
                have g0 : wr.cell? ⟨w2.heap.size, 0, none⟩ = some (.func (.func 32) #[] #[]) := blk_cell ((HQ.out.1.block _ (blk_lt bx.out)).trans bx.out) 0
                have HI9 := inAP Ai ci xi Ak ck xk wr HQ.out.2 (by have := LI.out; omega) CK.out (by have := LK.out; omega)
                rw [APK.out hik] at HI9
                have HIA := Aside0.mk HI9
                clear HI9
                go_wp2_with (go_at_call 32; ((with_reducible refine HIA.out.mono ?_); rintro e w5 ⟨rfl, hb5⟩; have HQ5 := Aside0.mk (And.intro (below_step HQ.out.1 hb5) (Kd.C_below HQ.out.2 hb5)); clear hb5))
                go_roundg (L.length - (k + 1))
                case measure => omega
                case rel => exact ⟨k + 1, rfl, by omega, Nat.le_refl _, HQ5⟩
            · have hk : k = L.length := by omega
              subst hk
              go_wp2_with fail
              go_roundg (L.length - (i + 1))
              case measure => omega
              case rel => exact ⟨i + 1, rfl, by omega, Nat.le_refl _, Aside0.mk HQ.out.1⟩
        · have hi : i = L.length := by omega
          subst hi
          have HWE := Aside0.mk HW.out
          go_wp2_with fail
          go_loopg [16, 75] E.length (fun kx s16 s75 wz => ∃ i : Nat, s75 = .int .i64 i ∧ i ≤ E.length ∧ E.length - i ≤ kx ∧ Aside0 (Below W0.heap.size W0 wz))
          case atStart => exact ⟨0, rfl, Nat.zero_le _, by omega, HWE⟩
          case round =>
            obtain ⟨i, rfl, hil, hgi, HZ⟩ := hrel
            by_cases hlt : i < E.length
            · obtain ⟨b3, o3, rfl, hrow⟩ := rowsP CE0.out (by omega)
              obtain ⟨Ai, ci, e0, hCi, _⟩ := hrow wr HZ.out i hlt
              have LI := Aside0.mk (HL.out.2.2 E[i] (List.getElem_mem hlt))
              have HAS := Aside0.mk (HL.out.2.1.has E[i] (List.getElem_mem hlt))
              have CI := Aside0.mk hCi
              clear hrow hCi
              generalize E[i] = xi at e0 LI HAS CI
              have g0 : (wr.alloc (.cells #[.slice Ai xi.length ci] 45 (0, 0))).cell? ⟨w2.heap.size, 0, none⟩ = some (.func (.func 32) #[] #[]) := blk_cell (blk_alloc ((HZ.out.block _ (blk_lt bx.out)).trans bx.out) _) 0
              have HC9 := cont35P Al cl L j 6 (by omega) (by decide) HL.out.1 w2.heap.size wr.heap.size Ai ci xi (wr.alloc (.cells #[.slice Ai xi.length ci] 45 (0, 0))) g0 (blk_cell (blk_new wr _) 0) (Kd.C_below CL0.out (below_alloc HZ.out _)) (Kd.C_alloc CI.out _) (by have := LI.out; omega)
              rw [show (L.any fun y => inP y xi) = true from List.any_eq_true.2 (by obtain ⟨y, h1, h2⟩ := HAS.out; exact ⟨y, h1, h2⟩)] at HC9
              have HCC := Aside0.mk HC9
              clear HC9 g0
              go_wp2_with (go_at_call 24; ((with_reducible refine HCC.out.mono ?_); rintro e w5 ⟨rfl, hb5⟩; have HZ5 := Aside0.mk (below_step (below_alloc HZ.out _) hb5); clear hb5))
              go_roundg (E.length - (i + 1))
              case measure => omega
              case rel => exact ⟨i + 1, rfl, by omega, Nat.le_refl _, HZ5⟩
            · have hi : i = E.length := by omega
              subst hi
              have HBZ : Aside0 (Below w.heap.size w wr) := Aside0.mk (below_step HB0.out HZ.out)
              have T5 := Aside0.mk (HT.out.call HBZ.out)
              go_upto_region 30 with (go_at_call 30; ((with_reducible refine (ofW [1] wr _ _ (below_alloc (Below.refl _ _) _) (rdW1 wr) (T5.out.alloc _) of1 code1).mono ?_); rintro e w6 ⟨off1, X1, n1, x1, rfl, ⟨ws1, hx1⟩, hb6⟩; have R1 := Aside0.mk hx1; have B6 := Aside0.mk hb6; clear hx1 hb6))
              have bx6 : Aside0 ((w6.alloc (.cells #[.int .i64 off1, .slice X1 n1 x1, .int .i64 1, .int .i64 1, .int .i64 1] 62 (0, 0))).heap.size = w6.heap.size + 1) := Aside0.mk (by simp)
              have R16 := Aside0.mk (R1.out.call (below_alloc (Below.refl _ _) (.cells #[.int .i64 off1, .slice X1 n1 x1, .int .i64 1, .int .i64 1, .int .i64 1] 62 (0, 0))))
              have BY := Aside0.mk (blk_new w6 (.cells #[.int .i64 off1, .slice X1 n1 x1, .int .i64 1, .int .i64 1, .int .i64 1] 62 (0, 0)))
              have BZ := Aside0.mk (below_alloc (below_step HBZ.out B6.out) (.cells #[.int .i64 off1, .slice X1 n1 x1, .int .i64 1, .int .i64 1, .int .i64 1] 62 (0, 0)))
              generalize w6.alloc (.cells #[.int .i64 off1, .slice X1 n1 x1, .int .i64 1, .int .i64 1, .int .i64 1] 62 (0, 0)) = W7 at *
              have a0 : W7.cell? ⟨w6.heap.size, 0, none⟩ = some (.int .i64 off1) := blk_cell BY.out 0
              have a1 : W7.cell? ⟨w6.heap.size, 1, none⟩ = some (.slice X1 n1 x1) := blk_cell BY.out 1
              have a2 : W7.cell? ⟨w6.heap.size, 2, none⟩ = some (.int .i64 1) := blk_cell BY.out 2
              have a3 : W7.cell? ⟨w6.heap.size, 3, none⟩ = some (.int .i64 1) := blk_cell BY.out 3
              have a4 : W7.cell? ⟨w6.heap.size, 4, none⟩ = some (.int .i64 1) := blk_cell BY.out 4
              go_wp2_with (first
                | (go_at_call 17; ((with_reducible refine (nilFilt _ 1 _ (drow1 W7 R16.out)).mono ?_); rintro e w8 ⟨A8, c8, rfl, hb8⟩; have B8 : Aside0 (Below w.heap.size w w8) := Aside0.mk (below_step (below_alloc BZ.out _) hb8); clear hb8))
                | (go_at_call 8; ((with_reducible refine (wakes_ok w8 (HT.out.call B8.out)).mono ?_); rintro e w9 ⟨rfl, hb9⟩; have B9 : Aside0 (Below w.heap.size w w9) := Aside0.mk (below_step B8.out hb9); clear hb9))
                | (go_at_call 14; ((with_reducible refine (nilAdd w9).mono ?_); rintro e w10 ⟨rfl, hb10⟩; have B10 : Aside0 (Below w.heap.size w w10) := Aside0.mk (below_step B9.out hb10); clear hb10))
                | (go_at_call 22; ((with_reducible refine (nilLen w10).mono ?_); rintro e w11 ⟨rfl, rfl⟩))
                | (go_at_call 21; ((with_reducible refine (nilList _).mono ?_); rintro e w12 ⟨rfl, rfl⟩)))
              go_ret
              exact ⟨rfl, B10.out⟩
end Go.Proofs.YtgckohmppefibaaDoorX.Hz
