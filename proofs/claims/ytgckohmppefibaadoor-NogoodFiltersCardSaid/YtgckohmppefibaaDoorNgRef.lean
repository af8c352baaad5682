import Derived.Test.YtgckohmppefibaaDoorHzx6
import Derived.Test.YtgckohmppefibaaDoorNgBase
namespace Go.Proofs.YtgckohmppefibaaDoorX.Hz
open Go.RowKit Go.Proofs.YtgckohmppefibaaDoorW.PrintWords Go.Proofs.YtgckohmppefibaaDoorW.PrintLast Go.Proofs.YtgckohmppefibaaDoorW.PrintMore
attribute [local go_sem] max2_int min2_int max_two min_two max_three min_three max_four min_four
set_option linter.unusedVariables false
set_option linter.unusedSimpArgs false
attribute [local go_sem] Go.Proofs.YtgckohmppefibaaDoor.Hook.cell_two
theorem rawR {w : World} {A : Option Addr} {L : List (List S84)} (h : Kd.C (Kd.slice 84 k84) w A L.length L) (hn : 0 < L.length) : ∃ b o, A = some ⟨b, o, none⟩ ∧ b < w.heap.size ∧ ∀ j (hj : j < L.length), ∃ Aj cj, w.cell? ⟨b, o + j, none⟩ = some (.slice Aj L[j].length cj) ∧ L[j].length ≤ cj ∧ Kd.C k84 w Aj L[j].length L[j] := by
  obtain ⟨ad, hA, hc⟩ := h.2.2 hn
  have get : ∀ j (hj : j < L.length), ∃ Aj cj, w.cell? (ad.add j) = some (.slice Aj L[j].length cj) ∧ L[j].length ≤ cj ∧ Kd.C k84 w Aj L[j].length L[j] := by
    intro j hj
    obtain ⟨c, _, hK, hcell⟩ := hc j L[j] (List.getElem?_eq_getElem hj)
    obtain ⟨Aj, cj, rfl, h1, h2⟩ := hK
    have h3 := hcell 0 _ rfl
    have e : j * (Kd.slice 84 k84).sz + 0 = j := Nat.mul_one j
    rw [e] at h3
    exact ⟨Aj, cj, h3, h1, h2⟩
  obtain ⟨b, o, sp⟩ := ad
  obtain ⟨_, _, h0, _, _⟩ := get 0 hn
  have hsp : sp = none := by
    cases sp with
    | none => rfl
    | some x =>
      exfalso
      simp only [World.cell?, Addr.add] at h0
      simp at h0
      split at h0 <;> cases h0
  subst hsp
  have e : ∀ m, (⟨b, o, none⟩ : Addr).add m = ⟨b, o + m, none⟩ := by intro m; unfold Addr.add; split <;> simp_all
  rw [e] at h0
  refine ⟨b, o, hA, World.block_lt_of_cell? w _ h0, fun j hj => ?_⟩
  have h1 := get j hj
  rw [e] at h1
  exact h1
theorem info46c : (Tryd.prog.info? 46).map (fun i => (i.zero, i.size, i.bytes)) = some (some (.slice none 0 0), 1, 24) := by kernel_rfl
/-- What the document's Add leaves. -/
def addR (W : List S84 → List S84 → Bool) (r : List (List S84)) (n : List S84) : List (List S84) × Bool :=
  if r.any (fun x => W x n) then (r, false) else ((r.filter fun x => !W n x) ++ [n], true)
/-- What a call of the document's Add leaves. -/
def RP (okr : Nat → Prop) (q : List (List S84) × Bool) (w : World) (e : Ending) (w' : World) : Prop := ∃ A' c', e = .returned (.tuple #[.slice A' q.1.length c', .bool q.2]) ∧ Kd.F (Kd.slice 84 k84) w' (fun k => okr k ∨ w.heap.size ≤ k) A' q.1.length q.1 ∧ q.1.length ≤ c' ∧ Below w.heap.size w w'
set_option maxHeartbeats 4000000 in
set_option maxRecDepth 100000 in
theorem refAdd0 (A : Option Addr) (c : Nat) (Ay : Option Addr) (cy : Nat) (y : List S84) (okr : Nat → Prop) (w : World) (hy : Kd.C k84 w Ay y.length y) (hcy : y.length ≤ cy) (n : List S84) (W : List S84 → List S84 → Bool) (k : Nat) (hM : jigsawref24_Made.f k y = some n) :
    Calls Tryd.prog 15 #[.slice A 0 c, .slice Ay y.length cy] w (RP okr (addR W [] n) w) := by
  have HM := Aside0.mk (jigsawref24_Made.calls k Ay cy y n w hy hcy hM)
  clear hy hM
  go_enter Tryd.func15, Tryd.ntmps15
  go_upto_region 2 with (go_at_call 39; ((with_reducible refine HM.out.mono ?_); rintro e w1 ⟨v0, rfl, hn, hb⟩; obtain ⟨An, cn, rfl⟩ := Kd.R_slice hn; have HN := Aside0.mk hn; have HB := Aside0.mk hb; clear hn hb))
  go_wp2_with fail
  refine wp_loop_rounds 1 ?_
  rw [rounds_succ]
  go_wp2_with fail
  refine wp_loop_rounds 1 ?_
  rw [rounds_succ]
  have m1 : Kd.FK (Kd.slice 84 k84) w1 (fun k => w.heap.size ≤ k) n [.slice An n.length cn] := Kd.FK_of_M (d := Kd.slice 84 k84) (base := w.heap.size) ⟨_, rfl, Kd.R_mono (Kd.R_bound HN.out) (fun k hk => hk.2.1)⟩
  go_wp2_with ((with_reducible refine gate_builtin (b := .append) (xs := #[.tmp 49, .tmp 51]) rfl ?_); at_builtin; (refine Kd.N_append (Kd.slice 84 k84) (w0 := w) (W := w1) w.heap.size rfl (.tmp 49) (.tmp 51) 38 46 (.slice none 0 0) 24 rfl Tryd.underlying38 info46c rfl (by decide) (by decide) (.slice none 0 0) [] n [.slice An n.length cn] (fun k => w.heap.size ≤ k) (fun k => w.heap.size ≤ k) rfl rfl m1 (fun k hk => ⟨hk, fun he => by cases he⟩) (fun k hk => Nat.le_trans HB.out.size hk) (Kd.N_nil _ _ _ _ _) HB.out HB.out.size (by decide) ?_); intro v1 w2 ho hbel hg hat; obtain ⟨A4, c4, rfl⟩ := Kd.N_slice ho; have HO := Aside0.mk ho; have HBB := Aside0.mk hbel; clear ho hbel hg hat)
  go_ret2
  have hq := Kd.N_reads' HO.out
  exact ⟨A4, c4, rfl, Kd.F_mono (Kd.N_F HO.out) (fun k hk => .inr hk), hq.2.1, HBB.out⟩
theorem rowF {w : World} {okr : Nat → Prop} {b o : Nat} {r : List (List S84)} (hF : Kd.F (Kd.slice 84 k84) w okr (some ⟨b, o, none⟩) r.length r) (wr : World) (hb : Below w.heap.size w wr) (j : Nat) (hj : j < r.length) :
    ∃ Aj cj, wr.cell? ⟨b, o + j, none⟩ = some (.slice Aj r[j].length cj) ∧ r[j].length ≤ cj ∧ Kd.C k84 wr Aj r[j].length r[j] ∧ Kd.FK (Kd.slice 84 k84) wr (fun k => okr k ∧ k < w.heap.size) r[j] [.slice Aj r[j].length cj] := by
  have h2 := Kd.F_below (Kd.F_bound hF) hb
  obtain ⟨ad, c, e, hcl, hK, hcc, _⟩ := Kd.F_get h2 [] (j : Int) (by omega) (by omega)
  cases e
  simp only [Int.toNat_natCast] at hK hcc
  have ej : r.getD j [] = r[j] := by rw [List.getD_eq_getElem?_getD, List.getElem?_eq_getElem hj]; rfl
  rw [ej] at hK
  obtain ⟨Aj, cj, rfl, hle, hC⟩ := Kd.FK_now hK
  have h3 := hcc 0 _ rfl
  have e9 : ∀ m, (⟨b, o, none⟩ : Addr).add m = ⟨b, o + m, none⟩ := by intro m; unfold Addr.add; split <;> simp_all
  have e : j * (Kd.slice 84 k84).sz + 0 = j := Nat.mul_one j
  rw [e, e9] at h3
  exact ⟨Aj, cj, h3, hle, hC, hK⟩
set_option maxHeartbeats 4000000 in
set_option maxRecDepth 100000 in
theorem refAdd1 (b o c : Nat) (r : List (List S84)) (Ay : Option Addr) (cy : Nat) (y : List S84) (okr : Nat → Prop) (w : World) (hF : Kd.F (Kd.slice 84 k84) w okr (some ⟨b, o, none⟩) r.length r) (hcr : r.length ≤ c) (hrb : r.length ≤ 1000000) (hy : Kd.C k84 w Ay y.length y) (hcy : y.length ≤ cy) (n : List S84) (W : List S84 → List S84 → Bool) (k : Nat) (hM : jigsawref24_Made.f k y = some n) (hn0 : 0 < r.length)
    (h1 : ∀ x ∈ r, jigsawref24_Within.f k x n = some (W x n)) (h2 : ∀ x ∈ r, jigsawref24_Within.f k n x = some (W n x)) :
    Calls Tryd.prog 15 #[.slice (some ⟨b, o, none⟩) r.length c, .slice Ay y.length cy] w (RP okr (addR W r n) w) := by
  have HM := Aside0.mk (jigsawref24_Made.calls k Ay cy y n w hy hcy hM)
  have RA := Aside0.mk (fun wr hb j hj => rowF hF wr hb j hj)
  have HF := Aside0.mk hF
  have PL := Aside0.mk (fun j (hj : j < r.length) => (List.take_succ_eq_append_getElem hj))
  have H1 := Aside0.mk (fun j (hj : j < r.length) => h1 _ (List.getElem_mem hj))
  have H2 := Aside0.mk (fun j (hj : j < r.length) => h2 _ (List.getElem_mem hj))
  clear hy hM hF h1 h2
  go_enter Tryd.func15, Tryd.ntmps15
  go_upto_region 2 with (go_at_call 39; ((with_reducible refine HM.out.mono ?_); rintro e w1 ⟨v0, rfl, hn, hb⟩; obtain ⟨An, cn, e9, hcn, hCn⟩ := Kd.R_reads hn; subst e9; have HN := Aside0.mk hn; have HB := Aside0.mk hb; have CN := Aside0.mk (fun wr (h : Below w1.heap.size w1 wr) => Kd.C_below hCn h); clear hn hb hCn))
  have NR : Aside0 (∀ wr, Below w1.heap.size w1 wr → Kd.FK (Kd.slice 84 k84) wr (fun k => w.heap.size ≤ k ∧ k < w1.heap.size) n [.slice An n.length cn]) := Aside0.mk (fun wr hb => Kd.FK_of_M (d := Kd.slice 84 k84) (base := w.heap.size) ⟨_, rfl, Kd.R_below (Kd.R_mono (Kd.R_bound HN.out) (fun k hk => ⟨hk.2.1, hk.2.2.1⟩)) hb⟩)
  go_wp2_with fail
  go_loopg [7, 8] r.length (fun kx s7 s8 wr => ∃ j : Nat, s7 = .int .i64 j ∧ j ≤ r.length ∧ r.length - j ≤ kx ∧ Aside0 (Below w1.heap.size w1 wr) ∧ Aside0 ((r.take j).any (fun x => W x n) = false))
  case atStart => exact ⟨0, rfl, Nat.zero_le _, by omega, Aside0.mk (Below.refl _ _), Aside0.mk (by simp)⟩
  case round =>
    obtain ⟨j, rfl, hjn, hg, HW, HI⟩ := hrel
    by_cases hlt : j < r.length
    · obtain ⟨Aj, cj, e0, e1, e2, _⟩ := RA.out wr (below_step HB.out HW.out) j hlt
      have hw := jigsawref24_Within.calls k Aj cj r[j] An cn n _ wr e2 e1 (CN.out wr HW.out) hcn (H1.out j hlt)
      have X := Aside0.mk (PL.out j hlt)
      have XM := Aside0.mk (List.getElem_mem hlt)
      clear e1 e2
      generalize r[j] = x at e0 hw X XM
      have HWI := Aside0.mk hw
      clear hw
      cases hp : W x n with
      | true =>
        rw [hp] at HWI
        have ha : addR W r n = (r, false) := by unfold addR; rw [if_pos (List.any_eq_true.2 ⟨x, XM.out, hp⟩)]
        have HA := Aside0.mk ha
        clear ha hp
        go_wp2_with (go_at_call 44; ((with_reducible refine HWI.out.mono ?_); rintro e w2 ⟨rfl, hb2⟩; have HB2 := Aside0.mk (below_step HW.out hb2); clear hb2))
        go_ret2
        unfold RP
        rw [HA.out]
        exact ⟨some ⟨b, o, none⟩, c, rfl, Kd.F_below (Kd.F_mono HF.out (fun k hk => .inl hk)) (below_step HB.out HB2.out), hcr, below_step HB.out HB2.out⟩
      | false =>
        rw [hp] at HWI
        have HH : Aside0 ((r.take (j + 1)).any (fun x => W x n) = false) := Aside0.mk (by rw [X.out, List.any_append, HI.out]; simp [hp])
        clear hp
        go_wp2_with (go_at_call 44; ((with_reducible refine HWI.out.mono ?_); rintro e w2 ⟨rfl, hb2⟩; have HB2 := Aside0.mk (below_step HW.out hb2); clear hb2))
        go_roundg (r.length - (j + 1))
        case measure => omega
        case rel => exact ⟨j + 1, rfl, by omega, Nat.le_refl _, HB2, HH⟩
    · have hj : j = r.length := by omega
      subst hj
      have ha : addR W r n = ((r.filter fun x => !W n x) ++ [n], true) := by
        have := HI.out
        rw [List.take_length] at this
        unfold addR
        rw [if_neg (by rw [this]; decide)]
      have HA := Aside0.mk ha
      clear ha
      go_wp2_with fail
      go_loopg [9, 10, 11] r.length (fun kx s9 s10 s11 wx => ∃ j : Nat, s10 = .int .i64 j ∧ j ≤ r.length ∧ r.length - j ≤ kx ∧ Aside0 (Below w1.heap.size w1 wx) ∧ Aside0 (Kd.N (Kd.slice 84 k84) 46 wx w1.heap.size (fun k => okr k ∨ w.heap.size ≤ k) s9 ((r.take j).filter fun x => !W n x)))
      case atStart => exact ⟨0, rfl, Nat.zero_le _, by omega, HW, Aside0.mk (Kd.N_nil _ _ _ _ _)⟩
      case round =>
        obtain ⟨j, rfl, hjn, hg, HX, HO⟩ := hrel
        by_cases hlt : j < r.length
        · obtain ⟨Aj, cj, e0, e1, e2, _⟩ := RA.out wr (below_step HB.out HX.out) j hlt
          have hw := jigsawref24_Within.calls k An cn n Aj cj r[j] _ wr (CN.out wr HX.out) hcn e2 e1 (H2.out j hlt)
          have X := Aside0.mk (PL.out j hlt)
          have CE := Aside0.mk (fun wy (hb : Below wr.heap.size wr wy) => (hb.cell (p := ⟨b, o + j, none⟩) (World.block_lt_of_cell? _ _ e0)).trans e0)
          have RJ := Aside0.mk (fun wy (hb : Below wr.heap.size wr wy) => (RA.out wy (below_step (below_step HB.out HX.out) hb) j hlt))
          clear e1 e2
          generalize r[j] = x at e0 hw X CE RJ
          have HWI := Aside0.mk hw
          clear hw
          cases hp : W n x with
          | true =>
            rw [hp] at HWI
            have HH : Aside0 ((r.take (j + 1)).filter (fun x => !W n x) = (r.take j).filter (fun x => !W n x)) := Aside0.mk (by rw [X.out, List.filter_append]; simp [hp])
            clear hp
            go_wp2_with (go_at_call 44; ((with_reducible refine HWI.out.mono ?_); rintro e w2 ⟨rfl, hb2⟩; have HB2 := Aside0.mk hb2; clear hb2))
            go_roundg (r.length - (j + 1))
            case measure => omega
            case rel => exact ⟨j + 1, rfl, by omega, Nat.le_refl _, Aside0.mk (below_step HX.out HB2.out), Aside0.mk (by rw [HH.out]; exact Kd.N_below HO.out HB2.out)⟩
          | false =>
            rw [hp] at HWI
            have HH : Aside0 ((r.take (j + 1)).filter (fun x => !W n x) = (r.take j).filter (fun x => !W n x) ++ [x]) := Aside0.mk (by rw [X.out, List.filter_append]; simp [hp])
            clear hp
            go_wp2_with (first
              | (go_at_call 44; ((with_reducible refine HWI.out.mono ?_); rintro e w2 ⟨rfl, hb2⟩; have e0 := CE.out w2 hb2; have HB2 := Aside0.mk hb2; have HFK : Aside0 (Kd.FK (Kd.slice 84 k84) w2 (fun k => okr k ∧ k < w.heap.size) x [.slice Aj x.length cj]) := Aside0.mk (by obtain ⟨A9, c9, q1, _, _, q2⟩ := RJ.out w2 hb2; rw [e0] at q1; cases q1; exact q2); clear hb2))
              | ((with_reducible refine gate_builtin (b := .append) (xs := #[.tmp 42, .tmp 47]) rfl ?_); at_builtin; (refine Kd.N_append (Kd.slice 84 k84) (w0 := w1) (W := w2) w1.heap.size rfl (.tmp 42) (.tmp 47) 38 46 (.slice none 0 0) 24 rfl Tryd.underlying38 info46c rfl (by decide) (by decide) u9 ((r.take j).filter fun x => !W n x) x [.slice Aj x.length cj] (fun k => okr k ∨ w.heap.size ≤ k) (fun k => okr k ∧ k < w.heap.size) rfl rfl HFK.out (fun k hk => ⟨.inl hk.1, fun he => by have h9 := Kd.N_base HO.out k he.symm; have h8 := HB.out.size; have h7 := hk.2; omega⟩) (fun k hk => .inr (by have h8 := HB.out.size; have h7 := (below_step HX.out HB2.out).size; omega)) (Kd.N_below HO.out HB2.out) (below_step HX.out HB2.out) (below_step HX.out HB2.out).size (by have h6 : ((r.take j).filter fun x => !W n x).length ≤ r.length := Nat.le_trans (List.length_filter_le _ _) (by rw [List.length_take]; omega); omega) ?_); intro v1 w3 ho hbel hg hat; have HO2 := Aside0.mk ho; have HBB := Aside0.mk hbel; clear ho hbel hg hat))
            go_roundg (r.length - (j + 1))
            case measure => omega
            case rel => exact ⟨j + 1, rfl, by omega, Nat.le_refl _, HBB, Aside0.mk (by rw [HH.out]; exact HO2.out)⟩
        · have hj : j = r.length := by omega
          subst hj
          have HO9 : Aside0 (Kd.N (Kd.slice 84 k84) 46 wr w1.heap.size (fun k => okr k ∨ w.heap.size ≤ k) u9 (r.filter fun x => !W n x)) := Aside0.mk (by have := HO.out; rwa [List.take_length] at this)
          go_wp2_with ((with_reducible refine gate_builtin (b := .append) (xs := #[.tmp 49, .tmp 51]) rfl ?_); at_builtin; (refine Kd.N_append (Kd.slice 84 k84) (w0 := w1) (W := wr) w1.heap.size rfl (.tmp 49) (.tmp 51) 38 46 (.slice none 0 0) 24 rfl Tryd.underlying38 info46c rfl (by decide) (by decide) u9 (r.filter fun x => !W n x) n [.slice An n.length cn] (fun k => okr k ∨ w.heap.size ≤ k) (fun k => w.heap.size ≤ k ∧ k < w1.heap.size) rfl rfl (NR.out wr HX.out) (fun k hk => ⟨.inr hk.1, fun he => by have h9 := Kd.N_base HO9.out k he.symm; have h7 := hk.2; omega⟩) (fun k hk => .inr (by have h8 := HB.out.size; have h7 := HX.out.size; omega)) HO9.out HX.out HX.out.size (by have h6 : (r.filter fun x => !W n x).length ≤ r.length := List.length_filter_le _ _; omega) ?_); intro v1 w3 ho hbel hg hat; obtain ⟨A4, c4, rfl⟩ := Kd.N_slice ho; have HO2 := Aside0.mk ho; have HBB := Aside0.mk hbel; clear ho hbel hg hat)
          go_ret2
          have hq := Kd.N_reads' HO2.out
          unfold RP
          rw [HA.out]
          refine ⟨A4, c4, by simp, ?_, hq.2.1, below_step HB.out HBB.out⟩
          have := Kd.N_F HO2.out
          rw [hq.1] at this
          exact this
theorem refAdd (A : Option Addr) (c : Nat) (r : List (List S84)) (Ay : Option Addr) (cy : Nat) (y : List S84) (okr : Nat → Prop) (w : World) (hF : Kd.F (Kd.slice 84 k84) w okr A r.length r) (hcr : r.length ≤ c) (hrb : r.length ≤ 1000000) (hy : Kd.C k84 w Ay y.length y) (hcy : y.length ≤ cy) (n : List S84) (W : List S84 → List S84 → Bool) (k : Nat) (hM : jigsawref24_Made.f k y = some n)
    (h1 : ∀ x ∈ r, jigsawref24_Within.f k x n = some (W x n)) (h2 : ∀ x ∈ r, jigsawref24_Within.f k n x = some (W n x)) :
    Calls Tryd.prog 15 #[.slice A r.length c, .slice Ay y.length cy] w (RP okr (addR W r n) w) := by
  rcases Nat.eq_zero_or_pos r.length with h0 | hn
  · have e0 : r = [] := List.eq_nil_of_length_eq_zero h0
    subst e0
    exact refAdd0 A c Ay cy y okr w hy hcy n W k hM
  · obtain ⟨b, o, rfl, _, _⟩ := rawR (Kd.F_now hF) hn
    exact refAdd1 b o c r Ay cy y okr w hF hcr hrb hy hcy n W k hM hn h1 h2
end Go.Proofs.YtgckohmppefibaaDoorX.Hz
