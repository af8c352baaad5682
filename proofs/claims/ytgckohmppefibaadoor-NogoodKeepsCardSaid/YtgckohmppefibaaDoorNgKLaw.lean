import Derived.Test.YtgckohmppefibaaDoorNgKB
import Derived.Test.YtgckohmppefibaaDoorDomQ
namespace Go.Proofs.YtgckohmppefibaaDoorX.Hz
open Go.RowKit Go.Proofs.YtgckohmppefibaaDoorW.PrintWords Go.Proofs.YtgckohmppefibaaDoorW.PrintLast Go.Proofs.YtgckohmppefibaaDoorW.PrintMore
attribute [local go_sem] max2_int min2_int max_two min_two max_three min_three max_four min_four
set_option linter.unusedVariables false
set_option linter.unusedSimpArgs false
attribute [local go_sem] Go.Proofs.YtgckohmppefibaaDoor.Hook.cell_two
/-- What NogoodKeeps' first loop holds: the base at g, the cell at gc that leads to it. -/
structure KI (w0 : World) (gc g : Nat) (wr : World) (L : List (List (Int × Int))) (F : Nat → Prop) : Prop where
  below : Below w0.heap.size w0 wr
  nb : NB w0.heap.size F wr g (L.map (List.map un29))
  bF : ∀ k, F k → k < wr.heap.size
  nc : ¬ F gc
  blk : wr.heap[gc]? = some (.cells #[.pointer (some ⟨g, 0, none⟩)] 43 (0, 0))
theorem KI.cell {w0 : World} {gc g : Nat} {wr : World} {L : List (List (Int × Int))} {F : Nat → Prop} (h : KI w0 gc g wr L F) : wr.cell? ⟨gc, 0, none⟩ = some (.pointer (some ⟨g, 0, none⟩)) := blk_cell h.blk 0
theorem KI.step {w0 : World} {gc g : Nat} {wr w1 : World} {L : List (List (Int × Int))} {F : Nat → Prop} (h : KI w0 gc g wr L F) (hb : Below wr.heap.size wr w1) : KI w0 gc g w1 L F :=
  ⟨below_step h.below hb, h.nb.below hb, fun k hk => Nat.lt_of_lt_of_le (h.bF k hk) hb.size, h.nc, (hb.block gc (blk_lt h.blk)).trans h.blk⟩
theorem KI.added {w0 : World} {gc g : Nat} {wr w2 w3 : World} {L L' : List (List (Int × Int))} {F : Nat → Prop} (h : KI w0 gc g wr L F) (hb2 : Below wr.heap.size wr w2) (hN : NB w0.heap.size (fun k => F k ∨ w2.heap.size ≤ k) w3 g (L'.map (List.map un29))) (hS : Stay w0.heap.size F w2 w3) :
    KI w0 gc g w3 L' (fun k => (F k ∨ w2.heap.size ≤ k) ∧ k < w3.heap.size) := by
  have hlt := blk_lt h.blk
  have hs := hb2.size
  refine ⟨(below_step h.below hb2).trans hS.1, hN.bound, fun k hk => hk.2, ?_, (hS.2.2 gc (by omega) h.nc).trans ((hb2.block gc hlt).trans h.blk)⟩
  rintro ⟨hk | hk, _⟩
  · exact h.nc hk
  · omega
theorem KI.start (w : World) : KI w (w.heap.size + 1) w.heap.size ((w.alloc (.cells #[.slice none 0 0] 88 (0, 0))).alloc (.cells #[.pointer (some ⟨w.heap.size, 0, none⟩)] 43 (0, 0))) [] (fun k => w.heap.size ≤ k ∧ k < (w.alloc (.cells #[.slice none 0 0] 88 (0, 0))).heap.size) := by
  have e : (w.alloc (.cells #[.slice none 0 0] 88 (0, 0))).heap.size = w.heap.size + 1 := by simp
  refine ⟨below_alloc (below_alloc (Below.refl _ _) _) _, ((NB.new w).bound).below (below_alloc (Below.refl _ _) _), fun k hk => ?_, ?_, ?_⟩
  · have := hk.2; rw [e] at this; simp; omega
  · rintro ⟨_, hk⟩; rw [e] at hk; omega
  · have := blk_new (w.alloc (.cells #[.slice none 0 0] 88 (0, 0))) (.cells #[.pointer (some ⟨w.heap.size, 0, none⟩)] 43 (0, 0))
    rw [e] at this
    exact this
/-- Filter, whatever it leaves. -/
def FQ (o : Option (List (List Int))) (n : Nat) (w : World) (e : Ending) (w' : World) : Prop := ∃ A' n' c', e = .returned (.tuple #[.slice A' n' c', .bool o.isSome]) ∧ Below w.heap.size w w' ∧ ∀ E, o = some E → n' = n ∧ E.length = n ∧ DRow w' A' E
theorem filterQ (base : Nat) (F : Nat → Prop) (g : Nat) (L : List (List (Int × Int))) (n most : Nat) (A : Option Addr) (c : Nat) (D : List (List Int)) (w : World) (hT : Go.Proofs.YtgckohmppefibaaDoor.Tab w) (hN : NB base F w g (L.map (List.map un29))) (hL : LOk L n most) (hn : n ≤ 100) (hm : most ≤ 100) (hD : DRow w A D) (hb : D.length ≤ 1000000) :
    Calls Tryd.prog 17 #[.pointer (some ⟨g, 0, none⟩), .slice A D.length c] w (FQ (fR L D) D.length w) := by
  have h := filterNB base F g (L.map (List.map un29)) A c D w hT hN (by rw [List.length_map]; have := hL.len; omega) (fun x hx => by obtain ⟨q, hq, rfl⟩ := List.mem_map.1 hx; have := hL.short q hq; rw [List.length_map]; omega) hD hb
  rw [filt_fR] at h
  refine h.mono ?_
  rintro e w' ⟨hb, hr⟩
  cases hf : fR L D with
  | none =>
    rw [hf] at hr
    exact ⟨_, _, _, hr, hb, fun E h => nomatch h⟩
  | some E =>
    rw [hf] at hr
    obtain ⟨A', c', rfl, hl, hor⟩ := hr
    refine ⟨_, _, _, rfl, hb, fun E2 h2 => ?_⟩
    cases h2
    refine ⟨rfl, hl, ?_⟩
    rcases hor with h | ⟨gd, rfl, h⟩
    · exact .inl h
    · exact h.row
theorem raw64s {w : World} {A : Option Addr} {L : List (List Int)} (h : Kd.C (Kd.slice 3 (Kd.int .i64)) w A L.length L) (hn : 0 < L.length) : ∃ b o, A = some ⟨b, o, none⟩ ∧ b < w.heap.size ∧ ∀ j (hj : j < L.length), ∃ Aj cj, w.cell? ⟨b, o + j, none⟩ = some (.slice Aj L[j].length cj) ∧ L[j].length ≤ cj ∧ Kd.C (Kd.int .i64) w Aj L[j].length L[j] := by
  obtain ⟨ad, hA, hc⟩ := h.2.2 hn
  have get : ∀ j (hj : j < L.length), ∃ Aj cj, w.cell? (ad.add j) = some (.slice Aj L[j].length cj) ∧ L[j].length ≤ cj ∧ Kd.C (Kd.int .i64) w Aj L[j].length L[j] := by
    intro j hj
    obtain ⟨c, _, hK, hcell⟩ := hc j L[j] (List.getElem?_eq_getElem hj)
    obtain ⟨Aj, cj, rfl, h1, h2⟩ := hK
    have h3 := hcell 0 _ rfl
    have e : j * (Kd.slice 3 (Kd.int .i64)).sz + 0 = j := Nat.mul_one j
    rw [e] at h3
    exact ⟨Aj, cj, h3, h1, h2⟩
  obtain ⟨b, o, sp⟩ := ad
  obtain ⟨_, _, h0, _, _⟩ := get 0 hn
  have hsp : sp = none := by
    cases sp with
    | none => rfl
    | some x =>
      exfalso
      simp only [World.cell?, Addr.add] at h0
      simp at h0
      split at h0 <;> cases h0
  subst hsp
  have e : ∀ m, (⟨b, o, none⟩ : Addr).add m = ⟨b, o + m, none⟩ := by intro m; unfold Addr.add; split <;> simp_all
  rw [e] at h0
  refine ⟨b, o, hA, World.block_lt_of_cell? w _ h0, fun j hj => ?_⟩
  have h1 := get j hj
  rw [e] at h1
  exact h1
theorem raw8u {w : World} {A : Option Addr} {l : List Int} (h : Kd.C (Kd.int .u8) w A l.length l) (hn : 0 < l.length) : ∃ b o, A = some ⟨b, o, none⟩ ∧ b < w.heap.size ∧ ∀ j (hj : j < l.length), w.cell? ⟨b, o + j, none⟩ = some (.int .u8 l[j]) := by
  obtain ⟨ad, hA, hc⟩ := h.2.2 hn
  have get : ∀ j (hj : j < l.length), w.cell? (ad.add j) = some (.int .u8 l[j]) := by
    intro j hj
    obtain ⟨c, _, hK, hcell⟩ := hc j l[j] (List.getElem?_eq_getElem hj)
    have hK' : c = [.int .u8 l[j]] := hK
    subst hK'
    have h3 := hcell 0 _ rfl
    have e : j * (Kd.int .u8).sz + 0 = j := Nat.mul_one j
    rw [e] at h3
    exact h3
  obtain ⟨b, o, sp⟩ := ad
  have h0 := get 0 hn
  have hsp : sp = none := by
    cases sp with
    | none => rfl
    | some x =>
      exfalso
      simp only [World.cell?, Addr.add] at h0
      simp at h0
      split at h0 <;> cases h0
  subst hsp
  have e : ∀ m, (⟨b, o, none⟩ : Addr).add m = ⟨b, o + m, none⟩ := by intro m; unfold Addr.add; split <;> simp_all
  rw [e] at h0
  refine ⟨b, o, hA, World.block_lt_of_cell? w _ h0, fun j hj => ?_⟩
  have h1 := get j hj
  rw [e] at h1
  exact h1
/-- Product, of a box of domains as the law makes them. -/
def PQ (D : List (List Int)) (w : World) (e : Ending) (w' : World) : Prop := ∃ A c R, e = .returned (.slice A R.length c) ∧ Kd.C (Kd.slice 3 (Kd.int .i64)) w' A R.length R ∧ (∀ row ∈ R, InB D row) ∧ Below w.heap.size w w'
theorem prodQ (A : Option Addr) (c : Nat) (D : List (List Int)) (ok : Nat → Prop) (w : World) (h : Kd.F kInts w ok A D.length D) (hc : D.length ≤ c) (hl : D.length ≤ 1000) (hx : ∀ x ∈ D, x.length ≤ 1000) :
    Calls Tryd.prog 28 #[.slice A D.length c, .int .i64 2000] w (PQ D w) := by
  obtain ⟨k, R, hR, hall⟩ := prod_rows D hl hx
  refine (jigsawref09_Product.calls k A c D 2000 R w (Kd.C_imp (d := kInts) (d' := Kd.slice 3 (Kd.int .i64)) rfl kInts_slice (F_C h)) hc hR).mono ?_
  rintro e w' ⟨v, rfl, hS, hb⟩
  obtain ⟨A', c', rfl, _, hC⟩ := Kd.N_reads (Kd.S_N hS)
  exact ⟨A', c', R, rfl, hC, hall, hb⟩
theorem de8_small {x : List Int} (h : Sm x) : (∀ v ∈ de8 x, -128 ≤ v ∧ v ≤ 127) ∧ (de8 x).Nodup := by
  constructor
  · intro v hv
    obtain ⟨u, hu, rfl⟩ := List.mem_map.1 (Go.Proofs.YtgckohmppefibaaDoor.Rf.of_mem hv)
    have := h u (List.mem_of_mem_take hu)
    unfold wrap64; omega
  · exact (Go.Proofs.YtgckohmppefibaaDoor.Rf.of_sorted _).imp (fun h => Int.ne_of_lt h)
theorem has_yes (d : Value) (l : List Int) (u : Int) (w : World) (h : Go.Proofs.YtgckohmppefibaaDoor.Dm.Rep w d l) (hu : u ∈ l) : Calls Tryd.prog 29 #[d, .int .i64 u] w fun e w' => e = .returned (.bool true) ∧ Below w.heap.size w w' := by
  have := Go.Proofs.YtgckohmppefibaaDoor.dom_has d l u w h
  rw [decide_eq_true hu] at this
  exact this
/-- The picked row's fixed values. -/
abbrev sg (x : Int) : List Int := [x]
abbrev K2 (w0 W : World) (row : List Int) (va vb : Value) (okA okB : Nat → Prop) : Prop := T2 kDm 62 (Kd.int .i64) 3 w0 W (row.map sg) row va vb okA okB
theorem fk_int (W : World) (ok : Nat → Prop) (v : Int) : Kd.FK (Kd.int .i64) W ok v [.int .i64 v] := fun _ _ => rfl
theorem rdV (w : World) (v : Int) : Go.Proofs.YtgckohmppefibaaDoor.Rd (w.alloc (.cells #[.int .i64 v] 3 (0, 0))) (.slice (some ⟨w.heap.size, 0, none⟩) 1 1) [v] := by
  refine ⟨⟨_, _, rfl⟩, by simp, fun A n c h => ?_, fun _ => ⟨w.heap.size, 0, 1, rfl, by simp, fun j hj => ?_⟩⟩
  · cases h; exact ⟨by omega, fun h => by cases h⟩
  · have : j = 0 := by simp at hj; omega
    subst this
    exact blk_cell (blk_new w _) 0
/-- The domain of one small number. -/
def OQ (v : Int) (w : World) (e : Ending) (w' : World) : Prop := ∃ off A n c, e = .returned (.tuple #[.agg #[.int .i64 off, .slice A n c, .int .i64 v, .int .i64 v, .int .i64 1], .int .i64 0]) ∧ (∃ ws, n = ws.length ∧ Go.Proofs.YtgckohmppefibaaDoor.Dm.RepX w' off (.slice A n c) ws [v] ∧ ∀ b, (Value.slice A n c).ownBlock = some b → w.heap.size ≤ b) ∧ Below w.heap.size w w'
theorem ofQ (v : Int) (hv : -128 ≤ v ∧ v ≤ 127) (w : World) (hT : Go.Proofs.YtgckohmppefibaaDoor.Tab w) : Calls Tryd.prog 30 #[.slice (some ⟨w.heap.size, 0, none⟩) 1 1] (w.alloc (.cells #[.int .i64 v] 3 (0, 0))) (OQ v w) := by
  have hb0 := below_alloc (Below.refl w.heap.size w) (.cells #[.int .i64 v] 3 (0, 0))
  have hlo : Go.Proofs.YtgckohmppefibaaDoor.Rf.lo [v] = v := List.mem_singleton.1 (Go.Proofs.YtgckohmppefibaaDoor.Rf.lo_is [v] (by simp)).1
  have hhi : Go.Proofs.YtgckohmppefibaaDoor.Rf.hi [v] = v := List.mem_singleton.1 (Go.Proofs.YtgckohmppefibaaDoor.Rf.hi_is [v] (by simp)).1
  have hc : Go.Proofs.YtgckohmppefibaaDoor.Rf.code [v] = 0 := by
    unfold Go.Proofs.YtgckohmppefibaaDoor.Rf.code
    have hi : Go.Proofs.YtgckohmppefibaaDoor.Rf.inr [v] = true := by
      unfold Go.Proofs.YtgckohmppefibaaDoor.Rf.inr
      simp only [List.all_cons, List.all_nil, Bool.and_true]
      exact decide_eq_true (by omega)
    rw [if_neg (by simp), hi, hlo, hhi]
    simp
  have ho : Go.Proofs.YtgckohmppefibaaDoor.Rf.of [v] = [v] := by
    unfold Go.Proofs.YtgckohmppefibaaDoor.Rf.of
    rw [if_pos hc]
    exact (Go.Proofs.YtgckohmppefibaaDoor.Rf.sort_eq [v] [v] (by simp) (fun _ => Iff.rfl)).symm
  refine (Go.Proofs.YtgckohmppefibaaDoor.dom_of_rd _ [v] _ (rdV w v) (hT.alloc _)).mono ?_
  rintro e w' ⟨v', rfl, ⟨off, sv', ws, rfl, hx⟩, hb, hw⟩
  rw [hc]
  rw [ho] at hx ⊢
  obtain ⟨A, c, rfl⟩ := hx.sl.len
  exact ⟨off, A, ws.length, c, rfl, ⟨ws, rfl, hx, fun b h => by have := hw b h; simp at this; omega⟩, below_step hb0 hb⟩
theorem equalW (d e : Value) (l : List Int) (w : World) (hd : Go.Proofs.YtgckohmppefibaaDoor.Dm.Rep w d l) (he : Go.Proofs.YtgckohmppefibaaDoor.Dm.Rep w e l) (hT : Go.Proofs.YtgckohmppefibaaDoor.Tab w) : Calls Tryd.prog 31 #[d, e] w fun e w' => e = .returned (.bool true) ∧ Below w.heap.size w w' := by
  have := Go.Proofs.YtgckohmppefibaaDoor.dom_equal d e l l w hd he hT
  rw [decide_eq_true rfl] at this
  exact this
/-- Filter of fixed values. -/
theorem filterOne (base : Nat) (F : Nat → Prop) (g : Nat) (L : List (List (Int × Int))) (n most : Nat) (A : Option Addr) (c : Nat) (row : List Int) (w : World) (hT : Go.Proofs.YtgckohmppefibaaDoor.Tab w) (hN : NB base F w g (L.map (List.map un29))) (hL : LOk L n most) (hn : n ≤ 100) (hm : most ≤ 100) (hD : DRow w A (row.map sg)) (hb : row.length ≤ 1000000) :
    Calls Tryd.prog 17 #[.pointer (some ⟨g, 0, none⟩), .slice A row.length c] w fun e w' => ∃ A' n' c', e = .returned (.tuple #[.slice A' n' c', .bool (freeR L row)]) ∧ Below w.heap.size w w' := by
  have h := filterQ base F g L n most A c (row.map sg) w hT hN hL hn hm hD (by rw [List.length_map]; exact hb)
  rw [List.length_map] at h
  refine h.mono ?_
  rintro e w' ⟨A', n', c', rfl, hb, _⟩
  refine ⟨A', n', c', ?_, hb⟩
  have : (fR L (row.map sg)).isSome = freeR L row := by
    rw [show fR L (row.map sg) = _ from fR_one row L]
    cases freeR L row <;> rfl
  rw [this]
set_option maxHeartbeats 16000000 in
set_option maxRecDepth 100000 in
theorem lawKeeps (A : Option Addr) (c : Nat) (all : List (List S27)) (A2 : Option Addr) (c2 : Nat) (l : List (List Int)) (A3 : Option Addr) (c3 : Nat) (pick : List Int) (w : World) (hT : Go.Proofs.YtgckohmppefibaaDoor.Tab w) (hC : Kd.C (Kd.slice 27 k27) w A all.length all) (hc : all.length ≤ c) (hC2 : Kd.C (Kd.slice 25 (Kd.int .i8)) w A2 l.length l) (hc2 : l.length ≤ c2) (hS : ∀ x ∈ l, Sm x) (hC3 : Kd.C (Kd.int .u8) w A3 pick.length pick) (hc3 : pick.length ≤ c3) (hP : ∀ v ∈ pick, 0 ≤ v ∧ v ≤ 255) :
    Calls Tryd.prog 6 #[.slice A all.length c, .slice A2 l.length c2, .slice A3 pick.length c3] w fun e w' => e = .returned (.bool true) ∧ Below w.heap.size w w' := by
  obtain ⟨ji, hji⟩ : ∃ ji : Int, (if 10 < (all.length : Int) then 10 else (all.length : Int)) = ji := ⟨_, rfl⟩
  have hj0 : 0 ≤ ji ∧ ji ≤ all.length ∧ ji ≤ 10 := by rw [← hji]; split <;> omega
  obtain ⟨hj1, hj2, hj3⟩ := hj0
  obtain ⟨m, rfl⟩ : ∃ m : Nat, ji = (m : Int) := ⟨ji.toNat, by omega⟩
  obtain ⟨i05, hi05, _⟩ := info_parts info22c
  have hcut := cut_to (P := Tryd.prog) 41 22 .i64 Tryd.underlying41 hi05 A all.length c (m : Int) hj1 hj2 hc
  rw [Int.toNat_natCast] at hcut
  have HT := Aside0.mk hT
  have HC := Aside0.mk hC
  have HC2 := Aside0.mk hC2
  have HC3 := Aside0.mk hC3
  have HS := Aside0.mk hS
  have HP := Aside0.mk hP
  have hpm : pick.length ≤ 9223372036854775807 := hC3.2.1
  clear hC hi05 hT hC2 hS hC3 hP
  go_enter Tryd.func6, Tryd.ntmps6
  go_wp2_with (go_at_call 12; (refine (newNB _).mono ?_; rintro e w1 ⟨rfl, rfl⟩))
  go_loopg [9, 10, 11, 40] m (fun kx s9 s10 s11 s40 wr => ∃ (j : Nat) (L : List (List (Int × Int))) (F : Nat → Prop), s40 = .int .i64 j ∧ j ≤ m ∧ m - j ≤ kx ∧ Aside0 (KI w (w.heap.size + 1) w.heap.size wr L F) ∧ Aside0 (LOk L j 4))
  case atStart => exact ⟨0, [], _, rfl, Nat.zero_le _, by omega, Aside0.mk (KI.start w), Aside0.mk ⟨Nat.zero_le _, fun x hx => (by cases hx), fun x hx => (by cases hx)⟩⟩
  case round =>
    obtain ⟨j, L, F, rfl, hjm, hg, HI, HL⟩ := hrel
    by_cases hlt : j < m
    · obtain ⟨b, o, rfl, hbw, hcell⟩ := rawA HC.out (by omega)
      obtain ⟨Aj, cj, e0, e1, e2⟩ := hcell j (by omega)
      have e0' : wr.cell? ⟨b, o + j, none⟩ = some (.slice Aj all[j].length cj) := (HI.out.below.cell (p := ⟨b, o + j, none⟩) hbw).trans e0
      have hl := litsP wr Aj cj all[j] 4 (by decide) (Kd.C_below e2 HI.out.below) e1
      rw [show ((4 : Nat) : Int) = 4 from rfl] at hl
      clear hcell e0 e1 e2
      generalize all[j] = y at e0' hl
      have hP : ((y.take 4).map de).length ≤ 4 := by rw [List.length_map, List.length_take]; omega
      generalize (y.take 4).map de = P at hl hP
      have HLI := Aside0.mk hl
      clear hl
      have hadd := HL.out.add P hP
      have HLA := Aside0.mk hadd
      generalize hN : addP L (Go.Proofs.YtgckohmppefibaaDoor.Ng.mk P) = q at hadd HLA
      have HN := Aside0.mk hN
      clear hN hadd
      obtain ⟨L', ok'⟩ := q
      go_wp2_with (first
        | (go_at_call 13; ((with_reducible refine HLI.out.mono ?_); rintro e w2 ⟨Ax, cx, Ay, cy, rfl, hx, _, _, _, hb2⟩; have HX := Aside0.mk hx; have HB2 := Aside0.mk hb2; have c7 := (HI.out.step hb2).cell; clear hx hb2))
        | (go_at_call 14; ((with_reducible refine (addNBP w.heap.size F w2 w.heap.size L (HI.out.nb.below HB2.out) j 4 (by omega) (by decide) HL.out P hP Ax cx HX.out).mono ?_); rw [HN.out]; rintro e w3 ⟨rfl, hn3, hs3⟩; have HI3 := Aside0.mk (HI.out.added HB2.out hn3 hs3); clear hn3 hs3)))
      go_roundg (m - (j + 1))
      case measure => omega
      case rel => exact ⟨j + 1, L', _, rfl, by omega, Nat.le_refl _, HI3, Aside0.mk HLA.out⟩
    · have hj : j = m := by omega
      subst hj
      have hdw := domsW A2 c2 l 4 wr (HT.out.call HI.out.below) (by decide) (Kd.C_below HC2.out HI.out.below) hc2 HS.out
      rw [show ((4 : Nat) : Int) = 4 from rfl] at hdw
      have hDb : ((l.take 4).map de8).length ≤ 4 := by rw [List.length_map, List.length_take]; omega
      have hDl := Aside0.mk (show ∀ x ∈ (l.take 4).map de8, x.length ≤ 5 from fun x hx => by obtain ⟨y, _, rfl⟩ := List.mem_map.1 hx; exact de8_len y)
      have hDs := Aside0.mk (show ∀ x ∈ (l.take 4).map de8, (∀ v ∈ x, -128 ≤ v ∧ v ≤ 127) ∧ x.Nodup from fun x hx => by obtain ⟨y, hy, rfl⟩ := List.mem_map.1 hx; exact de8_small (HS.out y (List.mem_of_mem_take hy)))
      generalize (l.take 4).map de8 = D at hdw hDb hDl hDs
      have HDW := Aside0.mk hdw
      clear hdw hcut
      go_upto_region 9 with (go_at_call 16; ((with_reducible refine HDW.out.mono ?_); rintro e w5 ⟨Aa, ca, Ab, cb, okA, okB, rfl, hdi⟩; have HDI := Aside0.mk hdi; clear hdi))
      have HI5 := Aside0.mk (HI.out.step HDI.out.below)
      have c7 := HI5.out.cell
      have FI := Aside0.mk (filterQ w.heap.size F w.heap.size L j 4 Aa ca D w5 (HT.out.call HI5.out.below) HI5.out.nb HL.out (by omega) (by decide) (drow_N HDI.out.a) (by omega))
      have HDB := Aside0.mk (Kd.N_F HDI.out.b)
      have hcb : D.length ≤ cb := (Kd.N_reads' HDI.out.b).2.1
      have HRR := Aside0.mk (show ∀ row, InB D row → freeR L row = true → ∃ E, fR L D = some E ∧ InB E row from fun row h1 h2 => fR_row h1 h2)
      have HAG := Aside0.mk (show ∀ E, fR L D = some E → fR L E = some E ∧ FullB E from fun E h => fR_again (fun x hx => (hDs.out x hx).2) h)
      have HEM := Aside0.mk (show (∃ x ∈ D, x.length = 0) → fR L D = none from fun ⟨x, hx, h0⟩ => by unfold fR; rw [if_pos (List.any_eq_true.2 ⟨x, hx, by rw [List.eq_nil_of_length_eq_zero h0]; rfl⟩)])
      generalize hRd : fR L D = RR at FI HRR HAG HEM
      clear hRd HDW
      go_upto_region 11 with (go_at_call 17; ((with_reducible refine FI.out.mono ?_); rintro e w6 ⟨A6, n6, c6, rfl, hb6, hE⟩; obtain ⟨sb, hsb⟩ : ∃ sb, RR.isSome = sb := ⟨_, rfl⟩; rw [hsb]; have HSB := Aside0.mk hsb; have HB6 := Aside0.mk hb6; have HE := Aside0.mk hE; clear hb6 hE hsb))
      have PI := Aside0.mk (prodQ Ab cb D okB w6 (Kd.F_below HDB.out HB6.out) hcb (by omega) (fun x hx => by have := hDl.out x hx; omega))
      go_upto_region 12 with (go_at_call 28; ((with_reducible refine PI.out.mono ?_); rintro e w7 ⟨A7, c7', R, rfl, hC7, hR, hb7⟩; have HC7 := Aside0.mk hC7; have HR := Aside0.mk hR; have HB7 := Aside0.mk hb7; clear hC7 hR hb7))
      have HI7 := Aside0.mk ((HI5.out.step HB6.out).step HB7.out)
      have HE7 := Aside0.mk (show ∀ E, RR = some E → n6 = D.length ∧ E.length = D.length ∧ DRow w7 A6 E from fun E h => by obtain ⟨h1, h2, h3⟩ := HE.out E h; exact ⟨h1, h2, h3.below HB7.out⟩)
      have HDB7 := Aside0.mk (Kd.F_below (Kd.F_below HDB.out HB6.out) HB7.out)
      have HLb := Aside0.mk (And.intro (show L.length ≤ 1000000 from by have := HL.out.len; omega) (show ∀ x ∈ L, x.length ≤ 1000000 from fun x hx => by have := HL.out.short x hx; omega))
      have FR7 := Aside0.mk (fun (w9 : World) (h9 : Below w7.heap.size w7 w9) (Ay : Option Addr) (cy : Nat) (y : List Int) (hy : Kd.C (Kd.int .i64) w9 Ay y.length y) (hl : y.length ≤ 1000000) => freeW w.heap.size F (w.heap.size + 1) w.heap.size L Ay cy y w9 (HI7.out.step h9).nb HLb.out.1 HLb.out.2 (HI7.out.step h9).cell hy hl)
      have hRm : R.length ≤ 9223372036854775807 := HC7.out.2.1
      clear HDB HE FI PI HI5 HB6 c7
      go_loopg [18, 19, 20, 68] R.length (fun kx s18 s19 s20 s68 wr => ∃ i : Nat, s68 = .int .i64 i ∧ i ≤ R.length ∧ R.length - i ≤ kx ∧ Aside0 (Below w7.heap.size w7 wr))
      case atStart => exact ⟨0, rfl, Nat.zero_le _, by omega, Aside0.mk (Below.refl _ _)⟩
      case round =>
        obtain ⟨i, rfl, hil, hgi, HW⟩ := hrel
        by_cases hlt : i < R.length
        · obtain ⟨b2, o2, rfl, hbw, hcell⟩ := raw64s HC7.out (by omega)
          obtain ⟨Ai, ci, e0, e1, e2⟩ := hcell i hlt
          have e0' : wr.cell? ⟨b2, o2 + i, none⟩ = some (.slice Ai R[i].length ci) := (HW.out.cell (p := ⟨b2, o2 + i, none⟩) hbw).trans e0
          have IB := Aside0.mk (HR.out R[i] (List.getElem_mem hlt))
          have CI := Aside0.mk (Kd.C_below e2 HW.out)
          clear hcell e0 e1 e2
          generalize R[i] = y at e0' IB CI
          have hyb : y.length ≤ 4 := by have := IB.out.len; omega
          have HF := Aside0.mk (FR7.out wr HW.out Ai ci y CI.out (by omega))
          have HX := Aside0.mk (HRR.out y IB.out)
          cases hf : freeR L y with
          | false =>
            rw [hf] at HF
            clear hf HX
            go_wp2_with (go_at_call 23; ((with_reducible refine HF.out.mono ?_); rintro e w8 ⟨rfl, hb8⟩; have HB8 := Aside0.mk (below_step HW.out hb8); clear hb8))
            go_roundg (R.length - (i + 1))
            case measure => omega
            case rel => exact ⟨i + 1, rfl, by omega, Nat.le_refl _, HB8⟩
          | true =>
            obtain ⟨E, hRE, hIE⟩ := HX.out hf
            rw [hf] at HF
            clear hf
            obtain rfl : sb = true := by rw [← HSB.out, hRE]; rfl
            have HIE := Aside0.mk hIE
            obtain ⟨hn6, hEl, hDR⟩ := HE7.out E hRE
            subst hn6
            have HDR := Aside0.mk hDR
            clear hRE hIE hDR HX
            go_upto_region 18 with (go_at_call 23; ((with_reducible refine HF.out.mono ?_); rintro e w8 ⟨rfl, hb8⟩; have HB8 := Aside0.mk (below_step HW.out hb8); have CI8 := Aside0.mk (Kd.C_below CI.out hb8); clear hb8))
            have hye : y.length = E.length := by rw [IB.out.len, hEl]
            have HYE := Aside0.mk hye
            clear hye hEl
            go_loopg [19, 20, 80] y.length (fun kx s19 s20 s80 wq => ∃ q : Nat, s80 = .int .i64 q ∧ q ≤ y.length ∧ y.length - q ≤ kx ∧ Aside0 (Below w7.heap.size w7 wq) ∧ Aside0 (Kd.C (Kd.int .i64) wq Ai y.length y))
            case atStart => exact ⟨0, rfl, Nat.zero_le _, by omega, HB8, CI8⟩
            case round =>
              obtain ⟨q, rfl, hql, hgq, HQ, CQ⟩ := hrel
              by_cases hlq : q < y.length
              · obtain ⟨b3, o3, rfl, _, hcy⟩ := raw64 CQ.out (by omega)
                have f0 : wr.cell? ⟨b3, o3 + q, none⟩ = some (.int .i64 y[q]) := hcy q hlq
                have hqE : q < E.length := by have := HYE.out; omega
                obtain ⟨b6, o6, rfl, hbw6, hcell6⟩ := HDR.out.pos (by omega)
                obtain ⟨off, sv, ws, hx, d0, d1, d2, d3, d4⟩ := (hcell6 q hqE).below hbw6 HQ.out
                obtain ⟨Aw, cw, rfl⟩ := hx.sl.len
                have hmem : y[q] ∈ E[q] := by
                  have := HIE.out.mem q hqE
                  simpa only [List.getD_eq_getElem?_getD, List.getElem?_eq_getElem hlq, List.getElem?_eq_getElem hqE, Option.getD_some] using this
                have hlb := Aside0.mk (has_yes (Go.Proofs.YtgckohmppefibaaDoor.Dm.val off (.slice Aw ws.length cw) E[q]) E[q] y[q] wr ⟨_, _, _, rfl, hx⟩ hmem)
                unfold Go.Proofs.YtgckohmppefibaaDoor.Dm.val at hlb
                have hq9 : (q : Int) < (D.length : Int) := by have := IB.out.len; omega
                have hq8 : (0 : Int) ≤ (q : Int) := by omega
                clear hx hcell6 hcy hmem
                generalize E[q] = z at d2 d3 d4 hlb
                generalize y[q] = yv at f0 hlb
                generalize z.headD 0 = p0 at d2 hlb
                generalize z.getLastD 0 = p1 at d3 hlb
                generalize ws.length = nw at d1 hlb
                go_wp2_with (go_at_call 29; ((with_reducible refine hlb.out.mono ?_); rintro e w9 ⟨rfl, hb9⟩; have HB9 := Aside0.mk (below_step HQ.out hb9); have CQ9 := Aside0.mk (Kd.C_below CQ.out hb9); clear hb9))
                go_roundg (y.length - (q + 1))
                case measure => omega
                case rel => exact ⟨q + 1, rfl, by omega, Nat.le_refl _, HB9, CQ9⟩
              · have hq : q = y.length := by omega
                subst hq
                go_wp2_with fail
                go_roundg (R.length - (i + 1))
                case measure => omega
                case rel => exact ⟨i + 1, rfl, by omega, Nat.le_refl _, HQ⟩
        · have hi : i = R.length := by omega
          subst hi
          obtain ⟨wo, rfl⟩ : ∃ wo, wo = wr := ⟨_, rfl⟩
          have HI8 := Aside0.mk (HI7.out.step HW.out)
          have HE8 := Aside0.mk (show ∀ E, RR = some E → n6 = D.length ∧ E.length = D.length ∧ DRow wo A6 E from fun E h => by obtain ⟨h1, h2, h3⟩ := HE7.out E h; exact ⟨h1, h2, h3.below HW.out⟩)
          have HDB8 := Aside0.mk (Kd.F_below HDB7.out HW.out)
          have C38 := Aside0.mk (Kd.C_below HC3.out HI8.out.below)
          have T8 := Aside0.mk (HT.out.call HI8.out.below)
          clear HI7 HE7 HDB7 HC7 HR FR7 HRR HB7
          go_upto_region 27 with fail
          go_loopg [21, 22, 23, 24, 25, 26, 27, 96] D.length (fun kx s21 s22 s23 s24 s25 s26 s27 s96 wq => ∃ (i : Nat) (row : List Int) (okC okE : Nat → Prop), s96 = .int .i64 i ∧ i ≤ D.length ∧ D.length - i ≤ kx ∧ Aside0 (K2 wo wq row s21 s22 okC okE) ∧ Aside0 (row.length = i ∧ ∀ q, q < i → row.getD q 0 ∈ D.getD q []))
          case atStart => exact ⟨0, [], _, _, rfl, Nat.zero_le _, by omega, Aside0.mk (T2.start _ _ _ _ _), Aside0.mk ⟨rfl, fun q hq => absurd hq (Nat.not_lt_zero _)⟩⟩
          case round =>
            obtain ⟨i, row, okC, okE, rfl, hil, hgi, HK, HR⟩ := hrel
            by_cases hlt : i < D.length
            · obtain ⟨b2, o2, rfl, hrow⟩ := rowsI HDB8.out (by omega)
              obtain ⟨Ai, ci, e0, e1, _⟩ := hrow _ (Below.refl _ _) i hlt
              have e0' : wr.cell? ⟨b2, o2 + i, none⟩ = some (.slice Ai D[i].length ci) := (HK.out.below.cell (p := ⟨b2, o2 + i, none⟩) (World.block_lt_of_cell? _ _ e0)).trans e0
              have CI := Aside0.mk (ints_reads e1).1
              have DI := Aside0.mk (List.getElem_mem hlt)
              have GI := Aside0.mk (show D.getD i [] = D[i] from by rw [List.getD_eq_getElem?_getD, List.getElem?_eq_getElem hlt]; rfl)
              clear hrow e0 e1
              generalize D[i] = y at e0' CI DI GI
              by_cases h0 : y.length = 0
              · have hno := HEM.out ⟨y, DI.out, h0⟩
                obtain rfl : sb = false := by rw [← HSB.out, hno]; rfl
                have HWK := Aside0.mk (wakes_ok wr (T8.out.call HK.out.below))
                have BW : Aside0 (Below w.heap.size w wr) := Aside0.mk (below_step HI8.out.below HK.out.below)
                clear hno
                go_wp2_with (go_at_call 8; ((with_reducible refine HWK.out.mono ?_); rintro e w9 ⟨rfl, hb9⟩; have B9 := Aside0.mk (below_step BW.out hb9); clear hb9))
                go_ret
                exact ⟨rfl, B9.out⟩
              · have hyl : y.length ≤ 5 := hDl.out y DI.out
                have hy0 : 0 < y.length := by omega
                have hyz : ((y.length : Int) == 0) = false := by simp only [beq_eq_false_iff_ne, ne_eq]; omega
                obtain ⟨wz, rfl⟩ : ∃ wz, wz = wr := ⟨_, rfl⟩
                go_upto_if 112 with fail
                go_cut [25] (fun s25 wx => ∃ κ : Nat, s25 = .int .i64 κ ∧ κ ≤ 255 ∧ wx = wz)
                case first =>
                  by_cases hip : i < pick.length
                  · obtain ⟨b3, o3, rfl, hbw3, hpc⟩ := raw8u HC3.out (by omega)
                    have f0 : wz.cell? ⟨b3, o3 + i, none⟩ = some (.int .u8 pick[i]) := ((below_step HI8.out.below HK.out.below).cell (p := ⟨b3, o3 + i, none⟩) hbw3).trans (hpc i hip)
                    obtain ⟨hp0, hp1⟩ := HP.out pick[i] (List.getElem_mem hip)
                    clear hpc
                    generalize pick[i] = pv at f0 hp0 hp1
                    obtain ⟨κ, rfl⟩ : ∃ κ : Nat, pv = (κ : Int) := ⟨pv.toNat, by omega⟩
                    go_wp2_with fail
                    go_meet
                    exact ⟨κ, rfl, by omega, rfl⟩
                  · go_wp2_with fail
                    go_meet
                    exact ⟨0, rfl, by omega, rfl⟩
                case rest =>
                  obtain ⟨κ, rfl, hκ, rfl⟩ := hcut
                  obtain ⟨z, hz⟩ : ∃ z, κ % y.length = z := ⟨_, rfl⟩
                  have hzl : z < y.length := by rw [← hz]; exact Nat.mod_lt _ hy0
                  have hmod : (κ : Int) % (y.length : Int) = (z : Int) := by rw [← hz]; simp
                  have hmod2 : (κ : Int).tmod (y.length : Int) = (z : Int) := by rw [Int.tmod_eq_emod_of_nonneg (by omega)]; exact hmod
                  clear hz
                  obtain ⟨b4, o4, rfl, hbw4, hcy⟩ := raw64 CI.out hy0
                  have f0 : wc.cell? ⟨b4, o4 + z, none⟩ = some (.int .i64 y[z]) := (HK.out.below.cell (p := ⟨b4, o4 + z, none⟩) hbw4).trans (hcy z hzl)
                  have HV := Aside0.mk ((hDs.out y DI.out).1 y[z] (List.getElem_mem hzl))
                  have HM := Aside0.mk (show y[z] ∈ D.getD i [] from by rw [GI.out]; exact List.getElem_mem hzl)
                  have F0 := Aside0.mk (hcy z hzl)
                  clear hcy
                  generalize y[z] = v at f0 HV HM F0
                  have T9 := Aside0.mk (T8.out.call HK.out.below)
                  have hz0 : (0 : Int) ≤ (z : Int) := by omega
                  have hz1 : (z : Int) < (y.length : Int) := by omega
                  go_upto_region 35 with (go_at_call 30; ((with_reducible refine (ofQ v HV.out wc T9.out).mono ?_); rintro e w5 ⟨off, Aw, nw, cw, rfl, ⟨ws, rfl, hx, hown⟩, hb5⟩; have HX := Aside0.mk hx; have HO := Aside0.mk hown; have HB5 := Aside0.mk hb5; clear hx hown hb5; generalize ws.length = nw at *))
                  have hrl : row.length ≤ 4 := by have := HR.out.1; omega
                  have BX := Aside0.mk (blk_new w5 (.cells #[.int .i64 off, .slice Aw nw cw, .int .i64 v, .int .i64 v, .int .i64 1] 62 (0, 0)))
                  have BW := Aside0.mk (below_alloc HB5.out (.cells #[.int .i64 off, .slice Aw nw cw, .int .i64 v, .int .i64 v, .int .i64 1] 62 (0, 0)))
                  have hfk := fk_dm (ok := fun k => wc.heap.size ≤ k ∧ k < w5.heap.size) HX.out (fun b hb => ⟨HO.out b hb, sl_blk HX.out.sl b hb⟩)
                  have FK1 := Aside0.mk (Kd.FK_step hfk (W1 := w5.alloc (.cells #[.int .i64 off, .slice Aw nw cw, .int .i64 v, .int .i64 v, .int .i64 1] 62 (0, 0))) (fun k _ hlt => (below_alloc (Below.refl _ _) _).block k hlt))
                  have HZ5 : (w5.alloc (.cells #[.int .i64 off, .slice Aw nw cw, .int .i64 v, .int .i64 v, .int .i64 1] 62 (0, 0))).heap.size = w5.heap.size + 1 := by simp
                  have TT := Aside0.mk (HK.out.toTS (bx := w5.heap.size) BW.out BX.out HB5.out.size FK1.out (fun k hk => ⟨hk.1, by have := hk.2; omega, by have := hk.2; omega⟩) (fk_int _ _ v))
                  clear hfk FK1 HZ5 BX
                  have NX := Aside0.mk (show (row ++ [v]).length = i + 1 ∧ ∀ q, q < i + 1 → (row ++ [v]).getD q 0 ∈ D.getD q [] from by
                    refine ⟨by rw [List.length_append, HR.out.1]; rfl, fun q hq => ?_⟩
                    rw [List.getD_eq_getElem?_getD (l := row ++ [v])]
                    by_cases hqi : q < i
                    · rw [List.getElem?_append_left (by rw [HR.out.1]; exact hqi), ← List.getD_eq_getElem?_getD]
                      exact HR.out.2 q hqi
                    · obtain rfl : q = i := by omega
                      rw [List.getElem?_append_right (by rw [HR.out.1]; exact Nat.le_refl _), HR.out.1, Nat.sub_self]
                      exact HM.out)
                  refine wp_region_held_drew (S := fun w' => w'.cell? ⟨w5.heap.size, 0, none⟩ = some (.int .i64 off) ∧ w'.cell? ⟨w5.heap.size, 1, none⟩ = some (.slice Aw nw cw) ∧ w'.cell? ⟨w5.heap.size, 2, none⟩ = some (.int .i64 v) ∧ w'.cell? ⟨w5.heap.size, 3, none⟩ = some (.int .i64 v) ∧ w'.cell? ⟨w5.heap.size, 4, none⟩ = some (.int .i64 1) ∧ w'.cell? ⟨b4, o4 + z, none⟩ = some (.int .i64 v)) (by kernel_rfl) ?_ (fun hHeld => ?_)
                  · exact TT.out.drew.cells F0.out
                  replace TT := Aside0.mk TT.out.drew
                  refine wpAnyH_take (i := 0) (oi := { dst := some 130, op := Op.move (Operand.tmp 21), type := 52, pos := "law.go:168", after := #[], guard := none }) (v := ?_) rfl (by kernel_rfl) (by kernel_rfl) (by kernel_rfl) (fun _ _ _ h => h) (Or.inl ⟨by rfl, ?_⟩) (by assumption) ?_
                  rotate_left
                  · (intro w hSw; (try dsimp only at hSw); go_simp; first | done | with_reducible rfl)
                  try simp only [Act.put, List.setIfInBounds_toArray, List.set_cons_zero, List.set_cons_succ]
                  refine wpAnyH_take (i := 1) (oi := { dst := some 131, op := Op.load 62 (Operand.tmp 26), type := 62, pos := "law.go:168", after := #[], guard := none }) (v := ?_) rfl (by kernel_rfl) (by kernel_rfl) (by kernel_rfl) (fun _ _ _ h => h) (Or.inl ⟨by rfl, ?_⟩) (by assumption) ?_
                  rotate_left
                  · (intro w hSw; (try dsimp only at hSw); go_simp; first | done | with_reducible rfl)
                  try simp only [Act.put, List.setIfInBounds_toArray, List.set_cons_zero, List.set_cons_succ]
                  refine wpAnyH_take (i := 4) (oi := { dst := some 134, op := Op.move (Operand.tmp 22), type := 63, pos := "law.go:168", after := #[], guard := none }) (v := ?_) rfl (by kernel_rfl) (by kernel_rfl) (by kernel_rfl) (fun _ _ _ h => h) (Or.inl ⟨by rfl, ?_⟩) (by assumption) ?_
                  rotate_left
                  · (intro w hSw; (try dsimp only at hSw); go_simp; first | done | with_reducible rfl)
                  try simp only [Act.put, List.setIfInBounds_toArray, List.set_cons_zero, List.set_cons_succ]
                  refine wpAnyH_take (i := 5) (oi := { dst := some 135, op := Op.move (Operand.tmp 24), type := 63, pos := "law.go:168", after := #[], guard := none }) (v := ?_) rfl (by kernel_rfl) (by kernel_rfl) (by kernel_rfl) (fun _ _ _ h => h) (Or.inl ⟨by rfl, ?_⟩) (by assumption) ?_
                  rotate_left
                  · (intro w hSw; (try dsimp only at hSw); go_simp; first | done | with_reducible rfl)
                  try simp only [Act.put, List.setIfInBounds_toArray, List.set_cons_zero, List.set_cons_succ]
                  refine wpAnyH_take (i := 6) (oi := { dst := some 136, op := Op.move (Operand.tmp 25), type := 3, pos := "law.go:168", after := #[], guard := none }) (v := ?_) rfl (by kernel_rfl) (by kernel_rfl) (by kernel_rfl) (fun _ _ _ h => h) (Or.inl ⟨by rfl, ?_⟩) (by assumption) ?_
                  rotate_left
                  · (intro w hSw; (try dsimp only at hSw); go_simp; first | done | with_reducible rfl)
                  try simp only [Act.put, List.setIfInBounds_toArray, List.set_cons_zero, List.set_cons_succ]
                  refine wpAnyH_take (i := 7) (oi := { dst := some 137, op := Op.move (Operand.tmp 24), type := 63, pos := "law.go:168", after := #[], guard := none }) (v := ?_) rfl (by kernel_rfl) (by kernel_rfl) (by kernel_rfl) (fun _ _ _ h => h) (Or.inl ⟨by rfl, ?_⟩) (by assumption) ?_
                  rotate_left
                  · (intro w hSw; (try dsimp only at hSw); go_simp; first | done | with_reducible rfl)
                  try simp only [Act.put, List.setIfInBounds_toArray, List.set_cons_zero, List.set_cons_succ]
                  refine wpAnyH_take (i := 8) (oi := { dst := some 138, op := Op.call { callee := Callee.builtin Builtin.len, args := #[Operand.tmp 137], argTypes := #[63] }, type := 3, pos := "law.go:168", after := #[{ on := 7, ground := Ground.data }], guard := none }) (v := ?_) rfl (by kernel_rfl) (by kernel_rfl) (by kernel_rfl) (fun _ _ _ h => h) (Or.inl ⟨by rfl, ?_⟩) (by assumption) ?_
                  rotate_left
                  · (intro w hSw; (try dsimp only at hSw); go_simp; first | done | with_reducible rfl)
                  try simp only [Act.put, List.setIfInBounds_toArray, List.set_cons_zero, List.set_cons_succ]
                  refine wpAnyH_take (i := 9) (oi := { dst := some 139, op := Op.binOp BinOp.rem 3 (Operand.tmp 136) (Operand.tmp 138) 3, type := 3, pos := "law.go:168", after := #[{ on := 6, ground := Ground.data }, { on := 8, ground := Ground.data }], guard := none }) (v := ?_) rfl (by kernel_rfl) (by kernel_rfl) (by kernel_rfl) (fun _ _ _ h => h) (Or.inl ⟨by rfl, ?_⟩) (by assumption) ?_
                  rotate_left
                  · (intro w hSw; (try dsimp only at hSw); go_simp; first | done | with_reducible rfl)
                  try simp only [Act.put, List.setIfInBounds_toArray, List.set_cons_zero, List.set_cons_succ]
                  refine wpAnyH_take (i := 10) (oi := { dst := some 140, op := Op.indexAddr 63 (Operand.tmp 135) (Operand.tmp 139), type := 0, pos := "law.go:168", after := #[{ on := 5, ground := Ground.data }, { on := 9, ground := Ground.data }], guard := none }) (v := ?_) rfl (by kernel_rfl) (by kernel_rfl) (by kernel_rfl) (fun _ _ _ h => h) (Or.inl ⟨by rfl, ?_⟩) (by assumption) ?_
                  rotate_left
                  · (intro w hSw; (try dsimp only at hSw); go_simp; first | done | with_reducible rfl)
                  try simp only [Act.put, List.setIfInBounds_toArray, List.set_cons_zero, List.set_cons_succ]
                  refine wpAnyH_take (i := 11) (oi := { dst := some 141, op := Op.load 3 (Operand.tmp 140), type := 3, pos := "law.go:168", after := #[{ on := 10, ground := Ground.data }], guard := none }) (v := ?_) rfl (by kernel_rfl) (by kernel_rfl) (by kernel_rfl) (fun _ _ _ h => h) (Or.inl ⟨by rfl, ?_⟩) (by assumption) ?_
                  rotate_left
                  · (intro w hSw; (try dsimp only at hSw); go_simp; first | done | with_reducible rfl)
                  try simp only [Act.put, List.setIfInBounds_toArray, List.set_cons_zero, List.set_cons_succ]
                  refine wpAnyH_ready (rs := [2, 12]) (by kernel_rfl) (by simp) ?_
                  refine AllReadyH.cons (o := { dst := some 132, op := Op.buildSlice 52 1 #[(0, Operand.tmp 131)], type := 52, pos := "law.go:168", after := #[{ on := 1, ground := Ground.data }], guard := none }) rfl (fun KK hKK => ?_) ?_
                  · go_simp
                    refine hKK.out _ _ ?_ (fun hHeld2 => ?_)
                    · exact (TT.out.buildX 62).cells F0.out
                    clear hKK KK hHeld
                    have hHeld := hHeld2
                    clear hHeld2
                    try simp only [Act.put, List.setIfInBounds_toArray, List.set_cons_zero, List.set_cons_succ]
                    replace TT := Aside0.mk (TT.out.buildX 62)
                    refine wpAnyH_ready (rs := [3, 12]) (by kernel_rfl) (by simp) ?_
                    refine AllReadyH.cons (o := { dst := some 133, op := Op.call { callee := Callee.builtin Builtin.append, args := #[Operand.tmp 130, Operand.tmp 132], argTypes := #[52, 52] }, type := 52, pos := "law.go:168", after := #[{ on := 0, ground := Ground.data }, { on := 2, ground := Ground.data }], guard := none }) rfl (fun KK hKK => ?_) ?_
                    · refine Kd.N_append_rows_step kDm (w0 := _) (W := _) wo.heap.size rfl (.tmp 130) (.tmp 132) 52 62 (.agg #[.int .i64 0, .slice none 0 0, .int .i64 0, .int .i64 0, .int .i64 0]) 56 (by rfl) Tryd.underlying52 info62c rfl (by decide) (by decide) u21 (row.map sg) [[v]] _ 1 1 (okN _ okC _) _ (by rfl) (by first | rfl | (show Value.slice (some ⟨_, 0, none⟩) 1 1 = _; simp)) (Kd.N_mono TT.out.a (fun k hk => .inl hk)) TT.out.atX TT.out.okp (fun k hk => .inr (.inr hk)) (Below.refl _ _) TT.out.below.size (by first | (rw [List.length_map]; omega) | omega) ?_
                      intro vX wn hn hb hg hat
                      replace TT := Aside0.mk (TT.out.appX hn hb hg)
                      clear hn hb hg hat
                      refine hKK.out _ _ ?_ (fun hHeld2 => ?_)
                      · exact TT.out.cells F0.out
                      clear hKK KK hHeld
                      have hHeld := hHeld2
                      clear hHeld2
                      try simp only [Act.put, List.setIfInBounds_toArray, List.set_cons_zero, List.set_cons_succ]
                      refine wpAnyH_ready (rs := [12]) (by kernel_rfl) (by simp) ?_
                      refine AllReadyH.cons (o := { dst := some 142, op := Op.buildSlice 63 1 #[(0, Operand.tmp 141)], type := 63, pos := "law.go:168", after := #[{ on := 11, ground := Ground.data }], guard := none }) rfl (fun KK hKK => ?_) AllReadyH.nil
                      go_simp
                      refine hKK.out _ _ ?_ (fun hHeld2 => ?_)
                      · exact (TT.out.buildY 3).cells F0.out
                      clear hKK KK hHeld
                      have hHeld := hHeld2
                      clear hHeld2
                      try simp only [Act.put, List.setIfInBounds_toArray, List.set_cons_zero, List.set_cons_succ]
                      replace TT := Aside0.mk (TT.out.buildY 3)
                      refine wpAnyH_ready (rs := [13]) (by kernel_rfl) (by simp) ?_
                      refine AllReadyH.cons (o := { dst := some 143, op := Op.call { callee := Callee.builtin Builtin.append, args := #[Operand.tmp 134, Operand.tmp 142], argTypes := #[63, 63] }, type := 63, pos := "law.go:168", after := #[{ on := 4, ground := Ground.data }, { on := 12, ground := Ground.data }, { on := 3, ground := Ground.chain }], guard := none }) rfl (fun KK hKK => ?_) AllReadyH.nil
                      refine Kd.N_append_rows_step (Kd.int .i64) (w0 := _) (W := _) wo.heap.size rfl (.tmp 134) (.tmp 142) 63 3 (.int .i64 0) 8 (by rfl) Tryd.underlying63 info3c rfl (by decide) (by decide) u22 row [v] _ 1 1 (okN _ okE _) _ (by rfl) (by first | rfl | (show Value.slice (some ⟨_, 0, none⟩) 1 1 = _; simp)) (Kd.N_mono TT.out.b (fun k hk => .inl hk)) TT.out.atY TT.out.okq (fun k hk => .inr (.inr hk)) (Below.refl _ _) TT.out.below.size (by first | (rw [List.length_map]; omega) | omega) ?_
                      intro vY wn hn hb hg hat
                      replace TT := Aside0.mk (TT.out.appY hn hb hg)
                      clear hn hb hg hat
                      refine hKK.out _ _ ?_ (fun hHeld2 => ?_)
                      · exact TT.out.cells F0.out
                      clear hKK KK hHeld
                      have hHeld := hHeld2
                      clear hHeld2
                      try simp only [Act.put, List.setIfInBounds_toArray, List.set_cons_zero, List.set_cons_succ]
                      refine wpAnyH_take (i := 14) (oi := { dst := some 21, op := Op.assign (Operand.tmp 133), type := 52, pos := "law.go:168", after := #[{ on := 3, ground := Ground.data }, { on := 13, ground := Ground.chain }, { on := 0, ground := Ground.phase }, { on := 1, ground := Ground.phase }, { on := 2, ground := Ground.phase }, { on := 3, ground := Ground.phase }, { on := 4, ground := Ground.textOnly Departure.lateStores }, { on := 5, ground := Ground.textOnly Departure.lateStores }, { on := 6, ground := Ground.textOnly Departure.lateStores }, { on := 7, ground := Ground.textOnly Departure.lateStores }, { on := 8, ground := Ground.textOnly Departure.lateStoresUnsure }, { on := 9, ground := Ground.textOnly Departure.lateStores }, { on := 10, ground := Ground.textOnly Departure.lateStores }, { on := 11, ground := Ground.textOnly Departure.lateStores }, { on := 12, ground := Ground.textOnly Departure.lateStores }, { on := 13, ground := Ground.textOnly Departure.lateStoresUnsure }], guard := none }) (v := ?_) rfl (by kernel_rfl) (by kernel_rfl) (by kernel_rfl) (fun _ _ _ h => h) (Or.inl ⟨by rfl, ?_⟩) (by assumption) ?_
                      rotate_left
                      · (intro w hSw; (try dsimp only at hSw); go_simp; first | done | with_reducible rfl)
                      try simp only [Act.put, List.setIfInBounds_toArray, List.set_cons_zero, List.set_cons_succ]
                      refine wpAnyH_take (i := 15) (oi := { dst := some 22, op := Op.assign (Operand.tmp 143), type := 63, pos := "law.go:168", after := #[{ on := 13, ground := Ground.data }, { on := 14, ground := Ground.chain }, { on := 0, ground := Ground.phase }, { on := 1, ground := Ground.phase }, { on := 2, ground := Ground.phase }, { on := 3, ground := Ground.phase }, { on := 4, ground := Ground.phase }, { on := 5, ground := Ground.phase }, { on := 6, ground := Ground.phase }, { on := 7, ground := Ground.phase }, { on := 8, ground := Ground.phase }, { on := 9, ground := Ground.phase }, { on := 10, ground := Ground.phase }, { on := 11, ground := Ground.phase }, { on := 12, ground := Ground.phase }, { on := 13, ground := Ground.phase }, { on := 14, ground := Ground.phase }], guard := none }) (v := ?_) rfl (by kernel_rfl) (by kernel_rfl) (by kernel_rfl) (fun _ _ _ h => h) (Or.inl ⟨by rfl, ?_⟩) (by assumption) ?_
                      rotate_left
                      · (intro w hSw; (try dsimp only at hSw); go_simp; first | done | with_reducible rfl)
                      try simp only [Act.put, List.setIfInBounds_toArray, List.set_cons_zero, List.set_cons_succ]
                      refine wpAnyH_done (by kernel_rfl) ?_ _
                      go_wp2_with fail
                      go_roundg (D.length - (i + 1))
                      case measure => omega
                      case rel => exact ⟨i + 1, row ++ [v], _, _, rfl, by omega, Nat.le_refl _, Aside0.mk (by show T2 _ _ _ _ _ _ _ _ _ _ _ _; rw [List.map_append]; exact TT.out.toT2), NX⟩
                    refine AllReadyH.cons (o := { dst := some 142, op := Op.buildSlice 63 1 #[(0, Operand.tmp 141)], type := 63, pos := "law.go:168", after := #[{ on := 11, ground := Ground.data }], guard := none }) rfl (fun KK hKK => ?_) AllReadyH.nil
                    go_simp
                    refine hKK.out _ _ ?_ (fun hHeld2 => ?_)
                    · exact (TT.out.buildY 3).cells F0.out
                    clear hKK KK hHeld
                    have hHeld := hHeld2
                    clear hHeld2
                    try simp only [Act.put, List.setIfInBounds_toArray, List.set_cons_zero, List.set_cons_succ]
                    replace TT := Aside0.mk (TT.out.buildY 3)
                    refine wpAnyH_ready (rs := [3]) (by kernel_rfl) (by simp) ?_
                    refine AllReadyH.cons (o := { dst := some 133, op := Op.call { callee := Callee.builtin Builtin.append, args := #[Operand.tmp 130, Operand.tmp 132], argTypes := #[52, 52] }, type := 52, pos := "law.go:168", after := #[{ on := 0, ground := Ground.data }, { on := 2, ground := Ground.data }], guard := none }) rfl (fun KK hKK => ?_) AllReadyH.nil
                    refine Kd.N_append_rows_step kDm (w0 := _) (W := _) wo.heap.size rfl (.tmp 130) (.tmp 132) 52 62 (.agg #[.int .i64 0, .slice none 0 0, .int .i64 0, .int .i64 0, .int .i64 0]) 56 (by rfl) Tryd.underlying52 info62c rfl (by decide) (by decide) u21 (row.map sg) [[v]] _ 1 1 (okN _ okC _) _ (by rfl) (by first | rfl | (show Value.slice (some ⟨_, 0, none⟩) 1 1 = _; simp)) (Kd.N_mono TT.out.a (fun k hk => .inl hk)) TT.out.atX TT.out.okp (fun k hk => .inr (.inr hk)) (Below.refl _ _) TT.out.below.size (by first | (rw [List.length_map]; omega) | omega) ?_
                    intro vX wn hn hb hg hat
                    replace TT := Aside0.mk (TT.out.appX hn hb hg)
                    clear hn hb hg hat
                    refine hKK.out _ _ ?_ (fun hHeld2 => ?_)
                    · exact TT.out.cells F0.out
                    clear hKK KK hHeld
                    have hHeld := hHeld2
                    clear hHeld2
                    try simp only [Act.put, List.setIfInBounds_toArray, List.set_cons_zero, List.set_cons_succ]
                    refine wpAnyH_ready (rs := [13]) (by kernel_rfl) (by simp) ?_
                    refine AllReadyH.cons (o := { dst := some 143, op := Op.call { callee := Callee.builtin Builtin.append, args := #[Operand.tmp 134, Operand.tmp 142], argTypes := #[63, 63] }, type := 63, pos := "law.go:168", after := #[{ on := 4, ground := Ground.data }, { on := 12, ground := Ground.data }, { on := 3, ground := Ground.chain }], guard := none }) rfl (fun KK hKK => ?_) AllReadyH.nil
                    refine Kd.N_append_rows_step (Kd.int .i64) (w0 := _) (W := _) wo.heap.size rfl (.tmp 134) (.tmp 142) 63 3 (.int .i64 0) 8 (by rfl) Tryd.underlying63 info3c rfl (by decide) (by decide) u22 row [v] _ 1 1 (okN _ okE _) _ (by rfl) (by first | rfl | (show Value.slice (some ⟨_, 0, none⟩) 1 1 = _; simp)) (Kd.N_mono TT.out.b (fun k hk => .inl hk)) TT.out.atY TT.out.okq (fun k hk => .inr (.inr hk)) (Below.refl _ _) TT.out.below.size (by first | (rw [List.length_map]; omega) | omega) ?_
                    intro vY wn hn hb hg hat
                    replace TT := Aside0.mk (TT.out.appY hn hb hg)
                    clear hn hb hg hat
                    refine hKK.out _ _ ?_ (fun hHeld2 => ?_)
                    · exact TT.out.cells F0.out
                    clear hKK KK hHeld
                    have hHeld := hHeld2
                    clear hHeld2
                    try simp only [Act.put, List.setIfInBounds_toArray, List.set_cons_zero, List.set_cons_succ]
                    refine wpAnyH_take (i := 14) (oi := { dst := some 21, op := Op.assign (Operand.tmp 133), type := 52, pos := "law.go:168", after := #[{ on := 3, ground := Ground.data }, { on := 13, ground := Ground.chain }, { on := 0, ground := Ground.phase }, { on := 1, ground := Ground.phase }, { on := 2, ground := Ground.phase }, { on := 3, ground := Ground.phase }, { on := 4, ground := Ground.textOnly Departure.lateStores }, { on := 5, ground := Ground.textOnly Departure.lateStores }, { on := 6, ground := Ground.textOnly Departure.lateStores }, { on := 7, ground := Ground.textOnly Departure.lateStores }, { on := 8, ground := Ground.textOnly Departure.lateStoresUnsure }, { on := 9, ground := Ground.textOnly Departure.lateStores }, { on := 10, ground := Ground.textOnly Departure.lateStores }, { on := 11, ground := Ground.textOnly Departure.lateStores }, { on := 12, ground := Ground.textOnly Departure.lateStores }, { on := 13, ground := Ground.textOnly Departure.lateStoresUnsure }], guard := none }) (v := ?_) rfl (by kernel_rfl) (by kernel_rfl) (by kernel_rfl) (fun _ _ _ h => h) (Or.inl ⟨by rfl, ?_⟩) (by assumption) ?_
                    rotate_left
                    · (intro w hSw; (try dsimp only at hSw); go_simp; first | done | with_reducible rfl)
                    try simp only [Act.put, List.setIfInBounds_toArray, List.set_cons_zero, List.set_cons_succ]
                    refine wpAnyH_take (i := 15) (oi := { dst := some 22, op := Op.assign (Operand.tmp 143), type := 63, pos := "law.go:168", after := #[{ on := 13, ground := Ground.data }, { on := 14, ground := Ground.chain }, { on := 0, ground := Ground.phase }, { on := 1, ground := Ground.phase }, { on := 2, ground := Ground.phase }, { on := 3, ground := Ground.phase }, { on := 4, ground := Ground.phase }, { on := 5, ground := Ground.phase }, { on := 6, ground := Ground.phase }, { on := 7, ground := Ground.phase }, { on := 8, ground := Ground.phase }, { on := 9, ground := Ground.phase }, { on := 10, ground := Ground.phase }, { on := 11, ground := Ground.phase }, { on := 12, ground := Ground.phase }, { on := 13, ground := Ground.phase }, { on := 14, ground := Ground.phase }], guard := none }) (v := ?_) rfl (by kernel_rfl) (by kernel_rfl) (by kernel_rfl) (fun _ _ _ h => h) (Or.inl ⟨by rfl, ?_⟩) (by assumption) ?_
                    rotate_left
                    · (intro w hSw; (try dsimp only at hSw); go_simp; first | done | with_reducible rfl)
                    try simp only [Act.put, List.setIfInBounds_toArray, List.set_cons_zero, List.set_cons_succ]
                    refine wpAnyH_done (by kernel_rfl) ?_ _
                    go_wp2_with fail
                    go_roundg (D.length - (i + 1))
                    case measure => omega
                    case rel => exact ⟨i + 1, row ++ [v], _, _, rfl, by omega, Nat.le_refl _, Aside0.mk (by show T2 _ _ _ _ _ _ _ _ _ _ _ _; rw [List.map_append]; exact TT.out.toT2), NX⟩
                  refine AllReadyH.cons (o := { dst := some 142, op := Op.buildSlice 63 1 #[(0, Operand.tmp 141)], type := 63, pos := "law.go:168", after := #[{ on := 11, ground := Ground.data }], guard := none }) rfl (fun KK hKK => ?_) AllReadyH.nil
                  go_simp
                  refine hKK.out _ _ ?_ (fun hHeld2 => ?_)
                  · exact (TT.out.buildY 3).cells F0.out
                  clear hKK KK hHeld
                  have hHeld := hHeld2
                  clear hHeld2
                  try simp only [Act.put, List.setIfInBounds_toArray, List.set_cons_zero, List.set_cons_succ]
                  replace TT := Aside0.mk (TT.out.buildY 3)
                  refine wpAnyH_ready (rs := [2]) (by kernel_rfl) (by simp) ?_
                  refine AllReadyH.cons (o := { dst := some 132, op := Op.buildSlice 52 1 #[(0, Operand.tmp 131)], type := 52, pos := "law.go:168", after := #[{ on := 1, ground := Ground.data }], guard := none }) rfl (fun KK hKK => ?_) AllReadyH.nil
                  go_simp
                  refine hKK.out _ _ ?_ (fun hHeld2 => ?_)
                  · exact (TT.out.buildX 62).cells F0.out
                  clear hKK KK hHeld
                  have hHeld := hHeld2
                  clear hHeld2
                  try simp only [Act.put, List.setIfInBounds_toArray, List.set_cons_zero, List.set_cons_succ]
                  replace TT := Aside0.mk (TT.out.buildX 62)
                  refine wpAnyH_ready (rs := [3]) (by kernel_rfl) (by simp) ?_
                  refine AllReadyH.cons (o := { dst := some 133, op := Op.call { callee := Callee.builtin Builtin.append, args := #[Operand.tmp 130, Operand.tmp 132], argTypes := #[52, 52] }, type := 52, pos := "law.go:168", after := #[{ on := 0, ground := Ground.data }, { on := 2, ground := Ground.data }], guard := none }) rfl (fun KK hKK => ?_) AllReadyH.nil
                  refine Kd.N_append_rows_step kDm (w0 := _) (W := _) wo.heap.size rfl (.tmp 130) (.tmp 132) 52 62 (.agg #[.int .i64 0, .slice none 0 0, .int .i64 0, .int .i64 0, .int .i64 0]) 56 (by rfl) Tryd.underlying52 info62c rfl (by decide) (by decide) u21 (row.map sg) [[v]] _ 1 1 (okN _ okC _) _ (by rfl) (by first | rfl | (show Value.slice (some ⟨_, 0, none⟩) 1 1 = _; simp)) (Kd.N_mono TT.out.a (fun k hk => .inl hk)) TT.out.atX TT.out.okp (fun k hk => .inr (.inr hk)) (Below.refl _ _) TT.out.below.size (by first | (rw [List.length_map]; omega) | omega) ?_
                  intro vX wn hn hb hg hat
                  replace TT := Aside0.mk (TT.out.appX hn hb hg)
                  clear hn hb hg hat
                  refine hKK.out _ _ ?_ (fun hHeld2 => ?_)
                  · exact TT.out.cells F0.out
                  clear hKK KK hHeld
                  have hHeld := hHeld2
                  clear hHeld2
                  try simp only [Act.put, List.setIfInBounds_toArray, List.set_cons_zero, List.set_cons_succ]
                  refine wpAnyH_ready (rs := [13]) (by kernel_rfl) (by simp) ?_
                  refine AllReadyH.cons (o := { dst := some 143, op := Op.call { callee := Callee.builtin Builtin.append, args := #[Operand.tmp 134, Operand.tmp 142], argTypes := #[63, 63] }, type := 63, pos := "law.go:168", after := #[{ on := 4, ground := Ground.data }, { on := 12, ground := Ground.data }, { on := 3, ground := Ground.chain }], guard := none }) rfl (fun KK hKK => ?_) AllReadyH.nil
                  refine Kd.N_append_rows_step (Kd.int .i64) (w0 := _) (W := _) wo.heap.size rfl (.tmp 134) (.tmp 142) 63 3 (.int .i64 0) 8 (by rfl) Tryd.underlying63 info3c rfl (by decide) (by decide) u22 row [v] _ 1 1 (okN _ okE _) _ (by rfl) (by first | rfl | (show Value.slice (some ⟨_, 0, none⟩) 1 1 = _; simp)) (Kd.N_mono TT.out.b (fun k hk => .inl hk)) TT.out.atY TT.out.okq (fun k hk => .inr (.inr hk)) (Below.refl _ _) TT.out.below.size (by first | (rw [List.length_map]; omega) | omega) ?_
                  intro vY wn hn hb hg hat
                  replace TT := Aside0.mk (TT.out.appY hn hb hg)
                  clear hn hb hg hat
                  refine hKK.out _ _ ?_ (fun hHeld2 => ?_)
                  · exact TT.out.cells F0.out
                  clear hKK KK hHeld
                  have hHeld := hHeld2
                  clear hHeld2
                  try simp only [Act.put, List.setIfInBounds_toArray, List.set_cons_zero, List.set_cons_succ]
                  refine wpAnyH_take (i := 14) (oi := { dst := some 21, op := Op.assign (Operand.tmp 133), type := 52, pos := "law.go:168", after := #[{ on := 3, ground := Ground.data }, { on := 13, ground := Ground.chain }, { on := 0, ground := Ground.phase }, { on := 1, ground := Ground.phase }, { on := 2, ground := Ground.phase }, { on := 3, ground := Ground.phase }, { on := 4, ground := Ground.textOnly Departure.lateStores }, { on := 5, ground := Ground.textOnly Departure.lateStores }, { on := 6, ground := Ground.textOnly Departure.lateStores }, { on := 7, ground := Ground.textOnly Departure.lateStores }, { on := 8, ground := Ground.textOnly Departure.lateStoresUnsure }, { on := 9, ground := Ground.textOnly Departure.lateStores }, { on := 10, ground := Ground.textOnly Departure.lateStores }, { on := 11, ground := Ground.textOnly Departure.lateStores }, { on := 12, ground := Ground.textOnly Departure.lateStores }, { on := 13, ground := Ground.textOnly Departure.lateStoresUnsure }], guard := none }) (v := ?_) rfl (by kernel_rfl) (by kernel_rfl) (by kernel_rfl) (fun _ _ _ h => h) (Or.inl ⟨by rfl, ?_⟩) (by assumption) ?_
                  rotate_left
                  · (intro w hSw; (try dsimp only at hSw); go_simp; first | done | with_reducible rfl)
                  try simp only [Act.put, List.setIfInBounds_toArray, List.set_cons_zero, List.set_cons_succ]
                  refine wpAnyH_take (i := 15) (oi := { dst := some 22, op := Op.assign (Operand.tmp 143), type := 63, pos := "law.go:168", after := #[{ on := 13, ground := Ground.data }, { on := 14, ground := Ground.chain }, { on := 0, ground := Ground.phase }, { on := 1, ground := Ground.phase }, { on := 2, ground := Ground.phase }, { on := 3, ground := Ground.phase }, { on := 4, ground := Ground.phase }, { on := 5, ground := Ground.phase }, { on := 6, ground := Ground.phase }, { on := 7, ground := Ground.phase }, { on := 8, ground := Ground.phase }, { on := 9, ground := Ground.phase }, { on := 10, ground := Ground.phase }, { on := 11, ground := Ground.phase }, { on := 12, ground := Ground.phase }, { on := 13, ground := Ground.phase }, { on := 14, ground := Ground.phase }], guard := none }) (v := ?_) rfl (by kernel_rfl) (by kernel_rfl) (by kernel_rfl) (fun _ _ _ h => h) (Or.inl ⟨by rfl, ?_⟩) (by assumption) ?_
                  rotate_left
                  · (intro w hSw; (try dsimp only at hSw); go_simp; first | done | with_reducible rfl)
                  try simp only [Act.put, List.setIfInBounds_toArray, List.set_cons_zero, List.set_cons_succ]
                  refine wpAnyH_done (by kernel_rfl) ?_ _
                  go_wp2_with fail
                  go_roundg (D.length - (i + 1))
                  case measure => omega
                  case rel => exact ⟨i + 1, row ++ [v], _, _, rfl, by omega, Nat.le_refl _, Aside0.mk (by show T2 _ _ _ _ _ _ _ _ _ _ _ _; rw [List.map_append]; exact TT.out.toT2), NX⟩
            · have hi : i = D.length := by omega
              subst hi
              obtain ⟨wp, rfl⟩ : ∃ wp, wp = wr := ⟨_, rfl⟩
              have HI9 := Aside0.mk (HI8.out.step HK.out.below)
              have TW := Aside0.mk (fun (w9 : World) (h9 : Below wp.heap.size wp w9) => HT.out.call (below_step HI9.out.below h9))
              obtain ⟨Ao, co, rfl⟩ := Kd.N_slice HK.out.a
              obtain ⟨Ar, cr, rfl⟩ := Kd.N_slice HK.out.b
              simp only [List.length_map]
              have hrb : row.length ≤ 4 := by have := HR.out.1; omega
              have FO := Aside0.mk (filterOne w.heap.size F w.heap.size L j 4 Ao co row wp (TW.out _ (Below.refl _ _)) HI9.out.nb HL.out (by omega) (by decide) (drow_N HK.out.a) (by omega))
              have CR := Aside0.mk (Kd.N_reads' HK.out.b).2.2
              have FRW := Aside0.mk (fun (w9 : World) (h9 : Below wp.heap.size wp w9) => freeW w.heap.size F (w.heap.size + 1) w.heap.size L Ar cr row w9 (HI9.out.step h9).nb HLb.out.1 HLb.out.2 (HI9.out.step h9).cell (Kd.C_below CR.out h9) (by omega))
              have c7 := HI9.out.cell
              have HE9 := Aside0.mk (show ∀ E, RR = some E → n6 = D.length ∧ E.length = D.length ∧ DRow wp A6 E from fun E h => by obtain ⟨h1, h2, h3⟩ := HE8.out E h; exact ⟨h1, h2, h3.below HK.out.below⟩)
              generalize freeR L row = fb at FO FRW
              clear HK HR HE8 HEM HDB8 CR
              go_upto_if 151 with (go_at_call 17; ((with_reducible refine FO.out.mono ?_); rintro e w8 ⟨A8, n8, c8, rfl, hb8⟩; have BW := Aside0.mk hb8; have c8' := (HI9.out.step hb8).cell; clear hb8))
              cases sb with
              | false =>
                go_wp2_with (first
                  | (go_at_call 8; ((with_reducible refine (wakes_ok _ (TW.out _ BW.out)).mono ?_); rintro e w11 ⟨rfl, hb11⟩; have B11 := Aside0.mk (below_step BW.out hb11); clear hb11))
                  | (go_at_call 23; ((with_reducible refine (FRW.out _ B11.out).mono ?_); rintro e w12 ⟨rfl, hb12⟩; have B12 := Aside0.mk (below_step B11.out hb12); clear hb12)))
                go_ret
                exact ⟨by cases fb <;> rfl, below_step HI9.out.below B12.out⟩
              | true =>
                obtain ⟨E, hE⟩ := Option.isSome_iff_exists.1 HSB.out
                obtain ⟨hn6, hEl, hDR⟩ := HE9.out E hE
                subst hn6
                have hFE := (HAG.out E hE).1
                have FE := filterQ w.heap.size F w.heap.size L j 4 A6 c6 E w8 (TW.out _ BW.out) (HI9.out.step BW.out).nb HL.out (by omega) (by decide) (hDR.below BW.out) (by omega)
                rw [hFE, hEl] at FE
                have FE1 := Aside0.mk FE
                have HDR := Aside0.mk hDR
                have HEL := Aside0.mk hEl
                clear hE hDR hFE FE hEl HAG HSB HE9
                go_upto_region 43 with (go_at_call 17; ((with_reducible refine FE1.out.mono ?_); rintro e w10 ⟨A10, n10, c10, rfl, hb10, hE10⟩; obtain ⟨hn10, _, hD10⟩ := hE10 E rfl; subst hn10; have B10 := Aside0.mk (below_step BW.out hb10); have HD10 := Aside0.mk hD10; clear hb10 hE10 hD10))
                go_loopg [32, 169] D.length (fun kx s32 s169 wz => ∃ q : Nat, s169 = .int .i64 q ∧ q ≤ D.length ∧ D.length - q ≤ kx ∧ Aside0 (Below w10.heap.size w10 wz))
                case atStart => exact ⟨0, rfl, Nat.zero_le _, by omega, Aside0.mk (Below.refl _ _)⟩
                case round =>
                  obtain ⟨q, rfl, hql, hgq, HQ⟩ := hrel
                  by_cases hlq : q < D.length
                  · have hqE : q < E.length := by have := HEL.out; omega
                    obtain ⟨b6, o6, rfl, hbw6, hcell6⟩ := (HDR.out.below B10.out).pos (by omega)
                    obtain ⟨off, sv, ws, hx, d0, d1, d2, d3, d4⟩ := (hcell6 q hqE).below hbw6 HQ.out
                    obtain ⟨Aw, cw, rfl⟩ := hx.sl.len
                    obtain ⟨b8, o8, rfl, hbw8, hcell8⟩ := HD10.out.pos (by omega)
                    obtain ⟨off', sv', ws', hx', g0, g1, g2, g3, g4⟩ := (hcell8 q hqE).below hbw8 HQ.out
                    obtain ⟨Aw', cw', rfl⟩ := hx'.sl.len
                    have CE := Aside0.mk (fun (w9 : World) (h9 : Below wr.heap.size wr w9) => equalW (Go.Proofs.YtgckohmppefibaaDoor.Dm.val off' (.slice Aw' ws'.length cw') E[q]) (Go.Proofs.YtgckohmppefibaaDoor.Dm.val off (.slice Aw ws.length cw) E[q]) E[q] w9 ⟨_, _, _, rfl, hx'.call h9⟩ ⟨_, _, _, rfl, hx.call h9⟩ (TW.out w9 (below_step (below_step B10.out HQ.out) h9)))
                    unfold Go.Proofs.YtgckohmppefibaaDoor.Dm.val at CE
                    clear hx hx' hcell6 hcell8
                    generalize E[q] = zl at d2 d3 d4 g2 g3 g4 CE
                    generalize zl.headD 0 = p0 at d2 g2 CE
                    generalize zl.getLastD 0 = p1 at d3 g3 CE
                    generalize zl.length = p2 at d4 g4 CE
                    generalize ws.length = nw at d1 CE
                    generalize ws'.length = nw' at g1 CE
                    have KP : ∀ (w9 : World), Below wr.heap.size wr w9 → ∀ (b o : Nat) (u : Value), wr.cell? ⟨b, o, none⟩ = some u → w9.cell? ⟨b, o, none⟩ = some u := fun w9 h9 b o u hp => (h9.cell (p := ⟨b, o, none⟩) (World.block_lt_of_cell? _ _ hp)).trans hp
                    have SIX := Aside0.mk (fun (w9 : World) (h9 : Below wr.heap.size wr w9) => And.intro (KP w9 h9 _ _ _ d0) (And.intro (KP w9 h9 _ _ _ d1) (And.intro (KP w9 h9 _ _ _ d2) (And.intro (KP w9 h9 _ _ _ d3) (And.intro (KP w9 h9 _ _ _ d4) (And.intro (KP w9 h9 _ _ _ g0) (And.intro (KP w9 h9 _ _ _ g1) (And.intro (KP w9 h9 _ _ _ g2) (And.intro (KP w9 h9 _ _ _ g3) (KP w9 h9 _ _ _ g4))))))))))
                    have hz := Aside0.mk (below_drew (Below.refl wr.heap.size wr))
                    clear KP d0 d1 d2 d3 d4 g0 g1 g2 g3 g4
                    have hq9 : (q : Int) < (D.length : Int) := by omega
                    have hq8 : (0 : Int) ≤ (q : Int) := by omega
                    go_wp2_with fail
                    refine wp_region_held_drew (S := fun w' => w'.cell? ⟨b6, o6 + q * 5, none⟩ = some (.int .i64 off) ∧ w'.cell? ⟨b6, o6 + q * 5 + 1, none⟩ = some (.slice Aw nw cw) ∧ w'.cell? ⟨b6, o6 + q * 5 + 2, none⟩ = some (.int .i64 p0) ∧ w'.cell? ⟨b6, o6 + q * 5 + 3, none⟩ = some (.int .i64 p1) ∧ w'.cell? ⟨b6, o6 + q * 5 + 4, none⟩ = some (.int .i64 p2) ∧ w'.cell? ⟨b8, o8 + q * 5, none⟩ = some (.int .i64 off') ∧ w'.cell? ⟨b8, o8 + q * 5 + 1, none⟩ = some (.slice Aw' nw' cw') ∧ w'.cell? ⟨b8, o8 + q * 5 + 2, none⟩ = some (.int .i64 p0) ∧ w'.cell? ⟨b8, o8 + q * 5 + 3, none⟩ = some (.int .i64 p1) ∧ w'.cell? ⟨b8, o8 + q * 5 + 4, none⟩ = some (.int .i64 p2)) (by kernel_rfl) ?_ (fun hHeld => ?_)
                    · exact SIX.out _ hz.out
                    refine wpAnyH_take (i := 0) (oi := { dst := some 172, op := Op.move (Operand.tmp 30), type := 52, pos := "law.go:177", after := #[], guard := none }) (v := ?_) rfl (by kernel_rfl) (by kernel_rfl) (by kernel_rfl) (fun _ _ _ h => h) (Or.inl ⟨by rfl, ?_⟩) (by assumption) ?_
                    rotate_left
                    · (intro w hSw; (try dsimp only at hSw); go_simp; first | done | with_reducible rfl)
                    try simp only [Act.put, List.setIfInBounds_toArray, List.set_cons_zero, List.set_cons_succ]
                    refine wpAnyH_take (i := 1) (oi := { dst := some 173, op := Op.move (Operand.tmp 32), type := 3, pos := "law.go:177", after := #[], guard := none }) (v := ?_) rfl (by kernel_rfl) (by kernel_rfl) (by kernel_rfl) (fun _ _ _ h => h) (Or.inl ⟨by rfl, ?_⟩) (by assumption) ?_
                    rotate_left
                    · (intro w hSw; (try dsimp only at hSw); go_simp; first | done | with_reducible rfl)
                    try simp only [Act.put, List.setIfInBounds_toArray, List.set_cons_zero, List.set_cons_succ]
                    refine wpAnyH_take (i := 2) (oi := { dst := some 174, op := Op.indexAddr 52 (Operand.tmp 172) (Operand.tmp 173), type := 0, pos := "law.go:177", after := #[{ on := 0, ground := Ground.data }, { on := 1, ground := Ground.data }], guard := none }) (v := ?_) rfl (by kernel_rfl) (by kernel_rfl) (by kernel_rfl) (fun _ _ _ h => h) (Or.inl ⟨by rfl, ?_⟩) (by assumption) ?_
                    rotate_left
                    · (intro w hSw; (try dsimp only at hSw); go_simp; first | done | with_reducible rfl)
                    try simp only [Act.put, List.setIfInBounds_toArray, List.set_cons_zero, List.set_cons_succ]
                    refine wpAnyH_take (i := 3) (oi := { dst := some 175, op := Op.load 62 (Operand.tmp 174), type := 62, pos := "law.go:177", after := #[{ on := 2, ground := Ground.data }], guard := none }) (v := ?_) rfl (by kernel_rfl) (by kernel_rfl) (by kernel_rfl) (fun _ _ _ h => h) (Or.inl ⟨by rfl, ?_⟩) (by assumption) ?_
                    rotate_left
                    · (intro w hSw; (try dsimp only at hSw); go_simp; first | done | with_reducible rfl)
                    try simp only [Act.put, List.setIfInBounds_toArray, List.set_cons_zero, List.set_cons_succ]
                    refine wpAnyH_take (i := 4) (oi := { dst := some 176, op := Op.move (Operand.tmp 14), type := 52, pos := "law.go:177", after := #[], guard := none }) (v := ?_) rfl (by kernel_rfl) (by kernel_rfl) (by kernel_rfl) (fun _ _ _ h => h) (Or.inl ⟨by rfl, ?_⟩) (by assumption) ?_
                    rotate_left
                    · (intro w hSw; (try dsimp only at hSw); go_simp; first | done | with_reducible rfl)
                    try simp only [Act.put, List.setIfInBounds_toArray, List.set_cons_zero, List.set_cons_succ]
                    refine wpAnyH_take (i := 5) (oi := { dst := some 177, op := Op.move (Operand.tmp 32), type := 3, pos := "law.go:177", after := #[], guard := none }) (v := ?_) rfl (by kernel_rfl) (by kernel_rfl) (by kernel_rfl) (fun _ _ _ h => h) (Or.inl ⟨by rfl, ?_⟩) (by assumption) ?_
                    rotate_left
                    · (intro w hSw; (try dsimp only at hSw); go_simp; first | done | with_reducible rfl)
                    try simp only [Act.put, List.setIfInBounds_toArray, List.set_cons_zero, List.set_cons_succ]
                    refine wpAnyH_take (i := 6) (oi := { dst := some 178, op := Op.indexAddr 52 (Operand.tmp 176) (Operand.tmp 177), type := 0, pos := "law.go:177", after := #[{ on := 4, ground := Ground.data }, { on := 5, ground := Ground.data }], guard := none }) (v := ?_) rfl (by kernel_rfl) (by kernel_rfl) (by kernel_rfl) (fun _ _ _ h => h) (Or.inl ⟨by rfl, ?_⟩) (by assumption) ?_
                    rotate_left
                    · (intro w hSw; (try dsimp only at hSw); go_simp; first | done | with_reducible rfl)
                    try simp only [Act.put, List.setIfInBounds_toArray, List.set_cons_zero, List.set_cons_succ]
                    refine wpAnyH_take (i := 7) (oi := { dst := some 179, op := Op.load 62 (Operand.tmp 178), type := 62, pos := "law.go:177", after := #[{ on := 6, ground := Ground.data }], guard := none }) (v := ?_) rfl (by kernel_rfl) (by kernel_rfl) (by kernel_rfl) (fun _ _ _ h => h) (Or.inl ⟨by rfl, ?_⟩) (by assumption) ?_
                    rotate_left
                    · (intro w hSw; (try dsimp only at hSw); go_simp; first | done | with_reducible rfl)
                    try simp only [Act.put, List.setIfInBounds_toArray, List.set_cons_zero, List.set_cons_succ]
                    refine wpAnyH_ready (rs := [8]) (by kernel_rfl) (by simp) ?_
                    refine AllReadyH.cons (o := { dst := some 180, op := Op.call { callee := Callee.value (Operand.func 31), args := #[Operand.tmp 175, Operand.tmp 179], argTypes := #[62, 62] }, type := 4, pos := "law.go:177", after := #[{ on := 3, ground := Ground.data }, { on := 7, ground := Ground.data }], guard := none }) rfl (fun KK hKK => ?_) AllReadyH.nil
                    go_simp
                    with_reducible refine (CE.out _ hz.out).mono ?_
                    rintro e w' ⟨rfl, hb9⟩
                    replace hz := Aside0.mk (below_step hz.out hb9)
                    clear hb9
                    go_wp2_with fail
                    refine hKK.out _ _ ?_ (fun hHeld2 => ?_)
                    · exact SIX.out _ hz.out
                    clear hKK KK hHeld
                    have hHeld := hHeld2
                    clear hHeld2
                    try simp only [Act.put, List.setIfInBounds_toArray, List.set_cons_zero, List.set_cons_succ]
                    refine wpAnyH_take (i := 9) (oi := { dst := some 181, op := Op.unOp UnOp.not 4 (Operand.tmp 180), type := 4, pos := "law.go:177", after := #[{ on := 8, ground := Ground.data }], guard := none }) (v := ?_) rfl (by kernel_rfl) (by kernel_rfl) (by kernel_rfl) (fun _ _ _ h => h) (Or.inl ⟨by rfl, ?_⟩) (by assumption) ?_
                    rotate_left
                    · (intro w hSw; (try dsimp only at hSw); go_simp; first | done | with_reducible rfl)
                    try simp only [Act.put, List.setIfInBounds_toArray, List.set_cons_zero, List.set_cons_succ]
                    refine wpAnyH_done (by kernel_rfl) ?_ _
                    go_wp2_with fail
                    go_roundg (D.length - (q + 1))
                    case measure => omega
                    case rel => exact ⟨q + 1, rfl, by omega, Nat.le_refl _, Aside0.mk (below_step HQ.out hz.out)⟩
                  · have hq : q = D.length := by omega
                    subst hq
                    have BX : Aside0 (Below wp.heap.size wp wr) := Aside0.mk (below_step B10.out HQ.out)
                    clear BW
                    have BW := BX
                    go_wp2_with (first
                      | (go_at_call 8; ((with_reducible refine (wakes_ok _ (TW.out _ BW.out)).mono ?_); rintro e w11 ⟨rfl, hb11⟩; have B11 := Aside0.mk (below_step BW.out hb11); clear hb11))
                      | (go_at_call 23; ((with_reducible refine (FRW.out _ B11.out).mono ?_); rintro e w12 ⟨rfl, hb12⟩; have B12 := Aside0.mk (below_step B11.out hb12); clear hb12)))
                    go_ret
                    exact ⟨by cases fb <;> rfl, below_step HI9.out.below B12.out⟩
end Go.Proofs.YtgckohmppefibaaDoorX.Hz
