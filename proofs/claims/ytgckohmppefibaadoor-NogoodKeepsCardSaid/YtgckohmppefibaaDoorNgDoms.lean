import Derived.Test.YtgckohmppefibaaDoorNgPlain
import Derived.Test.YtgckohmppefibaaDoorRefE
namespace Go.Proofs.YtgckohmppefibaaDoorX.Hz
open Go.RowKit Go.Proofs.YtgckohmppefibaaDoorW.PrintWords Go.Proofs.YtgckohmppefibaaDoorW.PrintLast Go.Proofs.YtgckohmppefibaaDoorW.PrintMore
attribute [local go_sem] max2_int min2_int max_two min_two max_three min_three max_four min_four
set_option linter.unusedVariables false
set_option linter.unusedSimpArgs false
attribute [local go_sem] Go.Proofs.YtgckohmppefibaaDoor.Hook.cell_two
/-- A domain in its five cells, as a kind that is read. -/
def kDm : Kd (List Int) where
  sz := 5
  E := []
  K := fun w x cs => ∃ (off : Int) (A : Option Addr) (n c : Nat) (ws : List Nat), cs = [.int .i64 off, .slice A n c, .int .i64 (x.headD 0), .int .i64 (x.getLastD 0), .int .i64 x.length] ∧ Go.Proofs.YtgckohmppefibaaDoor.Dm.RepX w off (.slice A n c) ws x
  M := fun _ _ _ _ _ => False
  K_len := by rintro w x cs ⟨_, _, _, _, _, rfl, _⟩; rfl
  K_one := by
    rintro w x cs ⟨_, _, _, _, _, rfl, _⟩ u hu
    simp only [List.mem_cons, List.not_mem_nil, or_false] at hu
    rcases hu with rfl | rfl | rfl | rfl | rfl <;> rfl
  K_below := by rintro w w1 x cs hb ⟨off, A, n, c, ws, rfl, h⟩; exact ⟨off, A, n, c, ws, rfl, h.call hb⟩
  K_of_M := fun h => h.elim
  M_mono := fun _ h => h
  M_bound := fun h => h.elim
  M_move := fun _ h => h
  M_lower := fun _ h => h
theorem sl_same {w w1 : World} {e size : Nat} {v : Value} {n : Nat} {xs : List Value} (h : Go.Proofs.YtgckohmppefibaaDoor.Sl w e size v n xs) (hm : ∀ b, v.ownBlock = some b → w1.heap[b]? = w.heap[b]?) : Go.Proofs.YtgckohmppefibaaDoor.Sl w1 e size v n xs := by
  obtain ⟨h0, ⟨rfl, rfl⟩ | ⟨b, o, c, cs, rfl, hc, h1⟩⟩ := h
  · exact ⟨h0, .inl ⟨rfl, rfl⟩⟩
  · exact ⟨h0, .inr ⟨b, o, c, cs, rfl, (hm b rfl).trans hc, h1⟩⟩
theorem repX_same {w w1 : World} {off : Int} {sv : Value} {ws : List Nat} {l : List Int} (h : Go.Proofs.YtgckohmppefibaaDoor.Dm.RepX w off sv ws l) (hm : ∀ b, sv.ownBlock = some b → w1.heap[b]? = w.heap[b]?) : Go.Proofs.YtgckohmppefibaaDoor.Dm.RepX w1 off sv ws l := ⟨sl_same h.sl hm, h.lt, h.mod, h.lo, h.hi, h.els, h.inr⟩
theorem sl_blk {w : World} {e size : Nat} {v : Value} {n : Nat} {xs : List Value} (h : Go.Proofs.YtgckohmppefibaaDoor.Sl w e size v n xs) : ∀ b, v.ownBlock = some b → b < w.heap.size := by
  obtain ⟨h0, ⟨rfl, rfl⟩ | ⟨b, o, c, cs, rfl, hc, h1⟩⟩ := h
  · intro b hb; cases hb
  · intro b' hb; cases hb; exact blk_lt hc
/-- A domain's cells, and what they lead to. -/
theorem fk_dm {w : World} {ok : Nat → Prop} {off : Int} {A : Option Addr} {n c : Nat} {ws : List Nat} {l : List Int} (h : Go.Proofs.YtgckohmppefibaaDoor.Dm.RepX w off (.slice A n c) ws l) (hok : ∀ b, (Value.slice A n c).ownBlock = some b → ok b) : Kd.FK kDm w ok l [.int .i64 off, .slice A n c, .int .i64 (l.headD 0), .int .i64 (l.getLastD 0), .int .i64 l.length] :=
  fun W' hW => ⟨off, A, n, c, ws, rfl, repX_same h (fun b hb => hW b (hok b hb) (sl_blk h.sl b hb))⟩
/-- A slice of numbers, read. -/
theorem ints_reads {w : World} {A : Option Addr} {n c : Nat} {l : List Int} (h : Go.Proofs.YtgckohmppefibaaDoor.Rd w (.slice A n c) l) : Kd.C (Kd.int .i64) w A l.length l ∧ n = l.length ∧ l.length ≤ c := by
  obtain ⟨⟨A1, c1, e⟩, hbig, hcap, hform⟩ := h
  cases e
  refine ⟨⟨rfl, hbig, fun hn => ?_⟩, rfl, (hcap _ _ _ rfl).1⟩
  obtain ⟨b, o, c2, e, hb, hc⟩ := hform hn
  cases e
  refine ⟨⟨b, o, none⟩, rfl, fun j p hj => ?_⟩
  obtain ⟨hjl, rfl⟩ := List.getElem?_eq_some_iff.1 hj
  refine ⟨[.int .i64 l[j]], rfl, rfl, fun i u hu => ?_⟩
  match i, hu with
  | 0, hu =>
    cases hu
    have h9 : ∀ m, (⟨b, o, none⟩ : Addr).add m = ⟨b, o + m, none⟩ := by intro m; unfold Addr.add; split <;> simp_all
    show w.cell? ((⟨b, o, none⟩ : Addr).add (j * 1 + 0)) = _
    rw [h9, Nat.mul_one, Nat.add_zero, hc j hjl, List.getD_eq_getElem?_getD, List.getElem?_eq_getElem hjl]
    rfl
  | i + 1, hu => simp at hu
/-- A slice of numbers, as a kind that is read (as ch. 2 reads it). -/
def kInts : Kd (List Int) where
  sz := 1
  E := []
  K := fun w x cs => ∃ (A : Option Addr) (n c : Nat), cs = [.slice A n c] ∧ Go.Proofs.YtgckohmppefibaaDoor.Rd w (.slice A n c) x
  M := fun _ _ _ _ _ => False
  K_len := by rintro w x cs ⟨_, _, _, rfl, _⟩; rfl
  K_one := by
    rintro w x cs ⟨_, _, _, rfl, _⟩ u hu
    rw [List.mem_singleton.1 hu]; rfl
  K_below := by rintro w w1 x cs hb ⟨A, n, c, rfl, h⟩; exact ⟨A, n, c, rfl, h.call hb⟩
  K_of_M := fun h => h.elim
  M_mono := fun _ h => h
  M_bound := fun h => h.elim
  M_move := fun _ h => h
  M_lower := fun _ h => h
theorem kInts_slice (w : World) (x : List Int) (cs : List Value) (h : kInts.K w x cs) : (Kd.slice 3 (Kd.int .i64)).K w x cs := by
  obtain ⟨A, n, c, rfl, h⟩ := h
  obtain ⟨h2, h3, h4⟩ := ints_reads h
  subst h3
  exact ⟨A, c, rfl, h4, h2⟩
theorem fk_ints {w : World} {ok : Nat → Prop} {A : Option Addr} {n c : Nat} {l : List Int} (h : Go.Proofs.YtgckohmppefibaaDoor.Sl w 3 1 (.slice A n c) l.length (Go.Proofs.YtgckohmppefibaaDoor.Iv l)) (hok : ∀ b, (Value.slice A n c).ownBlock = some b → ok b) : Kd.FK kInts w ok l [.slice A n c] := fun W' hW =>
  ⟨A, n, c, rfl, (sl_same h (w1 := W') (fun b hb => hW b (hok b hb) (sl_blk h b hb))).rd⟩
/-- A row of numbers of the call's own, as ch. 2 reads it. -/
theorem rd_own {w : World} {base : Nat} {ok : Nat → Prop} {A : Option Addr} {n c : Nat} {l : List Int} (h : Kd.R (Kd.int .i64) 3 w base ok (.slice A n c) l) : Go.Proofs.YtgckohmppefibaaDoor.Rd w (.slice A n c) l := by
  obtain ⟨A1, c1, e, hle, hC⟩ := Kd.R_reads h
  cases e
  obtain ⟨_, inner, ⟨_, hor⟩, _⟩ := h
  refine ⟨⟨_, _, rfl⟩, hC.2.1, fun A2 n2 c2 e => ?_, fun hn => ?_⟩
  · cases e
    refine ⟨hle, fun hA => ?_⟩
    subst hA
    rcases hor with ⟨e, hz⟩ | ⟨g, cap, cur, e, _⟩
    · injection e with _ _ e; exact ⟨hz, e⟩
    · cases e
  · rcases hor with ⟨_, hz⟩ | ⟨g, cap, cur, e, _, hh, _⟩
    · omega
    · cases e
      refine ⟨g, 0, c, rfl, blk_lt hh, fun j hj => ?_⟩
      obtain ⟨ad, e, hc⟩ := hC.2.2 hn
      cases e
      obtain ⟨cs, _, hK, hcell⟩ := hc j l[j] (List.getElem?_eq_getElem hj)
      have hK' : cs = [.int .i64 l[j]] := hK
      subst hK'
      have h3 := hcell 0 _ rfl
      have h9 : ∀ m, (⟨g, 0, none⟩ : Addr).add m = ⟨g, 0 + m, none⟩ := by intro m; unfold Addr.add; split <;> simp_all
      have e1 : j * (Kd.int .i64).sz + 0 = j := Nat.mul_one j
      rw [e1, h9] at h3
      rw [h3, List.getD_eq_getElem?_getD, List.getElem?_eq_getElem hj]
      rfl
/-- A row of domains of the call's own, read. -/
theorem drow_N {w : World} {base : Nat} {ok : Nat → Prop} {A : Option Addr} {n c : Nat} {D : List (List Int)} (h : Kd.N kDm 62 w base ok (.slice A n c) D) : DRow w A D := by
  obtain ⟨hn, hc, hC⟩ := Kd.N_reads' h
  obtain ⟨_, rows, hl, hR, _⟩ := h
  obtain ⟨_, inner, ⟨_, hor⟩, _⟩ := hR
  rcases hor with ⟨e, hz⟩ | ⟨g, cap, cur, e, _, hh, _⟩
  · cases e
    left
    exact ⟨rfl, List.eq_nil_of_length_eq_zero (by omega)⟩
  · cases e
    right
    refine ⟨g, 0, rfl, blk_lt hh, fun j hj => ?_⟩
    obtain ⟨ad, e, hcc⟩ := hC.2.2 (by omega)
    cases e
    obtain ⟨cs, _, ⟨off, A1, n1, c1, ws, rfl, hx⟩, hcell⟩ := hcc j D[j] (List.getElem?_eq_getElem hj)
    have h9 : ∀ m, (⟨g, 0, none⟩ : Addr).add m = ⟨g, 0 + m, none⟩ := by intro m; unfold Addr.add; split <;> simp_all
    have cl : ∀ i u, [Value.int .i64 off, .slice A1 n1 c1, .int .i64 (D[j].headD 0), .int .i64 (D[j].getLastD 0), .int .i64 D[j].length][i]? = some u → w.cell? ⟨g, 0 + j * 5 + i, none⟩ = some u := by
      intro i u hu
      have h3 := hcell i u hu
      have e1 : j * kDm.sz + i = j * 5 + i := rfl
      rw [e1, h9, ← Nat.add_assoc] at h3
      exact h3
    exact ⟨off, _, ws, hx, cl 0 _ rfl, cl 1 _ rfl, cl 2 _ rfl, cl 3 _ rfl, cl 4 _ rfl⟩
theorem of_of (m : List Int) (h : ∀ v ∈ m, -1000000 ≤ v ∧ v ≤ 1000000) (h2 : Go.Proofs.YtgckohmppefibaaDoor.Rf.hi m - Go.Proofs.YtgckohmppefibaaDoor.Rf.lo m < 65536 ∨ m = []) : Go.Proofs.YtgckohmppefibaaDoor.Rf.of (Go.Proofs.YtgckohmppefibaaDoor.Rf.of m) = Go.Proofs.YtgckohmppefibaaDoor.Rf.of m := by
  by_cases hm : m = []
  · subst hm; rfl
  · have hc : Go.Proofs.YtgckohmppefibaaDoor.Rf.code m = 0 := by
      unfold Go.Proofs.YtgckohmppefibaaDoor.Rf.code
      rw [if_neg hm, if_neg (by
        have : Go.Proofs.YtgckohmppefibaaDoor.Rf.inr m = true := List.all_eq_true.2 (fun v hv => decide_eq_true (h v hv))
        rw [this]; decide), if_neg (by rcases h2 with h2 | h2
                                       · omega
                                       · exact absurd h2 hm)]
    have e : Go.Proofs.YtgckohmppefibaaDoor.Rf.of m = Go.Proofs.YtgckohmppefibaaDoor.Rf.sort m := by unfold Go.Proofs.YtgckohmppefibaaDoor.Rf.of; rw [if_pos hc]
    have hs := Go.Proofs.YtgckohmppefibaaDoor.Rf.sort_sorted m
    have hmem := Go.Proofs.YtgckohmppefibaaDoor.Rf.sort_mem m
    have hne : Go.Proofs.YtgckohmppefibaaDoor.Rf.sort m ≠ [] := fun h0 => by
      have := (Go.Proofs.YtgckohmppefibaaDoor.Rf.lo_is m hm).1
      rw [← hmem, h0] at this
      cases this
    rw [e]
    have hc2 : Go.Proofs.YtgckohmppefibaaDoor.Rf.code (Go.Proofs.YtgckohmppefibaaDoor.Rf.sort m) = 0 := by
      unfold Go.Proofs.YtgckohmppefibaaDoor.Rf.code
      rw [if_neg hne, if_neg (by
        have : Go.Proofs.YtgckohmppefibaaDoor.Rf.inr (Go.Proofs.YtgckohmppefibaaDoor.Rf.sort m) = true := List.all_eq_true.2 (fun v hv => decide_eq_true (h v ((hmem v).1 hv)))
        rw [this]; decide)]
      obtain ⟨l1, l2⟩ := Go.Proofs.YtgckohmppefibaaDoor.Rf.lo_is _ hne
      obtain ⟨u1, u2⟩ := Go.Proofs.YtgckohmppefibaaDoor.Rf.hi_is _ hne
      obtain ⟨l3, l4⟩ := Go.Proofs.YtgckohmppefibaaDoor.Rf.lo_is m hm
      obtain ⟨u3, u4⟩ := Go.Proofs.YtgckohmppefibaaDoor.Rf.hi_is m hm
      have a1 := l4 _ ((hmem _).1 l1)
      have a2 := u4 _ ((hmem _).1 u1)
      rcases h2 with h2 | h2
      · rw [if_neg (by omega)]
      · exact absurd h2 hm
    unfold Go.Proofs.YtgckohmppefibaaDoor.Rf.of
    rw [if_pos hc2]
    exact (Go.Proofs.YtgckohmppefibaaDoor.Rf.sort_eq _ _ hs (fun u => Iff.rfl)).symm
/-- A domain of some small numbers. -/
def de8 (x : List Int) : List Int := Go.Proofs.YtgckohmppefibaaDoor.Rf.of ((x.take 5).map wrap64)
def Sm (x : List Int) : Prop := ∀ v ∈ x, -128 ≤ v ∧ v ≤ 127
theorem sm_of {x : List Int} (h : Sm x) : Go.Proofs.YtgckohmppefibaaDoor.Rf.of (de8 x) = de8 x := by
  unfold de8
  have hb : ∀ v ∈ (x.take 5).map wrap64, -128 ≤ v ∧ v ≤ 127 := fun v hv => by
    obtain ⟨u, hu, rfl⟩ := List.mem_map.1 hv
    have := h u (List.mem_of_mem_take hu)
    unfold wrap64; omega
  refine of_of _ (fun v hv => by have := hb v hv; omega) ?_
  by_cases hm : (x.take 5).map wrap64 = []
  · exact .inr hm
  · left
    have h1 := hb _ (Go.Proofs.YtgckohmppefibaaDoor.Rf.lo_is _ hm).1
    have h2 := hb _ (Go.Proofs.YtgckohmppefibaaDoor.Rf.hi_is _ hm).1
    omega
theorem de8_len (x : List Int) : (de8 x).length ≤ 5 := by
  unfold de8
  refine Nat.le_trans (Go.Proofs.YtgckohmppefibaaDoor.Rf.of_length _) ?_
  rw [List.length_map, List.length_take]; omega
/-- int8's, read. -/
theorem raw8 {w : World} {A : Option Addr} {l : List Int} (h : Kd.C (Kd.int .i8) w A l.length l) (hn : 0 < l.length) : ∃ b o, A = some ⟨b, o, none⟩ ∧ b < w.heap.size ∧ ∀ j (hj : j < l.length), w.cell? ⟨b, o + j, none⟩ = some (.int .i8 l[j]) := by
  obtain ⟨ad, hA, hc⟩ := h.2.2 hn
  have get : ∀ j (hj : j < l.length), w.cell? (ad.add j) = some (.int .i8 l[j]) := by
    intro j hj
    obtain ⟨c, _, hK, hcell⟩ := hc j l[j] (List.getElem?_eq_getElem hj)
    have hK' : c = [.int .i8 l[j]] := hK
    subst hK'
    have h3 := hcell 0 _ rfl
    have e : j * (Kd.int .i8).sz + 0 = j := Nat.mul_one j
    rw [e] at h3
    exact h3
  obtain ⟨b, o, sp⟩ := ad
  have h0 := get 0 hn
  have hsp : sp = none := by
    cases sp with
    | none => rfl
    | some x =>
      exfalso
      simp only [World.cell?, Addr.add] at h0
      simp at h0
      split at h0 <;> cases h0
  subst hsp
  have e : ∀ m, (⟨b, o, none⟩ : Addr).add m = ⟨b, o + m, none⟩ := by intro m; unfold Addr.add; split <;> simp_all
  rw [e] at h0
  refine ⟨b, o, hA, World.block_lt_of_cell? w _ h0, fun j hj => ?_⟩
  have h1 := get j hj
  rw [e] at h1
  exact h1
theorem raw8s {w : World} {A : Option Addr} {L : List (List Int)} (h : Kd.C (Kd.slice 25 (Kd.int .i8)) w A L.length L) (hn : 0 < L.length) : ∃ b o, A = some ⟨b, o, none⟩ ∧ b < w.heap.size ∧ ∀ j (hj : j < L.length), ∃ Aj cj, w.cell? ⟨b, o + j, none⟩ = some (.slice Aj L[j].length cj) ∧ L[j].length ≤ cj ∧ Kd.C (Kd.int .i8) w Aj L[j].length L[j] := by
  obtain ⟨ad, hA, hc⟩ := h.2.2 hn
  have get : ∀ j (hj : j < L.length), ∃ Aj cj, w.cell? (ad.add j) = some (.slice Aj L[j].length cj) ∧ L[j].length ≤ cj ∧ Kd.C (Kd.int .i8) w Aj L[j].length L[j] := by
    intro j hj
    obtain ⟨c, _, hK, hcell⟩ := hc j L[j] (List.getElem?_eq_getElem hj)
    obtain ⟨Aj, cj, rfl, h1, h2⟩ := hK
    have h3 := hcell 0 _ rfl
    have e : j * (Kd.slice 25 (Kd.int .i8)).sz + 0 = j := Nat.mul_one j
    rw [e] at h3
    exact ⟨Aj, cj, h3, h1, h2⟩
  obtain ⟨b, o, sp⟩ := ad
  obtain ⟨_, _, h0, _, _⟩ := get 0 hn
  have hsp : sp = none := by
    cases sp with
    | none => rfl
    | some x =>
      exfalso
      simp only [World.cell?, Addr.add] at h0
      simp at h0
      split at h0 <;> cases h0
  subst hsp
  have e : ∀ m, (⟨b, o, none⟩ : Addr).add m = ⟨b, o + m, none⟩ := by intro m; unfold Addr.add; split <;> simp_all
  rw [e] at h0
  refine ⟨b, o, hA, World.block_lt_of_cell? w _ h0, fun j hj => ?_⟩
  have h1 := get j hj
  rw [e] at h1
  exact h1
theorem info3c : (Tryd.prog.info? 3).map (fun i => (i.zero, i.size, i.bytes)) = some (some (.int .i64 0), 1, 8) := by kernel_rfl
theorem info25c : (Tryd.prog.info? 25).map (fun i => (i.zero, i.size, i.bytes)) = some (some (.int .i8 0), 1, 1) := by kernel_rfl
theorem info91c : (Tryd.prog.info? 91).map (fun i => (i.zero, i.size, i.bytes)) = some (some (.slice none 0 0), 1, 24) := by kernel_rfl
theorem info63c : (Tryd.prog.info? 63).map (fun i => (i.zero, i.size, i.bytes)) = some (some (.slice none 0 0), 1, 24) := by kernel_rfl
/-- What the loop of domains holds: a row of domains, a row of lists; their blocks apart. -/
structure DI (w0 wr : World) (D : List (List Int)) (va vb : Value) (okA okB : Nat → Prop) : Prop where
  below : Below w0.heap.size w0 wr
  a : Kd.N kDm 62 wr w0.heap.size okA va D
  b : Kd.N kInts 63 wr w0.heap.size okB vb D
  apart : ∀ k, okA k → ¬ okB k
  bA : ∀ k, okA k → k < wr.heap.size
  bB : ∀ k, okB k → k < wr.heap.size
theorem DI.step {w0 wr w1 : World} {D : List (List Int)} {va vb : Value} {okA okB : Nat → Prop} (h : DI w0 wr D va vb okA okB) (hb : Below wr.heap.size wr w1) : DI w0 w1 D va vb okA okB :=
  ⟨below_step h.below hb, Kd.N_below h.a hb, Kd.N_below h.b hb, h.apart, fun k hk => Nat.lt_of_lt_of_le (h.bA k hk) hb.size, fun k hk => Nat.lt_of_lt_of_le (h.bB k hk) hb.size⟩
/-- What a call of domains leaves. -/
def DP (D : List (List Int)) (w : World) (e : Ending) (w' : World) : Prop := ∃ Aa ca Ab cb okA okB, e = .returned (.tuple #[.slice Aa D.length ca, .slice Ab D.length cb]) ∧ DI w w' D (.slice Aa D.length ca) (.slice Ab D.length cb) okA okB
/-- The blocks of the two rows, behind the appends. -/
def okP (ok : Nat → Prop) (a b c : Nat) (k : Nat) : Prop := ok k ∨ (a ≤ k ∧ k < b) ∨ c ≤ k
/-- Behind the first append. -/
structure DK (w0 wr w3 w4 w5 W1 w6 : World) (D : List (List Int)) (n : List Int) (va va' vb so : Value) (okA okB : Nat → Prop) : Prop where
  below : Below w0.heap.size w0 w6
  a : Kd.N kDm 62 w6 w0.heap.size (okP okA w4.heap.size w5.heap.size W1.heap.size) va' (D ++ [n])
  b : Kd.N kInts 63 w6 w0.heap.size okB vb D
  so : Kd.FK kInts w6 (fun k => w3.heap.size ≤ k ∧ k < w4.heap.size) n [so]
  apart : ∀ k, okA k → ¬ okB k
  bA : ∀ k, okA k → k < wr.heap.size
  bB : ∀ k, okB k → k < wr.heap.size
  s : wr.heap.size ≤ w3.heap.size ∧ w3.heap.size ≤ w4.heap.size ∧ w4.heap.size ≤ w5.heap.size ∧ w5.heap.size ≤ W1.heap.size ∧ W1.heap.size ≤ w6.heap.size ∧ w0.heap.size ≤ wr.heap.size
theorem DI.mid {w0 wr w3 w4 w5 W1 w6 : World} {D : List (List Int)} {n : List Int} {va va' vb : Value} {As : Option Addr} {ns cs : Nat} {okA okB : Nat → Prop} (h : DI w0 wr D va vb okA okB) (h3 : Below wr.heap.size wr w3) (h4 : Below w3.heap.size w3 w4) (hso : Go.Proofs.YtgckohmppefibaaDoor.Sl w4 3 1 (.slice As ns cs) n.length (Go.Proofs.YtgckohmppefibaaDoor.Iv n)) (hown : ∀ b, (Value.slice As ns cs).ownBlock = some b → w3.heap.size ≤ b)
    (h5 : Below w4.heap.size w4 w5) (h1 : Below w5.heap.size w5 W1) (ha : Kd.N kDm 62 w6 w0.heap.size (okP okA w4.heap.size w5.heap.size W1.heap.size) va' (D ++ [n])) (hb6 : Below w0.heap.size W1 w6) (hg : W1.grownBy w6 va.ownBlock) :
    DK w0 wr w3 w4 w5 W1 w6 D n va va' vb (.slice As ns cs) okA okB := by
  have hW1 : Below wr.heap.size wr W1 := below_step (below_step (below_step h3 h4) h5) h1
  have hva : ∀ k, va.ownBlock = some k → okA k := h.a.1
  have b1 := h3.size
  have b2 := h4.size
  have b3 := h5.size
  have b4 := h1.size
  have b5 := hb6.size
  have b6 := h.below.size
  refine ⟨(below_step h.below hW1).trans hb6, ha, Kd.N_step (Kd.N_below h.b hW1) (fun k hk hlt => hg.block k hlt (fun he => h.apart k (hva k he.symm) hk)), ?_, h.apart, h.bA, h.bB, ⟨b1, b2, b3, b4, b5, b6⟩⟩
  have hbl : ∀ b, (Value.slice As ns cs).ownBlock = some b → w3.heap.size ≤ b ∧ b < w4.heap.size := fun b hb => ⟨hown b hb, sl_blk hso b hb⟩
  refine fk_ints (sl_same hso (fun b hb => ?_)) hbl
  obtain ⟨q1, q2⟩ := hbl b hb
  have e1 : W1.heap[b]? = w4.heap[b]? := (below_step h5 h1).block b q2
  rw [← e1]
  exact hg.block b (by omega) (fun he => by have := h.bA b (hva b he.symm); omega)
theorem DK.done {w0 wr w3 w4 w5 W1 w6 w7 : World} {D : List (List Int)} {n : List Int} {va va' vb vb' so : Value} {okA okB : Nat → Prop} (h : DK w0 wr w3 w4 w5 W1 w6 D n va va' vb so okA okB) (hb : Kd.N kInts 63 w7 w0.heap.size (okP okB w3.heap.size w4.heap.size w6.heap.size) vb' (D ++ [n])) (hb7 : Below w0.heap.size w6 w7) (hg : w6.grownBy w7 vb.ownBlock) :
    DI w0 w7 (D ++ [n]) va' vb' (fun k => okP okA w4.heap.size w5.heap.size W1.heap.size k ∧ k < w6.heap.size) (fun k => okP okB w3.heap.size w4.heap.size w6.heap.size k ∧ k < w7.heap.size) := by
  obtain ⟨b1, b2, b3, b4, b5, b6⟩ := h.s
  have hvb : ∀ k, vb.ownBlock = some k → okB k := h.b.1
  have ap : ∀ k, okP okA w4.heap.size w5.heap.size W1.heap.size k → k < w6.heap.size → ¬ okP okB w3.heap.size w4.heap.size w6.heap.size k := by
    intro k hk hlt ho
    rcases hk with hk | hk | hk
    · rcases ho with ho | ho | ho
      · exact h.apart k hk ho
      · have := h.bA k hk; omega
      · omega
    · rcases ho with ho | ho | ho
      · have := h.bB k ho; omega
      · omega
      · omega
    · rcases ho with ho | ho | ho
      · have := h.bB k ho; omega
      · omega
      · omega
  refine ⟨h.below.trans hb7, Kd.N_step (Kd.N_bound h.a) (fun k hk hlt => hg.block k hlt (fun he => ?_)), Kd.N_bound hb, fun k hk ho => ap k hk.1 hk.2 ho.1, fun k hk => Nat.lt_of_lt_of_le hk.2 hb7.size, fun k hk => hk.2⟩
  exact ap k hk.1 hk.2 (.inl (hvb k he.symm))
set_option maxHeartbeats 8000000 in
set_option maxRecDepth 100000 in
theorem domsW (A : Option Addr) (c : Nat) (l : List (List Int)) (most : Nat) (w : World) (hT : Go.Proofs.YtgckohmppefibaaDoor.Tab w) (hm : most ≤ 100) (hC : Kd.C (Kd.slice 25 (Kd.int .i8)) w A l.length l) (hc : l.length ≤ c) (hS : ∀ x ∈ l, Sm x) :
    Calls Tryd.prog 16 #[.slice A l.length c, .int .i64 (most : Int)] w (DP ((l.take most).map de8) w) := by
  obtain ⟨ji, hji⟩ : ∃ ji : Int, (if (most : Int) < (l.length : Int) then (most : Int) else (l.length : Int)) = ji := ⟨_, rfl⟩
  have hj0 : 0 ≤ ji ∧ ji ≤ l.length ∧ ji ≤ most ∧ (ji = most ∨ ji = l.length) := by rw [← hji]; split <;> omega
  obtain ⟨hj1, hj2, hj3, hj4⟩ := hj0
  obtain ⟨m, rfl⟩ : ∃ m : Nat, ji = (m : Int) := ⟨ji.toNat, by omega⟩
  have hji2 : (if most < l.length then (most : Int) else (l.length : Int)) = (m : Int) := by rw [← hji]; by_cases hq : most < l.length <;> simp [hq]
  have hmt : l.take most = l.take m := by rw [List.take_eq_take_iff]; omega
  rw [hmt]
  obtain ⟨i05, hi05, _⟩ := info_parts info91c
  obtain ⟨i06, hi06, _⟩ := info_parts info25c
  have hcut := cut_to (P := Tryd.prog) 42 91 .i64 Tryd.underlying42 hi05 A l.length c (m : Int) hj1 hj2 hc
  rw [Int.toNat_natCast] at hcut
  have HT := Aside0.mk hT
  have HC := Aside0.mk hC
  have HS := Aside0.mk hS
  have H6 := Aside0.mk hi06
  clear hC hi05 hi06 hT hS
  go_enter Tryd.func16, Tryd.ntmps16
  go_wp2_with fail
  go_loopg [6, 7, 9, 10, 12, 13, 14, 15, 16, 24] m (fun kx s6 s7 s9 s10 s12 s13 s14 s15 s16 s24 wr => ∃ (j : Nat) (okA okB : Nat → Prop), s24 = .int .i64 j ∧ j ≤ m ∧ m - j ≤ kx ∧ Aside0 (DI w wr ((l.take j).map de8) s6 s7 okA okB))
  case atStart => exact ⟨0, fun _ => False, fun _ => False, rfl, Nat.zero_le _, by omega, Aside0.mk ⟨Below.refl _ _, Kd.N_nil _ _ _ _ _, Kd.N_nil _ _ _ _ _, fun _ h => h.elim, fun _ h => h.elim, fun _ h => h.elim⟩⟩
  case round =>
    obtain ⟨j, okA, okB, rfl, hjm, hg, HI⟩ := hrel
    by_cases hlt : j < m
    · obtain ⟨b, o, rfl, hbw, hcell⟩ := raw8s HC.out (by omega)
      obtain ⟨Aj, cj, e0, e1, e2⟩ := hcell j (by omega)
      have e0' : wr.cell? ⟨b, o + j, none⟩ = some (.slice Aj l[j].length cj) := (HI.out.below.cell (p := ⟨b, o + j, none⟩) hbw).trans e0
      have SY := Aside0.mk (HS.out l[j] (List.getElem_mem _))
      have TK := Aside0.mk (show (l.take (j + 1)).map de8 = (l.take j).map de8 ++ [de8 l[j]] from by rw [List.take_succ_eq_append_getElem (by omega : j < l.length), List.map_append]; rfl)
      have CY := Aside0.mk (Kd.C_below e2 HI.out.below)
      clear hcell e0 e2
      generalize l[j] = y at e0' e1 SY TK CY
      obtain ⟨qi, hqi⟩ : ∃ qi : Int, (if 5 < (y.length : Int) then 5 else (y.length : Int)) = qi := ⟨_, rfl⟩
      have hq0 : 0 ≤ qi ∧ qi ≤ y.length ∧ qi ≤ 5 ∧ (qi = 5 ∨ qi = y.length) := by rw [← hqi]; split <;> omega
      obtain ⟨hq1, hq2, hq3, hq4⟩ := hq0
      obtain ⟨m2, rfl⟩ : ∃ m2 : Nat, qi = (m2 : Int) := ⟨qi.toNat, by omega⟩
      have hmt2 := Aside0.mk (show y.take 5 = y.take m2 from by rw [List.take_eq_take_iff]; omega)
      have hcut2 := cut_to (P := Tryd.prog) 91 25 .i64 Tryd.underlying91 H6.out Aj y.length cj (m2 : Int) hq1 hq2 e1
      rw [Int.toNat_natCast] at hcut2
      obtain ⟨wo, rfl⟩ : ∃ wo, wo = wr := ⟨_, rfl⟩
      go_wp2_with fail
      go_loopg [10, 12, 34] m2 (fun kx s10 s12 s34 wq => ∃ k : Nat, s34 = .int .i64 k ∧ k ≤ m2 ∧ m2 - k ≤ kx ∧ Aside0 (Below wo.heap.size wo wq) ∧ Aside0 (Kd.R (Kd.int .i64) 3 wq wo.heap.size (fun _ => True) s10 ((y.take k).map wrap64)))
      case atStart => exact ⟨0, rfl, Nat.zero_le _, by omega, Aside0.mk (Below.refl _ _), Aside0.mk (Kd.R_nil _ _ _ _ _)⟩
      case round =>
        obtain ⟨k, rfl, hkm, hgk, HW, HR⟩ := hrel
        by_cases hlk : k < m2
        · obtain ⟨b8, o8, rfl, hbw8, hcell8⟩ := raw8 CY.out (by omega)
          have f0 : wr.cell? ⟨b8, o8 + k, none⟩ = some (.int .i8 y[k]) := (HW.out.cell (p := ⟨b8, o8 + k, none⟩) hbw8).trans (hcell8 k (by omega))
          have YK := Aside0.mk (show (y.take (k + 1)).map wrap64 = (y.take k).map wrap64 ++ [wrap64 y[k]] from by rw [List.take_succ_eq_append_getElem (by omega : k < y.length), List.map_append]; rfl)
          clear hcell8
          generalize y[k] = yk at f0 YK
          go_wp2_with ((with_reducible refine gate_builtin (b := .append) (xs := #[.tmp 38, .tmp 41]) rfl ?_); at_builtin; (refine Kd.R_append (Kd.int .i64) (w0 := wo) (W := wr) wo.heap.size rfl (.tmp 38) (.tmp 41) 63 3 (.int .i64 0) 8 rfl Tryd.underlying63 info3c rfl (by decide) (by decide) u10 ((y.take k).map wrap64) (wrap64 yk) [.int .i64 (wrap64 yk)] (fun _ => True) (fun _ => False) rfl rfl rfl (fun _ h => h.elim) (fun _ _ => trivial) HR.out HW.out HW.out.size (by rw [List.length_map, List.length_take]; omega) ?_); intro v1 w1 ho hbel hg9 hat; have HO := Aside0.mk ho; have HBB := Aside0.mk hbel; clear ho hbel hg9 hat)
          go_roundg (m2 - (k + 1))
          case measure => omega
          case rel => exact ⟨k + 1, rfl, by omega, Nat.le_refl _, HBB, Aside0.mk (by rw [YK.out]; exact HO.out)⟩
        · have hk : k = m2 := by omega
          subst hk
          obtain ⟨Am, cm, rfl⟩ := Kd.R_slice HR.out
          have RM := Aside0.mk (rd_own HR.out)
          have ED := Aside0.mk (show Go.Proofs.YtgckohmppefibaaDoor.Rf.of ((y.take k).map wrap64) = de8 y from by unfold de8; rw [hmt2.out])
          have SO := Aside0.mk (sm_of SY.out)
          have h5 := de8_len y
          have ML : ((y.take k).map wrap64).length < 16000000000000 := by rw [List.length_map, List.length_take]; omega
          generalize (y.take k).map wrap64 = M at RM ED ML
          have T3 := Aside0.mk (HT.out.call (below_step HI.out.below HW.out))
          generalize de8 y = n at ED SO h5 TK
          have hL20 : ((l.take j).map de8).length ≤ 100 := by rw [List.length_map, List.length_take]; omega
          generalize (l.take j).map de8 = D at HI TK hL20
          go_wp2_with (first
            | (go_at_call 45; ((with_reducible refine (Go.Proofs.YtgckohmppefibaaDoor.ref_of_rd _ M _ RM.out ML).mono ?_); rw [ED.out]; rintro e w4 ⟨so, rfl, hke⟩; obtain ⟨As, cs, rfl⟩ := hke.own.sl.len; have HSO := Aside0.mk hke.own.sl; have HOW := Aside0.mk hke.own.own; have HB4 := Aside0.mk hke.below; clear hke))
            | (go_at_call 30; ((with_reducible refine (Go.Proofs.YtgckohmppefibaaDoor.dom_of_rd _ n w4 HSO.out.rd (T3.out.call HB4.out)).mono ?_); rw [SO.out]; rintro e w5 ⟨v5, rfl, ⟨off, sv, ws, rfl, hx⟩, hb5, hwb⟩; obtain ⟨Aw, cw, rfl⟩ := hx.sl.len; have HX5 := Aside0.mk hx; have HB5 := Aside0.mk hb5; have HWB : Aside0 (∀ b, (Value.slice Aw ws.length cw).ownBlock = some b → w4.heap.size ≤ b) := Aside0.mk (fun b hb => hwb b hb); unfold Go.Proofs.YtgckohmppefibaaDoor.Dm.val; have FK0 := fk_dm (ok := fun k => w4.heap.size ≤ k ∧ k < w5.heap.size) hx (fun b hb => ⟨hwb b hb, sl_blk hx.sl b hb⟩); generalize ws.length = nw at FK0 ⊢; generalize n.headD 0 = p0 at FK0 ⊢; generalize n.getLastD 0 = p1 at FK0 ⊢; have FKD := Aside0.mk (Kd.FK_step FK0 (W1 := w5.alloc (.cells #[.int .i64 off, .slice Aw nw cw, .int .i64 p0, .int .i64 p1, .int .i64 n.length] 62 (0, 0))) (fun k _ hlt9 => (below_alloc (Below.refl _ _) _).block k hlt9)); clear FK0 hx hb5 hwb; have bb := Aside0.mk (blk_new w5 (.cells #[.int .i64 off, .slice Aw nw cw, .int .i64 p0, .int .i64 p1, .int .i64 n.length] 62 (0, 0))); have a0 : (w5.alloc (.cells #[.int .i64 off, .slice Aw nw cw, .int .i64 p0, .int .i64 p1, .int .i64 n.length] 62 (0, 0))).cell? ⟨w5.heap.size, 0, none⟩ = some (.int .i64 off) := blk_cell bb.out 0; have a1 : (w5.alloc (.cells #[.int .i64 off, .slice Aw nw cw, .int .i64 p0, .int .i64 p1, .int .i64 n.length] 62 (0, 0))).cell? ⟨w5.heap.size, 1, none⟩ = some (.slice Aw nw cw) := blk_cell bb.out 1; have a2 : (w5.alloc (.cells #[.int .i64 off, .slice Aw nw cw, .int .i64 p0, .int .i64 p1, .int .i64 n.length] 62 (0, 0))).cell? ⟨w5.heap.size, 2, none⟩ = some (.int .i64 p0) := blk_cell bb.out 2; have a3 : (w5.alloc (.cells #[.int .i64 off, .slice Aw nw cw, .int .i64 p0, .int .i64 p1, .int .i64 n.length] 62 (0, 0))).cell? ⟨w5.heap.size, 3, none⟩ = some (.int .i64 p1) := blk_cell bb.out 3; have a4 : (w5.alloc (.cells #[.int .i64 off, .slice Aw nw cw, .int .i64 p0, .int .i64 p1, .int .i64 n.length] 62 (0, 0))).cell? ⟨w5.heap.size, 4, none⟩ = some (.int .i64 n.length) := blk_cell bb.out 4; have H1 := Aside0.mk (below_step (below_step (below_step HW.out HB4.out) HB5.out) (below_alloc (Below.refl w5.heap.size w5) (.cells #[.int .i64 off, .slice Aw nw cw, .int .i64 p0, .int .i64 p1, .int .i64 n.length] 62 (0, 0)))); have S1 := Aside0.mk (HI.out.step H1.out)))
            | ((with_reducible refine gate_builtin (b := .append) (xs := #[.tmp 54, .tmp 56]) rfl ?_); at_builtin; (refine Kd.N_append kDm (w0 := w5.alloc (.cells #[.int .i64 off, .slice Aw nw cw, .int .i64 p0, .int .i64 p1, .int .i64 n.length] 62 (0, 0))) (W := w5.alloc (.cells #[.int .i64 off, .slice Aw nw cw, .int .i64 p0, .int .i64 p1, .int .i64 n.length] 62 (0, 0))) w.heap.size rfl (.tmp 54) (.tmp 56) 52 62 (.agg #[.int .i64 0, .slice none 0 0, .int .i64 0, .int .i64 0, .int .i64 0]) 56 rfl Tryd.underlying52 info62c rfl (by decide) (by decide) u6 D n [.int .i64 off, .slice Aw nw cw, .int .i64 p0, .int .i64 p1, .int .i64 n.length] (okP okA w4.heap.size w5.heap.size (w5.alloc (.cells #[.int .i64 off, .slice Aw nw cw, .int .i64 p0, .int .i64 p1, .int .i64 n.length] 62 (0, 0))).heap.size) (fun k => w4.heap.size ≤ k ∧ k < w5.heap.size) rfl (by show Value.slice (some ⟨w5.heap.size + 1, 0, none⟩) 1 1 = _; simp) FKD.out (fun k hk => ⟨.inr (.inl hk), fun he => by have h9 := HI.out.bA k (S1.out.a.1 k he.symm); have h8 := HW.out.size; have h7 := HB4.out.size; omega⟩) (fun k hk => .inr (.inr hk)) (Kd.N_mono S1.out.a (fun k hk => .inl hk)) (Below.refl _ _) S1.out.below.size (by omega) ?_); intro v6 w6 ho hbel hg9 hat; have HK := Aside0.mk (HI.out.mid HW.out HB4.out HSO.out HOW.out HB5.out (below_alloc (Below.refl _ _) (.cells #[.int .i64 off, .slice Aw nw cw, .int .i64 p0, .int .i64 p1, .int .i64 n.length] 62 (0, 0))) ho hbel hg9); clear ho hbel hg9 hat)
            | ((with_reducible refine gate_builtin (b := .append) (xs := #[.tmp 58, .tmp 60]) rfl ?_); at_builtin; (refine Kd.N_append kInts (w0 := w6) (W := w6) w.heap.size rfl (.tmp 58) (.tmp 60) 53 63 (.slice none 0 0) 24 rfl Tryd.underlying53 info63c rfl (by decide) (by decide) u7 D n [.slice As n.length cs] (okP okB wr.heap.size w4.heap.size w6.heap.size) (fun k => wr.heap.size ≤ k ∧ k < w4.heap.size) rfl rfl HK.out.so (fun k hk => ⟨.inr (.inl hk), fun he => by have h9 := HK.out.bB k (HK.out.b.1 k he.symm); have h8 := HW.out.size; omega⟩) (fun k hk => .inr (.inr hk)) (Kd.N_mono HK.out.b (fun k hk => .inl hk)) (Below.refl _ _) HK.out.below.size (by omega) ?_); intro v7 w7 ho hbel hg9 hat; have HD := Aside0.mk (HK.out.done ho hbel hg9); clear ho hbel hg9 hat))
          go_roundg (m - (j + 1))
          case measure => omega
          case rel => exact ⟨j + 1, _, _, rfl, by omega, Nat.le_refl _, Aside0.mk (by rw [TK.out]; exact HD.out)⟩
    · have hj : j = m := by omega
      subst hj
      have hl : ((l.take j).map de8).length = j := by rw [List.length_map, List.length_take]; omega
      obtain ⟨Aa, ca, rfl⟩ := Kd.N_slice HI.out.a
      obtain ⟨Ab, cb, rfl⟩ := Kd.N_slice HI.out.b
      go_wp2_with fail
      go_ret2
      exact ⟨Aa, ca, Ab, cb, okA, okB, rfl, HI.out⟩
end Go.Proofs.YtgckohmppefibaaDoorX.Hz
