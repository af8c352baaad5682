/- The law QueuePlays, walked: it tells true. -/
import Derived.Test.YtdbjljbkneopcaaQueueN
import Derived.Deep.DeepCutAuto
import Derived.Deep.CutBlock
namespace Go.Proofs.Ytdbjljbkneopcaa
open Go.RowKit
set_option linter.unusedSimpArgs false
set_option linter.unusedVariables false

/-- Acts at an address: four whole numbers each, in their kinds. -/
structure Qu.Acts (w : World) (A : Option Addr) (len : Nat) (D I B M : Nat → Int) : Prop where
  at_ : ∀ i, i < len → ∃ b o, A = some ⟨b, o, none⟩ ∧ b < w.heap.size ∧ w.cell? ⟨b, o + i * 4, none⟩ = some (.int .u8 (D i)) ∧ w.cell? ⟨b, o + i * 4 + 1, none⟩ = some (.int .i64 (I i)) ∧ w.cell? ⟨b, o + i * 4 + 2, none⟩ = some (.int .i64 (B i)) ∧ w.cell? ⟨b, o + i * 4 + 3, none⟩ = some (.int .u8 (M i))
  d : ∀ i, i < len → 0 ≤ D i ∧ D i ≤ 255
  i : ∀ i, i < len → -9223372036854775808 ≤ I i ∧ I i ≤ 9223372036854775807
  b : ∀ i, i < len → -9223372036854775808 ≤ B i ∧ B i ≤ 9223372036854775807
  m : ∀ i, i < len → 0 ≤ M i ∧ M i ≤ 255

/-- What holds between two acts. -/
structure Qu.Inv (w wr : World) (g n : Nat) (l : List (Int × Int)) (v : Value) (q : Nat) : Prop where
  at_ : ∃ S, Qu.At wr g n l S ∧ (∀ k, S k → w.heap.size ≤ k) ∧ ∀ k, v.ownBlock = some k → ¬ S k
  ref : Qu.Ref wr v l
  len : l.length ≤ q
  below : Below w.heap.size w wr

theorem Qu.Inv.call {w wr wx : World} {g n : Nat} {l : List (Int × Int)} {v : Value} {q : Nat} (h : Qu.Inv w wr g n l v q) (hb : Below wr.heap.size wr wx) : Qu.Inv w wx g n l v q := by
  obtain ⟨S, a, b, c⟩ := h.at_
  exact ⟨⟨S, a.call hb, b, c⟩, Sl.call h.ref hb, h.len, below_call h.below hb⟩
theorem Qu.Inv.mono {w wr : World} {g n : Nat} {l : List (Int × Int)} {v : Value} {q q' : Nat} (h : Qu.Inv w wr g n l v q) (hq : q ≤ q') : Qu.Inv w wr g n l v q' := ⟨h.at_, h.ref, Nat.le_trans h.len hq, h.below⟩
/-- Behind a call of the queue's. -/
theorem Qu.stepQ {w wr w2 : World} {g n : Nat} {l2 lr : List (Int × Int)} {v : Value} {S : Nat → Prop} (hlt : ∀ k, S k → k < wr.heap.size) (ns : ∀ k, S k → w.heap.size ≤ k) (nv : ∀ k, v.ownBlock = some k → ¬ S k) (hr : Qu.Ref wr v lr) (hb : Below w.heap.size w wr) (ht : Qu.Then wr g n S l2 w2) :
    (∃ T, Qu.At w2 g n l2 T ∧ (∀ k, T k → w.heap.size ≤ k) ∧ ∀ k, v.ownBlock = some k → ¬ T k) ∧ Qu.Ref w2 v lr ∧ Below w.heap.size w w2 := by
  obtain ⟨T, a, b, c⟩ := ht
  refine ⟨⟨T, a, fun k hk => (c k hk).elim (ns k) (fun h => Nat.le_trans hb.size h), fun k hk ht => ?_⟩, hr.kept b nv, Fr.below hb b ns⟩
  rcases c k ht with h | h
  · exact nv k hk h
  · have := Sl.lt hr hk; omega
/-- Behind a call that makes a list. -/
theorem Qu.stepR {w w2 w3 : World} {g n : Nat} {l : List (Int × Int)} {v v' : Value} {q : Nat} (hat : ∃ T, Qu.At w2 g n l T ∧ (∀ k, T k → w.heap.size ≤ k) ∧ ∀ k, v.ownBlock = some k → ¬ T k) (hr : Qu.Ref w3 v' l) (hb : Below w.heap.size w w2) (hb2 : Below w2.heap.size w2 w3) (hn : ∀ k, v'.ownBlock = some k → w2.heap.size ≤ k) (hq : l.length ≤ q) : Qu.Inv w w3 g n l v' q := by
  obtain ⟨T, a, b, c⟩ := hat
  refine ⟨⟨T, a.call hb2, b, fun k hk ht => ?_⟩, hr, hq, below_call hb hb2⟩
  have hlt : k < w2.heap.size := by obtain ⟨_, _, _, hx⟩ := a; exact hx.lt k ht
  have := hn k hk
  omega

set_option maxHeartbeats 800000 in
theorem ref_push_no (v : Value) (l : List (Int × Int)) (n id bucket : Int) (w : World) (hs : Qu.Ref w v l) (hl : l.length ≤ 1000000) (h : ¬ (0 ≤ id ∧ id < n) ∨ id ∈ l.map Prod.fst) :
    Calls Try.prog 18 #[v, .int .i64 n, .int .i64 id, .int .i64 bucket] w fun e w' => e = .returned (.tuple #[v, .bool false]) ∧ w = w' := by
  have HS := Lib.hid hs
  clear hs
  by_cases hr : 0 ≤ id ∧ id < n
  · have hh := ref_has _ l id w HS.out hl
    rw [decide_eq_true (h.resolve_left (fun x => x hr))] at hh
    have HH := Lib.hid hh
    obtain ⟨hr1, hr2⟩ := hr
    clear hh h
    go_enter Try.func18, Try.ntmps18
    go_wp2_with (go_at_call 19; refine HH.out.mono ?_; rintro e w1 ⟨rfl, rfl⟩)
    go_ret2
    exact ⟨rfl, rfl⟩
  · have hh := ref_has _ l id w HS.out hl
    have HH := Lib.hid hh
    clear hh h
    generalize decide (id ∈ l.map Prod.fst) = t at *
    rcases Int.lt_or_le id 0 with h1 | h1
    · clear hr
      go_enter Try.func18, Try.ntmps18
      go_wp2_with (go_at_call 19; refine HH.out.mono ?_; rintro e w1 ⟨rfl, rfl⟩)
      go_ret2
      exact ⟨rfl, rfl⟩
    · have h2 : n ≤ id := by omega
      clear hr
      go_enter Try.func18, Try.ntmps18
      go_wp2_with (go_at_call 19; refine HH.out.mono ?_; rintro e w1 ⟨rfl, rfl⟩)
      go_ret2
      exact ⟨rfl, rfl⟩

/-- What holds between two pushes of one act: beside it two blocks that are the call's own, z1 and z2. -/
structure Qu.In2 (w wr : World) (g n : Nat) (l : List (Int × Int)) (v : Value) (q z1 z2 : Nat) (o1 o2 : Obj) : Prop where
  at_ : ∃ S, Qu.At wr g n l S ∧ (∀ k, S k → w.heap.size ≤ k) ∧ (∀ k, v.ownBlock = some k → ¬ S k) ∧ ¬ S z1 ∧ ¬ S z2
  ref : Qu.Ref wr v l
  len : l.length ≤ q
  below : Below w.heap.size w wr
  b1 : wr.heap[z1]? = some o1
  b2 : wr.heap[z2]? = some o2
theorem Qu.In2.call {w wr wx : World} {g n : Nat} {l : List (Int × Int)} {v : Value} {q z1 z2 : Nat} {o1 o2 : Obj} (h : Qu.In2 w wr g n l v q z1 z2 o1 o2) (hb : Below wr.heap.size wr wx) : Qu.In2 w wx g n l v q z1 z2 o1 o2 := by
  obtain ⟨S, a, b, c, d, e⟩ := h.at_
  exact ⟨⟨S, a.call hb, b, c, d, e⟩, Sl.call h.ref hb, h.len, below_call h.below hb, heap_call h.b1 hb, heap_call h.b2 hb⟩
/-- The list made anew, then the queue's push. -/
theorem Qu.In2.push {w w2 w3 w4 : World} {g n : Nat} {l l2 : List (Int × Int)} {v v3 : Value} {q q2 z1 z2 : Nat} {o1 o2 : Obj} {S : Nat → Prop} (h : Qu.In2 w w2 g n l v q z1 z2 o1 o2) (hr : Qu.Ref w3 v3 l2) (hb : Below w2.heap.size w2 w3) (hn : ∀ k, v3.ownBlock = some k → w2.heap.size ≤ k)
    (hlt : ∀ k, S k → k < w2.heap.size) (ns : ∀ k, S k → w.heap.size ≤ k) (n1 : ¬ S z1) (n2 : ¬ S z2) (ht : Qu.Then w3 g n S l2 w4) (hq : l2.length ≤ q2) : Qu.In2 w w4 g n l2 v3 q2 z1 z2 o1 o2 := by
  obtain ⟨T, a, b, c⟩ := ht
  have nv : ∀ k, v3.ownBlock = some k → ¬ S k := fun k hk hs => by have := hn k hk; have := hlt k hs; omega
  have hB3 := below_call h.below hb
  have z13 := heap_call h.b1 hb
  have z23 := heap_call h.b2 hb
  refine ⟨⟨T, a, fun k hk => (c k hk).elim (ns k) (fun e => Nat.le_trans hB3.size e), fun k hk ht => ?_, fun ht => ?_, fun ht => ?_⟩, hr.kept b nv, hq, Fr.below hB3 b ns, b.heap z13 n1, b.heap z23 n2⟩
  · rcases c k ht with e | e
    · exact nv k hk e
    · have := Sl.lt hr hk; omega
  · rcases c _ ht with e | e
    · exact n1 e
    · have := heap_lt z13; omega
  · rcases c _ ht with e | e
    · exact n2 e
    · have := heap_lt z23; omega

set_option maxHeartbeats 1000000 in
set_option maxRecDepth 100000 in
theorem law_queue_plays (n : Int) (A : Option Addr) (len cap : Nat) (D I B M : Nat → Int) (w : World) (hn : -9223372036854775808 ≤ n ∧ n ≤ 9223372036854775807) (hlen : len ≤ cap) (hcap : cap ≤ 9223372036854775807) (ha : Qu.Acts w A len D I B M) :
    Calls Try.prog 4 #[.int .i64 n, .slice A len cap] w fun e w' => e = .returned (.bool true) ∧ Below w.heap.size w w' := by
  obtain ⟨hn1, hn2⟩ := hn
  have HA := Lib.hid ha
  clear ha
  go_enter Try.func4, Try.ntmps4
  go_wp2_with fail
  refine (queue_new _ _ ?_).mono ?_
  · have := Int.tmod_lt_of_pos n (show 0 < 20 by omega); omega
  rintro e w1 ⟨g, S1, rfl, a1, n1, b1⟩
  go_wp2_with fail
  have hsz : -3 ≤ max (-3) (n.tmod 20) ∧ max (-3) (n.tmod 20) ≤ 19 := by
    have := Int.tmod_lt_of_pos n (show 0 < 20 by omega)
    omega
  rw [show max (min (len : Int) 60) 0 = ((min (len : Int) 60).toNat : Int) from by omega]
  have hm : (min (len : Int) 60).toNat ≤ len ∧ (min (len : Int) 60).toNat ≤ 60 := by omega
  generalize max (-3) (n.tmod 20) = sz at *
  generalize (min (len : Int) 60).toNat = m at *
  obtain ⟨hz1, hz2⟩ := hsz
  obtain ⟨hm1, hm2⟩ := hm
  have HI : Hid (Qu.Inv w w1 g sz.toNat [] (.slice none 0 0) 0) := ⟨⟨S1, a1, n1, fun k hk => by cases hk⟩, Sl.nil _ _ _, by simp, b1⟩
  clear a1 n1 b1
  go_loopg [7, 30] m (fun k s7 s30 wr => ∃ (j : Nat) (l : List (Int × Int)), s30 = .int .i64 j ∧ j + k = m ∧ Qu.Inv w wr g sz.toNat l s7 (2 * j))
  case atStart => exact ⟨0, [], rfl, by omega, HI.out⟩
  case round =>
    obtain ⟨j, l, rfl, hj, hinv⟩ := hrel
    have H := Lib.hid hinv
    clear hinv
    rcases Nat.eq_zero_or_pos gk with hk | hk
    · obtain rfl : j = m := by omega
      go_wp2_with (go_at_call 14; refine (queue_wakes _).mono ?_; rintro e w5 ⟨rfl, hb5⟩)
      go_ret
      exact ⟨rfl, below_call H.out.below hb5⟩
    · have hjm : j < m := by omega
      obtain ⟨b, o, hAb, hbl, c0, c1, c2, c3⟩ := HA.out.at_ j (by omega)
      subst hAb
      have hD := HA.out.d j (by omega)
      have hI := HA.out.i j (by omega)
      have hB := HA.out.b j (by omega)
      have hM := HA.out.m j (by omega)
      have hcc := (bcell H.out.below).1 b
      rw [← hcc _ hbl] at c0 c1 c2 c3
      clear hcc
      generalize D j = d at *
      generalize I j = id at *
      generalize B j = bk at *
      generalize M j = mm at *
      obtain ⟨hD1, hD2⟩ := hD
      obtain ⟨hI1, hI2⟩ := hI
      obtain ⟨hB1, hB2⟩ := hB
      obtain ⟨hM1, hM2⟩ := hM
      go_upto_block 2 with fail
      go_cut [7] (fun s7 wx => ∃ l2, Qu.Inv w wx g sz.toNat l2 s7 (2 * j + 2) ∧ wx.heap[wr.heap.size]? = some (.cells #[.int .u8 d, .int .i64 id, .int .i64 bk, .int .u8 mm] 27 (0, 0)))
      case first =>
        have HW := Lib.hid (heap_new wr (.cells #[.int .u8 d, .int .i64 id, .int .i64 bk, .int .u8 mm] 27))
        have H2 := Lib.hid (H.out.call (below_alloc (Below.refl _ _) (.cells #[.int .u8 d, .int .i64 id, .int .i64 bk, .int .u8 mm] 27)))
        have hlen := H.out.len
        obtain ⟨S, a2, ns2, nv2⟩ := H.out.at_
        have hlt2 : ∀ k, S k → k < wr.heap.size := by obtain ⟨_, _, _, hx⟩ := a2; exact hx.lt
        have A2 := Lib.hid (a2.call (below_alloc (Below.refl _ _) (.cells #[.int .u8 d, .int .i64 id, .int .i64 bk, .int .u8 mm] 27)))
        have NS := Lib.hid ns2
        have NV := Lib.hid nv2
        have LT := Lib.hid (show ∀ k, S k → k < (wr.alloc (.cells #[.int .u8 d, .int .i64 id, .int .i64 bk, .int .u8 mm] 27)).heap.size from fun k hk => by have := hlt2 k hk; simp; omega)
        have NB := Lib.hid (show ¬ S wr.heap.size from fun hk => by have := hlt2 _ hk; omega)
        have HSZ := Lib.hid (show wr.heap.size < (wr.alloc (.cells #[.int .u8 d, .int .i64 id, .int .i64 bk, .int .u8 mm] 27)).heap.size by simp)
        generalize wr.alloc (.cells #[.int .u8 d, .int .i64 id, .int .i64 bk, .int .u8 mm] 27) = w2 at *
        clear a2 ns2 nv2 hlt2
        by_cases c34 : d % 6 = 3 ∨ d % 6 = 4
        · by_cases hl0 : l = []
          · subst hl0
            rcases c34 with c | c
            · have b3 : (d % 6 == 3) = true := by simp; omega
              have b4 : (d % 6 == 4) = false := by simp; omega
              clear c
              go_wp2_with fail
              refine (queue_pop_none _ A2.out).mono ?_
              rintro e w3 ⟨rfl, rfl⟩
              go_wp2_with fail
              refine (ref_pop_none _ _ H2.out.ref).mono ?_
              rintro e w3 ⟨rfl, rfl⟩
              go_wp2_with fail
              go_meet
              exact ⟨[], H2.out.mono (by omega), HW.out⟩
            · have b3 : (d % 6 == 3) = false := by simp; omega
              have b4 : (d % 6 == 4) = true := by simp; omega
              clear c
              go_wp2_with fail
              refine (queue_pop_none _ A2.out).mono ?_
              rintro e w3 ⟨rfl, rfl⟩
              go_wp2_with fail
              refine (ref_pop_none _ _ H2.out.ref).mono ?_
              rintro e w3 ⟨rfl, rfl⟩
              go_wp2_with fail
              go_meet
              exact ⟨[], H2.out.mono (by omega), HW.out⟩
          · obtain ⟨a, hat⟩ := Qu.exists_at l hl0
            have HAT := Lib.hid hat
            have hal : a < l.length := by obtain ⟨h, _⟩ := hat; exact h
            clear hat
            rcases c34 with c | c
            · have b3 : (d % 6 == 3) = true := by simp; omega
              have b4 : (d % 6 == 4) = false := by simp; omega
              clear c
              go_wp2_with fail
              refine (queue_pop _ (by omega) (by omega) A2.out a HAT.out).mono ?_
              rintro e w3 ⟨rfl, ht⟩
              have HT := Lib.hid ht
              clear ht
              have HR := Lib.hid (Qu.stepQ LT.out NS.out NV.out H2.out.ref H2.out.below HT.out)
              have HW3 := Lib.hid (show w3.heap[wr.heap.size]? = _ from by obtain ⟨_, _, hfr, _⟩ := HT.out; exact hfr.heap HW.out NB.out)
              go_wp2_with fail
              refine (ref_pop_some _ _ a HAT.out _ HR.out.2.1 (by omega)).mono ?_
              rintro e w4 ⟨v4, rfl, hr4, hb4, hn4⟩
              have HR4 := Lib.hid hr4
              have HN4 := Lib.hid hn4
              clear hr4 hn4
              go_wp2_with fail
              go_meet
              exact ⟨l.eraseIdx a, Qu.stepR HR.out.1 HR4.out HR.out.2.2 hb4 HN4.out (by rw [List.length_eraseIdx, if_pos hal]; omega), heap_call HW3.out hb4⟩
            · have b3 : (d % 6 == 3) = false := by simp; omega
              have b4 : (d % 6 == 4) = true := by simp; omega
              clear c
              go_wp2_with fail
              refine (queue_pop _ (by omega) (by omega) A2.out a HAT.out).mono ?_
              rintro e w3 ⟨rfl, ht⟩
              have HT := Lib.hid ht
              clear ht
              have HR := Lib.hid (Qu.stepQ LT.out NS.out NV.out H2.out.ref H2.out.below HT.out)
              have HW3 := Lib.hid (show w3.heap[wr.heap.size]? = _ from by obtain ⟨_, _, hfr, _⟩ := HT.out; exact hfr.heap HW.out NB.out)
              go_wp2_with fail
              refine (ref_pop_some _ _ a HAT.out _ HR.out.2.1 (by omega)).mono ?_
              rintro e w4 ⟨v4, rfl, hr4, hb4, hn4⟩
              have HR4 := Lib.hid hr4
              have HN4 := Lib.hid hn4
              clear hr4 hn4
              go_wp2_with fail
              go_meet
              exact ⟨l.eraseIdx a, Qu.stepR HR.out.1 HR4.out HR.out.2.2 hb4 HN4.out (by rw [List.length_eraseIdx, if_pos hal]; omega), heap_call HW3.out hb4⟩
        · by_cases c5 : d % 6 = 5
          · have b3 : (d % 6 == 3) = false := by simp; omega
            have b4 : (d % 6 == 4) = false := by simp; omega
            have b5 : (d % 6 == 5) = true := by simpa using c5
            have e3 := cell_of HW.out 3
            clear c34 c5
            by_cases cm : mm % 2 = 0
            · have bm : (mm % 2 == 0) = true := by simpa using cm
              clear cm
              go_wp2_with fail
              refine (queue_clear _ (by omega) (by omega) A2.out).mono ?_
              rintro e w3 ⟨rfl, ht⟩
              have HT := Lib.hid ht
              clear ht
              go_wp2_with fail
              go_meet
              obtain ⟨r1, r2, r3⟩ := Qu.stepQ LT.out NS.out NV.out H2.out.ref H2.out.below HT.out
              obtain ⟨_, _, hfr, _⟩ := HT.out
              refine ⟨[], ⟨?_, Sl.nil _ _ _, by simp, r3⟩, hfr.heap HW.out NB.out⟩
              obtain ⟨T, t1, t2, t3⟩ := r1
              exact ⟨T, t1, t2, fun k hk => by cases hk⟩
            · have bm : (mm % 2 == 0) = false := by simpa using cm
              clear cm
              go_wp2_with fail
              go_meet
              exact ⟨l, H2.out.mono (by omega), HW.out⟩
          · have b3 : (d % 6 == 3) = false := by simp; omega
            have b4 : (d % 6 == 4) = false := by simp; omega
            have b5 : (d % 6 == 5) = false := by simp; omega
            clear c34 c5
            have e1 := cell_of HW.out 1
            have hy2 : max 0 id % 20 ≤ 19 := by omega
            have hy1 : 0 ≤ max 0 id % 20 := by omega
            go_upto_block 3 with fail
            have HX : Hid (Qu.In2 w (w2.alloc (.cells #[.int .i64 id, .int .i64 (max 0 id % 20)] 3)) g sz.toNat l u7 (2 * j) wr.heap.size w2.heap.size (.cells #[.int .u8 d, .int .i64 id, .int .i64 bk, .int .u8 mm] 27) (.cells #[.int .i64 id, .int .i64 (max 0 id % 20)] 3)) :=
              ⟨⟨S, A2.out.call (below_alloc (Below.refl _ _) _), NS.out, NV.out, NB.out, fun h => by have := LT.out _ h; omega⟩, Sl.alloc H2.out.ref _, H2.out.len, below_alloc H2.out.below _, heap_alloc HW.out _, heap_new _ _⟩
            obtain ⟨wo, rfl⟩ : ∃ wo : World, wo = wr := ⟨_, rfl⟩
            obtain ⟨gq, rfl⟩ : ∃ gq : Nat, gq = gk := ⟨_, rfl⟩
            clear e1
            go_wp2_with fail
            go_loopg [7, 45] 2 (fun k s7 s45 wx => ∃ (q : Nat) (lq : List (Int × Int)), s45 = .int .i64 q ∧ q + k = 2 ∧ Qu.In2 w wx g sz.toNat lq s7 (2 * j + q) wo.heap.size w2.heap.size (.cells #[.int .u8 d, .int .i64 id, .int .i64 bk, .int .u8 mm] 27) (.cells #[.int .i64 id, .int .i64 (max 0 id % 20)] 3))
            case atStart => exact ⟨0, l, rfl, by omega, HX.out⟩
            case round =>
              obtain ⟨q, lq, rfl, hq, hin⟩ := hrel
              have X := Lib.hid hin
              clear hin
              have hlq := X.out.len
              rcases Nat.eq_zero_or_pos gk with hk2 | hk2
              · obtain rfl : q = 2 := by omega
                go_wp2_with fail
                go_meet
                obtain ⟨S3, a3, n3, v3, _, _⟩ := X.out.at_
                exact ⟨lq, ⟨⟨S3, a3, n3, v3⟩, X.out.ref, X.out.len, X.out.below⟩, X.out.b1⟩
              · have hq2 : q < 2 := by omega
                go_upto_region 10 with fail
                go_cut [16] (fun s16 wy => wy = wr ∧ ∃ y : Int, -9223372036854775808 ≤ y ∧ y ≤ 9223372036854775807 ∧ s16 = .int .i64 y)
                case first =>
                  have hc : q = 0 ∨ q = 1 := by omega
                  rcases hc with rfl | rfl
                  · have e0 := cell_of X.out.b2 0
                    go_wp2_with fail
                    go_meet
                    exact ⟨rfl, id, hI1, hI2, rfl⟩
                  · have e0 := cell_of X.out.b2 1
                    go_wp2_with fail
                    go_meet
                    exact ⟨rfl, _, by omega, by omega, rfl⟩
                case rest =>
                  obtain ⟨rfl, y, y1, y2, rfl⟩ := hcut
                  have e2 := cell_of X.out.b1 2
                  obtain ⟨S3, a3, n3, v3, z1, z2⟩ := X.out.at_
                  have hlt3 : ∀ k, S3 k → k < wc.heap.size := by obtain ⟨_, _, _, hx⟩ := a3; exact hx.lt
                  have A3 := Lib.hid a3
                  have N3 := Lib.hid n3
                  have L3 := Lib.hid hlt3
                  have Z1 := Lib.hid z1
                  have Z2 := Lib.hid z2
                  clear a3 n3 v3 z1 z2 hlt3
                  by_cases ok : (0 ≤ y ∧ y < sz) ∧ y ∉ lq.map Prod.fst
                  · have OK := Lib.hid ok
                    clear ok
                    go_wp2_with fail
                    refine (ref_push_yes _ lq sz y bk (max 0 (min bk 3)) _ X.out.ref (by omega) OK.out.1.1 OK.out.1.2 OK.out.2 (by omega)).mono ?_
                    rintro e w4 ⟨v4, rfl, hr4, hb4, hn4⟩
                    have HR4 := Lib.hid hr4
                    have HN4 := Lib.hid hn4
                    have e4 := cell_of (heap_call X.out.b1 hb4) 2
                    have A4 := Lib.hid (A3.out.call hb4)
                    clear hr4 hn4
                    go_wp2_with fail
                    refine (queue_push y bk _ (by omega) (by omega) A4.out (by have := OK.out.1; omega) OK.out.2).mono ?_
                    rintro e w5 ⟨rfl, ht⟩
                    have HT := Lib.hid ht
                    clear ht
                    go_wp2_with fail
                    go_roundg (2 - (q + 1))
                    case measure => omega
                    case rel => exact ⟨q + 1, _, by go_num, by omega, X.out.push HR4.out hb4 HN4.out L3.out N3.out Z1.out Z2.out HT.out (by simp; omega)⟩
                  · have OK := Lib.hid (show ¬ (0 ≤ y ∧ y < sz) ∨ y ∈ lq.map Prod.fst by
                      by_cases h1 : 0 ≤ y ∧ y < sz
                      · right; by_cases h2 : y ∈ lq.map Prod.fst
                        · exact h2
                        · exact absurd ⟨h1, h2⟩ ok
                      · exact Or.inl h1)
                    clear ok
                    go_wp2_with fail
                    refine (ref_push_no _ lq sz y bk _ X.out.ref (by omega) OK.out).mono ?_
                    rintro e w4 ⟨rfl, rfl⟩
                    go_wp2_with fail
                    refine (queue_push_no y bk _ (by omega) A3.out (OK.out.imp (fun h => by omega) (fun h => h))).mono ?_
                    rintro e w5 ⟨rfl, rfl⟩
                    go_wp2_with fail
                    go_roundg (2 - (q + 1))
                    case measure => omega
                    case rel => exact ⟨q + 1, lq, by go_num, by omega, ⟨X.out.at_, X.out.ref, by omega, X.out.below, X.out.b1, X.out.b2⟩⟩
      case rest =>
        obtain ⟨l2, hinv2, hbox⟩ := hcut
        obtain ⟨A7, c7, rfl⟩ := hinv2.ref.len
        have X := Lib.hid hinv2
        have e1 := cell_of hbox 1
        have hl2 := hinv2.len
        obtain ⟨S2, a2, _, _⟩ := hinv2.at_
        have A2 := Lib.hid (fun k : Nat => a2.call (below_drewN (Below.refl _ _) k))
        have R2 := Lib.hid (fun k : Nat => Sl.drewN hinv2.ref k)
        clear hinv2 hbox a2
        go_wp2_with fail
        go_quiet ((first
          | (go_at_call 15; exact Calls.quiet_of_same ((queue_len _ (by omega) (A2.out _)).mono fun _ _ h => ⟨h.1, h.2.symm⟩))
          | (go_at_call 13; exact Calls.quiet_of_same ((queue_has _ _ (by omega) (A2.out _)).mono fun _ _ h => ⟨h.1, h.2.symm⟩))
          | (go_at_call 19; exact Calls.quiet_of_same ((ref_has _ _ _ _ (R2.out _) (by omega)).mono fun _ _ h => ⟨h.1, h.2.symm⟩))))
        go_wp2_with fail
        go_roundg (gk - 1)
        case measure => omega
        case rel => exact ⟨j + 1, l2, by go_num, by omega, by rw [show 2 * (j + 1) = 2 * j + 2 from by omega]; exact X.out.call (below_drewN (Below.refl _ _) _)⟩
end Go.Proofs.Ytdbjljbkneopcaa
