import Derived.Test.YtdnllmngaljflaaGreatDoorOpMap
namespace Go.Proofs.YtdnllmngaljflaaGreatDoorX.Ho
open Go.RowKit Go.Proofs.YtdnllmngaljflaaGreatDoorW.PrintWords Go.Proofs.YtdnllmngaljflaaGreatDoorW.PrintLast Go.Proofs.YtdnllmngaljflaaGreatDoorW.PrintMore
attribute [local go_sem] max2_int min2_int max_two min_two max_three min_three max_four min_four
set_option linter.unusedVariables false
set_option linter.unusedSimpArgs false
attribute [local go_sem] Go.Proofs.YtdnllmngaljflaaGreatDoor.Hook.cell_two
/-! ### schedule -/
def kd27 (k : Int) : Obj := .cells #[.int .i64 k, .int .i64 0, .int .i64 0, .int .i64 0] 27 (0, 0)
def wantN (k : Nat) : Nat := if k = 1 then 1 else if k = 2 then 3 else 0
/-- What a schedule's kind asks for: pointers into the schedule. -/
def WantP (k gx : Nat) (w0 wx : World) (s8 : Value) : Prop := ∃ A, s8 = .slice A (wantN k) (wantN k) ∧ Below w0.heap.size w0 wx ∧ (0 < wantN k → ∃ h, A = some ⟨h, 0, none⟩ ∧ gx < h ∧ h < wx.heap.size ∧ ∀ j, j < wantN k → wx.cell? ⟨h, j, none⟩ = some (.pointer (some ⟨gx, 1 + j, none⟩)))
/-- Of a schedule's text. -/
def SQ (o : Option (Int × Int × Int × Int)) (w : World) (e : Ending) (w' : World) : Prop := ∃ k u n d : Int, e = .returned (.tuple #[.agg #[.int .i64 k, .int .i64 u, .int .i64 n, .int .i64 d], .bool o.isSome]) ∧ (∀ x, o = some x → (k, u, n, d) = x) ∧ Below w.heap.size w w'
theorem SQ.no {o : Option (Int × Int × Int × Int)} {k u n d : Int} {w w' : World} (h : o = none) (hb : Below w.heap.size w w') : SQ o w (.returned (.tuple #[.agg #[.int .i64 k, .int .i64 u, .int .i64 n, .int .i64 d], .bool false])) w' := by
  subst h; exact ⟨_, _, _, _, rfl, fun x hx => by (cases hx), hb⟩
theorem SQ.fin {k : Nat} {ps : List Bs} {x : Nat → Int} {ok : Bool} {o : Option (Int × Int × Int × Int)} {w w' : World} (h : o = (schP k ps).map fun x => ((k : Int), x)) (hf : (ok = false → schP k ps = none) ∧ (ok = true → schP k ps = some (x 0, x 1, x 2))) (hb : Below w.heap.size w w') : SQ o w (.returned (.tuple #[.agg #[.int .i64 k, .int .i64 (x 0), .int .i64 (x 1), .int .i64 (x 2)], .bool ok])) w' := by
  cases ok with
  | false => exact SQ.no (by rw [h, hf.1 rfl]; rfl) hb
  | true =>
    rw [hf.2 rfl] at h
    subst h
    exact ⟨_, _, _, _, rfl, fun y hy => by cases hy; rfl, hb⟩
theorem below_sets {w wc : World} (h : Below w.heap.size w wc) {a b c d : Value} : Below w.heap.size w ((((wc.setCell ⟨w.heap.size, 0, none⟩ a).setCell ⟨w.heap.size, 1, none⟩ b).setCell ⟨w.heap.size, 2, none⟩ c).setCell ⟨w.heap.size, 3, none⟩ d) :=
  (((h.setCell (Nat.le_refl _) _).setCell (Nat.le_refl _) _).setCell (Nat.le_refl _) _).setCell (Nat.le_refl _) _
theorem wantN_le (k : Nat) : wantN k ≤ 3 := by unfold wantN; split; decide; split <;> decide
theorem schP_len {k : Nat} {ps : List Bs} (h : ¬ ps.length = wantN k) : schP k ps = none := by
  unfold schP wantN at *
  by_cases h1 : k = 1
  · rw [if_pos h1] at h ⊢
    match ps, h with
    | [], _ => rfl
    | [a], h => exact absurd rfl h
    | _ :: _ :: _, _ => rfl
  · rw [if_neg h1] at h ⊢
    by_cases h2 : k = 2
    · rw [if_pos h2] at h ⊢
      match ps, h with
      | [], _ => rfl
      | [_], _ => rfl
      | [_, _], _ => rfl
      | [a, b, c], h => exact absurd rfl h
      | _ :: _ :: _ :: _ :: _, _ => rfl
    · rw [if_neg h2] at h ⊢
      match ps, h with
      | [], h => exact absurd rfl h
      | _ :: _, _ => rfl
theorem schP_fin (k : Nat) (ps : List Bs) (hk : k < 5) (hl : ps.length = wantN k) (x : Nat → Int) (ok : Bool) (ho : ok = ps.all fun p => (numL p).isSome) (hv : ∀ j, j < ps.length → ∀ v, numL (ps.getD j []) = some v → x j = v) (hz : ∀ j, ps.length ≤ j → x j = 0) : (ok = false → schP k ps = none) ∧ (ok = true → schP k ps = some (x 0, x 1, x 2)) := by
  unfold schP wantN at *
  by_cases h1 : k = 1
  · rw [if_pos h1] at hl ⊢
    match ps, hl with
    | [a], _ =>
      have v0 := hv 0 (by simp)
      have z1 := hz 1 (by simp)
      have z2 := hz 2 (by simp)
      simp only [List.all_cons, List.all_nil, Bool.and_true, List.getD_cons_zero] at ho v0
      subst ho
      cases ha : numL a with
      | none => exact ⟨fun _ => by simp [ha], fun h => by cases h⟩
      | some n => exact ⟨fun h => by (cases h), fun _ => by rw [v0 n ha, z1, z2]; simp [ha]⟩
  · rw [if_neg h1] at hl ⊢
    by_cases h2 : k = 2
    · rw [if_pos h2] at hl ⊢
      match ps, hl with
      | [a, b, c], _ =>
        have v0 := hv 0 (by simp)
        have v1 := hv 1 (by simp)
        have v2 := hv 2 (by simp)
        simp only [List.all_cons, List.all_nil, Bool.and_true, List.getD_cons_zero, List.getD_cons_succ] at ho v0 v1 v2
        subst ho
        cases ha : numL a with
        | none => exact ⟨fun _ => by simp [ha], fun h => by simp at h⟩
        | some n =>
          cases hb : numL b with
          | none => exact ⟨fun _ => by simp [ha, hb], fun h => by simp at h⟩
          | some m =>
            cases hc : numL c with
            | none => exact ⟨fun _ => by simp [ha, hb, hc], fun h => by simp at h⟩
            | some l => exact ⟨fun h => by simp at h, fun _ => by rw [v0 n ha, v1 m hb, v2 l hc]; simp [ha, hb, hc]⟩
    · rw [if_neg h2] at hl ⊢
      match ps, hl with
      | [], _ =>
        have z0 := hz 0 (by simp)
        have z1 := hz 1 (by simp)
        have z2 := hz 2 (by simp)
        exact ⟨fun h => (by rw [ho] at h; cases h), fun _ => by rw [z0, z1, z2]⟩
def upd (x : Nat → Int) (i : Nat) (n : Int) (j : Nat) : Int := if j = i then n else x j
/-- What schedule's loop holds. -/
structure LJ (gx k : Nat) (wc wr : World) (ps : List Bs) (i : Nat) (x : Nat → Int) (ok : Bool) : Prop where
  fr : FrG gx wc wr
  blk : wr.heap[gx]? = some (.cells #[.int .i64 k, .int .i64 (x 0), .int .i64 (x 1), .int .i64 (x 2)] 27 (0, 0))
  ok : ok = (ps.take i).all fun p => (numL p).isSome
  val : ∀ j, j < i → ∀ v, numL (ps.getD j []) = some v → x j = v
  zero : ∀ j, i ≤ j → x j = 0
theorem LJ.below {gx k : Nat} {wc wr w1 : World} {ps : List Bs} {i : Nat} {x : Nat → Int} {ok : Bool} (h : LJ gx k wc wr ps i x ok) (hb : Below wr.heap.size wr w1) : LJ gx k wc w1 ps i x ok :=
  ⟨h.fr.trans (FrG.of_below hb), (hb.block gx (blk_lt h.blk)).trans h.blk, h.ok, h.val, h.zero⟩
theorem LJ.cell {gx k : Nat} {wc wr : World} {ps : List Bs} {i : Nat} {x : Nat → Int} {ok : Bool} (h : LJ gx k wc wr ps i x ok) (j : Nat) (hj : j < 3) : wr.cell? ⟨gx, 1 + j, none⟩ = some (.int .i64 (x j)) := by
  rw [blk_cell h.blk]
  match j, hj with
  | 0, _ => rfl
  | 1, _ => rfl
  | 2, _ => rfl
theorem LJ.next {gx k : Nat} {wc wr : World} {ps : List Bs} {i : Nat} {x : Nat → Int} {ok : Bool} (h : LJ gx k wc wr ps i x ok) (hi : i < 3) {y : Bs} {r : Option Nat} {n : Int} (h1 : ps.getD i [] = y) (h2 : ps.take (i + 1) = ps.take i ++ [y]) (h3 : numL y = r) (h4 : ∀ v, r = some v → n = v) : LJ gx k wc (wr.setCell ⟨gx, 1 + i, none⟩ (.int .i64 n)) ps (i + 1) (upd x i n) (ok && r.isSome) := by
  refine ⟨h.fr.set _ _, ?_, ?_, fun j hj v hv => ?_, fun j hj => ?_⟩
  · rw [heap_set h.blk]
    match i, hi with
    | 0, _ => rfl
    | 1, _ => rfl
    | 2, _ => rfl
  · rw [h2, List.all_append, ← h.ok]
    simp [h3]
  · unfold upd
    by_cases hji : j = i
    · subst hji
      rw [if_pos rfl]
      rw [h1, h3] at hv
      exact h4 v hv
    · rw [if_neg hji]
      exact h.val j (by omega) v hv
  · unfold upd
    rw [if_neg (by omega)]
    exact h.zero j (by omega)
theorem fr_cell {g : Nat} {a b : World} (h : FrG g a b) {k : Nat} (hk : k < a.heap.size) (hne : k ≠ g) {j : Nat} : b.cell? ⟨k, j, none⟩ = a.cell? ⟨k, j, none⟩ := by simp only [World.cell?, h.block k hk hne]
theorem fr_frozen {g : Nat} {a b : World} (h : FrG g a b) {k : Nat} (hk : k < a.heap.size) (hne : k ≠ g) {j : Nat} : b.frozen? ⟨k, j, none⟩ = a.frozen? ⟨k, j, none⟩ := by simp only [World.frozen?, h.block k hk hne]
theorem sc_len (c : UInt8) : ∀ l : Bs, (splitC c l).length ≤ l.length + 1 ∧ ∀ p ∈ splitC c l, p.length ≤ l.length
  | [] => ⟨Nat.le_refl _, fun p hp => by rw [List.mem_singleton.1 hp]; exact Nat.le_refl _⟩
  | b :: l => by
    obtain ⟨h1, h2⟩ := sc_len c l
    by_cases hc : b = c
    · rw [splitC, if_pos hc]
      refine ⟨by simp; omega, fun p hp => ?_⟩
      rcases List.mem_cons.1 hp with rfl | hp
      · exact Nat.zero_le _
      · exact Nat.le_trans (h2 p hp) (by simp)
    · obtain ⟨h, t, e⟩ := sc_cons c l
      rw [sc_step l hc e]
      rw [e] at h1 h2
      refine ⟨by simp at h1 ⊢; omega, fun p hp => ?_⟩
      rcases List.mem_cons.1 hp with rfl | hp
      · have := h2 h List.mem_cons_self
        simp; omega
      · exact Nat.le_trans (h2 p (List.mem_cons_of_mem _ hp)) (by simp)
theorem plc_lt (s : Bs) : ∀ L : List Bs, 0 < L.length → (plc s L).getD 0 < L.length
  | [], h => h
  | x :: L, _ => by
    unfold plc
    split
    · exact Nat.succ_pos _
    · cases hq : plc s L with
      | none => exact Nat.succ_pos _
      | some k =>
        cases L with
        | nil => cases hq
        | cons y L =>
          have := plc_lt s (y :: L) (by simp)
          rw [hq] at this
          show k + 1 < _
          simp at this ⊢
          omega
theorem kKind : Maps.Keyed Tryz.prog 25 := Maps.int_keyed Tryz.underlying25
theorem keyK (q : Int) (h1 : 0 ≤ q) (h2 : q < 5) : keyOf Tryz.prog 25 (.int .i64 q) = some (.int .i64 q) := Maps.keyOf_int_mk Tryz.underlying25 (by
  have e1 : IntKind.min .i64 = -9223372036854775808 := by decide
  have e2 : IntKind.max .i64 = 9223372036854775807 := by decide
  simp only [Lit.wf, Bool.and_eq_true, decide_eq_true_eq, e1, e2]
  omega)
theorem zero138 (w : World) : (zeroValue 138).run Tryz.prog w = .ok (.slice none 0 0) w := by kernel_rfl
theorem two0 (v1 v2 z : Value) : (((DataW.map [] : DataW Value).put (.int .i64 1) (.held v1)).put (.int .i64 2) (.held v2)).atKey (.int .i64 0) (.held z) = .held z := rfl
theorem two1 (v1 v2 z : Value) : (((DataW.map [] : DataW Value).put (.int .i64 1) (.held v1)).put (.int .i64 2) (.held v2)).atKey (.int .i64 1) (.held z) = .held v1 := rfl
theorem two2 (v1 v2 z : Value) : (((DataW.map [] : DataW Value).put (.int .i64 1) (.held v1)).put (.int .i64 2) (.held v2)).atKey (.int .i64 2) (.held z) = .held v2 := rfl
theorem two3 (v1 v2 z : Value) : (((DataW.map [] : DataW Value).put (.int .i64 1) (.held v1)).put (.int .i64 2) (.held v2)).atKey (.int .i64 3) (.held z) = .held z := rfl
theorem two4 (v1 v2 z : Value) : (((DataW.map [] : DataW Value).put (.int .i64 1) (.held v1)).put (.int .i64 2) (.held v2)).atKey (.int .i64 4) (.held z) = .held z := rfl
theorem want0 {W4 wb : World} {gx k : Nat} (h : Below W4.heap.size W4 wb) (hk : wantN k = 0) : WantP k gx W4 wb (.slice none 0 0) := ⟨none, by rw [hk], h, fun h0 => by omega⟩
def wA (W4 : World) (gx : Nat) : World := (W4.alloc (.map #[] 0)).alloc (.cells #[.pointer (some ⟨gx, 1, none⟩)] 139 (0, 0))
theorem afterS {W4 wa : World} {gx : Nat} (hg : ((W4.alloc (.map #[] 0)).alloc (.cells #[.pointer (some ⟨gx, 1, none⟩)] 139 (0, 0))).grownBy wa (some W4.heap.size)) : W4.heap.size + 2 ≤ wa.heap.size := by
  have := hg.size
  simp at this
  omega
/-- Behind the first entry. -/
theorem afterA {W4 wa : World} {gx : Nat} (hg : ((W4.alloc (.map #[] 0)).alloc (.cells #[.pointer (some ⟨gx, 1, none⟩)] 139 (0, 0))).grownBy wa (some W4.heap.size)) : Below W4.heap.size W4 wa ∧ wa.cell? ⟨W4.heap.size + 1, 0, none⟩ = some (.pointer (some ⟨gx, 1, none⟩)) ∧ W4.heap.size + 2 ≤ wa.heap.size := by
  have e : (W4.alloc (.map #[] 0)).heap.size = W4.heap.size + 1 := by simp
  have hb := blk_new (W4.alloc (.map #[] 0)) (.cells #[.pointer (some ⟨gx, 1, none⟩)] 139 (0, 0))
  rw [e] at hb
  exact ⟨below_grown (below_alloc (below_alloc (Below.refl _ _) _) _) hg (by simp; omega) (Nat.le_refl _), blk_cell (blk_grown hb hg (by simp)) 0, afterS hg⟩
/-- Behind the second one. -/
theorem afterB {W4 wa wb : World} {gx : Nat} (h : Below W4.heap.size W4 wa ∧ wa.cell? ⟨W4.heap.size + 1, 0, none⟩ = some (.pointer (some ⟨gx, 1, none⟩)) ∧ W4.heap.size + 2 ≤ wa.heap.size)
    (hg : (wa.alloc (.cells #[.pointer (some ⟨gx, 1, none⟩), .pointer (some ⟨gx, 2, none⟩), .pointer (some ⟨gx, 3, none⟩)] 139 (0, 0))).grownBy wb (some W4.heap.size)) :
    Below W4.heap.size W4 wb ∧ wb.cell? ⟨W4.heap.size + 1, 0, none⟩ = some (.pointer (some ⟨gx, 1, none⟩)) ∧ W4.heap.size + 2 ≤ wa.heap.size ∧ wa.heap.size < wb.heap.size ∧ wb.heap[wa.heap.size]? = some (.cells #[.pointer (some ⟨gx, 1, none⟩), .pointer (some ⟨gx, 2, none⟩), .pointer (some ⟨gx, 3, none⟩)] 139 (0, 0)) := by
  obtain ⟨h1, h2, h3⟩ := h
  have hs := hg.size
  simp at hs
  refine ⟨below_grown (h1.alloc (by omega) _) hg (by simp; omega) (Nat.le_refl _), ?_, h3, by omega, blk_grown (blk_new wa _) hg (by simp; omega)⟩
  have hb := hg.block (W4.heap.size + 1) (by simp; omega) (by simp)
  have hb2 : (wa.alloc (.cells #[.pointer (some ⟨gx, 1, none⟩), .pointer (some ⟨gx, 2, none⟩), .pointer (some ⟨gx, 3, none⟩)] 139 (0, 0))).heap[W4.heap.size + 1]? = wa.heap[W4.heap.size + 1]? := (below_alloc (Below.refl wa.heap.size wa) _).block _ (by omega)
  rw [← h2]
  simp only [World.cell?, hb, hb2]
theorem want1 {W4 wa wb : World} {gx : Nat} (hgx : gx < W4.heap.size) (h : Below W4.heap.size W4 wb ∧ wb.cell? ⟨W4.heap.size + 1, 0, none⟩ = some (.pointer (some ⟨gx, 1, none⟩)) ∧ W4.heap.size + 2 ≤ wa.heap.size ∧ wa.heap.size < wb.heap.size ∧ wb.heap[wa.heap.size]? = some (.cells #[.pointer (some ⟨gx, 1, none⟩), .pointer (some ⟨gx, 2, none⟩), .pointer (some ⟨gx, 3, none⟩)] 139 (0, 0))) :
    WantP 1 gx W4 wb (.slice (some ⟨W4.heap.size + 1, 0, none⟩) 1 1) := ⟨_, rfl, h.1, fun _ => ⟨_, rfl, by omega, by omega, fun j hj => by
  have : j = 0 := by unfold wantN at hj; simp at hj; exact hj
  subst this; exact h.2.1⟩⟩
theorem want2 {W4 wa wb : World} {gx : Nat} (hgx : gx < W4.heap.size) (h : Below W4.heap.size W4 wb ∧ wb.cell? ⟨W4.heap.size + 1, 0, none⟩ = some (.pointer (some ⟨gx, 1, none⟩)) ∧ W4.heap.size + 2 ≤ wa.heap.size ∧ wa.heap.size < wb.heap.size ∧ wb.heap[wa.heap.size]? = some (.cells #[.pointer (some ⟨gx, 1, none⟩), .pointer (some ⟨gx, 2, none⟩), .pointer (some ⟨gx, 3, none⟩)] 139 (0, 0))) :
    WantP 2 gx W4 wb (.slice (some ⟨wa.heap.size, 0, none⟩) 3 3) := ⟨_, rfl, h.1, fun _ => ⟨_, rfl, by omega, h.2.2.2.1, fun j hj => by
  rw [blk_cell h.2.2.2.2]
  have hj3 : j < 3 := by unfold wantN at hj; simp at hj; exact hj
  match j, hj3 with
  | 0, _ => rfl
  | 1, _ => rfl
  | 2, _ => rfl⟩⟩
set_option maxHeartbeats 8000000 in
set_option maxRecDepth 100000 in
theorem schW (s : ByteArray) (hs : s.size ≤ 10000000) (w : World) (hE : Env w) : Calls Tryz.prog 73 #[.string s] w (SQ (schL s.data.toList) w) := by
  have hmm := @run_makeMap Tryz.prog
  obtain ⟨p0, ps, hL⟩ := sc_cons 58 s.data.toList
  have HS := Aside0.mk (fun (w1 : World) (h1 : Below w.heap.size w w1) => splitW s hs w1 (hE.below h1))
  rw [hL] at HS
  have HE := Aside0.mk hE
  have hsc : schL s.data.toList = (plc p0 schedsL).bind fun k => (schP k ps).map fun x => ((k : Int), x) := by unfold schL; rw [hL]
  obtain ⟨o, ho⟩ : ∃ o, (plc p0 schedsL).bind (fun (k : Nat) => (schP k ps).map fun x => ((k : Int), x)) = o := ⟨_, rfl⟩
  rw [hsc, ho]
  have HO := Aside0.mk ho
  have hll : s.data.toList.length = s.size := by simp
  have hlen : (p0 :: ps).length ≤ 10000001 := by have := (sc_len 58 s.data.toList).1; rw [hL, hll] at this; omega
  have HSZ := Aside0.mk (show ∀ p ∈ ps, (⟨p.toArray⟩ : ByteArray).size ≤ 10000000 from fun p hp => by
    have := (sc_len 58 s.data.toList).2 p (by rw [hL]; exact List.mem_cons_of_mem _ hp)
    show p.toArray.size ≤ 10000000
    rw [List.size_toArray]; omega)
  clear hsc hL hE ho hll
  obtain ⟨k, hk⟩ : ∃ k : Nat, (plc p0 schedsL).getD 0 = k := ⟨_, rfl⟩
  have hk5 : k < 5 := by rw [← hk]; exact plc_lt p0 schedsL (by decide)
  obtain ⟨b, hb⟩ : ∃ b, (plc p0 schedsL).isSome = b := ⟨_, rfl⟩
  have HB := Aside0.mk hb
  have HK := Aside0.mk hk
  have HP := Aside0.mk (fun (w1 : World) => pickW w1.heap.size 5 5 schedsL ⟨p0.toArray⟩ (w1.alloc schedsO) rfl (by decide) (by decide) (scheds_at w1))
  rw [bt_data, hk, hb] at HP
  clear hk hb
  go_enter Tryz.func73, Tryz.ntmps73
  go_wp2_with fail
  refine (HS.out _ (below_alloc (Below.refl _ _) _)).mono ?_
  rintro e w1 ⟨rfl, hc, hlt, hb1⟩
  have hz1 : (w.alloc (.cells #[.int .i64 0, .int .i64 0, .int .i64 0, .int .i64 0] 27 (0, 0))).heap.size = w.heap.size + 1 := by simp
  rw [hz1] at hc hlt hb1
  have HC := Aside0.mk hc
  have HB1 := Aside0.mk (show Below w.heap.size w w1 from (below_alloc (Below.refl _ _) _).trans (hb1.mono (by omega)))
  have hr0 : w1.heap[w.heap.size]? = some (.cells #[.int .i64 0, .int .i64 0, .int .i64 0, .int .i64 0] 27 (0, 0)) := (hb1.block w.heap.size (by omega)).trans (blk_new w _)
  have HR0 := Aside0.mk hr0
  have hc0 : w1.cell? ⟨w.heap.size + 1, 0, none⟩ = some (.string ⟨p0.toArray⟩) := hc 0 (by simp)
  have HC0 := Aside0.mk hc0
  have h01 : (0 : Int) < ((ps.length : Int) + 1) := by omega
  clear hz1 hc hb1 hr0 hc0
  go_wp2_with fail
  go_upto_region 2 with fail
  have hz := Aside0.mk (below_drew (Below.refl w1.heap.size w1))
  have KC := Aside0.mk (fun (w9 : World) (h9 : Below w1.heap.size w1 w9) => show w9.cell? ⟨w.heap.size + 1, 0, none⟩ = some (.string ⟨p0.toArray⟩) from (h9.cell (p := ⟨w.heap.size + 1, 0, none⟩) hlt).trans HC0.out)
  go_cut [5, 6] (fun s5 s6 wx => s5 = .int .i64 k ∧ s6 = .bool b ∧ Below w1.heap.size w1 wx)
  case first =>
    refine wp_region_held_drew (S := fun w' => w'.cell? ⟨w.heap.size + 1, 0, none⟩ = some (.string ⟨p0.toArray⟩)) (by kernel_rfl) ?_ (fun hHeld => ?_)
    · exact KC.out _ hz.out
    generalize w1.drew = wd at *
    refine wpAnyH_take (i := 0) (oi := { dst := some 16, op := Op.move (Operand.tmp 4), type := 48, pos := "opts.go:48", after := #[], guard := none }) (v := ?_) rfl (by kernel_rfl) (by kernel_rfl) (by kernel_rfl) (fun _ _ _ h => h) (Or.inl ⟨by rfl, ?_⟩) (by assumption) ?_
    rotate_left
    · (intro w hSw; (try dsimp only at hSw); go_simp; first | done | with_reducible rfl)
    try simp only [Act.put, List.setIfInBounds_toArray, List.set_cons_zero, List.set_cons_succ]
    refine wpAnyH_take (i := 1) (oi := { dst := some 17, op := Op.indexAddr 48 (Operand.tmp 16) (Operand.const (Value.int IntKind.i64 0)), type := 0, pos := "opts.go:48", after := #[{ on := 0, ground := Ground.data }], guard := none }) (v := ?_) rfl (by kernel_rfl) (by kernel_rfl) (by kernel_rfl) (fun _ _ _ h => h) (Or.inl ⟨by rfl, ?_⟩) (by assumption) ?_
    rotate_left
    · (intro w hSw; (try dsimp only at hSw); go_simp; first | done | with_reducible rfl)
    try simp only [Act.put, List.setIfInBounds_toArray, List.set_cons_zero, List.set_cons_succ]
    refine wpAnyH_take (i := 2) (oi := { dst := some 18, op := Op.load 9 (Operand.tmp 17), type := 9, pos := "opts.go:48", after := #[{ on := 1, ground := Ground.data }], guard := none }) (v := ?_) rfl (by kernel_rfl) (by kernel_rfl) (by kernel_rfl) (fun _ _ _ h => h) (Or.inl ⟨by rfl, ?_⟩) (by assumption) ?_
    rotate_left
    · (intro w hSw; (try dsimp only at hSw); go_simp; first | done | with_reducible rfl)
    try simp only [Act.put, List.setIfInBounds_toArray, List.set_cons_zero, List.set_cons_succ]
    refine wpAnyH_ready (rs := [3]) (by kernel_rfl) (by simp) ?_
    refine AllReadyH.cons (o := { dst := some 19, op := Op.call { callee := Callee.value (Operand.func 25), args := #[], argTypes := #[] }, type := 48, pos := "opts.go:48", after := #[], guard := none }) rfl (fun KK hKK => ?_) AllReadyH.nil
    go_simp
    with_reducible refine (schedsW _).mono ?_
    rintro e w' ⟨rfl, rfl⟩
    replace hz := Aside0.mk (below_alloc hz.out schedsO)
    go_wp2_with fail
    refine hKK.out _ _ ?_ (fun hHeld2 => ?_)
    · exact KC.out _ hz.out
    clear hKK KK hHeld
    have hHeld := hHeld2
    clear hHeld2
    try simp only [Act.put, List.setIfInBounds_toArray, List.set_cons_zero, List.set_cons_succ]
    refine wpAnyH_ready (rs := [4]) (by kernel_rfl) (by simp) ?_
    refine AllReadyH.cons (o := { dst := some 20, op := Op.call { callee := Callee.value (Operand.func 72), args := #[Operand.tmp 18, Operand.tmp 19], argTypes := #[9, 48] }, type := 119, pos := "opts.go:48", after := #[{ on := 2, ground := Ground.data }, { on := 3, ground := Ground.data }, { on := 3, ground := Ground.chain }], guard := none }) rfl (fun KK hKK => ?_) AllReadyH.nil
    go_simp
    with_reducible refine (HP.out _).mono ?_
    rintro e w' ⟨rfl, rfl⟩
    go_wp2_with fail
    refine hKK.out _ _ ?_ (fun hHeld2 => ?_)
    · exact KC.out _ hz.out
    clear hKK KK hHeld
    have hHeld := hHeld2
    clear hHeld2
    try simp only [Act.put, List.setIfInBounds_toArray, List.set_cons_zero, List.set_cons_succ]
    refine wpAnyH_take (i := 5) (oi := { dst := some 15, op := Op.move (Operand.tmp 20), type := 119, pos := "opts.go:48", after := #[{ on := 4, ground := Ground.data }], guard := none }) (v := ?_) rfl (by kernel_rfl) (by kernel_rfl) (by kernel_rfl) (fun _ _ _ h => h) (Or.inl ⟨by rfl, ?_⟩) (by assumption) ?_
    rotate_left
    · (intro w hSw; (try dsimp only at hSw); go_simp; first | done | with_reducible rfl)
    try simp only [Act.put, List.setIfInBounds_toArray, List.set_cons_zero, List.set_cons_succ]
    refine wpAnyH_take (i := 6) (oi := { dst := some 21, op := Op.extract (Operand.tmp 15) 0, type := 3, pos := "opts.go:48", after := #[{ on := 5, ground := Ground.data }], guard := none }) (v := ?_) rfl (by kernel_rfl) (by kernel_rfl) (by kernel_rfl) (fun _ _ _ h => h) (Or.inl ⟨by rfl, ?_⟩) (by assumption) ?_
    rotate_left
    · (intro w hSw; (try dsimp only at hSw); go_simp; first | done | with_reducible rfl)
    try simp only [Act.put, List.setIfInBounds_toArray, List.set_cons_zero, List.set_cons_succ]
    refine wpAnyH_take (i := 7) (oi := { dst := some 22, op := Op.extract (Operand.tmp 15) 1, type := 4, pos := "opts.go:48", after := #[{ on := 5, ground := Ground.data }, { on := 8, ground := Ground.gcOnly Departure.lateStores }], guard := none }) (v := ?_) rfl (by kernel_rfl) (by kernel_rfl) (by kernel_rfl) (fun _ _ _ h => h) (Or.inl ⟨by rfl, ?_⟩) (by assumption) ?_
    rotate_left
    · (intro w hSw; (try dsimp only at hSw); go_simp; first | done | with_reducible rfl)
    try simp only [Act.put, List.setIfInBounds_toArray, List.set_cons_zero, List.set_cons_succ]
    refine wpAnyH_take (i := 8) (oi := { dst := some 5, op := Op.assign (Operand.tmp 21), type := 3, pos := "opts.go:48", after := #[{ on := 6, ground := Ground.data }, { on := 4, ground := Ground.chain }, { on := 0, ground := Ground.phase }, { on := 1, ground := Ground.phase }, { on := 2, ground := Ground.phase }, { on := 3, ground := Ground.phase }, { on := 4, ground := Ground.phase }, { on := 5, ground := Ground.phase }, { on := 6, ground := Ground.phase }, { on := 7, ground := Ground.textOnly Departure.lateStores }], guard := none }) (v := ?_) rfl (by kernel_rfl) (by kernel_rfl) (by kernel_rfl) (fun _ _ _ h => h) (Or.inl ⟨by rfl, ?_⟩) (by assumption) ?_
    rotate_left
    · (intro w hSw; (try dsimp only at hSw); go_simp; first | done | with_reducible rfl)
    try simp only [Act.put, List.setIfInBounds_toArray, List.set_cons_zero, List.set_cons_succ]
    refine wpAnyH_take (i := 9) (oi := { dst := some 6, op := Op.assign (Operand.tmp 22), type := 4, pos := "opts.go:48", after := #[{ on := 7, ground := Ground.data }, { on := 8, ground := Ground.chain }, { on := 0, ground := Ground.phase }, { on := 1, ground := Ground.phase }, { on := 2, ground := Ground.phase }, { on := 3, ground := Ground.phase }, { on := 4, ground := Ground.phase }, { on := 5, ground := Ground.phase }, { on := 6, ground := Ground.phase }, { on := 7, ground := Ground.phase }, { on := 8, ground := Ground.phase }], guard := none }) (v := ?_) rfl (by kernel_rfl) (by kernel_rfl) (by kernel_rfl) (fun _ _ _ h => h) (Or.inl ⟨by rfl, ?_⟩) (by assumption) ?_
    rotate_left
    · (intro w hSw; (try dsimp only at hSw); go_simp; first | done | with_reducible rfl)
    try simp only [Act.put, List.setIfInBounds_toArray, List.set_cons_zero, List.set_cons_succ]
    refine wpAnyH_done (by kernel_rfl) ?_ _
    go_wp2_with fail
    go_meet
    exact ⟨rfl, rfl, hz.out⟩
  case rest =>
    obtain ⟨rfl, rfl, hb2⟩ := hcut
    have HB2 := Aside0.mk hb2
    clear hb2 hz
    go_upto_region 4 with fail
    have hgw : w.heap.size + 1 < wc.heap.size := by have := HB2.out.size; omega
    have BX := Aside0.mk (blk_new wc (kd27 k))
    have HB3 := Aside0.mk (below_alloc HB2.out (kd27 k))
    have hgx : wc.heap.size < (wc.alloc (kd27 k)).heap.size := by simp
    have hx0 : (wc.alloc (kd27 k)).cell? ⟨wc.heap.size, 0, none⟩ = some (.int .i64 k) := blk_cell BX.out 0
    have kd_is : kd27 k = .cells #[.int .i64 k, .int .i64 0, .int .i64 0, .int .i64 0] 27 (0, 0) := rfl
    rw [← kd_is]
    clear kd_is
    generalize hgW : wc.alloc (kd27 k) = W4 at *
    clear hgW
    generalize wc.heap.size = gx at *
    go_cut [8] (fun s8 wx => WantP k gx W4 wx s8)
    case first =>
      have OM := Aside0.mk (World.ownsMap_made W4 Tryz.prog 25 hR)
      have KW := Aside0.mk keyK
      have HX := Aside0.mk hx0
      have hk9 : k = 0 ∨ k = 1 ∨ k = 2 ∨ k = 3 ∨ k = 4 := by omega
      clear hx0
      rcases hk9 with rfl | rfl | rfl | rfl | rfl
      all_goals
        go_wp2_with (first
          | ((with_reducible refine wpList_put_held _ rfl (.tmp 25) (.const (.int .i64 1)) (.tmp 27) 140 (.inr rfl) 25 138 kKind Tryz.underlying140 W4.heap.size 0 (.map []) rfl (OM.out.alloc _) (by decide) (.int .i64 1) _ (.int .i64 1) rfl rfl (KW.out 1 (by decide) (by decide)) ?_); intro wa howna hga; have OA := Aside0.mk howna; have HA := Aside0.mk (afterA hga); have hsa := Aside0.mk (afterS hga); clear howna hga)
          | ((with_reducible refine wpList_put_held _ rfl (.tmp 25) (.const (.int .i64 2)) (.tmp 31) 140 (.inr rfl) 25 138 kKind Tryz.underlying140 W4.heap.size (0 + 1) _ rfl (OA.out.alloc _) (by decide) (.int .i64 2) _ (.int .i64 2) rfl rfl (KW.out 2 (by decide) (by decide)) ?_); intro wb hownb hgb; have OB := Aside0.mk hownb; have HBb := Aside0.mk (afterB HA.out hgb); have hx0 := (HBb.out.1.cell (p := ⟨gx, 0, none⟩) hgx).trans HX.out; clear hownb hgb)
          | (with_reducible refine wpList_get_held _ rfl (.tmp 32) (.tmp 34) 140 rfl 25 138 kKind Tryz.underlying140 (zero138 _) W4.heap.size (0 + 1 + 1) _ rfl OB.out (.int .i64 0) (.int .i64 0) rfl (KW.out 0 (by decide) (by decide)) _ (two0 _ _ _) ?_)
          | (with_reducible refine wpList_get_held _ rfl (.tmp 32) (.tmp 34) 140 rfl 25 138 kKind Tryz.underlying140 (zero138 _) W4.heap.size (0 + 1 + 1) _ rfl OB.out (.int .i64 1) (.int .i64 1) rfl (KW.out 1 (by decide) (by decide)) _ (two1 _ _ _) ?_)
          | (with_reducible refine wpList_get_held _ rfl (.tmp 32) (.tmp 34) 140 rfl 25 138 kKind Tryz.underlying140 (zero138 _) W4.heap.size (0 + 1 + 1) _ rfl OB.out (.int .i64 2) (.int .i64 2) rfl (KW.out 2 (by decide) (by decide)) _ (two2 _ _ _) ?_)
          | (with_reducible refine wpList_get_held _ rfl (.tmp 32) (.tmp 34) 140 rfl 25 138 kKind Tryz.underlying140 (zero138 _) W4.heap.size (0 + 1 + 1) _ rfl OB.out (.int .i64 3) (.int .i64 3) rfl (KW.out 3 (by decide) (by decide)) _ (two3 _ _ _) ?_)
          | (with_reducible refine wpList_get_held _ rfl (.tmp 32) (.tmp 34) 140 rfl 25 138 kKind Tryz.underlying140 (zero138 _) W4.heap.size (0 + 1 + 1) _ rfl OB.out (.int .i64 4) (.int .i64 4) rfl (KW.out 4 (by decide) (by decide)) _ (two4 _ _ _) ?_))
        go_meet
        first
          | exact want0 HBb.out.1 rfl
          | exact want1 hgx HBb.out
          | exact want2 hgx HBb.out
    case rest =>
      obtain ⟨A8, rfl, hb4, hptr⟩ := hcut
      have HB5 : Aside0 (Below w1.heap.size w1 wc) := Aside0.mk (below_then HB3.out HB3.out.size hb4)
      have HW : Aside0 (Below w.heap.size w wc) := Aside0.mk (below_step HB1.out HB5.out)
      have HR5 := Aside0.mk ((HB5.out.block w.heap.size (by omega)).trans HR0.out)
      have HC5 := Aside0.mk (TC.below HC.out hlt HB5.out)
      have HX5 := Aside0.mk ((hb4.block gx hgx).trans BX.out)
      have HPT := Aside0.mk hptr
      have hgx5 : gx < wc.heap.size := Nat.lt_of_lt_of_le hgx hb4.size
      have hlw : w.heap.size < wc.heap.size := by have := HB5.out.size; omega
      clear hb4 hptr hx0 HC HC0 HR0 BX KC HP hgx HB2 HB3 HB5
      have r0 : wc.cell? ⟨w.heap.size, 0, none⟩ = some (.int .i64 0) := blk_cell HR5.out 0
      have r1 : wc.cell? ⟨w.heap.size, 1, none⟩ = some (.int .i64 0) := blk_cell HR5.out 1
      have r2 : wc.cell? ⟨w.heap.size, 2, none⟩ = some (.int .i64 0) := blk_cell HR5.out 2
      have r3 : wc.cell? ⟨w.heap.size, 3, none⟩ = some (.int .i64 0) := blk_cell HR5.out 3
      have q0 : wc.frozen? ⟨w.heap.size, 0, none⟩ = false := blk_frozen HR5.out 0
      have q1 : wc.frozen? ⟨w.heap.size, 1, none⟩ = false := blk_frozen HR5.out 1
      have q2 : wc.frozen? ⟨w.heap.size, 2, none⟩ = false := blk_frozen HR5.out 2
      have q3 : wc.frozen? ⟨w.heap.size, 3, none⟩ = false := blk_frozen HR5.out 3
      cases b with
      | false =>
        have hno : o = none := by
          rw [← HO.out]
          have := HB.out
          cases h : plc p0 schedsL with
          | none => rfl
          | some q => rw [h] at this; cases this
        subst hno
        go_wp2_with fail
        exact bodyPost_ret (v := .tuple #[.agg #[.int .i64 0, .int .i64 0, .int .i64 0, .int .i64 0], .bool false]) (by simp [results, Tryz.results73, go_sem, r0, r1, r2, r3]) rfl (SQ.no rfl (below_sets HW.out))
      | true =>
        have hpk : plc p0 schedsL = some k := by
          have h1 := HB.out
          have h2 := HK.out
          cases h : plc p0 schedsL with
          | none => rw [h] at h1; cases h1
          | some q => rw [h] at h2; exact congrArg some h2
        have hoo : o = (schP k ps).map fun x => ((k : Int), x) := by rw [← HO.out, hpk]; rfl
        by_cases hl : ps.length = wantN k
        · have hfin := Aside0.mk (fun (x : Nat → Int) (ok : Bool) => schP_fin k ps hk5 hl x ok)
          have HOO := Aside0.mk hoo
          have hm3 := wantN_le k
          rw [← hl] at HPT hm3 ⊢
          have hne : (((ps.length : Int) + 1) != ((ps.length : Int) + 1)) = false := by simp
          clear hoo hpk hl HB HK HO
          go_wp2_with fail
          go_loopg [6, 9, 10, 11, 12, 49] ps.length (fun kx s6 s9 s10 s11 s12 s49 wr => ∃ (i : Nat) (x : Nat → Int) (ok : Bool), s49 = .int .i64 i ∧ i ≤ ps.length ∧ ps.length - i ≤ kx ∧ s6 = .bool ok ∧ Aside0 (LJ gx k wc wr ps i x ok))
          case atStart => exact ⟨0, fun _ => 0, true, rfl, Nat.zero_le _, by omega, rfl, Aside0.mk ⟨FrG.refl _ _, HX5.out, rfl, fun j hj => absurd hj (Nat.not_lt_zero _), fun _ _ => rfl⟩⟩
          case round =>
            obtain ⟨i, x, ok, rfl, him, hg, rfl, HJ⟩ := hrel
            by_cases hlt2 : i < ps.length
            · obtain ⟨h, rfl, hgh, hh, hcell⟩ := HPT.out (by omega)
              have f0 : wr.cell? ⟨h, i, none⟩ = some (.pointer (some ⟨gx, 1 + i, none⟩)) := (fr_cell HJ.out.fr hh (by omega)).trans (hcell i hlt2)
              have hci := HC5.out (i + 1) (by simp; omega)
              have f1 : wr.cell? ⟨w.heap.size + 1, i + 1, none⟩ = some (.string ⟨ps[i].toArray⟩) := (fr_cell HJ.out.fr (by omega) (by omega)).trans hci
              have HN := Aside0.mk (numW ⟨ps[i].toArray⟩ (HSZ.out ps[i] (List.getElem_mem hlt2)) wr ((HE.out.below HW.out).fr HJ.out.fr (by have := HE.out.lt; omega)))
              rw [bt_data] at HN
              have PI := Aside0.mk (show ps.getD i [] = ps[i] from by rw [List.getD_eq_getElem?_getD, List.getElem?_eq_getElem hlt2]; rfl)
              have PT := Aside0.mk (show ps.take (i + 1) = ps.take i ++ [ps[i]] from List.take_succ_eq_append_getElem hlt2)
              have i1 : (i : Int) < (ps.length : Int) := by omega
              have i2 : (0 : Int) ≤ (i : Int) := by omega
              have i3 : (i : Int) + 1 < (ps.length : Int) + 1 := by omega
              have i4 : (0 : Int) ≤ (i : Int) + 1 := by omega
              have i5 : ((i : Int) + 1).toNat = i + 1 := by omega
              clear hci hcell
              generalize ps[i] = y at f1 HN PI PT
              generalize hfl : numL y = r at HN
              have HFL := Aside0.mk hfl
              clear hfl
              cases ok
              all_goals
                go_wp2_with (go_at_call 74; ((with_reducible refine HN.out.mono ?_); rintro e w5 ⟨n, rfl, hn, hb5⟩; have HNV := Aside0.mk hn; have HJ5 := Aside0.mk (HJ.out.below hb5); have c5 := HJ5.out.cell i (by omega); have z5 := blk_frozen HJ5.out.blk (1 + i); have s5 := blk_lt HJ5.out.blk; clear hn hb5))
                go_roundg (ps.length - (i + 1))
                case measure => omega
                case rel => exact ⟨i + 1, upd x i n, _, rfl, by omega, Nat.le_refl _, rfl, Aside0.mk (HJ5.out.next (by omega) PI.out PT.out HFL.out HNV.out)⟩
            · have hi : i = ps.length := by omega
              subst hi
              have HF := Aside0.mk (hfin.out x ok (by have := HJ.out.ok; rwa [List.take_of_length_le (Nat.le_refl _)] at this) HJ.out.val HJ.out.zero)
              have FR := HJ.out.fr
              have hne0 : w.heap.size ≠ gx := by omega
              have t0 : wr.cell? ⟨w.heap.size, 0, none⟩ = some (.int .i64 0) := (fr_cell FR hlw hne0).trans r0
              have t1 : wr.cell? ⟨w.heap.size, 1, none⟩ = some (.int .i64 0) := (fr_cell FR hlw hne0).trans r1
              have t2 : wr.cell? ⟨w.heap.size, 2, none⟩ = some (.int .i64 0) := (fr_cell FR hlw hne0).trans r2
              have t3 : wr.cell? ⟨w.heap.size, 3, none⟩ = some (.int .i64 0) := (fr_cell FR hlw hne0).trans r3
              have u0 : wr.frozen? ⟨w.heap.size, 0, none⟩ = false := (fr_frozen FR hlw hne0).trans q0
              have u1 : wr.frozen? ⟨w.heap.size, 1, none⟩ = false := (fr_frozen FR hlw hne0).trans q1
              have u2 : wr.frozen? ⟨w.heap.size, 2, none⟩ = false := (fr_frozen FR hlw hne0).trans q2
              have u3 : wr.frozen? ⟨w.heap.size, 3, none⟩ = false := (fr_frozen FR hlw hne0).trans q3
              have v0 : wr.cell? ⟨gx, 0, none⟩ = some (.int .i64 k) := blk_cell HJ.out.blk 0
              have v1 : wr.cell? ⟨gx, 1, none⟩ = some (.int .i64 (x 0)) := blk_cell HJ.out.blk 1
              have v2 : wr.cell? ⟨gx, 2, none⟩ = some (.int .i64 (x 1)) := blk_cell HJ.out.blk 2
              have v3 : wr.cell? ⟨gx, 3, none⟩ = some (.int .i64 (x 2)) := blk_cell HJ.out.blk 3
              have hsz : w.heap.size < wr.heap.size := Nat.lt_of_lt_of_le hlw FR.size
              have BF : Aside0 (Below w.heap.size w wr) := Aside0.mk (FrG.below HW.out HW.out.size FR (by omega))
              clear FR
              go_wp2_with fail
              exact bodyPost_ret (v := .tuple #[.agg #[.int .i64 k, .int .i64 (x 0), .int .i64 (x 1), .int .i64 (x 2)], .bool ok]) (by simp [results, Tryz.results73, go_sem, t0, t1, t2, t3]) rfl (SQ.fin HOO.out HF.out (below_sets BF.out))
        · have hno : o = none := by rw [hoo, schP_len hl]; rfl
          subst hno
          have hm3 := wantN_le k
          have hne : (((ps.length : Int) + 1) != ((wantN k : Int) + 1)) = true := by simp; omega
          clear hoo hpk
          go_wp2_with fail
          exact bodyPost_ret (v := .tuple #[.agg #[.int .i64 0, .int .i64 0, .int .i64 0, .int .i64 0], .bool false]) (by simp [results, Tryz.results73, go_sem, r0, r1, r2, r3]) rfl (SQ.no rfl (below_sets HW.out))
end Go.Proofs.YtdnllmngaljflaaGreatDoorX.Ho
