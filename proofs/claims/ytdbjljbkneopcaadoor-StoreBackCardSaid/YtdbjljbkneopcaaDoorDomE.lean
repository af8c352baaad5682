/- The contract of less: what is left of a domain when only some numbers stay. -/
import Derived.Test.YtdbjljbkneopcaaDoorDomD
namespace Go.Proofs.YtdbjljbkneopcaaDoor
open Go.RowKit
set_option linter.unusedSimpArgs false
set_option linter.unusedVariables false

/-- A cell of a slice is written. -/
theorem Sl.set {w : World} {e b o n c : Nat} {xs : List Value} (h : Sl w e 1 (.slice (some ⟨b, o, none⟩) n c) n xs) (i : Nat) (hi : i < n) (u : Value) : Sl (w.setCell ⟨b, o + i, none⟩ u) e 1 (.slice (some ⟨b, o, none⟩) n c) n (xs.set i u) := by
  obtain ⟨h0, ⟨h1, _⟩ | ⟨b', o', c', cs, h1, hc, h3, h4, h5, h6⟩⟩ := h
  · cases h1
  · cases h1
    refine ⟨by simpa using h0, .inr ⟨b, o, c, cs.setIfInBounds (o + i) u, rfl, heap_set hc _ _, h3, h4, by simpa using h5, fun j hj => ?_⟩⟩
    rw [Array.getElem?_setIfInBounds, List.getElem?_set]
    by_cases e : i = j
    · subst e
      rw [if_pos rfl, if_pos rfl, if_pos (by omega), if_pos (by omega)]
    · rw [if_neg (by omega), if_neg e]
      exact h6 j hj
theorem infoU64 : (Tryd.prog.info? 140).map (fun i => (i.zero, i.size, i.bytes)) = some (some (.int .u64 0), 1, 8) := by kernel_rfl
/-- A copy of words: in memory of its own. -/
def Dm.Cl (ws : List Nat) (w : World) (e : Ending) (w' : World) : Prop :=
  ∃ v', e = .returned v' ∧ Sl w' 140 1 v' ws.length (Dm.u64s ws) ∧ (∀ b, v'.ownBlock = some b → w.heap.size ≤ b) ∧ Below w.heap.size w w'
theorem dom_clone (sv : Value) (ws : List Nat) (w : World) (h : Sl w 140 1 sv ws.length (Dm.u64s ws)) (hn : ws.length ≤ 2000000) :
    Calls Tryd.prog 125 #[sv] w (Dm.Cl ws w) := by
  obtain ⟨A, c, rfl⟩ := h.len
  obtain ⟨h0, h1⟩ := h
  rcases h1 with ⟨e, hz⟩ | ⟨b, o, c', cs, e, hc, h3, h4, h5, h6⟩
  · have : ws = [] := List.length_eq_zero_iff.1 hz
    subst this
    obtain ⟨rfl, _, rfl⟩ : A = none ∧ True ∧ c = 0 := by simpa using e
    refine (Tryd.slices_Clone_nil 0 0 w).mono ?_
    rintro e w' ⟨rfl, rfl⟩
    exact ⟨_, rfl, Sl.nil _ _ _, (fun b hb => by cases hb), Below.refl _ _⟩
  · cases e
    obtain ⟨i0, hi, hz0, hz1, hz2⟩ := info_parts infoU64
    have hs : Sl w 140 1 (.slice (some ⟨b, o, none⟩) ws.length c) ws.length (Dm.u64s ws) := ⟨h0, .inr ⟨b, o, c, cs, rfl, hc, h3, h4, h5, h6⟩⟩
    refine (Tryd.slices_Clone i0 (.int .u64 0) 1 8 hi hz0 hz1 hz2 (by simp [Value.cells]) (by decide) Tryd.sizeOf140 b o ws.length c (Dm.u64s ws) w (by simp [Dm.u64s]) (by unfold maxLen; omega) (by omega) ?_ ?_).mono ?_
    · intro j u hu
      have hj : j < ws.length := by
        have := (List.getElem?_eq_some_iff.1 hu).1
        simpa [Dm.u64s] using this
      rw [hs.cell j (by omega)]
      exact hu
    · intro u hu
      obtain ⟨x, _, rfl⟩ := List.mem_map.1 hu
      rfl
    · rintro e w' ⟨v', rfl, hown, hne, hb⟩
      refine ⟨v', rfl, Sl.of_own hown, fun b hb => ?_, hb⟩
      obtain ⟨_, ⟨rfl, _⟩ | ⟨g, cap, cur, rfl, hg, _⟩⟩ := hown
      · exact absurd rfl hne
      · cases hb; exact hg

theorem Sl.lt_of {w w' : World} {e size b o n c : Nat} {xs ys : List Value} (_ : Sl w' e size (.slice (some ⟨b, o, none⟩) n c) n ys) (h : Sl w e size (.slice (some ⟨b, o, none⟩) n c) n xs) : b < w.heap.size := Sl.lt h rfl
/-- What became of a domain. -/
def Dm.chg (l l' : List Int) : Int := if l'.length = l.length then 0 else if l'.length = 0 then 4 else if l'.length = 1 then 3 else if l'.headD 0 ≠ l.headD 0 ∨ l'.getLastD 0 ≠ l.getLastD 0 then 2 else 1
/-- l' is left, and what became of it is told. -/
def Dm.wb : Value → Option Nat
  | .agg a => (a.getD 1 undef).ownBlock
  | _ => none
def Dm.Left (d : Value) (l l' : List Int) (w : World) (e : Ending) (w' : World) : Prop :=
  ∃ v', e = .returned (.tuple #[v', .int .i64 (Dm.chg l l')]) ∧ Dm.Rep w' v' l' ∧ Below w.heap.size w w' ∧ ∀ b, Dm.wb v' = some b → Dm.wb d = some b ∨ w.heap.size ≤ b
theorem Dm.wb_lt {w : World} {v : Value} {l : List Int} (h : Dm.Rep w v l) (b : Nat) (hb : Dm.wb v = some b) : b < w.heap.size := by
  obtain ⟨off, sv, ws, rfl, hx⟩ := h
  exact Sl.lt hx.sl hb
/-- What a function leaves of a word. -/
def Dm.Kp (off : Int) (ws : List Nat) (p : Int → Bool) (i y : Nat) : Prop :=
  y < 18446744073709551616 ∧ ∀ b : Nat, b < 64 → y.testBit b = ((ws.getD i 0).testBit b && p (off + 64 * i + b))
/-- The function value's contract: it gives each word a word by which just p's numbers stay. -/
def Dm.Gives (w : World) (off : Int) (ws : List Nat) (p : Int → Bool) (g c : Nat) : Prop :=
  ∀ W, Below w.heap.size w W → ∀ i : Nat, i < ws.length → Calls Tryd.prog g #[.int .i64 (off + 64 * i), .int .u64 (ws.getD i 0 : Nat), .pointer (some ⟨c, 0, none⟩)] W fun e w' =>
    ∃ k : Nat, e = .returned (.int .u64 (k : Int)) ∧ k < 18446744073709551616 ∧ (∀ b : Nat, b < 64 → off + 64 * i + b ∈ Bt.els off ws → k.testBit b = p (off + 64 * i + b)) ∧ Below W.heap.size W w'
/-- What holds between two words. -/
structure Dm.Le (w wr : World) (off : Int) (sv v' : Value) (lo hi : Int) (sz : Nat) (ws cur : List Nat) (p : Int → Bool) (j : Nat) : Prop where
  box : wr.heap[w.heap.size]? = some (.cells #[.int .i64 off, sv, .int .i64 lo, .int .i64 hi, .int .i64 sz] 25 (0, 0))
  res : wr.heap[w.heap.size + 1]? = some (.cells #[.int .i64 0, .slice none 0 0, .int .i64 0, .int .i64 0, .int .i64 0] 25 (0, 0))
  len : cur.length = ws.length
  sl : Sl wr 140 1 v' ws.length (Dm.u64s cur)
  own : ∀ b, v'.ownBlock = some b → w.heap.size + 2 ≤ b
  did : ∀ i, i < j → Dm.Kp off ws p i (cur.getD i 0)
  todo : ∀ i, j ≤ i → cur.getD i 0 = ws.getD i 0
  below : Below w.heap.size w wr
theorem Dm.left_new {w wr wf : World} {d : Value} {off : Int} {sv2 : Value} {cur : List Nat} {l l' : List Int} {ch lo2 hi2 : Int} {sz2 : Nat} (hr : Dm.RepX wr off sv2 cur l') (own : ∀ b, sv2.ownBlock = some b → w.heap.size + 2 ≤ b) (hb : Below w.heap.size w wr) (e1 : l'.headD 0 = lo2) (e2 : l'.getLastD 0 = hi2) (e3 : l'.length = sz2)
    (hf : Fr (fun k => k = w.heap.size + 1) wr wf) (hc : ch = Dm.chg l l') :
    Dm.Left d l l' w (.returned (.tuple #[.agg #[.int .i64 off, sv2, .int .i64 lo2, .int .i64 hi2, .int .i64 sz2], .int .i64 ch])) wf := by
  subst e1 e2 e3 hc
  exact ⟨_, rfl, ⟨off, sv2, cur, rfl, hr.kept hf (fun b hb e => by have := own b hb; omega)⟩, Fr.below hb hf (fun i e => by omega), fun b hb => Or.inr (Nat.le_trans (Nat.le_add_right _ 2) (own b hb))⟩
theorem Dm.kp_els {off : Int} {ws cur : List Nat} {p : Int → Bool} (hl : cur.length = ws.length) (h : ∀ i, i < ws.length → Dm.Kp off ws p i (cur.getD i 0)) : Bt.els off cur = (Bt.els off ws).filter p := by
  apply int_ext _ _ (Bt.els_sorted _ _) (List.Pairwise.filter _ (Bt.els_sorted _ _))
  intro v
  rw [List.mem_filter, Bt.els_mem, Bt.els_mem]
  constructor
  · rintro ⟨i, b, hi, hb, ht, rfl⟩
    rw [hl] at hi
    have := (h i hi).2 b hb
    rw [ht] at this
    have h2 := Bool.and_eq_true _ _ ▸ this.symm
    exact ⟨⟨i, b, hi, hb, h2.1, rfl⟩, h2.2⟩
  · rintro ⟨⟨i, b, hi, hb, ht, rfl⟩, hp⟩
    refine ⟨i, b, by omega, hb, ?_, rfl⟩
    rw [(h i hi).2 b hb, ht, hp]
    rfl

theorem Dm.Le.step {w wr w3 : World} {off : Int} {sv : Value} {b o c2 : Nat} {lo hi : Int} {sz : Nat} {ws cur : List Nat} {p : Int → Bool} {j x k : Nat} (h : Dm.Le w wr off sv (.slice (some ⟨b, o, none⟩) ws.length c2) lo hi sz ws cur p j) (hj : j < ws.length) (hb3 : Below wr.heap.size wr w3)
    (hx : ws.getD j 0 = x) (hxl : x < 18446744073709551616) (hk1 : k < 18446744073709551616) (hk : ∀ b : Nat, b < 64 → off + 64 * j + b ∈ Bt.els off ws → k.testBit b = p (off + 64 * j + b)) :
    Dm.Le w (w3.setCell ⟨b, o + j, none⟩ (.int .u64 ((x &&& k : Nat) : Int))) off sv (.slice (some ⟨b, o, none⟩) ws.length c2) lo hi sz ws (cur.set j (x &&& k)) p (j + 1) := by
  have hown := h.own b rfl
  refine ⟨heap_far (heap_call h.box hb3) (by simp; omega) _, heap_far (heap_call h.res hb3) (by simp; omega) _, by rw [List.length_set]; exact h.len, ?_, h.own, ?_, ?_, below_set (below_call h.below hb3) (by simp; omega) _⟩
  · have := (h.sl.call hb3).set j hj (.int .u64 ((x &&& k : Nat) : Int))
    unfold Dm.u64s at this ⊢
    rwa [← List.map_set] at this
  · intro i hi
    rw [List.getD_eq_getElem?_getD, List.getElem?_set]
    by_cases e : j = i
    · subst e
      rw [if_pos rfl, if_pos (by rw [h.len]; exact hj)]
      refine ⟨Nat.lt_of_le_of_lt Nat.and_le_left hxl, fun b hb => ?_⟩
      simp only [Option.getD_some]
      rw [Nat.testBit_and, hx]
      by_cases ht : x.testBit b = true
      · rw [ht, hk b hb]
        refine (Bt.els_mem _ _ _).2 ⟨j, b, hj, hb, by rw [hx]; exact ht, rfl⟩
      · have : x.testBit b = false := by simpa using ht
        rw [this]; rfl
    · rw [if_neg e, ← List.getD_eq_getElem?_getD]
      exact h.did i (by omega)
  · intro i hi
    rw [List.getD_eq_getElem?_getD, List.getElem?_set, if_neg (by omega), ← List.getD_eq_getElem?_getD]
    exact h.todo i (by omega)

set_option maxHeartbeats 1000000 in
theorem dom_less_loop (off : Int) (sv : Value) (lo hi : Int) (sz : Nat) (ws : List Nat) (p : Int → Bool) (g c : Nat) (l : List Int) (w : World) (eg : ∀ args w, (callFunc g args).run Tryd.prog w = .ok (.enter g args) w)
    (hx : Dm.RepX w off sv ws l) (hlo : lo = l.headD 0) (hhi : hi = l.getLastD 0) (hsz : sz = l.length) (hk : Dm.Gives w off ws p g c) (hT : Tab w) :
    Calls Tryd.prog 90 #[.agg #[.int .i64 off, sv, .int .i64 lo, .int .i64 hi, .int .i64 sz], .func (.func g) #[] #[.pointer (some ⟨c, 0, none⟩)]] w (Dm.Left (.agg #[.int .i64 off, sv, .int .i64 lo, .int .i64 hi, .int .i64 sz]) l (l.filter p) w) := by
  have HX := Lib.hid hx
  have HK := Lib.hid hk
  have HT := Lib.hid hT
  have E1 := Lib.hid hlo
  have E2 := Lib.hid hhi
  have E3 := Lib.hid hsz
  obtain ⟨A, c1, rfl⟩ := hx.sl.len
  have b1 := hx.lo
  have b2 := hx.hi
  clear hx hk hT hlo hhi hsz
  go_enter Tryd.func90, Tryd.ntmps90
  go_wp2_with fail
  refine (dom_clone (.slice A ws.length c1) ws _ (HX.out.sl.call (below_alloc (below_alloc (Below.refl _ _) _) _)) (by omega)).mono ?_
  rintro e w2 ⟨v', rfl, hs2, ho2, hb2⟩
  obtain ⟨A2, c2, rfl⟩ := hs2.len
  have HI : Hid (Dm.Le w w2 off (.slice A ws.length c1) (.slice A2 ws.length c2) lo hi sz ws ws p 0) :=
    ⟨heap_call (heap_alloc (heap_new _ _) _) hb2, heap_call (by have := heap_new (w.alloc (.cells #[.int .i64 off, .slice A ws.length c1, .int .i64 lo, .int .i64 hi, .int .i64 sz] 25)) (.cells #[.int .i64 0, .slice none 0 0, .int .i64 0, .int .i64 0, .int .i64 0] 25); simpa using this) hb2, rfl, hs2, (fun b hb => by have := ho2 b hb; simp at this; omega), (fun i hi => by omega), (fun i hi => rfl), below_call (below_alloc (below_alloc (Below.refl _ _) _) _) hb2⟩
  clear hs2 ho2 hb2
  go_wp2_with fail
  go_loopg [15] ws.length (fun k s15 wr => ∃ (j : Nat) (cur : List Nat), s15 = .int .i64 j ∧ j + k = ws.length ∧ Dm.Le w wr off (.slice A ws.length c1) (.slice A2 ws.length c2) lo hi sz ws cur p j)
  case atStart => exact ⟨0, ws, rfl, by omega, HI.out⟩
  case round =>
    obtain ⟨j, cur, rfl, hj, hinv⟩ := hrel
    have H := Lib.hid hinv
    clear hinv
    rcases Nat.eq_zero_or_pos gk with hk | hk
    · obtain rfl : j = ws.length := by omega
      have hcl := H.out.len
      have hkp : ∀ i, i < ws.length → Dm.Kp off ws p i (cur.getD i 0) := fun i hi => H.out.did i hi
      have hsl : Sl wr 140 1 (.slice A2 cur.length c2) cur.length (Dm.u64s cur) := by rw [hcl]; exact H.out.sl
      have hlt2 : ∀ x ∈ cur, x < 18446744073709551616 := fun x hx => by
        obtain ⟨i, hi, rfl⟩ := List.mem_iff_getElem.1 hx
        have := (hkp i (by omega)).1
        rwa [List.getD_eq_getElem?_getD, List.getElem?_eq_getElem hi] at this
      have hels := Dm.kp_els hcl hkp
      rw [← HX.out.els] at hels
      have hrep : Dm.RepX wr off (.slice A2 cur.length c2) cur (l.filter p) := ⟨hsl, hlt2, HX.out.mod, b1, by rw [hcl]; exact b2, hels.symm, fun u hu => HX.out.inr u (List.mem_filter.1 hu).1⟩
      obtain ⟨cur2, hrep, hcl2⟩ : ∃ cur2 : List Nat, Dm.RepX wr off (.slice A2 cur2.length c2) cur2 (l.filter p) ∧ cur2.length = ws.length := ⟨cur, hrep, hcl⟩
      rw [hcl2] at hrep
      have HR := Lib.hid hrep
      have HM := Lib.hid (dom_made off (.slice A2 cur.length c2) cur wr hsl hlt2 (by omega) (by rw [hcl]; omega) (HT.out.call H.out.below))
      rw [hels] at HM
      clear hkp hsl hlt2 hels hrep HI
      rw [hcl] at HM
      clear hcl hcl2
      have y0 := cell_of H.out.box 0
      go_wp2_with fail
      refine HM.out.mono ?_
      rintro e w4 ⟨rfl, hb4⟩
      unfold Dm.val
      have HB4 := Lib.hid hb4
      generalize e1 : (l.filter p).headD 0 = lo2 at *
      generalize e2 : (l.filter p).getLastD 0 = hi2 at *
      generalize e3 : (l.filter p).length = sz2 at *
      have F1 := Lib.hid e1
      have F2 := Lib.hid e2
      have F3 := Lib.hid e3
      clear e1 e2 e3 hb4
      have kb := heap_alloc (heap_call H.out.box HB4.out) (.cells #[.int .i64 off, .slice A2 ws.length c2, .int .i64 lo2, .int .i64 hi2, .int .i64 sz2] 25)
      have rb := heap_alloc (heap_call H.out.res HB4.out) (.cells #[.int .i64 off, .slice A2 ws.length c2, .int .i64 lo2, .int .i64 hi2, .int .i64 sz2] 25)
      have k0 := cell_of kb 0
      have k1 := cell_of kb 1
      have k2 := cell_of kb 2
      have k3 := cell_of kb 3
      have k4 := cell_of kb 4
      have r0 := cell_of rb 0
      have r1 := cell_of rb 1
      have r2 := cell_of rb 2
      have r3 := cell_of rb 3
      have r4 := cell_of rb 4
      have f0 := frozen_of rb 0
      have f1 := frozen_of rb 1
      have f2 := frozen_of rb 2
      have f3 := frozen_of rb 3
      have f4 := frozen_of rb 4
      have RB := Lib.hid rb
      clear kb rb
      by_cases q1 : sz2 = sz
      · have d1 : ((sz2 : Int) == (sz : Int)) = true := by rw [beq_iff_eq]; omega
        have Q1 := Lib.hid q1
        clear q1
        go_wp2_with fail
        have hll : l.filter p = l := List.filter_eq_self.2 (List.length_filter_eq_length_iff.1 (by rw [F3.out, ← E3.out]; exact Q1.out))
        refine bodyPost_ret (v := .tuple #[.agg #[.int .i64 off, .slice A ws.length c1, .int .i64 lo, .int .i64 hi, .int .i64 sz], .int .i64 0]) (by simp [results, Tryd.results90, go_sem, r0, r1, r2, r3, r4]) rfl ?_
        rw [hll]
        have hbf := (below_set (below_set (below_set (below_set (below_set (below_alloc (below_call H.out.below HB4.out) (.cells #[.int .i64 off, .slice A2 ws.length c2, .int .i64 lo2, .int .i64 hi2, .int .i64 sz2] 25)) (p := ⟨w.heap.size + 1, 0, none⟩) (Nat.le_succ _) (.int .i64 off)) (p := ⟨w.heap.size + 1, 1, none⟩) (Nat.le_succ _) (.slice A ws.length c1)) (p := ⟨w.heap.size + 1, 2, none⟩) (Nat.le_succ _) (.int .i64 lo)) (p := ⟨w.heap.size + 1, 3, none⟩) (Nat.le_succ _) (.int .i64 hi)) (p := ⟨w.heap.size + 1, 4, none⟩) (Nat.le_succ _) (.int .i64 sz))
        exact ⟨_, by rw [show Dm.chg l l = 0 from by unfold Dm.chg; rw [if_pos rfl]], ⟨off, .slice A ws.length c1, ws, by rw [E1.out, E2.out, E3.out]; rfl, HX.out.call hbf⟩, hbf, fun b hb => Or.inl hb⟩
      · have d1 : ((sz2 : Int) == (sz : Int)) = false := by rw [beq_eq_false_iff_ne]; omega
        by_cases q2 : sz2 = 0
        · have d2 : ((sz2 : Int) == 0) = true := by rw [beq_iff_eq]; omega
          have Q1 := Lib.hid q1
          have Q2 := Lib.hid q2
          clear q1 q2
          go_wp2_with fail
          have hll : l.filter p = [] := List.length_eq_zero_iff.1 (by rw [F3.out]; exact Q2.out)
          refine bodyPost_ret (v := .tuple #[.agg #[.int .i64 0, .slice none 0 0, .int .i64 0, .int .i64 0, .int .i64 0], .int .i64 4]) (by simp [results, Tryd.results90, go_sem, r0, r1, r2, r3, r4]) rfl ?_
          refine ⟨_, ?_, by rw [hll]; exact Dm.none_ _, below_set (below_set (below_set (below_set (below_set (below_alloc (below_call H.out.below HB4.out) _) (Nat.le_succ _) _) (Nat.le_succ _) _) (Nat.le_succ _) _) (Nat.le_succ _) _) (Nat.le_succ _) _, fun b hb => by cases hb⟩
          rw [show Dm.chg l (l.filter p) = 4 from by unfold Dm.chg; rw [F3.out, ← E3.out, if_neg Q1.out, if_pos Q2.out]]
        · have d2 : ((sz2 : Int) == 0) = false := by rw [beq_eq_false_iff_ne]; omega
          by_cases q3 : sz2 = 1
          · have d3 : ((sz2 : Int) == 1) = true := by rw [beq_iff_eq]; omega
            have Q1 := Lib.hid q1
            have Q2 := Lib.hid q2
            have Q3 := Lib.hid q3
            clear q1 q2 q3
            go_wp2_with fail
            refine bodyPost_ret (v := .tuple #[.agg #[.int .i64 off, .slice A2 ws.length c2, .int .i64 lo2, .int .i64 hi2, .int .i64 sz2], .int .i64 3]) (by simp [results, Tryd.results90, go_sem, r0, r1, r2, r3, r4]) rfl ?_
            refine Dm.left_new HR.out H.out.own H.out.below F1.out F2.out F3.out ?_ ?_
            · refine Fr.set (Fr.set (Fr.set (Fr.set (Fr.set ?_ ?_ _) ?_ _) ?_ _) ?_ _) ?_ _
              · exact (Fr.of_below HB4.out).alloc _
              all_goals exact fun _ => rfl
            · unfold Dm.chg
              rw [F1.out, F2.out, F3.out, ← E1.out, ← E2.out, ← E3.out]
              rw [if_neg Q1.out, if_neg Q2.out, if_pos Q3.out]
          · have d3 : ((sz2 : Int) == 1) = false := by rw [beq_eq_false_iff_ne]; omega
            have Q1 := Lib.hid q1
            have Q2 := Lib.hid q2
            have Q3 := Lib.hid q3
            clear q1 q2 q3
            by_cases q4 : lo2 = lo
            · subst q4
              by_cases q5 : hi2 = hi
              · subst q5
                go_wp2_with fail
                refine bodyPost_ret (v := .tuple #[.agg #[.int .i64 off, .slice A2 ws.length c2, .int .i64 lo2, .int .i64 hi2, .int .i64 sz2], .int .i64 1]) (by simp [results, Tryd.results90, go_sem, r0, r1, r2, r3, r4]) rfl ?_
                refine Dm.left_new HR.out H.out.own H.out.below F1.out F2.out F3.out ?_ ?_
                · refine Fr.set (Fr.set (Fr.set (Fr.set (Fr.set ?_ ?_ _) ?_ _) ?_ _) ?_ _) ?_ _
                  · exact (Fr.of_below HB4.out).alloc _
                  all_goals exact fun _ => rfl
                · unfold Dm.chg
                  rw [F1.out, F2.out, F3.out, ← E1.out, ← E2.out, ← E3.out]
                  rw [if_neg Q1.out, if_neg Q2.out, if_neg Q3.out, if_neg (by simp)]
              · have d5 : (hi2 == hi) = false := by rw [beq_eq_false_iff_ne]; exact q5
                have Q5 := Lib.hid q5
                clear q5
                go_wp2_with fail
                refine bodyPost_ret (v := .tuple #[.agg #[.int .i64 off, .slice A2 ws.length c2, .int .i64 lo2, .int .i64 hi2, .int .i64 sz2], .int .i64 2]) (by simp [results, Tryd.results90, go_sem, r0, r1, r2, r3, r4]) rfl ?_
                refine Dm.left_new HR.out H.out.own H.out.below F1.out F2.out F3.out ?_ ?_
                · refine Fr.set (Fr.set (Fr.set (Fr.set (Fr.set ?_ ?_ _) ?_ _) ?_ _) ?_ _) ?_ _
                  · exact (Fr.of_below HB4.out).alloc _
                  all_goals exact fun _ => rfl
                · unfold Dm.chg
                  rw [F1.out, F2.out, F3.out, ← E1.out, ← E2.out, ← E3.out]
                  rw [if_neg Q1.out, if_neg Q2.out, if_neg Q3.out, if_pos (Or.inr Q5.out)]
            · have d4 : (lo2 == lo) = false := by rw [beq_eq_false_iff_ne]; exact q4
              have Q4 := Lib.hid q4
              clear q4
              go_wp2_with fail
              refine bodyPost_ret (v := .tuple #[.agg #[.int .i64 off, .slice A2 ws.length c2, .int .i64 lo2, .int .i64 hi2, .int .i64 sz2], .int .i64 2]) (by simp [results, Tryd.results90, go_sem, r0, r1, r2, r3, r4]) rfl ?_
              refine Dm.left_new HR.out H.out.own H.out.below F1.out F2.out F3.out ?_ ?_
              · refine Fr.set (Fr.set (Fr.set (Fr.set (Fr.set ?_ ?_ _) ?_ _) ?_ _) ?_ _) ?_ _
                · exact (Fr.of_below HB4.out).alloc _
                all_goals exact fun _ => rfl
              · unfold Dm.chg
                rw [F1.out, F2.out, F3.out, ← E1.out, ← E2.out, ← E3.out]
                rw [if_neg Q1.out, if_neg Q2.out, if_neg Q3.out, if_pos (Or.inl Q4.out)]
    · have hjn : j < ws.length := by omega
      obtain ⟨b, o, e, hcell⟩ := Dm.cell_at (show Sl wr _ 1 (.slice A2 cur.length c2) cur.length (Dm.u64s cur) from by rw [H.out.len]; exact H.out.sl) j (by rw [H.out.len]; omega)
      subst e
      have ht := H.out.todo j (Nat.le_refl _)
      rw [ht] at hcell
      have hxl := HX.out.lt (ws.getD j 0) (by rw [List.getD_eq_getElem?_getD, List.getElem?_eq_getElem hjn]; simp)
      have x0 := cell_of H.out.box 0
      have hk2 := HK.out wr H.out.below j hjn
      generalize ex : ws.getD j 0 = x at *
      have EX := Lib.hid ex
      have HK2 := Lib.hid hk2
      clear ex hk2 ht HI
      go_wp2_with fail
      refine HK2.out.mono ?_
      rintro e w3 ⟨k, rfl, hk1, hk3, hb3⟩
      have HB3 := Lib.hid hb3
      have HS3 := Lib.hid (H.out.sl.call hb3)
      have g1 := (bcell hb3).1 _ (o + j) (HS3.out.lt_of H.out.sl)
      rw [hcell] at g1
      have g2 := HS3.out.frozen (o + j)
      have g3 : bits .and .u64 (x : Int) (k : Int) = ((x &&& k : Nat) : Int) := bits_and_u64_nat x k hxl hk1
      have K3 := Lib.hid hk3
      clear hk3 hb3
      go_wp2_with fail
      go_roundg (gk - 1)
      case measure => omega
      case rel => exact ⟨j + 1, cur.set j (x &&& k), by go_num, by omega, H.out.step hjn HB3.out EX.out hxl hk1 K3.out⟩
end Go.Proofs.YtdbjljbkneopcaaDoor
