import Derived.Test.YtdbjljbkneopcaaDoorRowTab
import Derived.Test.YtdbjljbkneopcaaDoorStoreI
import Derived.Lib.SmallJoins
import Derived.Deep.Slices
import Derived.Deep.Strs
import Derived.Test.YtdbjljbkneopcaaDoorStoreQ
import Derived.Test.YtdbjljbkneopcaaDoorRows
import Derived.Test.YtdbjljbkneopcaaDoorTie
import Derived.Test.YtdbjljbkneopcaaDoorCards
import Derived.Test.YtdbjljbkneopcaaDoorRowWords
import Derived.Test.YtdbjljbkneopcaaDoorStoreV
import Derived.LaidMore
import Derived.MakeChecks
import Derived.Stop.Joined
import Derived.Carry
import Derived.SevenTiedAt
/- A slice of slices of numbers that came in, opened. -/
namespace Go.Proofs.YtdbjljbkneopcaaDoor
open Go.ChangeShapes Go.WideShapes Go.ChangeAt Go.RowKit
set_option linter.unusedSimpArgs false
set_option linter.unusedVariables false
theorem intsCells : Tryd.prog.cellsOf 22 = 1 := by kernel_rfl
theorem Rd.own_lt {w : World} {b o c : Nat} {l : List Int} (h : Rd w (.slice (some ⟨b, o, none⟩) l.length c) l) (hl : 0 < l.length) : b < w.heap.size := h.blk hl
set_option maxRecDepth 100000 in
theorem rows_open {H : Type} {enc : TypeId × Value → H} {w : World} {r : Reach} {b0 : Nat} {v : Value} {d : DataW H} {p : List MemPlace}
    (hv : Value.okWide Tryd.prog w r b0 39 v) (h : DataW.Trod enc Tryd.prog w 0 (fun _ => true) true 39 v d p) :
    ∃ L : List (List Int), Rr (fun _ => True) w v L := by
  obtain ⟨a0, len0, cap0, rfl⟩ := okWide_slice Tryd.underlying39 hv
  obtain ⟨fuel, hf⟩ := h
  rcases Go.Deep.open_slice Tryd.underlying39 hf with ⟨hc, _⟩ | ⟨a, len, cap, m, n, Df, Pl, hc, _, hl, hm, hmm, _, hx⟩
  · simp [Value.cells] at hc
    obtain ⟨rfl, rfl, rfl⟩ := hc
    exact ⟨[], ⟨⟨none, 0, rfl⟩, Nat.zero_le _, fun A n c e => (by cases e; exact ⟨Nat.le_refl _, fun _ => ⟨rfl, rfl⟩⟩), fun h => (by cases h)⟩⟩
  · simp [Value.cells] at hc
    obtain ⟨rfl, rfl, rfl⟩ := hc
    have hmc : m = cap0 := by simpa using hmm
    subst hmc
    have each : ∀ i, i < len0 → ∃ q : Value × List Int, w.cell? (a.add i) = some q.1 ∧ Rd w q.1 q.2 := by
      intro i hi
      obtain ⟨cs', h1, h2⟩ := hx i (by omega)
      rw [intsCells] at h1
      obtain ⟨_, hlen, hcell⟩ := World.cells?_some h1
      match cs', hlen with
      | [u0], _ =>
        obtain ⟨l, hr, _⟩ := ints_trod h2
        have g0 := hcell 0 (by omega)
        rw [Go.Deep.add_add] at g0
        exact ⟨(u0, l), by simpa using g0, hr⟩
    obtain ⟨q, hq⟩ := Go.Deep.choose_lt each
    have hln : ((List.range len0).map fun i => (q i).2).length = len0 := by simp
    refine ⟨(List.range len0).map fun i => (q i).2, ⟨⟨some a, m, by rw [hln]⟩, by rw [hln]; unfold maxLen at hm; omega, fun A n c e => (by cases e; exact ⟨hl, fun e => by cases e⟩), fun h0 => ?_⟩⟩
    rw [hln] at h0 ⊢
    obtain ⟨b, o, sp⟩ := a
    have hsp : sp = none := by
      cases sp with
      | none => rfl
      | some x =>
        exfalso
        have h0 := (hq 0 h0).1
        simp only [World.cell?, Addr.add] at h0
        simp at h0
        split at h0 <;> cases h0
    subst hsp
    have hb : b < w.heap.size := by
      have := (hq 0 h0).1
      rw [addr_add'] at this
      simp only [World.cell?] at this
      split at this
      · rename_i e; exact heap_lt e
      · cases this
    refine ⟨b, o, m, rfl, hb, trivial, fun j hj => ⟨(q j).1, ?_, ?_, fun _ _ => trivial⟩⟩
    · have := (hq j hj).1
      rwa [addr_add'] at this
    · have e : ((List.range len0).map fun i => (q i).2).getD j [] = (q j).2 := by
        rw [List.getD_eq_getElem?_getD, List.getElem?_map, List.getElem?_range hj]
        rfl
      rw [e]
      exact (hq j hj).2
end Go.Proofs.YtdbjljbkneopcaaDoor
/- A slice of the acts of chapter 03 that came in, opened. -/
namespace Go.Proofs.YtdbjljbkneopcaaDoor
open Go.ChangeShapes Go.WideShapes Go.ChangeAt Go.RowKit
set_option linter.unusedSimpArgs false
set_option linter.unusedVariables false
theorem act3Cells : Tryd.prog.cellsOf 55 = 4 := by kernel_rfl
set_option maxRecDepth 100000 in
theorem acts3_open {H : Type} {enc : TypeId × Value → H} {w : World} {r : Reach} {b0 : Nat} {v : Value} {d : DataW H} {p : List MemPlace}
    (hv : Value.okWide Tryd.prog w r b0 48 v) (h : DataW.Trod enc Tryd.prog w 0 (fun _ => true) true 48 v d p) :
    ∃ (A : Option Addr) (len cap : Nat) (D V N : Nat → Int) (SL : Nat → Value) (LL : Nat → List Int), v = .slice A len cap ∧ len ≤ cap ∧ cap ≤ 9223372036854775807 ∧ Su.Acts w A len D V N SL LL := by
  obtain ⟨a0, len0, cap0, rfl⟩ := okWide_slice Tryd.underlying48 hv
  obtain ⟨fuel, hf⟩ := h
  rcases Go.Deep.open_slice Tryd.underlying48 hf with ⟨hc, _⟩ | ⟨a, len, cap, m, n, Df, Pl, hc, _, hl, hm, hmm, _, hx⟩
  · simp [Value.cells] at hc
    obtain ⟨rfl, rfl, rfl⟩ := hc
    exact ⟨none, 0, 0, fun _ => 0, fun _ => 0, fun _ => 0, fun _ => .slice none 0 0, fun _ => [], rfl, Nat.le_refl _, Nat.zero_le _, ⟨fun i hi => by omega⟩⟩
  · simp [Value.cells] at hc
    obtain ⟨rfl, rfl, rfl⟩ := hc
    have hmc : m = cap0 := by simpa using hmm
    subst hmc
    have each : ∀ i, i < len0 → ∃ q : Int × Int × Int × Value × List Int, (w.cell? (a.add (i * 4)) = some (.int .u8 q.1) ∧ w.cell? (a.add (i * 4 + 1)) = some (.int .i64 q.2.1) ∧ w.cell? (a.add (i * 4 + 2)) = some (.int .i64 q.2.2.1) ∧ w.cell? (a.add (i * 4 + 3)) = some q.2.2.2.1) ∧
        (0 ≤ q.1 ∧ q.1 ≤ 255) ∧ (-9223372036854775808 ≤ q.2.1 ∧ q.2.1 ≤ 9223372036854775807) ∧ (-9223372036854775808 ≤ q.2.2.1 ∧ q.2.2.1 ≤ 9223372036854775807) ∧ Rd w q.2.2.2.1 q.2.2.2.2 := by
      intro i hi
      obtain ⟨cs', h1, h2⟩ := hx i (by omega)
      rw [act3Cells] at h1
      obtain ⟨_, hlen, hcell⟩ := World.cells?_some h1
      obtain ⟨y0, y1, y2, y3, k, _, _, t0, t1, t2, t3⟩ := Go.Joins.trod_struct4 Tryd.underlying55 h2
      match cs', hlen with
      | [u0, u1, u2, u3], _ =>
        have k1 : Tryd.prog.cellsOf 5 = 1 := by kernel_rfl
        have k2 : Tryd.prog.cellsOf 3 = 1 := by kernel_rfl
        have k3 : Tryd.prog.cellsOf 22 = 1 := by kernel_rfl
        obtain ⟨x0, e0, _, w0⟩ := DataW.trod_int (k := .u8) Tryd.underlying5 t0
        obtain ⟨x1, e1, _, w1⟩ := DataW.trod_int (k := .i64) Tryd.underlying3 t1
        obtain ⟨x2, e2, _, w2⟩ := DataW.trod_int (k := .i64) Tryd.underlying3 t2
        simp [k1, k2, k3] at e0 e1 e2 t3
        subst e0 e1 e2
        obtain ⟨l, hr, _⟩ := ints_trod t3
        have g0 := hcell 0 (by omega)
        have g1 := hcell 1 (by omega)
        have g2 := hcell 2 (by omega)
        have g3 := hcell 3 (by omega)
        rw [Go.Deep.add_add] at g0 g1 g2 g3
        exact ⟨(x0, x1, x2, u3, l), ⟨by simpa using g0, by simpa using g1, by simpa using g2, by simpa using g3⟩, u8_wf w0, i64_wf w1, i64_wf w2, hr⟩
    obtain ⟨q, hq⟩ := Go.Deep.choose_lt each
    refine ⟨some a, len0, m, fun i => (q i).1, fun i => (q i).2.1, fun i => (q i).2.2.1, fun i => (q i).2.2.2.1, fun i => (q i).2.2.2.2, rfl, hl, by unfold maxLen at hm; omega, ⟨?_⟩⟩
    intro i hi
    have hi4 := (hq i hi).1
    obtain ⟨b, o, sp⟩ := a
    have hsp : sp = none := by
      cases sp with
      | none => rfl
      | some x =>
        exfalso
        have h0 := (hq 0 (by omega)).1.1
        simp only [Nat.zero_mul, World.cell?, Addr.add] at h0
        simp at h0
        split at h0 <;> cases h0
    subst hsp
    rw [addr_add', addr_add', addr_add', addr_add'] at hi4
    have hb : b < w.heap.size := by
      have := hi4.1
      simp only [World.cell?] at this
      split at this
      · rename_i e; exact heap_lt e
      · cases this
    exact ⟨b, o, rfl, hb, hi4.1, by rw [Nat.add_assoc]; exact hi4.2.1, by rw [Nat.add_assoc]; exact hi4.2.2.1, by rw [Nat.add_assoc]; exact hi4.2.2.2, (hq i hi).2.1, (hq i hi).2.2.1, (hq i hi).2.2.2.1, (hq i hi).2.2.2.2⟩
end Go.Proofs.YtdbjljbkneopcaaDoor
/- Whatever is done to a store at higher levels, gone back all its domains are as they were, and domains only get less from level to level: the law StoreBack tells true at every input. -/
namespace Go.Proofs.YtdbjljbkneopcaaDoor.storeBack
open Go.ChangeShapes Go.WideShapes Go.ChangeAt Go.RowKit
set_option linter.unusedVariables false
set_option linter.unusedSimpArgs false
theorem own : ownKnob Tryd.prog.godebug = none := by kernel_rfl
theorem laidOut : laidOutB Tryd.prog = true := by kernel_rfl
set_option maxRecDepth 100000 in
theorem lifted (os : Os) (started : os.Started) (H : Type) (enc : TypeId × Value → H) :
    ReturnsInHanded {} Tryd.checked os 5 .any (fun w args => (Rows.storeBackSpec.pre enc Tryd.prog Tryd.f5 [] false w args ∧ laidMetH Tryd.prog laidTab w) ∧ sizedMet enc Tryd.prog Tryd.f5 (OpenSpec.ofChange Rows.storeBackSpec) false w args)
      (Rows.storeBackSpec.post enc Tryd.prog Tryd.f5 false true false false) := by
  refine returnsInHanded_of_change_and (C := Tryd.checked) (X := fun w _ => laidMetH Tryd.prog laidTab w) (fun _ _ _ hh h => h.of_heap hh) own started (by kernel_rfl) Tryd.func5
    (ChangeSpec.witness_shaped (enc := enc) (C := Tryd.checked) (os := os) (X := fun w _ => laidMetH Tryd.prog laidTab w) false (World.doorLaid Tryd.prog 400 os) #[.slice none 0 0, .slice none 0 0, .slice none 0 0] 8 rfl (World.shaped_of_RefB (by kernel_rfl) (by kernel_rfl)) (by kernel_rfl) (by kernel_rfl) (by kernel_rfl) (door_met os _)) ?_
  intro W base args ds gs before hval0 hW _ _ hL _
  have hval : ∀ (j : Nat) t v, Tryd.f5.params[j]? = some t → args[j]? = some v → Value.okWide Tryd.prog W .any base t v := hval0
  have hW' := hW
  obtain ⟨p, q, hA0, hV, rfl, hfz, hnd⟩ := hW
  have hA : DataW.TrodAll enc Tryd.prog W 0 (fun _ => true) true Tryd.f5.params.toList args.toList ds p := hA0
  rw [Tryd.params5] at hA hval
  have hlt := hA.lt
  obtain ⟨v0, vs0, d0, ds0, p0, q0, hargs, rfl, rfl, h0, r0⟩ := trodAll_cons hA
  obtain ⟨v1, vs1, d1, ds1, p1, q1, rfl, rfl, rfl, h1, r1⟩ := trodAll_cons r0
  obtain ⟨v2, vs2, d2, ds2, p2, q2, rfl, rfl, rfl, h2, r2⟩ := trodAll_cons r1
  obtain ⟨rfl, rfl, rfl⟩ := trodAll_nil r2
  obtain rfl : args = #[v0, v1, v2] := by cases args; simp_all
  obtain ⟨rfl, rfl⟩ := trodVars_none hV
  simp only [List.mem_append, List.append_nil] at hlt
  have l0 : ∀ x ∈ p0, x.block < W.heap.size := fun x hx => hlt x (Or.inl hx)
  have l1 : ∀ x ∈ p1, x.block < W.heap.size := fun x hx => hlt x (Or.inr (Or.inl hx))
  have l2 : ∀ x ∈ p2, x.block < W.heap.size := fun x hx => hlt x (Or.inr ((Or.inr hx)))
  have o0 := hval 0 39 v0 rfl rfl
  have o1 := hval 1 48 v1 rfl rfl
  have o2 := hval 2 48 v2 rfl rfl
  have hT := tab_of_laid hL
  clear hA0 hval0
  obtain ⟨L, hr⟩ := rows_open o0 h0
  obtain ⟨A, len, cap, D, V, NN, SL, LL, e1, hl, hc, ha⟩ := acts3_open o1 h1
  subst e1
  obtain ⟨A2, len2, cap2, D2, V2, NN2, SL2, LL2, e2, hl2, hc2, ha2⟩ := acts3_open o2 h2
  subst e2
  have hcall := law3_back _ v0 L A len cap D V NN SL LL A2 len2 cap2 D2 V2 NN2 SL2 LL2 W hr hl hc ha hl2 hc2 ha2 hT
  refine hcall.mono fun e W' ⟨he, bel⟩ => ?_
  subst he
  exact ⟨_, rfl, _, _, _, [], _, [], hW', trodAll_mk1 (shut_bool Tryd.underlying4 _), (trodAll_cons_mk (Below.trod laidOut (by kernel_rfl) (of_decide_eq_true (by kernel_rfl)) h0 bel l0) (trodAll_cons_mk (Below.trod laidOut (by kernel_rfl) (of_decide_eq_true (by kernel_rfl)) h1 bel l1) (trodAll_cons_mk (Below.trod laidOut (by kernel_rfl) (of_decide_eq_true (by kernel_rfl)) h2 bel l2) trodAll_mk0))), rfl, bel.frame _, fun h => by cases h⟩
theorem over : Rows.storeBackRow.holds Tryd.pinned (OpenSpec.ofChange Rows.storeBackSpec) :=
  OpenClaim.holds_of_wide 5 Tryd.f5 rfl rfl rfl rfl rfl rfl rfl ⟨rfl, rfl, rfl, rfl, rfl⟩ rfl rfl rfl rfl rfl (by kernel_rfl) Tryd.func5 (by kernel_rfl)
    (of_decide_eq_true (by kernel_rfl)) (by unfold Func.isWrapper; first | (rw [if_pos (by decide +kernel)]; kernel_rfl) | (rw [if_neg (by decide +kernel)]; exact ⟨rfl, rfl⟩))
    (fun os started H enc _ => lifted os started H enc)
theorem card : Rows.StoreBackCardSaid :=
  Claim7.holds_tied_plain_at .later [] [.data] true Rows.storeBackCard.stood.harness false
    over (fun _ h => by cases h) (by kernel_rfl) (fun _ h => by cases h) storeBack_row_tie rfl ⟨rfl, rfl⟩ (by kernel_rfl) rfl
    (fun f fn hf hfn => by
      obtain rfl : f = 5 := Option.some.inj ((show Tryd.prog.funcNamed "jigsaw/jigsawlaw03.StoreBack" = some 5 by kernel_rfl).symm.trans hf) |>.symm
      obtain rfl : fn = Tryd.f5 := (Option.some.inj (Tryd.func5.symm.trans hfn)).symm
      exact ⟨by kernel_rfl, fun j t ht => by
        rw [Tryd.params5] at ht
        have hm : t ∈ [39, 48, 48] := by simpa using Array.mem_of_getElem? ht
        have hall : ([39, 48, 48].all fun u => !Tryd.prog.wantsStandIn u) = true := by kernel_rfl
        exact (show Tryd.prog.wantsStandIn t = false by simpa using List.all_eq_true.1 hall t hm)⟩)
    (by kernel_rfl)
end Go.Proofs.YtdbjljbkneopcaaDoor.storeBack
namespace Go.Proofs.YtdbjljbkneopcaaDoor
/-- The card, under a short name, for the claim. -/
theorem storeBack_holds : Rows.StoreBackCardSaid := storeBack.card
#print axioms storeBack_holds
end Go.Proofs.YtdbjljbkneopcaaDoor
