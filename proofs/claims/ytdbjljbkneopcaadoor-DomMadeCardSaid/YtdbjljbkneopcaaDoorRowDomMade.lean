/- Every call of jigsawlaw02.DomMade returns true, for every list of numbers and every two numbers: no condition. -/
import Derived.Test.YtdbjljbkneopcaaDoorRows
import Derived.Test.YtdbjljbkneopcaaDoorTie
import Derived.Test.YtdbjljbkneopcaaDoorCards
import Derived.Test.YtdbjljbkneopcaaDoorRowWords
import Derived.Test.YtdbjljbkneopcaaDoorRowTab
import Derived.Test.YtdbjljbkneopcaaDoorDomV
import Derived.LaidMore
import Derived.MakeChecks
import Derived.Stop.Joined
import Derived.Carry
import Derived.SevenTiedAt
namespace Go.Proofs.YtdbjljbkneopcaaDoor.domMade
open Go.ChangeShapes Go.WideShapes Go.ChangeAt Go.RowKit
set_option linter.unusedVariables false
set_option linter.unusedSimpArgs false
theorem own : ownKnob Tryd.prog.godebug = none := by kernel_rfl
theorem laidOut : laidOutB Tryd.prog = true := by kernel_rfl
set_option maxRecDepth 100000 in
theorem lifted (os : Os) (started : os.Started) (H : Type) (enc : TypeId × Value → H) :
    ReturnsInHanded {} Tryd.checked os 4 .any (fun w args => (Rows.domMadeSpec.pre enc Tryd.prog Tryd.f4 [] false w args ∧ laidMetH Tryd.prog laidTab w) ∧ sizedMet enc Tryd.prog Tryd.f4 (OpenSpec.ofChange Rows.domMadeSpec) false w args)
      (Rows.domMadeSpec.post enc Tryd.prog Tryd.f4 false true false false) := by
  refine returnsInHanded_of_change_and (C := Tryd.checked) (X := fun w _ => laidMetH Tryd.prog laidTab w) (fun _ _ _ hh h => h.of_heap hh) own started (by kernel_rfl) Tryd.func4
    (ChangeSpec.witness_shaped (enc := enc) (C := Tryd.checked) (os := os) (X := fun w _ => laidMetH Tryd.prog laidTab w) false (World.doorLaid Tryd.prog 400 os) #[.slice none 0 0, .int .i64 0, .int .i64 0] 8 rfl (World.shaped_of_RefB (by kernel_rfl) (by kernel_rfl)) (by kernel_rfl) (by kernel_rfl) (by kernel_rfl) (door_met os _)) ?_
  intro W base args ds gs before hval0 hW _ _ hL _
  have hval : ∀ (j : Nat) t v, Tryd.f4.params[j]? = some t → args[j]? = some v → Value.okWide Tryd.prog W .any base t v := hval0
  have hW' := hW
  obtain ⟨p, q, hA0, hV, rfl, hfz, hnd⟩ := hW
  have hA : DataW.TrodAll enc Tryd.prog W 0 (fun _ => true) true Tryd.f4.params.toList args.toList ds p := hA0
  rw [Tryd.params4] at hA hval
  have hlt := hA.lt
  obtain ⟨v0, vs0, d0, ds0, p0, q0, hargs, rfl, rfl, h0, r0⟩ := trodAll_cons hA
  obtain ⟨v1, vs1, d1, ds1, p1, q1, rfl, rfl, rfl, h1, r1⟩ := trodAll_cons r0
  obtain ⟨v2, vs2, d2, ds2, p2, q2, rfl, rfl, rfl, h2, r2⟩ := trodAll_cons r1
  obtain ⟨rfl, rfl, rfl⟩ := trodAll_nil r2
  obtain rfl : args = #[v0, v1, v2] := by cases args; simp_all
  obtain ⟨rfl, rfl⟩ := trodVars_none hV
  simp only [List.mem_append, List.append_nil] at hlt
  have l0 : ∀ x ∈ p0, x.block < W.heap.size := fun x hx => hlt x (Or.inl hx)
  have l1 : ∀ x ∈ p1, x.block < W.heap.size := fun x hx => hlt x (Or.inr (Or.inl hx))
  have l2 : ∀ x ∈ p2, x.block < W.heap.size := fun x hx => hlt x (Or.inr ((Or.inr hx)))
  have o0 := hval 0 22 v0 rfl rfl
  have o1 := hval 1 3 v1 rfl rfl
  have o2 := hval 2 3 v2 rfl rfl
  have hT := tab_of_laid hL
  clear hA0 hval0
  obtain ⟨x0, hx0, _⟩ := ints_open o0 h0
  obtain ⟨n1, e1, _, _, g1⟩ := open_int Tryd.underlying3 o1 h1
  obtain ⟨n2, e2, _, _, g2⟩ := open_int Tryd.underlying3 o2 h2
  subst e1 e2
  have hcall := law2_made v0 x0 n1 n2 W hx0 (i64_wf g1) (i64_wf g2) hT
  refine hcall.mono fun e W' ⟨he, bel⟩ => ?_
  subst he
  exact ⟨_, rfl, _, _, _, [], _, [], hW', trodAll_mk1 (shut_bool Tryd.underlying4 _), (trodAll_cons_mk (Below.trod laidOut (by kernel_rfl) (of_decide_eq_true (by kernel_rfl)) h0 bel l0) (trodAll_cons_mk (Below.trod laidOut (by kernel_rfl) (of_decide_eq_true (by kernel_rfl)) h1 bel l1) (trodAll_cons_mk (Below.trod laidOut (by kernel_rfl) (of_decide_eq_true (by kernel_rfl)) h2 bel l2) trodAll_mk0))), rfl, bel.frame _, fun h => by cases h⟩
theorem over : Rows.domMadeRow.holds Tryd.pinned (OpenSpec.ofChange Rows.domMadeSpec) :=
  OpenClaim.holds_of_wide 4 Tryd.f4 rfl rfl rfl rfl rfl rfl rfl ⟨rfl, rfl, rfl, rfl, rfl⟩ rfl rfl rfl rfl rfl (by kernel_rfl) Tryd.func4 (by kernel_rfl)
    (of_decide_eq_true (by kernel_rfl)) (by unfold Func.isWrapper; first | (rw [if_pos (by decide +kernel)]; kernel_rfl) | (rw [if_neg (by decide +kernel)]; exact ⟨rfl, rfl⟩))
    (fun os started H enc _ => lifted os started H enc)
theorem card : Rows.DomMadeCardSaid :=
  Claim7.holds_tied_plain_at .later [] [.data] true Rows.domMadeCard.stood.harness false
    over (fun _ h => by cases h) (by kernel_rfl) (fun _ h => by cases h) domMade_row_tie rfl ⟨rfl, rfl⟩ (by kernel_rfl) rfl
    (fun f fn hf hfn => by
      obtain rfl : f = 4 := Option.some.inj ((show Tryd.prog.funcNamed "jigsaw/jigsawlaw02.DomMade" = some 4 by kernel_rfl).symm.trans hf) |>.symm
      obtain rfl : fn = Tryd.f4 := (Option.some.inj (Tryd.func4.symm.trans hfn)).symm
      exact ⟨by kernel_rfl, fun j t ht => by
        rw [Tryd.params4] at ht
        have hm : t ∈ [22, 3, 3] := by simpa using Array.mem_of_getElem? ht
        have hall : ([22, 3, 3].all fun u => !Tryd.prog.wantsStandIn u) = true := by kernel_rfl
        exact (show Tryd.prog.wantsStandIn t = false by simpa using List.all_eq_true.1 hall t hm)⟩)
    (by kernel_rfl)
end Go.Proofs.YtdbjljbkneopcaaDoor.domMade
namespace Go.Proofs.YtdbjljbkneopcaaDoor
/-- The card, under a short name, for the claim. -/
theorem domMade_holds : Rows.DomMadeCardSaid := domMade.card
#print axioms domMade_holds
end Go.Proofs.YtdbjljbkneopcaaDoor
