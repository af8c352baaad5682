/- Rows among which no nogood is all there are there still, of fixed values it is told true just if no nogood is all there, and filtered again nothing changes: whatever the input, the law answers true, and the input reads as it did. -/
import Derived.Test.YtgckohmppefibaaDoorRows
import Derived.Test.YtgckohmppefibaaDoorTie
import Derived.Test.YtgckohmppefibaaDoorCards
import Derived.Test.YtgckohmppefibaaDoorRowWords
import Derived.Test.YtgckohmppefibaaDoorRowTab
import Derived.Test.YtgckohmppefibaaDoorRowU8
import Derived.Test.YtgckohmppefibaaDoorNgKLaw
import Derived.LaidMore
import Derived.MakeChecks
import Derived.Stop.Joined
import Derived.Carry
import Derived.SevenTiedAt
namespace Go.Proofs.YtgckohmppefibaaDoor.nogoodKeeps
open Go.ChangeShapes Go.WideShapes Go.ChangeAt Go.RowKit
set_option linter.unusedVariables false
set_option linter.unusedSimpArgs false
theorem own : ownKnob Tryd.prog.godebug = none := by kernel_rfl
theorem laidOut : laidOutB Tryd.prog = true := by kernel_rfl
set_option maxRecDepth 100000 in
theorem lifted (os : Os) (started : os.Started) (H : Type) (enc : TypeId × Value → H) :
    ReturnsInHanded {} Tryd.checked os 6 .any (fun w args => (Rows.nogoodKeepsSpec.pre enc Tryd.prog Tryd.f6 [] false w args ∧ laidMetH Tryd.prog laidTab w) ∧ sizedMet enc Tryd.prog Tryd.f6 (OpenSpec.ofChange Rows.nogoodKeepsSpec) false w args)
      (Rows.nogoodKeepsSpec.post enc Tryd.prog Tryd.f6 false true false false) := by
  refine returnsInHanded_of_change_and (C := Tryd.checked) (X := fun w _ => laidMetH Tryd.prog laidTab w) (fun _ _ _ hh h => h.of_heap hh) own started (by kernel_rfl) Tryd.func6
    (ChangeSpec.witness_shaped (enc := enc) (C := Tryd.checked) (os := os) (X := fun w _ => laidMetH Tryd.prog laidTab w) false (World.doorLaid Tryd.prog 400 os) #[(.slice none 0 0), (.slice none 0 0), (.slice none 0 0)] 8 rfl (World.shaped_of_RefB (by kernel_rfl) (by kernel_rfl)) (by kernel_rfl) (by kernel_rfl) (by kernel_rfl) (door_met os _)) ?_
  intro W base args ds gs before hval0 hW _ _ hL _
  have hval : ∀ (j : Nat) t v, Tryd.f6.params[j]? = some t → args[j]? = some v → Value.okWide Tryd.prog W .any base t v := hval0
  have hW' := hW
  obtain ⟨p, q, hA0, hV, rfl, hfz, hnd⟩ := hW
  have hA : DataW.TrodAll enc Tryd.prog W 0 (fun _ => true) true Tryd.f6.params.toList args.toList ds p := hA0
  rw [Tryd.params6] at hA hval
  have hlt := hA.lt
  obtain ⟨v0, vs0, d0, ds0, p0, q0, hargs, rfl, rfl, h0, r0⟩ := trodAll_cons hA
  obtain ⟨v1, vs1, d1, ds1, p1, q1, rfl, rfl, rfl, h1, r1⟩ := trodAll_cons r0
  obtain ⟨v2, vs2, d2, ds2, p2, q2, rfl, rfl, rfl, h2, r2⟩ := trodAll_cons r1
  obtain ⟨rfl, rfl, rfl⟩ := trodAll_nil r2
  obtain rfl : args = #[v0, v1, v2] := by cases args; simp_all
  obtain ⟨rfl, rfl⟩ := trodVars_none hV
  simp only [List.mem_append, List.append_nil] at hlt
  have l0 : ∀ x ∈ p0, x.block < W.heap.size := fun x hx => hlt x (Or.inl hx)
  have l1 : ∀ x ∈ p1, x.block < W.heap.size := fun x hx => hlt x (Or.inr (Or.inl hx))
  have l2 : ∀ x ∈ p2, x.block < W.heap.size := fun x hx => hlt x (Or.inr ((Or.inr hx)))
  have o0 := hval 0 41 v0 rfl rfl
  have o1 := hval 1 42 v1 rfl rfl
  have o2 := hval 2 70 v2 rfl rfl
  have hT := tab_of_laid hL
  clear hA0 hval0
  obtain ⟨a0, len0, cap0, rfl⟩ := okWide_slice Tryd.underlying41 o0
  have h0' := h0
  obtain ⟨fuel, hf⟩ := h0'
  obtain ⟨A, c, l, hc, hl, hcm, hC⟩ := raws_open hf
  simp [Value.cells] at hc
  obtain ⟨rfl, rfl, rfl⟩ := hc
  obtain ⟨a1, len1, cap1, rfl⟩ := okWide_slice Tryd.underlying42 o1
  have h1' := h1
  obtain ⟨fuel1, hf1⟩ := h1'
  obtain ⟨A1, c1, m, hc1, hl1, hcm1, hC1, hS1⟩ := i8ss_open hf1
  simp [Value.cells] at hc1
  obtain ⟨rfl, rfl, rfl⟩ := hc1
  obtain ⟨a2, len2, cap2, rfl⟩ := okWide_slice Tryd.underlying70 o2
  have h2' := h2
  obtain ⟨fuel2, hf2⟩ := h2'
  obtain ⟨A2, c2, pk, hc2, hl2, hcm2, hC2, hS2⟩ := u8s_open hf2
  simp [Value.cells] at hc2
  obtain ⟨rfl, rfl, rfl⟩ := hc2
  have hcall := Go.Proofs.YtgckohmppefibaaDoorX.Hz.lawKeeps _ _ l _ _ m _ _ pk W hT hC hl hC1 hl1 hS1 hC2 hl2 hS2
  refine hcall.mono fun e W' ⟨he, bel⟩ => ?_
  subst he
  exact ⟨_, rfl, _, _, _, [], _, [], hW', trodAll_mk1 (shut_bool Tryd.underlying4 _), (trodAll_cons_mk (Below.trod laidOut (by kernel_rfl) (of_decide_eq_true (by kernel_rfl)) h0 bel l0) (trodAll_cons_mk (Below.trod laidOut (by kernel_rfl) (of_decide_eq_true (by kernel_rfl)) h1 bel l1) (trodAll_cons_mk (Below.trod laidOut (by kernel_rfl) (of_decide_eq_true (by kernel_rfl)) h2 bel l2) trodAll_mk0))), rfl, bel.frame _, fun h => by cases h⟩
theorem over : Rows.nogoodKeepsRow.holds Tryd.pinned (OpenSpec.ofChange Rows.nogoodKeepsSpec) :=
  OpenClaim.holds_of_wide 6 Tryd.f6 rfl rfl rfl rfl rfl rfl rfl ⟨rfl, rfl, rfl, rfl, rfl⟩ rfl rfl rfl rfl rfl (by kernel_rfl) Tryd.func6 (by kernel_rfl)
    (of_decide_eq_true (by kernel_rfl)) (by unfold Func.isWrapper; first | (rw [if_pos (by decide +kernel)]; kernel_rfl) | (rw [if_neg (by decide +kernel)]; exact ⟨rfl, rfl⟩))
    (fun os started H enc _ => lifted os started H enc)
theorem card : Rows.NogoodKeepsCardSaid :=
  Claim7.holds_tied_plain_at .later [] [.data] true Rows.nogoodKeepsCard.stood.harness false
    over (fun _ h => by cases h) (by kernel_rfl) (fun _ h => by cases h) nogoodKeeps_row_tie rfl ⟨rfl, rfl⟩ (by kernel_rfl) rfl
    (fun f fn hf hfn => by
      obtain rfl : f = 6 := Option.some.inj ((show Tryd.prog.funcNamed "jigsaw/jigsawlaw24.NogoodKeeps" = some 6 by kernel_rfl).symm.trans hf) |>.symm
      obtain rfl : fn = Tryd.f6 := (Option.some.inj (Tryd.func6.symm.trans hfn)).symm
      exact ⟨by kernel_rfl, fun j t ht => by
        rw [Tryd.params6] at ht
        have hm : t ∈ [41, 42, 70] := by simpa using Array.mem_of_getElem? ht
        have hall : ([41, 42, 70].all fun u => !Tryd.prog.wantsStandIn u) = true := by kernel_rfl
        exact (show Tryd.prog.wantsStandIn t = false by simpa using List.all_eq_true.1 hall t hm)⟩)
    (by kernel_rfl)
end Go.Proofs.YtgckohmppefibaaDoor.nogoodKeeps
namespace Go.Proofs.YtgckohmppefibaaDoor
/-- The card, under a short name, for the claim. -/
theorem nogoodKeeps_holds : Rows.NogoodKeepsCardSaid := nogoodKeeps.card
#print axioms nogoodKeeps_holds
end Go.Proofs.YtgckohmppefibaaDoor
