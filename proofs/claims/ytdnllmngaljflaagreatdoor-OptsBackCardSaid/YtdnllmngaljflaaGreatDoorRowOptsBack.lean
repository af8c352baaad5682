/- What is printed is parsed again to the same options, and what is parsed may be, is printed and parsed again: the law OptsBack tells true at every input. -/
import Derived.Test.YtdnllmngaljflaaGreatDoorRows
import Derived.Test.YtdnllmngaljflaaGreatDoorTie
import Derived.Test.YtdnllmngaljflaaGreatDoorCards
import Derived.Test.YtdnllmngaljflaaGreatDoorRowWords
import Derived.Test.YtdnllmngaljflaaGreatDoorRowTabO
import Derived.Test.YtdnllmngaljflaaGreatDoorOpBack
import Derived.Test.YtdnllmngaljflaaGreatDoorRowEnvO
import Derived.LaidMore
import Derived.MakeChecks
import Derived.Stop.Joined
import Derived.Carry
import Derived.SevenTiedAt
import Derived.ProofKit
import Derived.OpenShut
import Derived.ShutString
import Derived.SizedLaws
namespace Go.Proofs.YtdnllmngaljflaaGreatDoor.optsBack
open Go.ChangeShapes Go.WideShapes Go.ChangeAt Go.RowKit
set_option linter.unusedVariables false
set_option linter.unusedSimpArgs false
theorem own : ownKnob Tryz.prog.godebug = none := by kernel_rfl
theorem laidOut : laidOutB Tryz.prog = true := by kernel_rfl
set_option maxRecDepth 100000 in
theorem lifted (os : Os) (started : os.Started) (H : Type) (enc : TypeId × Value → H) :
    ReturnsInHanded {} Tryz.checked os 5 .any (fun w args => (Rows.optsBackSpec.pre enc Tryz.prog Tryz.f5 [] false w args ∧ laidMetH Tryz.prog laidTab w) ∧ sizedMet enc Tryz.prog Tryz.f5 (OpenSpec.ofChange Rows.optsBackSpec) false w args)
      (Rows.optsBackSpec.post enc Tryz.prog Tryz.f5 false true false false) := by
  refine returnsInHanded_of_change_and_shaped (C := Tryz.checked) (X := fun w _ => laidMetH Tryz.prog laidTab w) (fun _ _ _ hh h => h.of_heap hh) own started (by kernel_rfl) Tryz.func5
    (ChangeSpec.witness_shaped (enc := enc) (C := Tryz.checked) (os := os) (X := fun w _ => laidMetH Tryz.prog laidTab w) false (startP os) #[.agg #[.int .i64 0, .bool false, .bool false, .bool false, .bool false, .int .i64 0, .int .i64 0, .int .i64 0, .int .i64 0, .int .i64 0], .string ByteArray.empty] 8 (World.layVars_os _ _ _) (World.shaped_of_RefB (by kernel_rfl) (by kernel_rfl)) (by kernel_rfl) (by kernel_rfl) (by kernel_rfl) (door_met os _)) ?_
  intro W base args ds gs before hval0 hW _ hsz0 hL hsh
  have hsz : (DataW.weightsEach Tryz.prog (Tryz.f5.params.toList ++ Rows.optsBackSpec.plain.varTypes Tryz.prog) (ds ++ gs)).all (· ≤ reachBytes) = true := hsz0
  rw [Tryz.params5] at hsz
  have hval : ∀ (j : Nat) t v, Tryz.f5.params[j]? = some t → args[j]? = some v → Value.okWide Tryz.prog W .any base t v := hval0
  have hW' := hW
  obtain ⟨p, q, hA0, hV, rfl, hfz, hnd⟩ := hW
  have hA : DataW.TrodAll enc Tryz.prog W 0 (fun _ => true) true Tryz.f5.params.toList args.toList ds p := hA0
  rw [Tryz.params5] at hA hval
  have hlt := hA.lt
  obtain ⟨v0, vs0, d0, ds0, p0, q0, hargs, rfl, rfl, h0, r0⟩ := trodAll_cons hA
  obtain ⟨v1, vs1, d1, ds1, p1, q1, rfl, rfl, rfl, h1, r1⟩ := trodAll_cons r0
  obtain ⟨rfl, rfl, rfl⟩ := trodAll_nil r1
  obtain rfl : args = #[v0, v1] := by cases args; simp_all
  obtain ⟨rfl, rfl⟩ := trodVars_none hV
  simp only [List.mem_append, List.append_nil] at hlt
  have l0 : ∀ x ∈ p0, x.block < W.heap.size := fun x hx => hlt x (Or.inl hx)
  have l1 : ∀ x ∈ p1, x.block < W.heap.size := fun x hx => hlt x (Or.inr hx)
  have o0 := hval 0 34 v0 rfl rfl
  have o1 := hval 1 9 v1 rfl rfl
  clear hA0 hval0 hsz0
  obtain ⟨a0, rfl⟩ := Go.Proofs.YtdnllmngaljflaaGreatDoorX.Ho.open_opts o0 h0
  obtain ⟨a1, rfl, rfl, rfl, y0⟩ := Go.ChangeMaps.open_string Tryz.underlying9 o1 h1
  clear hsz
  have hcall := Go.Proofs.YtdnllmngaljflaaGreatDoorX.Ho.lawBack a0 a1 W (Go.Proofs.YtdnllmngaljflaaGreatDoorX.Ho.env_of hsh hL)
  refine hcall.mono fun e W' ⟨he, bel⟩ => ?_
  subst he
  exact ⟨_, rfl, _, _, _, [], _, [], hW', trodAll_mk1 (shut_bool Tryz.underlying4 _), (trodAll_cons_mk (Below.trod laidOut (by kernel_rfl) (of_decide_eq_true (by kernel_rfl)) h0 bel l0) (trodAll_cons_mk (Below.trod laidOut (by kernel_rfl) (of_decide_eq_true (by kernel_rfl)) h1 bel l1) trodAll_mk0)), rfl, bel.frame _, fun h => by cases h⟩
theorem over : Rows.optsBackRow.holds Tryz.pinned (OpenSpec.ofChange Rows.optsBackSpec) :=
  OpenClaim.holds_of_wide 5 Tryz.f5 rfl rfl rfl rfl rfl rfl rfl ⟨rfl, rfl, rfl, rfl, rfl⟩ rfl rfl rfl rfl rfl (by kernel_rfl) Tryz.func5 (by kernel_rfl)
    (of_decide_eq_true (by kernel_rfl)) (by unfold Func.isWrapper; first | (rw [if_pos (by decide +kernel)]; kernel_rfl) | (rw [if_neg (by decide +kernel)]; exact ⟨rfl, rfl⟩))
    (fun os started H enc _ => lifted os started H enc)
theorem card : Rows.OptsBackCardSaid :=
  Claim7.holds_tied_plain_at .later [] [.data, .data, .data, .data, .sentinel, .sentinel, .pinned] true Rows.optsBackCard.stood.harness true
    over (fun _ h => by cases h) (by kernel_rfl) (fun _ h => by cases h) optsBack_row_tie rfl ⟨rfl, rfl⟩ (by kernel_rfl) rfl
    (fun f fn hf hfn => by
      obtain rfl : f = 5 := Option.some.inj ((show Tryz.prog.funcNamed "jigsaw/jigsawlaw29.OptsBack" = some 5 by kernel_rfl).symm.trans hf) |>.symm
      obtain rfl : fn = Tryz.f5 := (Option.some.inj (Tryz.func5.symm.trans hfn)).symm
      exact ⟨by kernel_rfl, fun j t ht => by
        rw [Tryz.params5] at ht
        have hm : t ∈ [34, 9] := by simpa using Array.mem_of_getElem? ht
        have hall : ([34, 9].all fun u => !Tryz.prog.wantsStandIn u) = true := by kernel_rfl
        exact (show Tryz.prog.wantsStandIn t = false by simpa using List.all_eq_true.1 hall t hm)⟩)
    (by kernel_rfl)
end Go.Proofs.YtdnllmngaljflaaGreatDoor.optsBack
namespace Go.Proofs.YtdnllmngaljflaaGreatDoor
/-- The card, under a short name, for the claim. -/
theorem optsBack_holds : Rows.OptsBackCardSaid := optsBack.card
#print axioms optsBack_holds
end Go.Proofs.YtdnllmngaljflaaGreatDoor
