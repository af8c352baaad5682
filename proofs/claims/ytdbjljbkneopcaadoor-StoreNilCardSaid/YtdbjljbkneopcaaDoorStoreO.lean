/- StoreNil walked. -/
import Derived.Test.YtdbjljbkneopcaaDoorStoreN
namespace Go.Proofs.YtdbjljbkneopcaaDoor
open Go.RowKit
set_option linter.unusedSimpArgs false
set_option linter.unusedVariables false

theorem Su.Mem.keep {F : Nat → Prop} {w w' : World} {S : Nat} {p : Su.Parts} {m : Su.M} (h : Su.Mem w S p m) (hf : Fr F w w') (h1 : ∀ k, F k → ¬ p.fp S k) (h2 : ∀ k, F k → ∃ T, Ty w k T ∧ T ≠ 140) : Su.Mem w' S p m := by
  have K : ∀ b, Ty w b 140 → ¬ F b := fun b hb hk => by obtain ⟨T, h3, h4⟩ := h2 b hk; exact hb.ne h3 (fun e => h4 e.symm) rfl
  refine ⟨hf.heap h.box (fun hk => h1 _ hk (Or.inl rfl)), h.doms.keep hf (fun b hb hk => h1 b hk (Or.inr (Or.inl hb))) K, h.stamps.kept hf (fun b hb hk => h1 b hk (Or.inr (Or.inr (Or.inl hb)))), h.trail.kept hf (fun b hb hk => h1 b hk (Or.inr (Or.inr (Or.inr (Or.inl hb))))), h.tlen, fun i hi => (h.trep i hi).keep hf (fun b hb => K b ((h.trep i hi).typed hb)), h.tat, h.marks.kept hf (fun b hb hk => h1 b hk (Or.inr (Or.inr (Or.inr (Or.inr (Or.inl hb)))))), h.events.kept hf (fun b hb hk => h1 b hk (Or.inr (Or.inr (Or.inr (Or.inr (Or.inr hb)))))), h.apart⟩
set_option maxHeartbeats 4000000 in
set_option maxRecDepth 100000 in
theorem law3_nil (P : Nat → Prop) (sv : Value) (L : List (List Int)) (i : Int) (w : World) (h : Rr P w sv L) (hT : Tab w) : Calls Tryd.prog 9 #[sv, .int .i64 i] w (Rf.Says true w) := by
  have HT := Lib.hid hT
  have CL := Lib.hid (fun w' (hb : Below w.heap.size w w') => law3_lists P sv L w' (h.call hb) (hT.call hb))
  have CF := Lib.hid (fun w => store_fixed (.pointer none) i [] w (store_get_nil i w))
  have hlen : Hid ((Rf.smalls L).length ≤ 1000000) := Lib.hid (by unfold Rf.smalls; rw [List.length_map, List.length_take]; omega)
  generalize Rf.smalls L = M at *
  clear h hT
  go_enter Tryd.func9, Tryd.ntmps9
  go_wp2_with fail
  refine (store_push_nil _).mono ?_
  rintro e w2 ⟨rfl, rfl⟩
  go_wp2_with fail
  refine (CF.out _).mono ?_
  rintro e w2 ⟨rfl, hb⟩
  have B2 := Lib.hid hb
  clear hb
  go_wp2_with fail
  refine (store_failed_nil _).mono ?_
  rintro e w3 ⟨rfl, hb⟩
  have B3 := Lib.hid (below_call B2.out hb)
  clear hb B2
  go_wp2_with fail
  refine (CL.out _ B3.out).mono ?_
  rintro e w4 ⟨sa, sb, vs, rfl, hdl, hnil, hown, hrr, hb⟩
  have B4 := Lib.hid (below_call B3.out hb)
  have HDL := Lib.hid hdl
  have HRR := Lib.hid hrr
  have HOWN : Hid (∀ b, sa.ownBlock = some b → w.heap.size ≤ b) := Lib.hid fun b hb => Nat.le_trans B3.out.size (hown b hb)
  obtain ⟨A, c, rfl⟩ := hdl.sl.len
  have CN := Lib.hid (own_new _ vs M w4 hdl hlen.out hnil)
  clear hdl hnil hown hrr hb B3
  go_wp2_with fail
  refine CN.out.mono ?_
  rintro e w5 ⟨S, p, rfl, ho⟩
  have HO := Lib.hid ho
  have B5 := Lib.hid (below_call B4.out ho.below)
  have HDL5 := Lib.hid (HDL.out.sl.call ho.below)
  have HRR5 := Lib.hid (HRR.out.call ho.below)
  have HFP : Hid (∀ k, (Value.slice A vs.length c).ownBlock = some k → ¬ p.fp S k) := Lib.hid fun k hk hf => by have h1 := ho.fp k hf; have h2 := HDL.out.sl.lt hk; omega
  clear ho CN
  have hvl : vs.length ≤ 1000000 := by rw [HDL.out.len]; exact hlen.out
  obtain ⟨n, hnn⟩ : ∃ n, n = vs.length := ⟨_, rfl⟩
  have HNN := Lib.hid hnn
  rw [← hnn] at HDL5 HFP HOWN hvl HRR5 ⊢
  clear hnn
  go_wp2_with fail
  go_loopg [36] n (fun k s36 wr => ∃ (j : Nat) (xs : List Value), s36 = .int .i64 j ∧ k + j = n ∧ Hid (Sl wr 25 5 (.slice A n c) n xs) ∧ Hid (Fr (fun k => (Value.slice A n c).ownBlock = some k) w5 wr))
  case atStart => exact ⟨0, _, rfl, by omega, HDL5, Lib.hid (Fr.refl _ _)⟩
  case round =>
    obtain ⟨j, xs, rfl, hj, hs, hf⟩ := hrel
    rcases Nat.lt_or_ge j n with hk | hk
    · obtain ⟨b, o, c', cs, e, hc, h1, h2, h3, h4⟩ := hs.out.form (by omega)
      cases e
      have hcl : ∀ q, q < 5 → ∃ v, wr.cell? ⟨b, o + j * 5 + q, none⟩ = some v := fun q hq => by
        rw [cell_of hc]
        have : o + j * 5 + q < cs.size := by have : j * 5 + 5 ≤ n * 5 := by omega
                                             have : n * 5 ≤ c * 5 := Nat.mul_le_mul_right 5 h1
                                             omega
        exact ⟨_, Array.getElem?_eq_getElem this⟩
      obtain ⟨v0, c0⟩ := hcl 0 (by decide)
      obtain ⟨v1, c1⟩ := hcl 1 (by decide)
      obtain ⟨v2, c2⟩ := hcl 2 (by decide)
      obtain ⟨v3, c3⟩ := hcl 3 (by decide)
      obtain ⟨v4, c4⟩ := hcl 4 (by decide)
      rw [Nat.add_zero] at c0
      have fz : ∀ q, wr.frozen? ⟨b, q, none⟩ = false := fun q => frozen_of hc q
      have S5 := Lib.hid ((((((hs.out.setk (j * 5 + 0) (by omega) (.int .i64 0)).setk (j * 5 + 1) (by omega) (.slice none 0 0)).setk (j * 5 + 2) (by omega) (.int .i64 0)).setk (j * 5 + 3) (by omega) (.int .i64 0)).setk (j * 5 + 4) (by omega) (.int .i64 0)))
      have F5 : Hid (Fr (fun k => (Value.slice (some ⟨b, o, none⟩) n c).ownBlock = some k) w5 (((((wr.setCell ⟨b, o + (j * 5 + 0), none⟩ (.int .i64 0)).setCell ⟨b, o + (j * 5 + 1), none⟩ (.slice none 0 0)).setCell ⟨b, o + (j * 5 + 2), none⟩ (.int .i64 0)).setCell ⟨b, o + (j * 5 + 3), none⟩ (.int .i64 0)).setCell ⟨b, o + (j * 5 + 4), none⟩ (.int .i64 0))) :=
        by
          refine Lib.hid (Fr.set (Fr.set (Fr.set (Fr.set (Fr.set hf.out ?_ _) ?_ _) ?_ _) ?_ _) ?_ _)
          all_goals exact fun _ => rfl
      simp only [Nat.add_zero, ← Nat.add_assoc] at S5 F5
      have hjn : (j : Int) < (n : Int) := by omega
      clear hcl hc h1 h2 h3 h4
      go_wp2_with fail
      go_roundg (gk - 1)
      case measure => omega
      case rel => exact ⟨j + 1, _, by go_num, by omega, S5, F5⟩
    · obtain rfl : j = n := by omega
      have B8 := Lib.hid (Fr.below B5.out hf.out (fun b hb => HOWN.out b hb))
      have MEM := Lib.hid (HO.out.at_.toMem.keep hf.out HFP.out (fun k hk => ⟨_, HDL5.out.typed hk, by decide⟩))
      have RRw := Lib.hid (HRR5.out.kept hf.out (fun b hb e => hb.2 e))
      have CW := Lib.hid (law3_wakes wr (HT.out.call B8.out))
      clear hs hf
      go_wp2_with fail
      refine CW.out.mono ?_
      rintro e w9 ⟨rfl, hb⟩
      have B9 := Lib.hid (below_call B8.out hb)
      have CS := Lib.hid (law3_same _ S p _ _ M w9 (MEM.out.call hb) (RRw.out.call hb) hlen.out (HT.out.call B9.out))
      rw [decide_eq_true (show (Su.new M).cur = M from rfl)] at CS
      clear hb CW
      go_wp2_with fail
      refine CS.out.mono ?_
      rintro e w10 ⟨rfl, hb⟩
      have B10 := Lib.hid (below_call B9.out hb)
      clear hb CS
      go_wp2_with fail
      refine (store_len_nil _).mono ?_
      rintro e w11 ⟨rfl, rfl⟩
      go_wp2_with fail
      refine (store_get_nil i _).mono ?_
      rintro e w11 ⟨dv, rfl, hr, hb⟩
      have B11 := Lib.hid (below_call B10.out hb)
      have CZ := Lib.hid (dom_size dv [] w11 hr)
      clear hb hr
      go_wp2_with fail
      refine CZ.out.mono ?_
      rintro e w12 ⟨rfl, hb⟩
      have B12 := Lib.hid (below_call B11.out hb)
      clear hb CZ
      go_wp2_with fail
      refine (store_narrow_out (.pointer none) 0 i _ [] _ (Su.has_nil _) (Dm.none_ _) (by decide) (by omega)).mono ?_
      rintro e w13 ⟨rfl, hb⟩
      have B13 := Lib.hid (below_call B12.out hb)
      clear hb
      go_wp2_with fail
      refine (store_level_nil _).mono ?_
      rintro e w14 ⟨rfl, rfl⟩
      go_wp2_with fail
      refine (store_back_nil 0 _).mono ?_
      rintro e w14 ⟨rfl, rfl⟩
      go_wp2_with fail
      refine (store_events_nil _).mono ?_
      rintro e w14 ⟨rfl, rfl⟩
      go_wp2_with fail
      go_ret
      exact ⟨rfl, B13.out⟩
end Go.Proofs.YtdbjljbkneopcaaDoor
