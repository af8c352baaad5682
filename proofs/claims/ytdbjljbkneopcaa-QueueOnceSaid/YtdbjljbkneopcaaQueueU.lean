/- The contracts of (*Queue).Pop and Clear. -/
import Derived.Test.YtdbjljbkneopcaaQueueT
namespace Go.Proofs.Ytdbjljbkneopcaa
open Go.RowKit
set_option linter.unusedSimpArgs false
set_option linter.unusedVariables false

theorem Qu.popped {w w1 w2 : World} {g n : Nat} {l l' : List (Int × Int)} {S : Nat → Prop} {ib : Nat} {vs : Nat → Value} {ins : Array Value} (h : Qu.AtX w g n l S ib vs ins)
    (b i : Nat) (hb : b < 4) (hi : i < n) (hids : Qu.ids b l = (i : Int) :: Qu.ids b l') (hoth : ∀ c : Int, c ≠ b → Qu.ids c l' = Qu.ids c l)
    (hmem : ∀ x : Int, x ∈ l'.map Prod.fst ↔ x ∈ l.map Prod.fst ∧ x ≠ i) (hnd : (l'.map Prod.fst).Nodup) (hsub : ∀ x ∈ l', x ∈ l) (v' : Value) (hv' : v'.ownBlock = (vs b).ownBlock)
    (hs : Sl w 3 1 v' (Qu.ids b l').length ((Qu.ids b l').map (Value.int .i64)))
    (h1 : Fr (fun k => k = g) w w1) (h1b : w1.heap[g]? = some (.cells (#[.slice (some ⟨ib, 0, none⟩) n n, vs 0, vs 1, vs 2, vs 3].setIfInBounds (1 + b) v') 59 (0, 0)))
    (h2 : Fr (fun k => k = ib) w1 w2) (h2b : w2.heap[ib]? = some (.cells (ins.setIfInBounds i (.bool false)) 4 (0, 0))) :
    Qu.Then w g n S l' w2 := by
  have hgi := Qu.g_ne h
  have hsz := Nat.le_trans h1.size h2.size
  refine ⟨S, ⟨ib, fun x => if x = b then v' else vs x, ins.setIfInBounds i (.bool false), ⟨?_, h2b, ?_, ?_, ?_, ?_, h.sg, h.si, ?_, ?_, hnd, fun x hx => h.range x (hsub x hx)⟩⟩, ?_, fun k hk => Or.inl hk⟩
  · rw [h2.heap h1b (fun e => hgi e)]
    have hc : b = 0 ∨ b = 1 ∨ b = 2 ∨ b = 3 := by omega
    rcases hc with rfl | rfl | rfl | rfl <;> rfl
  · simpa using h.insz
  · intro j hj
    rw [Array.getElem?_setIfInBounds]
    split
    · rename_i e
      subst e
      rw [if_pos (by rw [h.insz]; exact hi)]
      simp [hmem]
    · rename_i e
      rw [h.has j hj]
      have : ((j : Int) = (i : Int)) = False := by simp; omega
      simp only [hmem, ne_eq, this, not_false_eq_true, and_true]
  · intro x hx
    show Sl w2 3 1 (if x = b then _ else vs x) _ _
    by_cases e : x = b
    · subst e
      rw [if_pos rfl]
      refine (hs.kept h1 (fun k hk e3 => ?_)).kept h2 (fun k hk e3 => ?_)
      · rw [hv'] at hk; exact (Qu.own_ne h x hx k hk).1 e3
      · rw [hv'] at hk; exact (Qu.own_ne h x hx k hk).2 e3
    · rw [if_neg e, hoth x (by omega)]
      exact ((h.rows x hx).kept h1 (fun k hk e3 => (Qu.own_ne h x hx k hk).1 e3)).kept h2 (fun k hk e3 => (Qu.own_ne h x hx k hk).2 e3)
  · intro x hx k hk
    by_cases e : x = b
    · simp only [if_pos e] at hk
      rw [hv'] at hk
      exact h.own b hb k hk
    · simp only [if_neg e] at hk
      exact h.own x hx k hk
  · intro k hk
    exact Nat.lt_of_lt_of_le (h.lt k hk) hsz
  · intro x y hx hy hxy k hk1 hk2
    by_cases ex : x = b
    · have ey : y ≠ b := by omega
      simp only [if_pos ex] at hk1
      simp only [if_neg ey] at hk2
      rw [hv'] at hk1
      exact h.apart b y hb hy (by omega) k hk1 hk2
    · simp only [if_neg ex] at hk1
      by_cases ey : y = b
      · simp only [if_pos ey] at hk2
        rw [hv'] at hk2
        exact h.apart x b hx hb ex k hk1 hk2
      · simp only [if_neg ey] at hk2
        exact h.apart x y hx hy hxy k hk1 hk2
  · exact (h1.mono (fun k _ e => by rw [e]; exact h.sg)).trans2 h2 (fun k _ e => by rw [e]; exact h.si)

theorem lots_0 (x0 x1 x2 x3 : Value) (w : World) : (Instr.index 57 (.agg #[x0, x1, x2, x3]) (.int .i64 0)).run Try.prog w = .ok x0 w := by kernel_rfl
theorem lots_1 (x0 x1 x2 x3 : Value) (w : World) : (Instr.index 57 (.agg #[x0, x1, x2, x3]) (.int .i64 1)).run Try.prog w = .ok x1 w := by kernel_rfl
theorem lots_2 (x0 x1 x2 x3 : Value) (w : World) : (Instr.index 57 (.agg #[x0, x1, x2, x3]) (.int .i64 2)).run Try.prog w = .ok x2 w := by kernel_rfl
theorem lots_3 (x0 x1 x2 x3 : Value) (w : World) : (Instr.index 57 (.agg #[x0, x1, x2, x3]) (.int .i64 3)).run Try.prog w = .ok x3 w := by kernel_rfl

set_option maxHeartbeats 400000 in
theorem queue_pop_nil (w : World) : Calls Try.prog 12 #[.pointer none] w fun e w' => e = .returned (.tuple #[.int .i64 0, .bool false]) ∧ w = w' := by
  go_enter Try.func12, Try.ntmps12
  go_wp2
  go_ret2
  exact ⟨rfl, rfl⟩

set_option maxHeartbeats 400000 in
theorem queue_pop_none {g n : Nat} {S : Nat → Prop} (w : World) (h : Qu.At w g n [] S) :
    Calls Try.prog 12 #[.pointer (some ⟨g, 0, none⟩)] w fun e w' => e = .returned (.tuple #[.int .i64 0, .bool false]) ∧ w = w' := by
  obtain ⟨ib, vs, ins, h⟩ := h
  obtain ⟨A, c, -, hf⟩ := h.forms
  have e1 := cell_of hf 1
  have e2 := cell_of hf 2
  have e3 := cell_of hf 3
  have e4 := cell_of hf 4
  clear h hf
  have x0 := lots_0
  have x1 := lots_1
  have x2 := lots_2
  have x3 := lots_3
  go_enter Try.func12, Try.ntmps12
  go_wp2
  go_loop [12] (fun s => ∃ j : Nat, j ≤ 4 ∧ s = .int .i64 j) (fun s => 4 - (intOf s).toNat)
  case atStart => exact ⟨0, by omega, rfl⟩
  case round =>
    obtain ⟨j, hj, rfl⟩ := hrel
    have hc : j = 0 ∨ j = 1 ∨ j = 2 ∨ j = 3 ∨ j = 4 := by omega
    rcases hc with rfl | rfl | rfl | rfl | rfl
    · go_wp2
      exact ⟨⟨1, by omega, rfl⟩, by simp [intOf]⟩
    · go_wp2
      exact ⟨⟨2, by omega, rfl⟩, by simp [intOf]⟩
    · go_wp2
      exact ⟨⟨3, by omega, rfl⟩, by simp [intOf]⟩
    · go_wp2
      exact ⟨⟨4, by omega, rfl⟩, by simp [intOf]⟩
    · go_wp2
      go_ret2
      exact ⟨rfl, rfl⟩

set_option maxHeartbeats 1000000 in
theorem queue_pop_0 {g n : Nat} {l l' : List (Int × Int)} {S : Nat → Prop} (w : World) (hn : n ≤ 1000000) (hl : l.length ≤ 1000000) (h : Qu.At w g n l S) (i : Nat) (hi : i < n)
    (hids : Qu.ids 0 l = (i : Int) :: Qu.ids 0 l') (hoth : ∀ c : Int, c ≠ 0 → Qu.ids c l' = Qu.ids c l) (hmem : ∀ x : Int, x ∈ l'.map Prod.fst ↔ x ∈ l.map Prod.fst ∧ x ≠ i) (hnd : (l'.map Prod.fst).Nodup) (hsub : ∀ x ∈ l', x ∈ l)
    (hlow : ∀ c : Int, c < 0 → Qu.ids c l = []) :
    Calls Try.prog 12 #[.pointer (some ⟨g, 0, none⟩)] w (Qu.Gives w g n S l' (.tuple #[.int .i64 i, .bool true])) := by
  obtain ⟨ib, vs, ins, h⟩ := h
  have hle := Qu.ids_le 0 l
  rw [hids, List.length_cons] at hle
  obtain ⟨A, c, hvs, hf⟩ := h.forms
  have hrow := h.rows 0 (by omega)
  rw [show ((0 : Nat) : Int) = 0 from rfl, hids, List.length_cons, List.map_cons] at hrow
  obtain ⟨bk, o, cc, cs, hvb, hbk, hc1, hc2, hc3, hc4⟩ := hrow.form (by omega)
  rw [hvb] at hrow
  have hrest := hrow
  have hb0 := hrow.cell 0 (by omega)
  rw [Nat.add_zero] at hb0
  have hne := Qu.own_ne h 0 (by omega) bk (by rw [hvb]; rfl)
  have hf2 : w.heap[g]? = some (.cells #[.slice (some ⟨ib, 0, none⟩) n n, .slice (some ⟨bk, o, none⟩) ((Qu.ids 0 l').length + 1) cc, .slice (A 1) (Qu.ids 1 l).length (c 1), .slice (A 2) (Qu.ids 2 l).length (c 2), .slice (A 3) (Qu.ids 3 l).length (c 3)] 59 (0, 0)) := by
    rw [h.blk]
    have e : vs 0 = .slice (some ⟨bk, o, none⟩) ((Qu.ids 0 l').length + 1) cc := hvb
    have z : ∀ j : Nat, j < 4 → vs j = .slice (A j) (Qu.ids j l).length (c j) := hvs
    rw [e, z 1 (by omega), z 2 (by omega), z 3 (by omega)]
    rfl
  have e0 := cell_of hf2 0
  have e1 := cell_of hf2 1
  have e2 := cell_of hf2 2
  have e3 := cell_of hf2 3
  have e4 := cell_of hf2 4
  have f1 := frozen_of hf2 1
  have hgi := Qu.g_ne h
  have hgi2 : ib ≠ g := fun e => hgi e.symm
  have hbg : bk ≠ g := hne.1
  have hbi : bk ≠ ib := hne.2
  have H := Lib.hid h
  have HF := Lib.hid hf2
  have HR := Lib.hid hrest
  have HV := Lib.hid hvb
  have HI := Lib.hid hids
  have HO := Lib.hid hoth
  have HM := Lib.hid hmem
  have q1 : (0 : Int) ≤ (i : Int) := by omega
  have q2 : (i : Int) < (n : Int) := by omega
  have q3 : (0 : Int) < (((Qu.ids 0 l').length + 1 : Nat) : Int) := by omega
  have hib := cell_of h.inb i
  clear hf hvs h hf2 hrest hvb hids hoth hmem hlow hrow hne
  have x0 := lots_0
  have x1 := lots_1
  have x2 := lots_2
  have x3 := lots_3
  go_enter Try.func12, Try.ntmps12
  go_wp2
  go_loop [12] (fun s => ∃ j : Nat, j ≤ 0 ∧ s = .int .i64 j) (fun s => 0 - (intOf s).toNat)
  case atStart => exact ⟨0, by omega, rfl⟩
  case round =>
    obtain ⟨j, hj, rfl⟩ := hrel
    obtain rfl : j = 0 := by omega
    · rcases Nat.lt_or_ge 1 cc with hcc | hcc
      · have hcc1 : ¬ cc = 1 := by omega
        have HT := Lib.hid (Sl.tail HR.out (o + 1) (by rw [if_neg hcc1]))
        have G1 := Lib.hid (heap_set H.out.blk 1 (.slice (some ⟨bk, o + 1, none⟩) (Qu.ids 0 l').length (cc - 1)))
        have G2 := Lib.hid (heap_set HF.out 1 (.slice (some ⟨bk, o + 1, none⟩) (Qu.ids 0 l').length (cc - 1)))
        have G3 := Lib.hid (heap_far hbk (p := ⟨g, 1, none⟩) hbg (.slice (some ⟨bk, o + 1, none⟩) (Qu.ids 0 l').length (cc - 1)))
        have G4 := Lib.hid (heap_far H.out.inb (p := ⟨g, 1, none⟩) hgi2 (.slice (some ⟨bk, o + 1, none⟩) (Qu.ids 0 l').length (cc - 1)))
        have F1 := Lib.hid (Fr.set (S := fun k => k = g) (Fr.refl _ w) (p := ⟨g, 1, none⟩) (fun _ => rfl) (.slice (some ⟨bk, o + 1, none⟩) (Qu.ids 0 l').length (cc - 1)))
        go_upto_region 7 with fail
        go_region
        generalize w.setCell ⟨g, 1, none⟩ (.slice (some ⟨bk, o + 1, none⟩) (Qu.ids 0 l').length (cc - 1)) = w1 at *
        clear e0 e1 e2 e3 e4 f1
        have e0 := cell_of G2.out 0
        have e1 : w1.cell? ⟨bk, o, none⟩ = some (.int .i64 i) := (cell_of G3.out o).trans ((cell_of hbk o).symm.trans hb0)
        have e2 : w1.cell? ⟨ib, i, none⟩ = some (.bool (decide ((i : Int) ∈ l.map Prod.fst))) := (cell_of G4.out i).trans (H.out.has i hi)
        have e3 := frozen_of G4.out i
        have G5 := Lib.hid (heap_set G4.out i (.bool false))
        have G6 := Lib.hid (heap_far G3.out (p := ⟨ib, i, none⟩) hbi (.bool false))
        have F2 := Lib.hid (Fr.set (S := fun k => k = ib) (Fr.refl _ w1) (p := ⟨ib, i, none⟩) (fun _ => rfl) (.bool false))
        go_wp2_with fail
        go_region
        generalize w1.setCell ⟨ib, i, none⟩ (.bool false) = w2 at *
        have e4 : w2.cell? ⟨bk, o, none⟩ = some (.int .i64 i) := (cell_of G6.out o).trans ((cell_of hbk o).symm.trans hb0)
        clear e0 e1 e2 e3
        go_wp2
        go_ret2
        have r := Qu.popped H.out 0 i (by omega) hi HI.out HO.out HM.out hnd hsub _ (by rw [HV.out]; rfl) HT.out F1.out G1.out F2.out G5.out
        obtain ⟨T, r1, r2, r3⟩ := r
        exact ⟨rfl, T, r1.call (Below.refl _ _).drew.drew, r2.drew.drew, r3⟩
      · obtain rfl : cc = 1 := by omega
        clear hc1 hcc
        have HT := Lib.hid (Sl.tail HR.out o (by rw [if_pos rfl]))
        have G1 := Lib.hid (heap_set H.out.blk 1 (.slice (some ⟨bk, o, none⟩) (Qu.ids 0 l').length (0)))
        have G2 := Lib.hid (heap_set HF.out 1 (.slice (some ⟨bk, o, none⟩) (Qu.ids 0 l').length (0)))
        have G3 := Lib.hid (heap_far hbk (p := ⟨g, 1, none⟩) hbg (.slice (some ⟨bk, o, none⟩) (Qu.ids 0 l').length (0)))
        have G4 := Lib.hid (heap_far H.out.inb (p := ⟨g, 1, none⟩) hgi2 (.slice (some ⟨bk, o, none⟩) (Qu.ids 0 l').length (0)))
        have F1 := Lib.hid (Fr.set (S := fun k => k = g) (Fr.refl _ w) (p := ⟨g, 1, none⟩) (fun _ => rfl) (.slice (some ⟨bk, o, none⟩) (Qu.ids 0 l').length (0)))
        go_upto_region 7 with fail
        go_region
        generalize w.setCell ⟨g, 1, none⟩ (.slice (some ⟨bk, o, none⟩) (Qu.ids 0 l').length (0)) = w1 at *
        clear e0 e1 e2 e3 e4 f1
        have e0 := cell_of G2.out 0
        have e1 : w1.cell? ⟨bk, o, none⟩ = some (.int .i64 i) := (cell_of G3.out o).trans ((cell_of hbk o).symm.trans hb0)
        have e2 : w1.cell? ⟨ib, i, none⟩ = some (.bool (decide ((i : Int) ∈ l.map Prod.fst))) := (cell_of G4.out i).trans (H.out.has i hi)
        have e3 := frozen_of G4.out i
        have G5 := Lib.hid (heap_set G4.out i (.bool false))
        have G6 := Lib.hid (heap_far G3.out (p := ⟨ib, i, none⟩) hbi (.bool false))
        have F2 := Lib.hid (Fr.set (S := fun k => k = ib) (Fr.refl _ w1) (p := ⟨ib, i, none⟩) (fun _ => rfl) (.bool false))
        go_wp2_with fail
        go_region
        generalize w1.setCell ⟨ib, i, none⟩ (.bool false) = w2 at *
        have e4 : w2.cell? ⟨bk, o, none⟩ = some (.int .i64 i) := (cell_of G6.out o).trans ((cell_of hbk o).symm.trans hb0)
        clear e0 e1 e2 e3
        go_wp2
        go_ret2
        have r := Qu.popped H.out 0 i (by omega) hi HI.out HO.out HM.out hnd hsub _ (by rw [HV.out]; rfl) HT.out F1.out G1.out F2.out G5.out
        obtain ⟨T, r1, r2, r3⟩ := r
        exact ⟨rfl, T, r1.call (Below.refl _ _).drew.drew, r2.drew.drew, r3⟩

set_option maxHeartbeats 1000000 in
theorem queue_pop_1 {g n : Nat} {l l' : List (Int × Int)} {S : Nat → Prop} (w : World) (hn : n ≤ 1000000) (hl : l.length ≤ 1000000) (h : Qu.At w g n l S) (i : Nat) (hi : i < n)
    (hids : Qu.ids 1 l = (i : Int) :: Qu.ids 1 l') (hoth : ∀ c : Int, c ≠ 1 → Qu.ids c l' = Qu.ids c l) (hmem : ∀ x : Int, x ∈ l'.map Prod.fst ↔ x ∈ l.map Prod.fst ∧ x ≠ i) (hnd : (l'.map Prod.fst).Nodup) (hsub : ∀ x ∈ l', x ∈ l)
    (hlow : ∀ c : Int, c < 1 → Qu.ids c l = []) :
    Calls Try.prog 12 #[.pointer (some ⟨g, 0, none⟩)] w (Qu.Gives w g n S l' (.tuple #[.int .i64 i, .bool true])) := by
  obtain ⟨ib, vs, ins, h⟩ := h
  have hle := Qu.ids_le 1 l
  rw [hids, List.length_cons] at hle
  obtain ⟨A, c, hvs, hf⟩ := h.forms
  have hrow := h.rows 1 (by omega)
  rw [show ((1 : Nat) : Int) = 1 from rfl, hids, List.length_cons, List.map_cons] at hrow
  obtain ⟨bk, o, cc, cs, hvb, hbk, hc1, hc2, hc3, hc4⟩ := hrow.form (by omega)
  rw [hvb] at hrow
  have hrest := hrow
  have hb0 := hrow.cell 0 (by omega)
  rw [Nat.add_zero] at hb0
  have hne := Qu.own_ne h 1 (by omega) bk (by rw [hvb]; rfl)
  have hf2 : w.heap[g]? = some (.cells #[.slice (some ⟨ib, 0, none⟩) n n, .slice (A 0) 0 (c 0), .slice (some ⟨bk, o, none⟩) ((Qu.ids 1 l').length + 1) cc, .slice (A 2) (Qu.ids 2 l).length (c 2), .slice (A 3) (Qu.ids 3 l).length (c 3)] 59 (0, 0)) := by
    rw [h.blk]
    have e : vs 1 = .slice (some ⟨bk, o, none⟩) ((Qu.ids 1 l').length + 1) cc := hvb
    have z : ∀ j : Nat, j < 4 → vs j = .slice (A j) (Qu.ids j l).length (c j) := hvs
    rw [z 0 (by omega), e, z 2 (by omega), z 3 (by omega)]
    rw [hlow ((0 : Nat) : Int) (by decide)]
    rfl
  have e0 := cell_of hf2 0
  have e1 := cell_of hf2 1
  have e2 := cell_of hf2 2
  have e3 := cell_of hf2 3
  have e4 := cell_of hf2 4
  have f1 := frozen_of hf2 2
  have hgi := Qu.g_ne h
  have hgi2 : ib ≠ g := fun e => hgi e.symm
  have hbg : bk ≠ g := hne.1
  have hbi : bk ≠ ib := hne.2
  have H := Lib.hid h
  have HF := Lib.hid hf2
  have HR := Lib.hid hrest
  have HV := Lib.hid hvb
  have HI := Lib.hid hids
  have HO := Lib.hid hoth
  have HM := Lib.hid hmem
  have q1 : (0 : Int) ≤ (i : Int) := by omega
  have q2 : (i : Int) < (n : Int) := by omega
  have q3 : (0 : Int) < (((Qu.ids 1 l').length + 1 : Nat) : Int) := by omega
  have hib := cell_of h.inb i
  clear hf hvs h hf2 hrest hvb hids hoth hmem hlow hrow hne
  have x0 := lots_0
  have x1 := lots_1
  have x2 := lots_2
  have x3 := lots_3
  go_enter Try.func12, Try.ntmps12
  go_wp2
  go_loop [12] (fun s => ∃ j : Nat, j ≤ 1 ∧ s = .int .i64 j) (fun s => 1 - (intOf s).toNat)
  case atStart => exact ⟨0, by omega, rfl⟩
  case round =>
    obtain ⟨j, hj, rfl⟩ := hrel
    have hc : j = 0 ∨ j = 1 := by omega
    rcases hc with rfl | rfl
    · go_wp2
      exact ⟨⟨1, by omega, rfl⟩, by simp [intOf]⟩
    · rcases Nat.lt_or_ge 1 cc with hcc | hcc
      · have hcc1 : ¬ cc = 1 := by omega
        have HT := Lib.hid (Sl.tail HR.out (o + 1) (by rw [if_neg hcc1]))
        have G1 := Lib.hid (heap_set H.out.blk 2 (.slice (some ⟨bk, o + 1, none⟩) (Qu.ids 1 l').length (cc - 1)))
        have G2 := Lib.hid (heap_set HF.out 2 (.slice (some ⟨bk, o + 1, none⟩) (Qu.ids 1 l').length (cc - 1)))
        have G3 := Lib.hid (heap_far hbk (p := ⟨g, 2, none⟩) hbg (.slice (some ⟨bk, o + 1, none⟩) (Qu.ids 1 l').length (cc - 1)))
        have G4 := Lib.hid (heap_far H.out.inb (p := ⟨g, 2, none⟩) hgi2 (.slice (some ⟨bk, o + 1, none⟩) (Qu.ids 1 l').length (cc - 1)))
        have F1 := Lib.hid (Fr.set (S := fun k => k = g) (Fr.refl _ w) (p := ⟨g, 2, none⟩) (fun _ => rfl) (.slice (some ⟨bk, o + 1, none⟩) (Qu.ids 1 l').length (cc - 1)))
        go_upto_region 7 with fail
        go_region
        generalize w.setCell ⟨g, 2, none⟩ (.slice (some ⟨bk, o + 1, none⟩) (Qu.ids 1 l').length (cc - 1)) = w1 at *
        clear e0 e1 e2 e3 e4 f1
        have e0 := cell_of G2.out 0
        have e1 : w1.cell? ⟨bk, o, none⟩ = some (.int .i64 i) := (cell_of G3.out o).trans ((cell_of hbk o).symm.trans hb0)
        have e2 : w1.cell? ⟨ib, i, none⟩ = some (.bool (decide ((i : Int) ∈ l.map Prod.fst))) := (cell_of G4.out i).trans (H.out.has i hi)
        have e3 := frozen_of G4.out i
        have G5 := Lib.hid (heap_set G4.out i (.bool false))
        have G6 := Lib.hid (heap_far G3.out (p := ⟨ib, i, none⟩) hbi (.bool false))
        have F2 := Lib.hid (Fr.set (S := fun k => k = ib) (Fr.refl _ w1) (p := ⟨ib, i, none⟩) (fun _ => rfl) (.bool false))
        go_wp2_with fail
        go_region
        generalize w1.setCell ⟨ib, i, none⟩ (.bool false) = w2 at *
        have e4 : w2.cell? ⟨bk, o, none⟩ = some (.int .i64 i) := (cell_of G6.out o).trans ((cell_of hbk o).symm.trans hb0)
        clear e0 e1 e2 e3
        go_wp2
        go_ret2
        have r := Qu.popped H.out 1 i (by omega) hi HI.out HO.out HM.out hnd hsub _ (by rw [HV.out]; rfl) HT.out F1.out G1.out F2.out G5.out
        obtain ⟨T, r1, r2, r3⟩ := r
        exact ⟨rfl, T, r1.call (Below.refl _ _).drew.drew, r2.drew.drew, r3⟩
      · obtain rfl : cc = 1 := by omega
        clear hc1 hcc
        have HT := Lib.hid (Sl.tail HR.out o (by rw [if_pos rfl]))
        have G1 := Lib.hid (heap_set H.out.blk 2 (.slice (some ⟨bk, o, none⟩) (Qu.ids 1 l').length (0)))
        have G2 := Lib.hid (heap_set HF.out 2 (.slice (some ⟨bk, o, none⟩) (Qu.ids 1 l').length (0)))
        have G3 := Lib.hid (heap_far hbk (p := ⟨g, 2, none⟩) hbg (.slice (some ⟨bk, o, none⟩) (Qu.ids 1 l').length (0)))
        have G4 := Lib.hid (heap_far H.out.inb (p := ⟨g, 2, none⟩) hgi2 (.slice (some ⟨bk, o, none⟩) (Qu.ids 1 l').length (0)))
        have F1 := Lib.hid (Fr.set (S := fun k => k = g) (Fr.refl _ w) (p := ⟨g, 2, none⟩) (fun _ => rfl) (.slice (some ⟨bk, o, none⟩) (Qu.ids 1 l').length (0)))
        go_upto_region 7 with fail
        go_region
        generalize w.setCell ⟨g, 2, none⟩ (.slice (some ⟨bk, o, none⟩) (Qu.ids 1 l').length (0)) = w1 at *
        clear e0 e1 e2 e3 e4 f1
        have e0 := cell_of G2.out 0
        have e1 : w1.cell? ⟨bk, o, none⟩ = some (.int .i64 i) := (cell_of G3.out o).trans ((cell_of hbk o).symm.trans hb0)
        have e2 : w1.cell? ⟨ib, i, none⟩ = some (.bool (decide ((i : Int) ∈ l.map Prod.fst))) := (cell_of G4.out i).trans (H.out.has i hi)
        have e3 := frozen_of G4.out i
        have G5 := Lib.hid (heap_set G4.out i (.bool false))
        have G6 := Lib.hid (heap_far G3.out (p := ⟨ib, i, none⟩) hbi (.bool false))
        have F2 := Lib.hid (Fr.set (S := fun k => k = ib) (Fr.refl _ w1) (p := ⟨ib, i, none⟩) (fun _ => rfl) (.bool false))
        go_wp2_with fail
        go_region
        generalize w1.setCell ⟨ib, i, none⟩ (.bool false) = w2 at *
        have e4 : w2.cell? ⟨bk, o, none⟩ = some (.int .i64 i) := (cell_of G6.out o).trans ((cell_of hbk o).symm.trans hb0)
        clear e0 e1 e2 e3
        go_wp2
        go_ret2
        have r := Qu.popped H.out 1 i (by omega) hi HI.out HO.out HM.out hnd hsub _ (by rw [HV.out]; rfl) HT.out F1.out G1.out F2.out G5.out
        obtain ⟨T, r1, r2, r3⟩ := r
        exact ⟨rfl, T, r1.call (Below.refl _ _).drew.drew, r2.drew.drew, r3⟩

set_option maxHeartbeats 1000000 in
theorem queue_pop_2 {g n : Nat} {l l' : List (Int × Int)} {S : Nat → Prop} (w : World) (hn : n ≤ 1000000) (hl : l.length ≤ 1000000) (h : Qu.At w g n l S) (i : Nat) (hi : i < n)
    (hids : Qu.ids 2 l = (i : Int) :: Qu.ids 2 l') (hoth : ∀ c : Int, c ≠ 2 → Qu.ids c l' = Qu.ids c l) (hmem : ∀ x : Int, x ∈ l'.map Prod.fst ↔ x ∈ l.map Prod.fst ∧ x ≠ i) (hnd : (l'.map Prod.fst).Nodup) (hsub : ∀ x ∈ l', x ∈ l)
    (hlow : ∀ c : Int, c < 2 → Qu.ids c l = []) :
    Calls Try.prog 12 #[.pointer (some ⟨g, 0, none⟩)] w (Qu.Gives w g n S l' (.tuple #[.int .i64 i, .bool true])) := by
  obtain ⟨ib, vs, ins, h⟩ := h
  have hle := Qu.ids_le 2 l
  rw [hids, List.length_cons] at hle
  obtain ⟨A, c, hvs, hf⟩ := h.forms
  have hrow := h.rows 2 (by omega)
  rw [show ((2 : Nat) : Int) = 2 from rfl, hids, List.length_cons, List.map_cons] at hrow
  obtain ⟨bk, o, cc, cs, hvb, hbk, hc1, hc2, hc3, hc4⟩ := hrow.form (by omega)
  rw [hvb] at hrow
  have hrest := hrow
  have hb0 := hrow.cell 0 (by omega)
  rw [Nat.add_zero] at hb0
  have hne := Qu.own_ne h 2 (by omega) bk (by rw [hvb]; rfl)
  have hf2 : w.heap[g]? = some (.cells #[.slice (some ⟨ib, 0, none⟩) n n, .slice (A 0) 0 (c 0), .slice (A 1) 0 (c 1), .slice (some ⟨bk, o, none⟩) ((Qu.ids 2 l').length + 1) cc, .slice (A 3) (Qu.ids 3 l).length (c 3)] 59 (0, 0)) := by
    rw [h.blk]
    have e : vs 2 = .slice (some ⟨bk, o, none⟩) ((Qu.ids 2 l').length + 1) cc := hvb
    have z : ∀ j : Nat, j < 4 → vs j = .slice (A j) (Qu.ids j l).length (c j) := hvs
    rw [z 0 (by omega), z 1 (by omega), e, z 3 (by omega)]
    rw [hlow ((0 : Nat) : Int) (by decide)]
    rw [hlow ((1 : Nat) : Int) (by decide)]
    rfl
  have e0 := cell_of hf2 0
  have e1 := cell_of hf2 1
  have e2 := cell_of hf2 2
  have e3 := cell_of hf2 3
  have e4 := cell_of hf2 4
  have f1 := frozen_of hf2 3
  have hgi := Qu.g_ne h
  have hgi2 : ib ≠ g := fun e => hgi e.symm
  have hbg : bk ≠ g := hne.1
  have hbi : bk ≠ ib := hne.2
  have H := Lib.hid h
  have HF := Lib.hid hf2
  have HR := Lib.hid hrest
  have HV := Lib.hid hvb
  have HI := Lib.hid hids
  have HO := Lib.hid hoth
  have HM := Lib.hid hmem
  have q1 : (0 : Int) ≤ (i : Int) := by omega
  have q2 : (i : Int) < (n : Int) := by omega
  have q3 : (0 : Int) < (((Qu.ids 2 l').length + 1 : Nat) : Int) := by omega
  have hib := cell_of h.inb i
  clear hf hvs h hf2 hrest hvb hids hoth hmem hlow hrow hne
  have x0 := lots_0
  have x1 := lots_1
  have x2 := lots_2
  have x3 := lots_3
  go_enter Try.func12, Try.ntmps12
  go_wp2
  go_loop [12] (fun s => ∃ j : Nat, j ≤ 2 ∧ s = .int .i64 j) (fun s => 2 - (intOf s).toNat)
  case atStart => exact ⟨0, by omega, rfl⟩
  case round =>
    obtain ⟨j, hj, rfl⟩ := hrel
    have hc : j = 0 ∨ j = 1 ∨ j = 2 := by omega
    rcases hc with rfl | rfl | rfl
    · go_wp2
      exact ⟨⟨1, by omega, rfl⟩, by simp [intOf]⟩
    · go_wp2
      exact ⟨⟨2, by omega, rfl⟩, by simp [intOf]⟩
    · rcases Nat.lt_or_ge 1 cc with hcc | hcc
      · have hcc1 : ¬ cc = 1 := by omega
        have HT := Lib.hid (Sl.tail HR.out (o + 1) (by rw [if_neg hcc1]))
        have G1 := Lib.hid (heap_set H.out.blk 3 (.slice (some ⟨bk, o + 1, none⟩) (Qu.ids 2 l').length (cc - 1)))
        have G2 := Lib.hid (heap_set HF.out 3 (.slice (some ⟨bk, o + 1, none⟩) (Qu.ids 2 l').length (cc - 1)))
        have G3 := Lib.hid (heap_far hbk (p := ⟨g, 3, none⟩) hbg (.slice (some ⟨bk, o + 1, none⟩) (Qu.ids 2 l').length (cc - 1)))
        have G4 := Lib.hid (heap_far H.out.inb (p := ⟨g, 3, none⟩) hgi2 (.slice (some ⟨bk, o + 1, none⟩) (Qu.ids 2 l').length (cc - 1)))
        have F1 := Lib.hid (Fr.set (S := fun k => k = g) (Fr.refl _ w) (p := ⟨g, 3, none⟩) (fun _ => rfl) (.slice (some ⟨bk, o + 1, none⟩) (Qu.ids 2 l').length (cc - 1)))
        go_upto_region 7 with fail
        go_region
        generalize w.setCell ⟨g, 3, none⟩ (.slice (some ⟨bk, o + 1, none⟩) (Qu.ids 2 l').length (cc - 1)) = w1 at *
        clear e0 e1 e2 e3 e4 f1
        have e0 := cell_of G2.out 0
        have e1 : w1.cell? ⟨bk, o, none⟩ = some (.int .i64 i) := (cell_of G3.out o).trans ((cell_of hbk o).symm.trans hb0)
        have e2 : w1.cell? ⟨ib, i, none⟩ = some (.bool (decide ((i : Int) ∈ l.map Prod.fst))) := (cell_of G4.out i).trans (H.out.has i hi)
        have e3 := frozen_of G4.out i
        have G5 := Lib.hid (heap_set G4.out i (.bool false))
        have G6 := Lib.hid (heap_far G3.out (p := ⟨ib, i, none⟩) hbi (.bool false))
        have F2 := Lib.hid (Fr.set (S := fun k => k = ib) (Fr.refl _ w1) (p := ⟨ib, i, none⟩) (fun _ => rfl) (.bool false))
        go_wp2_with fail
        go_region
        generalize w1.setCell ⟨ib, i, none⟩ (.bool false) = w2 at *
        have e4 : w2.cell? ⟨bk, o, none⟩ = some (.int .i64 i) := (cell_of G6.out o).trans ((cell_of hbk o).symm.trans hb0)
        clear e0 e1 e2 e3
        go_wp2
        go_ret2
        have r := Qu.popped H.out 2 i (by omega) hi HI.out HO.out HM.out hnd hsub _ (by rw [HV.out]; rfl) HT.out F1.out G1.out F2.out G5.out
        obtain ⟨T, r1, r2, r3⟩ := r
        exact ⟨rfl, T, r1.call (Below.refl _ _).drew.drew, r2.drew.drew, r3⟩
      · obtain rfl : cc = 1 := by omega
        clear hc1 hcc
        have HT := Lib.hid (Sl.tail HR.out o (by rw [if_pos rfl]))
        have G1 := Lib.hid (heap_set H.out.blk 3 (.slice (some ⟨bk, o, none⟩) (Qu.ids 2 l').length (0)))
        have G2 := Lib.hid (heap_set HF.out 3 (.slice (some ⟨bk, o, none⟩) (Qu.ids 2 l').length (0)))
        have G3 := Lib.hid (heap_far hbk (p := ⟨g, 3, none⟩) hbg (.slice (some ⟨bk, o, none⟩) (Qu.ids 2 l').length (0)))
        have G4 := Lib.hid (heap_far H.out.inb (p := ⟨g, 3, none⟩) hgi2 (.slice (some ⟨bk, o, none⟩) (Qu.ids 2 l').length (0)))
        have F1 := Lib.hid (Fr.set (S := fun k => k = g) (Fr.refl _ w) (p := ⟨g, 3, none⟩) (fun _ => rfl) (.slice (some ⟨bk, o, none⟩) (Qu.ids 2 l').length (0)))
        go_upto_region 7 with fail
        go_region
        generalize w.setCell ⟨g, 3, none⟩ (.slice (some ⟨bk, o, none⟩) (Qu.ids 2 l').length (0)) = w1 at *
        clear e0 e1 e2 e3 e4 f1
        have e0 := cell_of G2.out 0
        have e1 : w1.cell? ⟨bk, o, none⟩ = some (.int .i64 i) := (cell_of G3.out o).trans ((cell_of hbk o).symm.trans hb0)
        have e2 : w1.cell? ⟨ib, i, none⟩ = some (.bool (decide ((i : Int) ∈ l.map Prod.fst))) := (cell_of G4.out i).trans (H.out.has i hi)
        have e3 := frozen_of G4.out i
        have G5 := Lib.hid (heap_set G4.out i (.bool false))
        have G6 := Lib.hid (heap_far G3.out (p := ⟨ib, i, none⟩) hbi (.bool false))
        have F2 := Lib.hid (Fr.set (S := fun k => k = ib) (Fr.refl _ w1) (p := ⟨ib, i, none⟩) (fun _ => rfl) (.bool false))
        go_wp2_with fail
        go_region
        generalize w1.setCell ⟨ib, i, none⟩ (.bool false) = w2 at *
        have e4 : w2.cell? ⟨bk, o, none⟩ = some (.int .i64 i) := (cell_of G6.out o).trans ((cell_of hbk o).symm.trans hb0)
        clear e0 e1 e2 e3
        go_wp2
        go_ret2
        have r := Qu.popped H.out 2 i (by omega) hi HI.out HO.out HM.out hnd hsub _ (by rw [HV.out]; rfl) HT.out F1.out G1.out F2.out G5.out
        obtain ⟨T, r1, r2, r3⟩ := r
        exact ⟨rfl, T, r1.call (Below.refl _ _).drew.drew, r2.drew.drew, r3⟩

set_option maxHeartbeats 1000000 in
theorem queue_pop_3 {g n : Nat} {l l' : List (Int × Int)} {S : Nat → Prop} (w : World) (hn : n ≤ 1000000) (hl : l.length ≤ 1000000) (h : Qu.At w g n l S) (i : Nat) (hi : i < n)
    (hids : Qu.ids 3 l = (i : Int) :: Qu.ids 3 l') (hoth : ∀ c : Int, c ≠ 3 → Qu.ids c l' = Qu.ids c l) (hmem : ∀ x : Int, x ∈ l'.map Prod.fst ↔ x ∈ l.map Prod.fst ∧ x ≠ i) (hnd : (l'.map Prod.fst).Nodup) (hsub : ∀ x ∈ l', x ∈ l)
    (hlow : ∀ c : Int, c < 3 → Qu.ids c l = []) :
    Calls Try.prog 12 #[.pointer (some ⟨g, 0, none⟩)] w (Qu.Gives w g n S l' (.tuple #[.int .i64 i, .bool true])) := by
  obtain ⟨ib, vs, ins, h⟩ := h
  have hle := Qu.ids_le 3 l
  rw [hids, List.length_cons] at hle
  obtain ⟨A, c, hvs, hf⟩ := h.forms
  have hrow := h.rows 3 (by omega)
  rw [show ((3 : Nat) : Int) = 3 from rfl, hids, List.length_cons, List.map_cons] at hrow
  obtain ⟨bk, o, cc, cs, hvb, hbk, hc1, hc2, hc3, hc4⟩ := hrow.form (by omega)
  rw [hvb] at hrow
  have hrest := hrow
  have hb0 := hrow.cell 0 (by omega)
  rw [Nat.add_zero] at hb0
  have hne := Qu.own_ne h 3 (by omega) bk (by rw [hvb]; rfl)
  have hf2 : w.heap[g]? = some (.cells #[.slice (some ⟨ib, 0, none⟩) n n, .slice (A 0) 0 (c 0), .slice (A 1) 0 (c 1), .slice (A 2) 0 (c 2), .slice (some ⟨bk, o, none⟩) ((Qu.ids 3 l').length + 1) cc] 59 (0, 0)) := by
    rw [h.blk]
    have e : vs 3 = .slice (some ⟨bk, o, none⟩) ((Qu.ids 3 l').length + 1) cc := hvb
    have z : ∀ j : Nat, j < 4 → vs j = .slice (A j) (Qu.ids j l).length (c j) := hvs
    rw [z 0 (by omega), z 1 (by omega), z 2 (by omega), e]
    rw [hlow ((0 : Nat) : Int) (by decide)]
    rw [hlow ((1 : Nat) : Int) (by decide)]
    rw [hlow ((2 : Nat) : Int) (by decide)]
    rfl
  have e0 := cell_of hf2 0
  have e1 := cell_of hf2 1
  have e2 := cell_of hf2 2
  have e3 := cell_of hf2 3
  have e4 := cell_of hf2 4
  have f1 := frozen_of hf2 4
  have hgi := Qu.g_ne h
  have hgi2 : ib ≠ g := fun e => hgi e.symm
  have hbg : bk ≠ g := hne.1
  have hbi : bk ≠ ib := hne.2
  have H := Lib.hid h
  have HF := Lib.hid hf2
  have HR := Lib.hid hrest
  have HV := Lib.hid hvb
  have HI := Lib.hid hids
  have HO := Lib.hid hoth
  have HM := Lib.hid hmem
  have q1 : (0 : Int) ≤ (i : Int) := by omega
  have q2 : (i : Int) < (n : Int) := by omega
  have q3 : (0 : Int) < (((Qu.ids 3 l').length + 1 : Nat) : Int) := by omega
  have hib := cell_of h.inb i
  clear hf hvs h hf2 hrest hvb hids hoth hmem hlow hrow hne
  have x0 := lots_0
  have x1 := lots_1
  have x2 := lots_2
  have x3 := lots_3
  go_enter Try.func12, Try.ntmps12
  go_wp2
  go_loop [12] (fun s => ∃ j : Nat, j ≤ 3 ∧ s = .int .i64 j) (fun s => 3 - (intOf s).toNat)
  case atStart => exact ⟨0, by omega, rfl⟩
  case round =>
    obtain ⟨j, hj, rfl⟩ := hrel
    have hc : j = 0 ∨ j = 1 ∨ j = 2 ∨ j = 3 := by omega
    rcases hc with rfl | rfl | rfl | rfl
    · go_wp2
      exact ⟨⟨1, by omega, rfl⟩, by simp [intOf]⟩
    · go_wp2
      exact ⟨⟨2, by omega, rfl⟩, by simp [intOf]⟩
    · go_wp2
      exact ⟨⟨3, by omega, rfl⟩, by simp [intOf]⟩
    · rcases Nat.lt_or_ge 1 cc with hcc | hcc
      · have hcc1 : ¬ cc = 1 := by omega
        have HT := Lib.hid (Sl.tail HR.out (o + 1) (by rw [if_neg hcc1]))
        have G1 := Lib.hid (heap_set H.out.blk 4 (.slice (some ⟨bk, o + 1, none⟩) (Qu.ids 3 l').length (cc - 1)))
        have G2 := Lib.hid (heap_set HF.out 4 (.slice (some ⟨bk, o + 1, none⟩) (Qu.ids 3 l').length (cc - 1)))
        have G3 := Lib.hid (heap_far hbk (p := ⟨g, 4, none⟩) hbg (.slice (some ⟨bk, o + 1, none⟩) (Qu.ids 3 l').length (cc - 1)))
        have G4 := Lib.hid (heap_far H.out.inb (p := ⟨g, 4, none⟩) hgi2 (.slice (some ⟨bk, o + 1, none⟩) (Qu.ids 3 l').length (cc - 1)))
        have F1 := Lib.hid (Fr.set (S := fun k => k = g) (Fr.refl _ w) (p := ⟨g, 4, none⟩) (fun _ => rfl) (.slice (some ⟨bk, o + 1, none⟩) (Qu.ids 3 l').length (cc - 1)))
        go_upto_region 7 with fail
        go_region
        generalize w.setCell ⟨g, 4, none⟩ (.slice (some ⟨bk, o + 1, none⟩) (Qu.ids 3 l').length (cc - 1)) = w1 at *
        clear e0 e1 e2 e3 e4 f1
        have e0 := cell_of G2.out 0
        have e1 : w1.cell? ⟨bk, o, none⟩ = some (.int .i64 i) := (cell_of G3.out o).trans ((cell_of hbk o).symm.trans hb0)
        have e2 : w1.cell? ⟨ib, i, none⟩ = some (.bool (decide ((i : Int) ∈ l.map Prod.fst))) := (cell_of G4.out i).trans (H.out.has i hi)
        have e3 := frozen_of G4.out i
        have G5 := Lib.hid (heap_set G4.out i (.bool false))
        have G6 := Lib.hid (heap_far G3.out (p := ⟨ib, i, none⟩) hbi (.bool false))
        have F2 := Lib.hid (Fr.set (S := fun k => k = ib) (Fr.refl _ w1) (p := ⟨ib, i, none⟩) (fun _ => rfl) (.bool false))
        go_wp2_with fail
        go_region
        generalize w1.setCell ⟨ib, i, none⟩ (.bool false) = w2 at *
        have e4 : w2.cell? ⟨bk, o, none⟩ = some (.int .i64 i) := (cell_of G6.out o).trans ((cell_of hbk o).symm.trans hb0)
        clear e0 e1 e2 e3
        go_wp2
        go_ret2
        have r := Qu.popped H.out 3 i (by omega) hi HI.out HO.out HM.out hnd hsub _ (by rw [HV.out]; rfl) HT.out F1.out G1.out F2.out G5.out
        obtain ⟨T, r1, r2, r3⟩ := r
        exact ⟨rfl, T, r1.call (Below.refl _ _).drew.drew, r2.drew.drew, r3⟩
      · obtain rfl : cc = 1 := by omega
        clear hc1 hcc
        have HT := Lib.hid (Sl.tail HR.out o (by rw [if_pos rfl]))
        have G1 := Lib.hid (heap_set H.out.blk 4 (.slice (some ⟨bk, o, none⟩) (Qu.ids 3 l').length (0)))
        have G2 := Lib.hid (heap_set HF.out 4 (.slice (some ⟨bk, o, none⟩) (Qu.ids 3 l').length (0)))
        have G3 := Lib.hid (heap_far hbk (p := ⟨g, 4, none⟩) hbg (.slice (some ⟨bk, o, none⟩) (Qu.ids 3 l').length (0)))
        have G4 := Lib.hid (heap_far H.out.inb (p := ⟨g, 4, none⟩) hgi2 (.slice (some ⟨bk, o, none⟩) (Qu.ids 3 l').length (0)))
        have F1 := Lib.hid (Fr.set (S := fun k => k = g) (Fr.refl _ w) (p := ⟨g, 4, none⟩) (fun _ => rfl) (.slice (some ⟨bk, o, none⟩) (Qu.ids 3 l').length (0)))
        go_upto_region 7 with fail
        go_region
        generalize w.setCell ⟨g, 4, none⟩ (.slice (some ⟨bk, o, none⟩) (Qu.ids 3 l').length (0)) = w1 at *
        clear e0 e1 e2 e3 e4 f1
        have e0 := cell_of G2.out 0
        have e1 : w1.cell? ⟨bk, o, none⟩ = some (.int .i64 i) := (cell_of G3.out o).trans ((cell_of hbk o).symm.trans hb0)
        have e2 : w1.cell? ⟨ib, i, none⟩ = some (.bool (decide ((i : Int) ∈ l.map Prod.fst))) := (cell_of G4.out i).trans (H.out.has i hi)
        have e3 := frozen_of G4.out i
        have G5 := Lib.hid (heap_set G4.out i (.bool false))
        have G6 := Lib.hid (heap_far G3.out (p := ⟨ib, i, none⟩) hbi (.bool false))
        have F2 := Lib.hid (Fr.set (S := fun k => k = ib) (Fr.refl _ w1) (p := ⟨ib, i, none⟩) (fun _ => rfl) (.bool false))
        go_wp2_with fail
        go_region
        generalize w1.setCell ⟨ib, i, none⟩ (.bool false) = w2 at *
        have e4 : w2.cell? ⟨bk, o, none⟩ = some (.int .i64 i) := (cell_of G6.out o).trans ((cell_of hbk o).symm.trans hb0)
        clear e0 e1 e2 e3
        go_wp2
        go_ret2
        have r := Qu.popped H.out 3 i (by omega) hi HI.out HO.out HM.out hnd hsub _ (by rw [HV.out]; rfl) HT.out F1.out G1.out F2.out G5.out
        obtain ⟨T, r1, r2, r3⟩ := r
        exact ⟨rfl, T, r1.call (Below.refl _ _).drew.drew, r2.drew.drew, r3⟩
end Go.Proofs.Ytdbjljbkneopcaa
