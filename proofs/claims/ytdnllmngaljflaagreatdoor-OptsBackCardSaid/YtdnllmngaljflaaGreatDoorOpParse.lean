import Derived.Test.YtdnllmngaljflaaGreatDoorOpFields
import Derived.Test.YtdnllmngaljflaaGreatDoorOpCheck
namespace Go.Proofs.YtdnllmngaljflaaGreatDoorX.Ho
open Go.RowKit Go.Proofs.YtdnllmngaljflaaGreatDoorW.PrintWords Go.Proofs.YtdnllmngaljflaaGreatDoorW.PrintLast Go.Proofs.YtdnllmngaljflaaGreatDoorW.PrintMore
attribute [local go_sem] max2_int min2_int max_two min_two max_three min_three max_four min_four
set_option linter.unusedVariables false
set_option linter.unusedSimpArgs false
attribute [local go_sem] Go.Proofs.YtdnllmngaljflaaGreatDoor.Hook.cell_two
/-! ### Parse -/
theorem ib_cut : ∀ l : Bs, cutE l = (if 0 ≤ Lib.indexByte l 61 then some (l.take (Lib.indexByte l 61).toNat, l.drop ((Lib.indexByte l 61).toNat + 1)) else none)
  | [] => rfl
  | c :: l => by
    have hge := Lib.indexByte_ge l 61
    have ih := ib_cut l
    unfold cutE Lib.indexByte
    by_cases hc : c = 61
    · subst hc; rfl
    · have hb : ¬ (c == 61) = true := fun h => hc (beq_iff_eq.1 h)
      rw [if_neg hc, if_neg hb, ih]
      by_cases h1 : Lib.indexByte l 61 = -1
      · rw [h1]; rfl
      · have h2 : ¬ (Lib.indexByte l 61 == -1) = true := fun h => h1 (beq_iff_eq.1 h)
        rw [if_neg h2]
        obtain ⟨k, hk⟩ : ∃ k : Nat, Lib.indexByte l 61 = (k : Int) := ⟨(Lib.indexByte l 61).toNat, by omega⟩
        rw [hk, if_pos (by omega), if_pos (by omega)]
        have e1 : ((k : Int) + 1).toNat = k + 1 := by omega
        rw [e1, Int.toNat_natCast]
        rfl
/-- strings.Cut at the first '='. -/
def CtQ (o : Option (Bs × Bs)) (w : World) (e : Ending) (w' : World) : Prop := (∃ a b : ByteArray, e = .returned (.tuple #[.string a, .string b, .bool o.isSome]) ∧ ∀ x, o = some x → a.data.toList = x.1 ∧ b.data.toList = x.2) ∧ Below w.heap.size w w'
theorem cutW (s : ByteArray) (hs : s.size ≤ 10000000) (w : World) (hE : Env w) : Calls Tryz.prog 21 #[.string s, .string ⟨#[61]⟩] w (CtQ (cutE s.data.toList) w) := by
  obtain ⟨m, hm⟩ := hE.mx
  refine (Tryz.strings_Cut s ⟨#[61]⟩ m w (by omega) hm).mono ?_
  rintro e w' ⟨rfl, n, rfl⟩
  refine ⟨?_, pw_below_drewN (Below.refl _ _) n⟩
  have hi : Lib.index s.data.toList [61] = Lib.indexByte s.data.toList 61 := Lib.index_one s.data.toList 61
  have h61 : (⟨#[61]⟩ : ByteArray).data.toList = [61] := rfl
  rw [h61, ib_cut]
  unfold Lib.cut
  rw [hi]
  by_cases h : 0 ≤ Lib.indexByte s.data.toList 61
  · rw [if_pos h, if_pos h]
    exact ⟨_, _, rfl, fun x hx => by cases hx; exact ⟨by simp, by simp⟩⟩
  · rw [if_neg h, if_neg h]
    exact ⟨_, _, rfl, fun x hx => by cases hx⟩
/-- The keys that were met, as a map's datum. -/
def DM (M : List Bs) : DataW Value := M.foldl (fun D k => D.put (.string k) (.held (.bool true))) (.map [])
theorem DM_snoc (M : List Bs) (k : Bs) : DM (M ++ [k]) = (DM M).put (.string k) (.held (.bool true)) := by unfold DM; rw [List.foldl_append]; rfl
theorem DM_map (M : List Bs) : Maps.IsMap (DM M) := by
  unfold DM
  have : ∀ (M : List Bs) (D : DataW Value), Maps.IsMap D → Maps.IsMap (M.foldl (fun D k => D.put (.string k) (.held (.bool true))) D) := by
    intro M
    induction M with
    | nil => intro D h; exact h
    | cons x M ih => intro D h; exact ih _ (Maps.IsMap.put h _ _)
  exact this M _ ⟨[], rfl⟩
theorem DM_at (k : Bs) : ∀ (n : Nat) (M : List Bs), M.length = n → (DM M).atKey (.string k) (.held (.bool false)) = .held (.bool (decide (k ∈ M))) := by
  intro n
  induction n with
  | zero => intro M h; rw [List.eq_nil_of_length_eq_zero h]; rfl
  | succ n ih =>
    intro M h
    obtain ⟨M', x, rfl⟩ : ∃ M' x, M = M' ++ [x] := ⟨M.dropLast, M.getLast (by intro h0; rw [h0] at h; cases h), (List.dropLast_concat_getLast _).symm⟩
    rw [DM_snoc]
    by_cases hx : k = x
    · subst hx
      rw [Maps.atKey_put_same (k := .string k) (DM_map M') (show WideAt.IsKeyLit (.string k) from trivial), decide_eq_true (by simp)]
    · rw [Maps.atKey_put_other (fun h => hx (by cases h; rfl)), ih M' (by simp at h; exact h)]
      congr 2
      rw [decide_eq_decide]
      simp [hx]
theorem own_map_step {w w1 : World} {k : TypeId} {b n : Nat} {D : DataW Value} (h : w.ownsMap Tryz.prog k hR b n D) (_ : w.heap.size ≤ w1.heap.size) (hb : w1.heap[b]? = w.heap[b]?) : w1.ownsMap Tryz.prog k hR b n D := by
  obtain ⟨es, clock, h1, h2⟩ := h
  exact ⟨es, clock, hb.trans h1, h2⟩
/-- What Parse's loop holds. -/
structure PL (w0 wr : World) (g mb A : Nat) (L : List Bs) (o : Ov) (M : List Bs) : Prop where
  below : Below w0.heap.size w0 wr
  ob : OB wr g o
  rb : wr.heap[w0.heap.size]? = some (.cells ov0.pc 29 (0, 0))
  tc : TC wr A L
  mp : wr.ownsMap Tryz.prog 9 hR mb M.length (DM M)
  lg : w0.heap.size < g
  lm : g < mb
  lA : mb < A
  sA : A < wr.heap.size
theorem below_sets10 {w wc : World} (h : Below w.heap.size w wc) {a0 a1 a2 a3 a4 a5 a6 a7 a8 a9 : Value} : Below w.heap.size w ((((((((((wc.setCell ⟨w.heap.size, 0, none⟩ a0).setCell ⟨w.heap.size, 1, none⟩ a1).setCell ⟨w.heap.size, 2, none⟩ a2).setCell ⟨w.heap.size, 3, none⟩ a3).setCell ⟨w.heap.size, 4, none⟩ a4).setCell ⟨w.heap.size, 5, none⟩ a5).setCell ⟨w.heap.size, 6, none⟩ a6).setCell ⟨w.heap.size, 7, none⟩ a7).setCell ⟨w.heap.size, 8, none⟩ a8).setCell ⟨w.heap.size, 9, none⟩ a9) :=
  (((((((((h.setCell (Nat.le_refl _) _).setCell (Nat.le_refl _) _).setCell (Nat.le_refl _) _).setCell (Nat.le_refl _) _).setCell (Nat.le_refl _) _).setCell (Nat.le_refl _) _).setCell (Nat.le_refl _) _).setCell (Nat.le_refl _) _).setCell (Nat.le_refl _) _).setCell (Nat.le_refl _) _
theorem PL.start {w w4 : World} {A : Nat} {L : List Bs} (hb : Below (((w.alloc (.cells ov0.pc 29 (0, 0))).alloc (.cells ov1.pc 29 (0, 0))).alloc (.map #[] 0)).heap.size (((w.alloc (.cells ov0.pc 29 (0, 0))).alloc (.cells ov1.pc 29 (0, 0))).alloc (.map #[] 0)) w4) (hA : (((w.alloc (.cells ov0.pc 29 (0, 0))).alloc (.cells ov1.pc 29 (0, 0))).alloc (.map #[] 0)).heap.size ≤ A) (hA2 : A < w4.heap.size) (htc : TC w4 A L) : PL w w4 (w.heap.size + 1) (w.heap.size + 1 + 1) A L ov1 [] := by
  have e1 : (w.alloc (.cells ov0.pc 29 (0, 0))).heap.size = w.heap.size + 1 := by simp
  have e2 : ((w.alloc (.cells ov0.pc 29 (0, 0))).alloc (.cells ov1.pc 29 (0, 0))).heap.size = w.heap.size + 1 + 1 := by simp
  have e3 : (((w.alloc (.cells ov0.pc 29 (0, 0))).alloc (.cells ov1.pc 29 (0, 0))).alloc (.map #[] 0)).heap.size = w.heap.size + 1 + 1 + 1 := by simp
  have h0 := heap_alloc_of (heap_alloc_of (blk_new w (.cells ov0.pc 29 (0, 0))) (.cells ov1.pc 29 (0, 0))) (.map #[] 0)
  have h1 := heap_alloc_of (blk_new (w.alloc (.cells ov0.pc 29 (0, 0))) (.cells ov1.pc 29 (0, 0))) (.map #[] 0)
  have h2 := World.ownsMap_made ((w.alloc (.cells ov0.pc 29 (0, 0))).alloc (.cells ov1.pc 29 (0, 0))) Tryz.prog 9 hR
  rw [e1] at h1
  rw [e2] at h2
  rw [e3] at hA
  refine ⟨below_step (below_alloc (below_alloc (below_alloc (Below.refl _ _) _) _) _) hb, (hb.block _ (by rw [e3]; omega)).trans h1, (hb.block _ (by rw [e3]; omega)).trans h0, htc, own_map_step h2 hb.size (hb.block _ (by rw [e3]; omega)), by omega, by omega, by omega, hA2⟩
section
variable {w0 wr w1 : World} {g mb A : Nat} {L : List Bs} {o : Ov} {M : List Bs}
theorem PL.call (h : PL w0 wr g mb A L o M) (hb : Below wr.heap.size wr w1) : PL w0 w1 g mb A L o M :=
  ⟨below_step h.below hb, (hb.block g (blk_lt h.ob)).trans h.ob, (hb.block _ (blk_lt h.rb)).trans h.rb, h.tc.below h.sA hb, own_map_step h.mp hb.size (hb.block mb h.mp.lt), h.lg, h.lm, h.lA, Nat.lt_of_lt_of_le h.sA hb.size⟩
theorem PL.set (h : PL w0 wr g mb A L o M) {p : Ov} (hf : FrG g wr w1) (ho : OB w1 g p) : PL w0 w1 g mb A L p M := by
  have h1 := h.lg
  have h2 := h.lm
  have h3 := h.lA
  have h4 := h.sA
  exact ⟨FrG.below h.below h.below.size hf (by omega), ho, (hf.block _ (by omega) (by omega)).trans h.rb, fun j hj => (fr_cell hf h4 (by omega)).trans (h.tc j hj), own_map_step h.mp hf.size (hf.block mb (by omega) (by omega)), h1, h2, h3, Nat.lt_of_lt_of_le h4 hf.size⟩
theorem PL.put (h : PL w0 wr g mb A L o M) {k : Bs} (hm : w1.ownsMap Tryz.prog 9 hR mb (M.length + 1) ((DM M).put (.string k) (.held (.bool true)))) (hg : wr.grownBy w1 (some mb)) : PL w0 w1 g mb A L o (M ++ [k]) := by
  have h1 := h.lg
  have h2 := h.lm
  have h3 := h.lA
  have h4 := h.sA
  have hs := hg.size
  have ne : ∀ q, q ≠ mb → q < wr.heap.size → w1.heap[q]? = wr.heap[q]? := fun q hq hl => hg.block q hl (by intro e; exact hq (by injection e))
  refine ⟨below_grown h.below hg h.below.size (by omega), (ne g (by omega) (by omega)).trans h.ob, (ne _ (by omega) (by omega)).trans h.rb, fun j hj => ?_, ?_, h1, h2, h3, by omega⟩
  · rw [← h.tc j hj]
    simp only [World.cell?, ne A (by omega) h4]
  · rw [DM_snoc, List.length_append]
    exact hm
end

/-- What Parse returns. -/
def PQp (R : Ov × Int × Int) (w : World) (e : Ending) (w' : World) : Prop := e = .returned (.tuple #[.agg R.1.pc, .int .i64 R.2.1, .int .i64 R.2.2]) ∧ Below w.heap.size w w'
theorem cutE_len : ∀ (l : Bs) (x : Bs × Bs), cutE l = some x → x.1.length + x.2.length + 1 = l.length
  | [], x, h => by cases h
  | c :: l, x, h => by
    unfold cutE at h
    split at h
    · cases h; simp
    · cases hq : cutE l with
      | none => rw [hq] at h; cases h
      | some y =>
        rw [hq] at h
        cases h
        have := cutE_len l y hq
        simp; omega
theorem wordsF_len : ∀ (l w : Bs), ∀ x ∈ wordsF l w, x.length ≤ l.length + w.length
  | [], w, x, h => by
    unfold wordsF at h
    split at h
    · cases h
    · rw [List.mem_singleton.1 h]; simp
  | c :: l, w, x, h => by
    unfold wordsF at h
    split at h
    · split at h
      · have := wordsF_len l [] x h; simp at this ⊢ <;> omega
      · rcases List.mem_cons.1 h with rfl | h
        · rw [List.length_cons]; omega
        · have := wordsF_len l [] x h; simp at this ⊢ <;> omega
    · have := wordsF_len l _ x h; simp at this ⊢ <;> omega
theorem wordsF_num : ∀ (l w : Bs), (wordsF l w).length ≤ l.length + 1
  | [], w => by unfold wordsF; split <;> simp
  | c :: l, w => by
    unfold wordsF
    split
    · split
      · have := wordsF_num l []; simp at this ⊢ <;> omega
      · have := wordsF_num l []; simp at this ⊢ <;> omega
    · have := wordsF_num l (w ++ [c]); simp at this ⊢ <;> omega
theorem kStr : Maps.Keyed Tryz.prog 9 := Maps.string_keyed Tryz.underlying9
theorem zeroB4 (w : World) : (zeroValue 4).run Tryz.prog w = .ok (.bool false) w := by kernel_rfl
set_option maxHeartbeats 16000000 in
set_option maxRecDepth 100000 in
theorem parseW (s : ByteArray) (hs : s.size ≤ 10000000) (w : World) (hE : Env w) : Calls Tryz.prog 7 #[.string s] w (PQp (parseL s.data.toList) w) := by
  have hmm := @run_makeMap Tryz.prog
  have hl : s.data.toList.length = s.size := by simp
  obtain ⟨R, hR⟩ : ∃ R, parseL s.data.toList = R := ⟨_, rfl⟩
  have HSZ := Aside0.mk (show ∀ p ∈ wordsF s.data.toList [], (⟨p.toArray⟩ : ByteArray).size ≤ 10000000 from fun p hp => by
    have := wordsF_len s.data.toList [] p hp
    show p.toArray.size ≤ 10000000
    rw [List.size_toArray]; rw [hl] at this; have h0 : ([] : Bs).length = 0 := rfl; omega)
  have hnum : (wordsF s.data.toList []).length ≤ 10000001 := by have := wordsF_num s.data.toList []; omega
  rw [hR]
  have HR := Aside0.mk (show runL (wordsF s.data.toList []) 0 ov1 [] = R from hR)
  have HF := Aside0.mk (fun w1 => fieldsW s hs w1)
  generalize wordsF s.data.toList [] = L at HSZ hnum HR HF
  have HE := Aside0.mk hE
  clear hE hR hl
  go_enter Tryz.func7, Tryz.ntmps7
  go_upto_region 3 with fail
  go_upto_region 4 with (go_at_call 19; ((with_reducible refine (HF.out _).mono ?_); rintro e w4 ⟨A, rfl, hA, hA2, htc, hb4⟩; have HP := Aside0.mk (PL.start hb4 hA hA2 htc); clear hA hA2 htc hb4))
  go_loopg [7, 8, 9, 10, 11, 17] L.length (fun kx s7 s8 s9 s10 s11 s17 wr => ∃ (i : Nat) (o : Ov) (M : List Bs), s17 = .int .i64 i ∧ i ≤ L.length ∧ L.length - i ≤ kx ∧ Aside0 (PL w wr (w.heap.size + 1) (w.heap.size + 1 + 1) A L o M) ∧ Aside0 (runL (L.drop i) i o M = R ∧ M.length ≤ i))
  case atStart => exact ⟨0, ov1, [], rfl, Nat.zero_le _, by omega, HP, Aside0.mk ⟨HR.out, Nat.le_refl _⟩⟩
  case round =>
    obtain ⟨i, o, M, rfl, hil, hg, HJ, HI⟩ := hrel
    by_cases hlt : i < L.length
    · have f0 : wr.cell? ⟨A, i, none⟩ = some (.string ⟨L[i].toArray⟩) := HJ.out.tc i hlt
      have HD := Aside0.mk (show L.drop i = L[i] :: L.drop (i + 1) from List.drop_eq_getElem_cons hlt)
      have hsz := HSZ.out L[i] (List.getElem_mem hlt)
      have HC := Aside0.mk (cutW ⟨L[i].toArray⟩ hsz wr (HE.out.below HJ.out.below))
      rw [bt_data] at HC
      have i1 : (i : Int) < (L.length : Int) := by omega
      have i2 : (0 : Int) ≤ (i : Int) := by omega
      have hyl : L[i].length ≤ 10000000 := by have h9 : L[i].toArray.size ≤ 10000000 := hsz; rwa [List.size_toArray] at h9
      clear hsz
      generalize L[i] = y at f0 HD HC hyl
      have HRU := Aside0.mk (HI.out.1)
      rw [HD.out] at HRU
      cases hc : cutE y with
      | none =>
        obtain rfl : R = (ov0, (i : Int), 14) := by rw [← HRU.out]; unfold runL; rw [hc]
        rw [hc] at HC
        clear hc HRU HI HR
        go_upto_region 7 with (go_at_call 21; ((with_reducible refine HC.out.mono ?_); rintro e w5 ⟨⟨a, b, rfl, _⟩, hb5⟩; have HJ5 := Aside0.mk (HJ.out.call hb5); clear hb5))
        have HBF := Aside0.mk HJ5.out.below
        have z0 : w5.cell? ⟨w.heap.size, 0, none⟩ = some (.int .i64 0) := blk_cell HJ5.out.rb 0
        have y0 : w5.frozen? ⟨w.heap.size, 0, none⟩ = false := blk_frozen HJ5.out.rb 0
        have z1 : w5.cell? ⟨w.heap.size, 1, none⟩ = some (.bool false) := blk_cell HJ5.out.rb 1
        have y1 : w5.frozen? ⟨w.heap.size, 1, none⟩ = false := blk_frozen HJ5.out.rb 1
        have z2 : w5.cell? ⟨w.heap.size, 2, none⟩ = some (.bool false) := blk_cell HJ5.out.rb 2
        have y2 : w5.frozen? ⟨w.heap.size, 2, none⟩ = false := blk_frozen HJ5.out.rb 2
        have z3 : w5.cell? ⟨w.heap.size, 3, none⟩ = some (.bool false) := blk_cell HJ5.out.rb 3
        have y3 : w5.frozen? ⟨w.heap.size, 3, none⟩ = false := blk_frozen HJ5.out.rb 3
        have z4 : w5.cell? ⟨w.heap.size, 4, none⟩ = some (.int .i64 0) := blk_cell HJ5.out.rb 4
        have y4 : w5.frozen? ⟨w.heap.size, 4, none⟩ = false := blk_frozen HJ5.out.rb 4
        have z5 : w5.cell? ⟨w.heap.size, 5, none⟩ = some (.int .i64 0) := blk_cell HJ5.out.rb 5
        have y5 : w5.frozen? ⟨w.heap.size, 5, none⟩ = false := blk_frozen HJ5.out.rb 5
        have z6 : w5.cell? ⟨w.heap.size, 6, none⟩ = some (.int .i64 0) := blk_cell HJ5.out.rb 6
        have y6 : w5.frozen? ⟨w.heap.size, 6, none⟩ = false := blk_frozen HJ5.out.rb 6
        have z7 : w5.cell? ⟨w.heap.size, 7, none⟩ = some (.int .i64 0) := blk_cell HJ5.out.rb 7
        have y7 : w5.frozen? ⟨w.heap.size, 7, none⟩ = false := blk_frozen HJ5.out.rb 7
        have z8 : w5.cell? ⟨w.heap.size, 8, none⟩ = some (.bool false) := blk_cell HJ5.out.rb 8
        have y8 : w5.frozen? ⟨w.heap.size, 8, none⟩ = false := blk_frozen HJ5.out.rb 8
        have z9 : w5.cell? ⟨w.heap.size, 9, none⟩ = some (.int .i64 0) := blk_cell HJ5.out.rb 9
        have y9 : w5.frozen? ⟨w.heap.size, 9, none⟩ = false := blk_frozen HJ5.out.rb 9
        go_wp2_with fail
        exact bodyPost_ret (v := .tuple #[.agg ov0.pc, .int .i64 (i : Int), .int .i64 14]) (by simp [results, Tryz.results7, go_sem, z0, z1, z2, z3, z4, z5, z6, z7, z8, z9]; rfl) rfl ⟨rfl, below_sets10 HBF.out⟩
      | some x =>
        obtain ⟨ka, vb⟩ := x
        have hlen := cutE_len y _ hc
        rw [hc] at HC
        have HRV := Aside0.mk (show (match setL o ka vb with
          | none => (ov0, (i : Int), 14)
          | some p => if ka ∈ M then (ov0, (i : Int), 8) else if goodL p = true then runL (L.drop (i + 1)) ((i : Int) + 1) p (M ++ [ka]) else (ov0, (i : Int), 2)) = R from by rw [← HRU.out]; conv => { rhs; unfold runL }; rw [hc]; rfl)
        clear hc HRU
        go_upto_region 7 with (go_at_call 21; ((with_reducible refine HC.out.mono ?_); rintro e w5 ⟨⟨a, b, rfl, hab⟩, hb5⟩; have HJ5 := Aside0.mk (HJ.out.call hb5); clear hb5))
        obtain ⟨ea, eb⟩ := hab _ rfl
        have hbs : b.size ≤ 10000000 := by
          have : b.data.toList.length = b.size := by simp
          rw [eb] at this
          simp only at hlen this
          omega
        have has : a.size ≤ maxLen := by
          have : a.data.toList.length = a.size := by simp
          rw [ea] at this
          simp only at hlen this
          unfold maxLen
          omega
        have HA := Aside0.mk (applyW (w.heap.size + 1) o a b hbs w5 HJ5.out.ob (HE.out.below HJ5.out.below))
        rw [ea, eb] at HA
        have HKY := Aside0.mk (show keyOf Tryz.prog 9 (.string a) = some (.string ka) from by rw [WideMaps.keyOf_string_mk Tryz.underlying9 has, ea])
        clear hab ea eb hbs has hlen hyl
        simp only at HA HKY
        cases hst : setL o ka vb with
        | none =>
          obtain rfl : R = (ov0, (i : Int), 14) := by rw [← HRV.out, hst]
          rw [hst] at HA
          clear hst HRV HI HR
          go_upto_if 28 with (go_at_call 22; ((with_reducible refine HA.out.mono ?_); rintro e w6 ⟨o', rfl, ho, _, hf⟩; have HJ6 := Aside0.mk (HJ5.out.set hf ho); clear ho hf))
          have HBF := Aside0.mk HJ6.out.below
          have z0 : w6.cell? ⟨w.heap.size, 0, none⟩ = some (.int .i64 0) := blk_cell HJ6.out.rb 0
          have y0 : w6.frozen? ⟨w.heap.size, 0, none⟩ = false := blk_frozen HJ6.out.rb 0
          have z1 : w6.cell? ⟨w.heap.size, 1, none⟩ = some (.bool false) := blk_cell HJ6.out.rb 1
          have y1 : w6.frozen? ⟨w.heap.size, 1, none⟩ = false := blk_frozen HJ6.out.rb 1
          have z2 : w6.cell? ⟨w.heap.size, 2, none⟩ = some (.bool false) := blk_cell HJ6.out.rb 2
          have y2 : w6.frozen? ⟨w.heap.size, 2, none⟩ = false := blk_frozen HJ6.out.rb 2
          have z3 : w6.cell? ⟨w.heap.size, 3, none⟩ = some (.bool false) := blk_cell HJ6.out.rb 3
          have y3 : w6.frozen? ⟨w.heap.size, 3, none⟩ = false := blk_frozen HJ6.out.rb 3
          have z4 : w6.cell? ⟨w.heap.size, 4, none⟩ = some (.int .i64 0) := blk_cell HJ6.out.rb 4
          have y4 : w6.frozen? ⟨w.heap.size, 4, none⟩ = false := blk_frozen HJ6.out.rb 4
          have z5 : w6.cell? ⟨w.heap.size, 5, none⟩ = some (.int .i64 0) := blk_cell HJ6.out.rb 5
          have y5 : w6.frozen? ⟨w.heap.size, 5, none⟩ = false := blk_frozen HJ6.out.rb 5
          have z6 : w6.cell? ⟨w.heap.size, 6, none⟩ = some (.int .i64 0) := blk_cell HJ6.out.rb 6
          have y6 : w6.frozen? ⟨w.heap.size, 6, none⟩ = false := blk_frozen HJ6.out.rb 6
          have z7 : w6.cell? ⟨w.heap.size, 7, none⟩ = some (.int .i64 0) := blk_cell HJ6.out.rb 7
          have y7 : w6.frozen? ⟨w.heap.size, 7, none⟩ = false := blk_frozen HJ6.out.rb 7
          have z8 : w6.cell? ⟨w.heap.size, 8, none⟩ = some (.bool false) := blk_cell HJ6.out.rb 8
          have y8 : w6.frozen? ⟨w.heap.size, 8, none⟩ = false := blk_frozen HJ6.out.rb 8
          have z9 : w6.cell? ⟨w.heap.size, 9, none⟩ = some (.int .i64 0) := blk_cell HJ6.out.rb 9
          have y9 : w6.frozen? ⟨w.heap.size, 9, none⟩ = false := blk_frozen HJ6.out.rb 9
          go_wp2_with fail
          exact bodyPost_ret (v := .tuple #[.agg ov0.pc, .int .i64 (i : Int), .int .i64 14]) (by simp [results, Tryz.results7, go_sem, z0, z1, z2, z3, z4, z5, z6, z7, z8, z9]; rfl) rfl ⟨rfl, below_sets10 HBF.out⟩
        | some p =>
          rw [hst] at HA HRV
          clear hst
          simp only at HRV
          go_upto_if 28 with (go_at_call 22; ((with_reducible refine HA.out.mono ?_); rintro e w6 ⟨o', rfl, ho, hop, hf⟩; obtain rfl := hop p rfl; have HJ6 := Aside0.mk (HJ5.out.set hf ho); clear ho hf hop))
          have HDA := Aside0.mk (DM_at ka M.length M rfl)
          by_cases hm : ka ∈ M
          · rw [decide_eq_true hm] at HDA
            obtain rfl : R = (ov0, (i : Int), 8) := by rw [← HRV.out, if_pos hm]
            have HBF := Aside0.mk HJ6.out.below
            clear hm HRV HI HR
            have z0 : w6.cell? ⟨w.heap.size, 0, none⟩ = some (.int .i64 0) := blk_cell HJ6.out.rb 0
            have y0 : w6.frozen? ⟨w.heap.size, 0, none⟩ = false := blk_frozen HJ6.out.rb 0
            have z1 : w6.cell? ⟨w.heap.size, 1, none⟩ = some (.bool false) := blk_cell HJ6.out.rb 1
            have y1 : w6.frozen? ⟨w.heap.size, 1, none⟩ = false := blk_frozen HJ6.out.rb 1
            have z2 : w6.cell? ⟨w.heap.size, 2, none⟩ = some (.bool false) := blk_cell HJ6.out.rb 2
            have y2 : w6.frozen? ⟨w.heap.size, 2, none⟩ = false := blk_frozen HJ6.out.rb 2
            have z3 : w6.cell? ⟨w.heap.size, 3, none⟩ = some (.bool false) := blk_cell HJ6.out.rb 3
            have y3 : w6.frozen? ⟨w.heap.size, 3, none⟩ = false := blk_frozen HJ6.out.rb 3
            have z4 : w6.cell? ⟨w.heap.size, 4, none⟩ = some (.int .i64 0) := blk_cell HJ6.out.rb 4
            have y4 : w6.frozen? ⟨w.heap.size, 4, none⟩ = false := blk_frozen HJ6.out.rb 4
            have z5 : w6.cell? ⟨w.heap.size, 5, none⟩ = some (.int .i64 0) := blk_cell HJ6.out.rb 5
            have y5 : w6.frozen? ⟨w.heap.size, 5, none⟩ = false := blk_frozen HJ6.out.rb 5
            have z6 : w6.cell? ⟨w.heap.size, 6, none⟩ = some (.int .i64 0) := blk_cell HJ6.out.rb 6
            have y6 : w6.frozen? ⟨w.heap.size, 6, none⟩ = false := blk_frozen HJ6.out.rb 6
            have z7 : w6.cell? ⟨w.heap.size, 7, none⟩ = some (.int .i64 0) := blk_cell HJ6.out.rb 7
            have y7 : w6.frozen? ⟨w.heap.size, 7, none⟩ = false := blk_frozen HJ6.out.rb 7
            have z8 : w6.cell? ⟨w.heap.size, 8, none⟩ = some (.bool false) := blk_cell HJ6.out.rb 8
            have y8 : w6.frozen? ⟨w.heap.size, 8, none⟩ = false := blk_frozen HJ6.out.rb 8
            have z9 : w6.cell? ⟨w.heap.size, 9, none⟩ = some (.int .i64 0) := blk_cell HJ6.out.rb 9
            have y9 : w6.frozen? ⟨w.heap.size, 9, none⟩ = false := blk_frozen HJ6.out.rb 9
            go_wp2_with (with_reducible refine wpList_get_held _ rfl (.tmp 40) (.tmp 41) 53 rfl 9 4 kStr Tryz.underlying53 (zeroB4 _) (w.heap.size + 1 + 1) M.length (DM M) rfl HJ6.out.mp (.string a) (.string ka) rfl HKY.out (.bool true) HDA.out ?_)
            exact bodyPost_ret (v := .tuple #[.agg ov0.pc, .int .i64 (i : Int), .int .i64 8]) (by simp [results, Tryz.results7, go_sem, z0, z1, z2, z3, z4, z5, z6, z7, z8, z9]; rfl) rfl ⟨rfl, below_sets10 HBF.out⟩
          · rw [decide_eq_false hm] at HDA
            have HRG := Aside0.mk (show (if goodL o' = true then runL (L.drop (i + 1)) ((i : Int) + 1) o' (M ++ [ka]) else (ov0, (i : Int), 2)) = R from by rw [← HRV.out, if_neg hm])
            clear hm HRV HR
            have HK := Aside0.mk (checkW o' w6)
            have ho6 : w6.heap[w.heap.size + 1]? = some (.cells o'.pc 29 (0, 0)) := HJ6.out.ob
            have x0 : w6.cell? ⟨w.heap.size + 1, 0, none⟩ = some (.int .i64 o'.rule) := blk_cell ho6 0
            have x1 : w6.cell? ⟨w.heap.size + 1, 1, none⟩ = some (.bool o'.la) := blk_cell ho6 1
            have x2 : w6.cell? ⟨w.heap.size + 1, 2, none⟩ = some (.bool o'.ph) := blk_cell ho6 2
            have x3 : w6.cell? ⟨w.heap.size + 1, 3, none⟩ = some (.bool o'.gr) := blk_cell ho6 3
            have x4 : w6.cell? ⟨w.heap.size + 1, 4, none⟩ = some (.int .i64 o'.kind) := blk_cell ho6 4
            have x5 : w6.cell? ⟨w.heap.size + 1, 5, none⟩ = some (.int .i64 o'.unit) := blk_cell ho6 5
            have x6 : w6.cell? ⟨w.heap.size + 1, 6, none⟩ = some (.int .i64 o'.num) := blk_cell ho6 6
            have x7 : w6.cell? ⟨w.heap.size + 1, 7, none⟩ = some (.int .i64 o'.den) := blk_cell ho6 7
            have x8 : w6.cell? ⟨w.heap.size + 1, 8, none⟩ = some (.bool o'.ng) := blk_cell ho6 8
            have x9 : w6.cell? ⟨w.heap.size + 1, 9, none⟩ = some (.int .i64 o'.steps) := blk_cell ho6 9
            clear ho6
            unfold Ov.pc at HK
            cases hgd : goodL o' with
            | false =>
              rw [hgd] at HK HRG
              simp only [Bool.false_eq_true, if_false] at HK HRG
              obtain rfl := HRG.out
              clear hgd HI
              go_upto_if 45 with (first
                | (with_reducible refine wpList_get_held _ rfl (.tmp 40) (.tmp 41) 53 rfl 9 4 kStr Tryz.underlying53 (zeroB4 _) (w.heap.size + 1 + 1) M.length (DM M) rfl HJ6.out.mp (.string a) (.string ka) rfl HKY.out (.bool false) HDA.out ?_)
                | (go_at_call 15; ((with_reducible refine HK.out.mono ?_); rintro e w7 ⟨rfl, hb7⟩; have HJ7 := Aside0.mk (HJ6.out.call hb7); clear hb7)))
              have HBF := Aside0.mk HJ7.out.below
              have z0 : w7.cell? ⟨w.heap.size, 0, none⟩ = some (.int .i64 0) := blk_cell HJ7.out.rb 0
              have y0 : w7.frozen? ⟨w.heap.size, 0, none⟩ = false := blk_frozen HJ7.out.rb 0
              have z1 : w7.cell? ⟨w.heap.size, 1, none⟩ = some (.bool false) := blk_cell HJ7.out.rb 1
              have y1 : w7.frozen? ⟨w.heap.size, 1, none⟩ = false := blk_frozen HJ7.out.rb 1
              have z2 : w7.cell? ⟨w.heap.size, 2, none⟩ = some (.bool false) := blk_cell HJ7.out.rb 2
              have y2 : w7.frozen? ⟨w.heap.size, 2, none⟩ = false := blk_frozen HJ7.out.rb 2
              have z3 : w7.cell? ⟨w.heap.size, 3, none⟩ = some (.bool false) := blk_cell HJ7.out.rb 3
              have y3 : w7.frozen? ⟨w.heap.size, 3, none⟩ = false := blk_frozen HJ7.out.rb 3
              have z4 : w7.cell? ⟨w.heap.size, 4, none⟩ = some (.int .i64 0) := blk_cell HJ7.out.rb 4
              have y4 : w7.frozen? ⟨w.heap.size, 4, none⟩ = false := blk_frozen HJ7.out.rb 4
              have z5 : w7.cell? ⟨w.heap.size, 5, none⟩ = some (.int .i64 0) := blk_cell HJ7.out.rb 5
              have y5 : w7.frozen? ⟨w.heap.size, 5, none⟩ = false := blk_frozen HJ7.out.rb 5
              have z6 : w7.cell? ⟨w.heap.size, 6, none⟩ = some (.int .i64 0) := blk_cell HJ7.out.rb 6
              have y6 : w7.frozen? ⟨w.heap.size, 6, none⟩ = false := blk_frozen HJ7.out.rb 6
              have z7 : w7.cell? ⟨w.heap.size, 7, none⟩ = some (.int .i64 0) := blk_cell HJ7.out.rb 7
              have y7 : w7.frozen? ⟨w.heap.size, 7, none⟩ = false := blk_frozen HJ7.out.rb 7
              have z8 : w7.cell? ⟨w.heap.size, 8, none⟩ = some (.bool false) := blk_cell HJ7.out.rb 8
              have y8 : w7.frozen? ⟨w.heap.size, 8, none⟩ = false := blk_frozen HJ7.out.rb 8
              have z9 : w7.cell? ⟨w.heap.size, 9, none⟩ = some (.int .i64 0) := blk_cell HJ7.out.rb 9
              have y9 : w7.frozen? ⟨w.heap.size, 9, none⟩ = false := blk_frozen HJ7.out.rb 9
              go_wp2_with fail
              exact bodyPost_ret (v := .tuple #[.agg ov0.pc, .int .i64 (i : Int), .int .i64 2]) (by simp [results, Tryz.results7, go_sem, z0, z1, z2, z3, z4, z5, z6, z7, z8, z9]; rfl) rfl ⟨rfl, below_sets10 HBF.out⟩
            | true =>
              rw [hgd] at HK HRG
              simp only [if_true] at HK HRG
              clear hgd
              go_wp2_with (first
                | (with_reducible refine wpList_get_held _ rfl (.tmp 40) (.tmp 41) 53 rfl 9 4 kStr Tryz.underlying53 (zeroB4 _) (w.heap.size + 1 + 1) M.length (DM M) rfl HJ6.out.mp (.string a) (.string ka) rfl HKY.out (.bool false) HDA.out ?_)
                | (go_at_call 15; ((with_reducible refine HK.out.mono ?_); rintro e w7 ⟨rfl, hb7⟩; have HJ7 := Aside0.mk (HJ6.out.call hb7); clear hb7))
                | ((with_reducible refine wpList_put_held _ rfl (.tmp 51) (.tmp 52) (.const (.bool true)) 53 (.inl rfl) 9 4 kStr Tryz.underlying53 (w.heap.size + 1 + 1) M.length (DM M) rfl HJ7.out.mp (by have := HI.out.2; unfold maxLen; omega) (.string a) (.bool true) (.string ka) rfl rfl HKY.out ?_); intro w8 hown8 hg8; have HJ8 := Aside0.mk (HJ7.out.put hown8 hg8); clear hown8 hg8))
              go_roundg (L.length - (i + 1))
              case measure => omega
              case rel => exact ⟨i + 1, o', M ++ [ka], rfl, by omega, Nat.le_refl _, HJ8, Aside0.mk ⟨HRG.out, by rw [List.length_append]; have := HI.out.2; simp; omega⟩⟩
    · have hi : i = L.length := by omega
      subst hi
      have hRR : R = (o, 0, 0) := by rw [← HI.out.1, List.drop_eq_nil_of_le (Nat.le_refl _)]; rfl
      subst hRR
      have ho6 : wr.heap[w.heap.size + 1]? = some (.cells o.pc 29 (0, 0)) := HJ.out.ob
      have x0 : wr.cell? ⟨w.heap.size + 1, 0, none⟩ = some (.int .i64 o.rule) := blk_cell ho6 0
      have x1 : wr.cell? ⟨w.heap.size + 1, 1, none⟩ = some (.bool o.la) := blk_cell ho6 1
      have x2 : wr.cell? ⟨w.heap.size + 1, 2, none⟩ = some (.bool o.ph) := blk_cell ho6 2
      have x3 : wr.cell? ⟨w.heap.size + 1, 3, none⟩ = some (.bool o.gr) := blk_cell ho6 3
      have x4 : wr.cell? ⟨w.heap.size + 1, 4, none⟩ = some (.int .i64 o.kind) := blk_cell ho6 4
      have x5 : wr.cell? ⟨w.heap.size + 1, 5, none⟩ = some (.int .i64 o.unit) := blk_cell ho6 5
      have x6 : wr.cell? ⟨w.heap.size + 1, 6, none⟩ = some (.int .i64 o.num) := blk_cell ho6 6
      have x7 : wr.cell? ⟨w.heap.size + 1, 7, none⟩ = some (.int .i64 o.den) := blk_cell ho6 7
      have x8 : wr.cell? ⟨w.heap.size + 1, 8, none⟩ = some (.bool o.ng) := blk_cell ho6 8
      have x9 : wr.cell? ⟨w.heap.size + 1, 9, none⟩ = some (.int .i64 o.steps) := blk_cell ho6 9
      clear ho6
      have HBF := Aside0.mk HJ.out.below
      have hrb := HJ.out.rb
      clear HI HR
      have z0 : wr.cell? ⟨w.heap.size, 0, none⟩ = some (.int .i64 0) := blk_cell hrb 0
      have y0 : wr.frozen? ⟨w.heap.size, 0, none⟩ = false := blk_frozen hrb 0
      have z1 : wr.cell? ⟨w.heap.size, 1, none⟩ = some (.bool false) := blk_cell hrb 1
      have y1 : wr.frozen? ⟨w.heap.size, 1, none⟩ = false := blk_frozen hrb 1
      have z2 : wr.cell? ⟨w.heap.size, 2, none⟩ = some (.bool false) := blk_cell hrb 2
      have y2 : wr.frozen? ⟨w.heap.size, 2, none⟩ = false := blk_frozen hrb 2
      have z3 : wr.cell? ⟨w.heap.size, 3, none⟩ = some (.bool false) := blk_cell hrb 3
      have y3 : wr.frozen? ⟨w.heap.size, 3, none⟩ = false := blk_frozen hrb 3
      have z4 : wr.cell? ⟨w.heap.size, 4, none⟩ = some (.int .i64 0) := blk_cell hrb 4
      have y4 : wr.frozen? ⟨w.heap.size, 4, none⟩ = false := blk_frozen hrb 4
      have z5 : wr.cell? ⟨w.heap.size, 5, none⟩ = some (.int .i64 0) := blk_cell hrb 5
      have y5 : wr.frozen? ⟨w.heap.size, 5, none⟩ = false := blk_frozen hrb 5
      have z6 : wr.cell? ⟨w.heap.size, 6, none⟩ = some (.int .i64 0) := blk_cell hrb 6
      have y6 : wr.frozen? ⟨w.heap.size, 6, none⟩ = false := blk_frozen hrb 6
      have z7 : wr.cell? ⟨w.heap.size, 7, none⟩ = some (.int .i64 0) := blk_cell hrb 7
      have y7 : wr.frozen? ⟨w.heap.size, 7, none⟩ = false := blk_frozen hrb 7
      have z8 : wr.cell? ⟨w.heap.size, 8, none⟩ = some (.bool false) := blk_cell hrb 8
      have y8 : wr.frozen? ⟨w.heap.size, 8, none⟩ = false := blk_frozen hrb 8
      have z9 : wr.cell? ⟨w.heap.size, 9, none⟩ = some (.int .i64 0) := blk_cell hrb 9
      have y9 : wr.frozen? ⟨w.heap.size, 9, none⟩ = false := blk_frozen hrb 9
      clear hrb
      go_wp2_with fail
      exact bodyPost_ret (v := .tuple #[.agg o.pc, .int .i64 0, .int .i64 0]) (by simp [results, Tryz.results7, go_sem, z0, z1, z2, z3, z4, z5, z6, z7, z8, z9]; rfl) rfl ⟨rfl, below_sets10 HBF.out⟩
end Go.Proofs.YtdnllmngaljflaaGreatDoorX.Ho
