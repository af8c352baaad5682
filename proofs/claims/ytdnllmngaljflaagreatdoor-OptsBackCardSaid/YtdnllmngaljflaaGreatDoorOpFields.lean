import Derived.Test.YtdnllmngaljflaaGreatDoorOpMap
namespace Go.Proofs.YtdnllmngaljflaaGreatDoorX.Ho
open Go.RowKit Go.Proofs.YtdnllmngaljflaaGreatDoorW.PrintWords Go.Proofs.YtdnllmngaljflaaGreatDoorW.PrintLast Go.Proofs.YtdnllmngaljflaaGreatDoorW.PrintMore
attribute [local go_sem] max2_int min2_int max_two min_two max_three min_three max_four min_four
set_option linter.unusedVariables false
set_option linter.unusedSimpArgs false
attribute [local go_sem] Go.Proofs.YtdnllmngaljflaaGreatDoor.Hook.cell_two
/-! ### The words of a text -/
def pB (x : Nat) : Bool := x == 32 || x == 9 || x == 10 || x == 13
theorem pB_bl (c : UInt8) : pB c.toNat = isBl c := by
  unfold pB isBl
  have k : ∀ n : UInt8, (c.toNat == n.toNat) = (c == n) := fun n => by
    rw [Bool.eq_iff_iff, beq_iff_eq, beq_iff_eq, UInt8.toNat_inj]
  have k1 := k 32
  have k2 := k 9
  have k3 := k 10
  have k4 := k 13
  rw [← k1, ← k2, ← k3, ← k4]
  rfl
theorem pB_big {x : Nat} (h : 128 ≤ x) : pB x = false := by
  unfold pB
  have h1 : (x == 32) = false := by rw [beq_eq_false_iff_ne]; omega
  have h2 : (x == 9) = false := by rw [beq_eq_false_iff_ne]; omega
  have h3 : (x == 10) = false := by rw [beq_eq_false_iff_ne]; omega
  have h4 : (x == 13) = false := by rw [beq_eq_false_iff_ne]; omega
  rw [h1, h2, h3, h4]; rfl
theorem dn_facts (n b0 b1 b2 b3 : Nat) : (b0 < 128 → Lib.decodeN n b0 b1 b2 b3 = (b0, 1)) ∧ (128 ≤ b0 → 128 ≤ (Lib.decodeN n b0 b1 b2 b3).1 ∧ ((Lib.decodeN n b0 b1 b2 b3).2 = 1 ∨ ((Lib.decodeN n b0 b1 b2 b3).2 = 2 ∧ 128 ≤ b1) ∨ ((Lib.decodeN n b0 b1 b2 b3).2 = 3 ∧ 128 ≤ b1 ∧ 128 ≤ b2) ∨ ((Lib.decodeN n b0 b1 b2 b3).2 = 4 ∧ 128 ≤ b1 ∧ 128 ≤ b2 ∧ 128 ≤ b3))) := by
  unfold Lib.decodeN
  constructor
  · intro h; rw [if_pos h]
  · intro h
    rw [if_neg (by omega)]
    repeat' split
    all_goals (constructor <;> simp <;> omega)
theorem get_at (s : ByteArray) (i : Nat) (h : i < s.data.toList.length) : s.get! i = s.data.toList[i] := by
  have h2 : i < s.data.size := by simpa using h
  unfold ByteArray.get!
  simp only [Array.getElem_toList]
  exact getElem!_pos s.data i h2
theorem not_bl {c : UInt8} (h : 128 ≤ c.toNat) : isBl c = false := by rw [← pB_bl]; exact pB_big h
theorem wordsF_app : ∀ (x l w : Bs), (∀ c ∈ x, isBl c = false) → wordsF (x ++ l) w = wordsF l (w ++ x)
  | [], l, w, _ => by rw [List.nil_append, List.append_nil]
  | c :: x, l, w, h => by
    rw [List.cons_append]
    conv => lhs; unfold wordsF
    rw [h c List.mem_cons_self, if_neg (by decide), wordsF_app x l _ (fun d hd => h d (List.mem_cons_of_mem _ hd)), List.append_assoc]
    rfl
/-- One rune's step over a text's bytes. -/
theorem rune_step (s : ByteArray) (pos : Nat) (hp : pos < s.size) : let k := (Utf8.decode s pos).2
    1 ≤ k ∧ pos + k ≤ s.size ∧ (pB (Utf8.decode s pos).1 = true → k = 1 ∧ ∃ c, isBl c = true ∧ s.data.toList.drop pos = c :: s.data.toList.drop (pos + 1)) ∧ (pB (Utf8.decode s pos).1 = false → ∀ w, wordsF (s.data.toList.drop pos) w = wordsF (s.data.toList.drop (pos + k)) (w ++ (s.data.toList.drop pos).take k)) := by
  have hl : s.data.toList.length = s.size := by simp
  have hle := Lib.decodeN_le_n' (s.size - pos) (s.get! pos).toNat (s.get! (pos + 1)).toNat (s.get! (pos + 2)).toNat (s.get! (pos + 3)).toNat (by omega)
  obtain ⟨f1, f2⟩ := dn_facts (s.size - pos) (s.get! pos).toNat (s.get! (pos + 1)).toNat (s.get! (pos + 2)).toNat (s.get! (pos + 3)).toNat
  rw [← Lib.decode_at] at hle f1 f2
  have hd : s.data.toList.drop pos = s.data.toList[pos] :: s.data.toList.drop (pos + 1) := List.drop_eq_getElem_cons (by omega)
  have g0 := get_at s pos (by omega)
  intro k
  by_cases hb : (s.get! pos).toNat < 128
  · have e := f1 hb
    have ek : k = 1 := by show (Utf8.decode s pos).2 = 1; rw [e]
    have e1 : (Utf8.decode s pos).1 = (s.get! pos).toNat := by rw [e]
    rw [e1, g0, pB_bl]
    refine ⟨by omega, by omega, fun h => ⟨ek, _, h, hd⟩, fun h w => ?_⟩
    rw [ek, hd]
    conv => lhs; unfold wordsF
    rw [h, if_neg (by decide)]
    rfl
  · obtain ⟨q1, q2⟩ := f2 (by omega)
    rw [pB_big q1]
    have hk1 : 1 ≤ k := by show 1 ≤ (Utf8.decode s pos).2; omega
    refine ⟨hk1, by show pos + (Utf8.decode s pos).2 ≤ s.size; omega, fun h => by (cases h), fun _ w => ?_⟩
    have hsplit : s.data.toList.drop pos = (s.data.toList.drop pos).take k ++ s.data.toList.drop (pos + k) := by
      rw [← List.drop_drop]; exact (List.take_append_drop k _).symm
    conv => lhs; rw [hsplit]
    refine wordsF_app _ _ _ (fun c hc => not_bl ?_)
    obtain ⟨j, hj, rfl⟩ := List.getElem_of_mem hc
    have hjk : j < k := by rw [List.length_take] at hj; omega
    have hlen : k ≤ s.size - pos := by show (Utf8.decode s pos).2 ≤ _; exact hle
    rw [List.getElem_take, List.getElem_drop]
    have gj := get_at s (pos + j) (by omega)
    rw [← gj]
    have hk4 : k = 1 ∨ (k = 2 ∧ 128 ≤ (s.get! (pos + 1)).toNat) ∨ (k = 3 ∧ 128 ≤ (s.get! (pos + 1)).toNat ∧ 128 ≤ (s.get! (pos + 2)).toNat) ∨ (k = 4 ∧ 128 ≤ (s.get! (pos + 1)).toNat ∧ 128 ≤ (s.get! (pos + 2)).toNat ∧ 128 ≤ (s.get! (pos + 3)).toNat) := q2
    match j, hjk with
    | 0, _ => rw [Nat.add_zero]; omega
    | 1, _ => rcases hk4 with h | h | h | h <;> omega
    | 2, _ => rcases hk4 with h | h | h | h <;> omega
    | 3, _ => rcases hk4 with h | h | h | h <;> omega
    | j + 4, h4 => rcases hk4 with h | h | h | h <;> omega
theorem spans_w (s : ByteArray) : ∀ (f pos : Nat) (st : Option Nat) (acc : List (Nat × Nat)), s.size ≤ pos + f → pos ≤ s.size → (∀ a, st = some a → a < pos) →
    acc.map (fun p => Lib.pieceU s.data.toList p.1 p.2) ++ wordsF (s.data.toList.drop pos) (Lib.openPiece s.data.toList st pos) = (Lib.closeSpans s (Lib.spansFromP pB s f pos st acc)).map (fun p => Lib.pieceU s.data.toList p.1 p.2)
  | 0, pos, st, acc, h, hp, hst => by
    obtain rfl : pos = s.size := by omega
    have hl : s.data.toList.length = s.size := by simp
    rw [List.drop_eq_nil_of_le (by omega)]
    cases st with
    | none => simp [Lib.spansFromP, Lib.closeSpans, Lib.openPiece, wordsF]
    | some a =>
      have := Lib.pieceU_ne s.data.toList a s.size (hst a rfl) (by omega)
      simp [Lib.spansFromP, Lib.closeSpans, Lib.openPiece, wordsF, this]
  | f + 1, pos, st, acc, h, hp, hst => by
    have hl : s.data.toList.length = s.size := by simp
    by_cases hlt : pos < s.size
    · obtain ⟨k1, k2, k3, k4⟩ := rune_step s pos hlt
      simp only [Lib.spansFromP, if_pos hlt]
      cases hsp : pB (Utf8.decode s pos).1 with
      | true =>
        obtain ⟨ek, c, hc, hd⟩ := k3 hsp
        simp only [if_true]
        rw [hd]
        conv => lhs; unfold wordsF
        rw [hc, if_pos rfl, ek]
        cases st with
        | none =>
          have ih := spans_w s f (pos + 1) none acc (by omega) (by omega) (fun a h => by cases h)
          simpa [Lib.openPiece] using ih
        | some a =>
          have hpn := Lib.pieceU_ne s.data.toList a pos (hst a rfl) (by omega)
          have ih := spans_w s f (pos + 1) none (acc ++ [(a, pos)]) (by omega) (by omega) (fun a h => by cases h)
          simpa [Lib.openPiece, hpn] using ih
      | false =>
        rw [k4 hsp]
        simp only [Bool.false_eq_true, if_false]
        cases st with
        | none =>
          have ih := spans_w s f (pos + (Utf8.decode s pos).2) (some pos) acc (by omega) k2 (fun a h => by cases h; omega)
          have e : ([] : Bs) ++ (s.data.toList.drop pos).take (Utf8.decode s pos).2 = Lib.pieceU s.data.toList pos (pos + (Utf8.decode s pos).2) := by
            unfold Lib.pieceU
            rw [List.nil_append, Nat.add_sub_cancel_left]
          simp only [Lib.openPiece] at ih ⊢
          rw [e]
          exact ih
        | some a =>
          have ih := spans_w s f (pos + (Utf8.decode s pos).2) (some a) acc (by omega) k2 (fun b h => by cases h; have := hst a rfl; omega)
          simp only [Lib.openPiece] at ih ⊢
          rw [Lib.pieceU_grow _ _ _ _ (Nat.le_of_lt (hst a rfl))]
          exact ih
    · obtain rfl : pos = s.size := by omega
      rw [List.drop_eq_nil_of_le (by omega), Lib.spansFromP_end pB s _ _ _ _ hlt]
      cases st with
      | none => simp [Lib.closeSpans, Lib.openPiece, wordsF]
      | some a =>
        have := Lib.pieceU_ne s.data.toList a s.size (hst a rfl) (by omega)
        simp [Lib.closeSpans, Lib.openPiece, wordsF, this]
theorem fields_w (s : ByteArray) : (Lib.goFieldsP pB s).map (·.data.toList) = wordsF s.data.toList [] := by
  have h := spans_w s s.size 0 none [] (by omega) (Nat.zero_le _) (fun a h => by cases h)
  rw [List.drop_zero, List.map_nil, List.nil_append] at h
  unfold Lib.goFieldsP Lib.spansOfP
  rw [List.map_map]
  refine Eq.trans ?_ h.symm
  refine List.map_congr_left (fun p _ => ?_)
  show (s.extract p.1 p.2).data.toList = Lib.pieceU s.data.toList p.1 p.2
  unfold Lib.pieceU
  rw [ByteArray.data_extract, Array.toList_extract, List.extract_eq_take_drop]
theorem blank_ret (x : Nat) : Ending.returned (.bool ((x : Int) == 32 || (x : Int) == 9 || (x : Int) == 10 || (x : Int) == 13)) = .returned (.bool (pB x)) := by
  unfold pB
  have k : ∀ n : Nat, ((x : Int) == (n : Int)) = (x == n) := fun n => by rw [Bool.eq_iff_iff]; simp; omega
  rw [← k 32, ← k 9, ← k 10, ← k 13]
  rfl
theorem blankW (x : Nat) (hx : x ≤ 1114111) (w : World) : Calls Tryz.prog 20 #[.int .i32 (x : Int)] w fun e w' => e = .returned (.bool (pB x)) ∧ w = w' := by
  by_cases h1 : x = 32
  · subst h1
    go_enter Tryz.func20, Tryz.ntmps20
    go_wp2
    go_ret
    exact ⟨rfl, rfl⟩
  · by_cases h2 : x = 9
    · subst h2
      go_enter Tryz.func20, Tryz.ntmps20
      go_wp2
      go_ret
      exact ⟨rfl, rfl⟩
    · by_cases h3 : x = 10
      · subst h3
        go_enter Tryz.func20, Tryz.ntmps20
        go_wp2
        go_ret
        exact ⟨rfl, rfl⟩
      · obtain ⟨q, hq⟩ : ∃ q, pB x = q := ⟨_, rfl⟩
        rw [hq]
        have e1 : ((x : Int) == 32) = false := by rw [beq_eq_false_iff_ne]; omega
        have e2 : ((x : Int) == 9) = false := by rw [beq_eq_false_iff_ne]; omega
        have e3 : ((x : Int) == 10) = false := by rw [beq_eq_false_iff_ne]; omega
        have HQ := Aside0.mk (show ((x : Int) == 13) = q from by
          rw [← hq]
          unfold pB
          have f1 : (x == 32) = false := by rw [beq_eq_false_iff_ne]; exact h1
          have f2 : (x == 9) = false := by rw [beq_eq_false_iff_ne]; exact h2
          have f3 : (x == 10) = false := by rw [beq_eq_false_iff_ne]; exact h3
          rw [f1, f2, f3, Bool.eq_iff_iff]
          simp
          omega)
        clear hq h1 h2 h3
        go_enter Tryz.func20, Tryz.ntmps20
        go_wp2
        go_ret
        exact ⟨by rw [← HQ.out]; rfl, rfl⟩
/-- strings.FieldsFunc at blanks. -/
def FdQ (L : List Bs) (w : World) (e : Ending) (w' : World) : Prop := ∃ A, e = .returned (.slice (some ⟨A, 0, none⟩) L.length L.length) ∧ w.heap.size ≤ A ∧ A < w'.heap.size ∧ TC w' A L ∧ Below w.heap.size w w'
theorem fieldsW (s : ByteArray) (hs : s.size ≤ 10000000) (w : World) : Calls Tryz.prog 19 #[.string s, .func (.func 20) #[] #[]] w (FdQ (wordsF s.data.toList []) w) := by
  refine (Tryz.strings_FieldsFunc_runes 20 #[] (fun args w => enters_of Tryz.func20 (by kernel_rfl) rfl args w) pB s w (by omega) (fun W x hx _ => ?_)).mono ?_
  · refine (blankW x hx W).mono ?_
    rintro e w' ⟨rfl, rfl⟩
    exact ⟨rfl, 0, rfl⟩
  · rintro e w' ⟨A, rfl, hA, hown, hb⟩
    have hL := fields_w s
    generalize Lib.goFieldsP pB s = F at hL hown ⊢
    rw [← hL]
    obtain ⟨hl, ⟨hn, h0⟩ | ⟨g, cap, cur, he, hg, hh, hc, _, hs, ht⟩⟩ := hown
    · cases hn
    · cases he
      refine ⟨A, by rw [List.length_map], hA, blk_lt hh, fun j hj => ?_, hb⟩
      rw [List.length_map] at hj
      rw [blk_cell hh]
      have e1 : (cur.toList.take (F.length * 1))[j]? = some (.string F[j]) := by rw [ht, List.getElem?_map, List.getElem?_eq_getElem hj]; rfl
      rw [List.getElem?_take, if_pos (by omega), Array.getElem?_toList] at e1
      rw [e1, List.getElem_map]
end Go.Proofs.YtdnllmngaljflaaGreatDoorX.Ho
