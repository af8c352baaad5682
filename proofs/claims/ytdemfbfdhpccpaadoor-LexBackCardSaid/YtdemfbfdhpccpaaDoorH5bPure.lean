import Derived.Test.YtdemfbfdhpccpaaDoorH5bx3
import Derived.Test.YtdemfbfdhpccpaaDoorLexI
namespace Go.Proofs.YtdemfbfdhpccpaaDoorX.H5b
open Go.RowKit Go.Proofs.YtdemfbfdhpccpaaDoorW.PrintWords Go.Proofs.YtdemfbfdhpccpaaDoorW.PrintLast Go.Proofs.YtdemfbfdhpccpaaDoorW.PrintMore
attribute [local go_sem] max2_int min2_int max_two min_two max_three min_three max_four min_four
set_option linter.unusedVariables false
set_option linter.unusedSimpArgs false
attribute [local go_sem] Go.Proofs.YtdemfbfdhpccpaaDoor.Hook.cell_two
theorem p_len (s : ByteArray) : s.data.toList.length = s.size := data_length s
theorem p_to (s : ByteArray) (a : Nat) : (s.extract a s.size).data.toList = s.data.toList.drop a := by
  rw [ByteArray.data_extract, Array.toList_extract, List.extract_eq_take_drop, List.take_of_length_le (by rw [List.length_drop, p_len]; omega)]
theorem p_upto (s : ByteArray) (k : Nat) : (s.extract 0 k).data.toList = s.data.toList.take k := by
  rw [ByteArray.data_extract, Array.toList_extract, List.extract_eq_take_drop, List.drop_zero, Nat.sub_zero]
theorem p_bt (s : ByteArray) (i : Nat) (c : UInt8) (h : s.data.toList[i]? = some c) : bt s (i : Int) = (c.toNat : Int) := by
  obtain ⟨h1, h2⟩ := List.getElem?_eq_some_iff.1 h
  have h3 : i < s.size := by rw [p_len] at h1; exact h1
  have h4 : s[i] = c := h2
  unfold bt
  simp [h3, h4]
theorem p_hasPrefix (s p : ByteArray) : strings_HasPrefix.f s p = some (p.data.toList.isPrefixOf s.data.toList) := by
  unfold strings_HasPrefix.f stringslite_HasPrefix.f
  by_cases h : (s.size : Int) ≥ (p.size : Int)
  · rw [if_pos h, if_pos (by omega), if_pos (by omega)]
    rw [Option.bind_some]
    rw [Int.toNat_natCast, ByteArray.toList_eq, ByteArray.toList_eq, p_upto, ← p_len p]
    congr 1
    rw [Bool.eq_iff_iff, beq_iff_eq, List.isPrefixOf_iff_prefix, List.prefix_iff_eq_take]
    exact eq_comm
  · rw [if_neg h]
    rw [Option.bind_some]
    congr 1
    rw [eq_comm, Bool.eq_false_iff]
    intro h1
    have := (List.isPrefixOf_iff_prefix.1 h1).length_le
    rw [p_len, p_len] at this
    omega
theorem p_trimNeg (s : ByteArray) : ∃ d : ByteArray, strings_TrimPrefix.f s ⟨#[45]⟩ = some d ∧ d.data.toList = Go.Proofs.YtdemfbfdhpccpaaDoor.Lx.digs s.data.toList := by
  unfold strings_TrimPrefix.f stringslite_TrimPrefix.f
  have h := p_hasPrefix s ⟨#[45]⟩
  unfold strings_HasPrefix.f at h
  obtain ⟨b, hb, hb2⟩ := Option.bind_eq_some_iff.mp h
  cases hb2
  rw [hb]
  rw [Option.bind_some]
  unfold Go.Proofs.YtdemfbfdhpccpaaDoor.Lx.digs Go.Proofs.YtdemfbfdhpccpaaDoor.Lx.neg
  by_cases hp : [45].isPrefixOf s.data.toList = true
  · have hl := (List.isPrefixOf_iff_prefix.1 hp).length_le
    rw [p_len] at hl
    have e1 : ((⟨#[45]⟩ : ByteArray).size : Int) = 1 := rfl
    rw [if_pos (show [45].isPrefixOf s.data.toList = true from hp), if_pos hp, e1, if_pos (by omega), if_pos (by simp at hl; omega)]
    exact ⟨_, rfl, p_to s 1⟩
  · rw [if_neg (show ¬ [45].isPrefixOf s.data.toList = true from hp), if_neg hp]
    exact ⟨_, rfl, rfl⟩
theorem p_big : (1000000000000000 : Nat) ≤ 9223372036854775807 := Nat.le_of_ble_eq_true rfl
theorem p_blank (s : ByteArray) (h : s.size ≤ 1000000000000000) : lex_run_blank.f s = some ((Go.Proofs.YtdemfbfdhpccpaaDoor.Lx.run Go.Proofs.YtdemfbfdhpccpaaDoor.Lx.bl s.data.toList : Nat) : Int) := by
  unfold lex_run_blank.f
  exact if_pos (Nat.le_trans h p_big)
theorem p_nl (s : ByteArray) (h : s.size ≤ 1000000000000000) : lex_run_nl.f s = some ((Go.Proofs.YtdemfbfdhpccpaaDoor.Lx.run Go.Proofs.YtdemfbfdhpccpaaDoor.Lx.nl s.data.toList : Nat) : Int) := by
  unfold lex_run_nl.f
  exact if_pos (Nat.le_trans h p_big)
theorem p_inner (s : ByteArray) (h : s.size ≤ 1000000000000000) : lex_run_inner.f s = some ((Go.Proofs.YtdemfbfdhpccpaaDoor.Lx.run Go.Proofs.YtdemfbfdhpccpaaDoor.Lx.inn s.data.toList : Nat) : Int) := by
  unfold lex_run_inner.f
  exact if_pos (Nat.le_trans h p_big)
theorem p_digit (s : ByteArray) (h : s.size ≤ 1000000000000000) : lex_run_digit.f s = some ((Go.Proofs.YtdemfbfdhpccpaaDoor.Lx.run Go.Proofs.YtdemfbfdhpccpaaDoor.Lx.dg s.data.toList : Nat) : Int) := by
  unfold lex_run_digit.f
  exact if_pos (Nat.le_trans h p_big)
theorem p_skip_l0 (s : ByteArray) (hs : s.size ≤ 1000000000000000) : ∀ (d a k : Nat), s.size ≤ a + d → a ≤ s.size → d < k → lex_skip.l0 k s a = some ((a + Go.Proofs.YtdemfbfdhpccpaaDoor.Lx.sk false (s.data.toList.drop a) : Nat) : Int) := by
  intro d
  induction d with
  | zero =>
    intro a k h1 h2 hk
    obtain ⟨k, rfl⟩ : ∃ m, k = m + 1 := ⟨k - 1, by omega⟩
    have hd : s.data.toList.drop a = [] := List.drop_eq_nil_of_le (by rw [p_len]; omega)
    simp only [lex_skip.l0]
    rw [if_pos (by omega), if_pos (by omega), Int.toNat_natCast, p_blank _ (by rw [ByteArray.size_extract]; omega), p_to, hd]
    rw [Option.bind_some]
    rw [show Go.Proofs.YtdemfbfdhpccpaaDoor.Lx.run Go.Proofs.YtdemfbfdhpccpaaDoor.Lx.bl [] = 0 from rfl, show wrap64 ((a : Int) + ((0 : Nat) : Int)) = (a : Int) from by unfold wrap64; omega, if_pos (by omega), if_pos (by omega), Int.toNat_natCast, p_hasPrefix, p_to, hd]
    simp [List.isPrefixOf, Go.Proofs.YtdemfbfdhpccpaaDoor.Lx.sk]
  | succ d ih =>
    intro a k h1 h2 hk
    obtain ⟨k, rfl⟩ : ∃ m, k = m + 1 := ⟨k - 1, by omega⟩
    simp only [lex_skip.l0]
    rw [if_pos (by omega), if_pos (by omega), Int.toNat_natCast, p_blank _ (by rw [ByteArray.size_extract]; omega), p_to]
    rw [Option.bind_some]
    have hr := Go.Proofs.YtdemfbfdhpccpaaDoor.Lx.run_le Go.Proofs.YtdemfbfdhpccpaaDoor.Lx.bl (s.data.toList.drop a)
    rw [List.length_drop, p_len] at hr
    have hsk := Go.Proofs.YtdemfbfdhpccpaaDoor.Lx.sk_run (s.data.toList.drop a)
    rw [List.drop_drop] at hsk
    have hend := Go.Proofs.YtdemfbfdhpccpaaDoor.Lx.run_end Go.Proofs.YtdemfbfdhpccpaaDoor.Lx.bl (s.data.toList.drop a)
    rw [List.getElem?_drop] at hend
    rw [hsk]
    generalize Go.Proofs.YtdemfbfdhpccpaaDoor.Lx.run Go.Proofs.YtdemfbfdhpccpaaDoor.Lx.bl (s.data.toList.drop a) = r at *
    rw [show wrap64 ((a : Int) + (r : Int)) = ((a + r : Nat) : Int) from by unfold wrap64; omega, if_pos (by omega), if_pos (by omega), Int.toNat_natCast, p_hasPrefix, p_to]
    rw [Option.bind_some]
    by_cases hlt : a + r < s.size
    · have hl : a + r < s.data.toList.length := by rw [p_len]; exact hlt
      have hg : s.data.toList[a + r]? = some s.data.toList[a + r] := List.getElem?_eq_getElem hl
      have hb := hend _ hg
      have hdr := List.drop_eq_getElem_cons hl
      generalize s.data.toList[a + r] = c at *
      by_cases hc : c.toNat = 37
      · have hp : (⟨#[37]⟩ : ByteArray).data.toList.isPrefixOf (s.data.toList.drop (a + r)) = true := by
          rw [hdr]
          show ((37 : UInt8) == c && true) = true
          rw [Bool.and_true, beq_iff_eq, ← UInt8.toNat_inj]; exact hc.symm
        rw [if_pos hp, p_nl _ (by rw [ByteArray.size_extract]; omega), p_to]
        rw [Option.bind_some]
        have hh := Go.Proofs.YtdemfbfdhpccpaaDoor.Lx.sk_hash c (s.data.toList.drop (a + r + 1)) hc
        rw [← hdr] at hh
        have hr2 := Go.Proofs.YtdemfbfdhpccpaaDoor.Lx.run_le Go.Proofs.YtdemfbfdhpccpaaDoor.Lx.nl (s.data.toList.drop (a + r))
        rw [List.length_drop, p_len] at hr2
        have hr3 : 0 < Go.Proofs.YtdemfbfdhpccpaaDoor.Lx.run Go.Proofs.YtdemfbfdhpccpaaDoor.Lx.nl (s.data.toList.drop (a + r)) := by
          rw [hdr, Go.Proofs.YtdemfbfdhpccpaaDoor.Lx.run_cons, if_pos (by unfold Go.Proofs.YtdemfbfdhpccpaaDoor.Lx.nl; simp [hc])]; omega
        rw [hh, List.drop_drop]
        generalize Go.Proofs.YtdemfbfdhpccpaaDoor.Lx.run Go.Proofs.YtdemfbfdhpccpaaDoor.Lx.nl (s.data.toList.drop (a + r)) = r2 at *
        rw [show wrap64 (((a + r : Nat) : Int) + (r2 : Int)) = ((a + r + r2 : Nat) : Int) from by unfold wrap64; omega, ih (a + r + r2) k (by omega) (by omega) (by omega)]
        exact congrArg some (congrArg Nat.cast (by omega))
      · have hp : (⟨#[37]⟩ : ByteArray).data.toList.isPrefixOf (s.data.toList.drop (a + r)) = false := by
          rw [hdr]
          show ((37 : UInt8) == c && true) = false
          rw [Bool.and_true, beq_eq_false_iff_ne, ne_eq, ← UInt8.toNat_inj]; exact fun e => hc e.symm
        rw [hp, if_neg (by decide), hdr, Go.Proofs.YtdemfbfdhpccpaaDoor.Lx.sk_zero _ _ hb hc]; rfl
    · have hd : s.data.toList.drop (a + r) = [] := List.drop_eq_nil_of_le (by rw [p_len]; omega)
      rw [hd, if_neg (by decide)]; rfl
theorem p_skip (s : ByteArray) (hs : s.size ≤ 1000000000000000) (k : Nat) (hk : s.size < k) : lex_skip.f k s = some ((Go.Proofs.YtdemfbfdhpccpaaDoor.Lx.sk false s.data.toList : Nat) : Int) := by
  have h := p_skip_l0 s hs s.size 0 k (by omega) (by omega) hk
  rw [List.drop_zero, Nat.zero_add] at h
  exact h

/-- The first token, as the program tells it: kind, text, number, place, length, error. -/
def tokR (s : ByteArray) : Except Int (Int × Nat × Int) → Int × ByteArray × Int × Int × Int × Int
  | .error e => (0, ⟨#[]⟩, 0, 0, 0, e)
  | .ok (k, n, v) => (k, s.extract 0 n, v, 0, (n : Int), 0)
theorem p_letter (c : UInt8) : lex_letter.f (wrap32 (c.toNat : Int)) = some (Go.Proofs.YtdemfbfdhpccpaaDoor.Lx.lt c) := by
  have hc := c.toNat_lt
  rw [show wrap32 (c.toNat : Int) = (c.toNat : Int) from by unfold wrap32; omega]
  unfold lex_letter.f Go.Proofs.YtdemfbfdhpccpaaDoor.Lx.lt
  repeat' split
  all_goals (congr 1; rw [Bool.eq_iff_iff]; simp; omega)
theorem p_word (l : List UInt8) (c : UInt8) (t : List UInt8) (h : l = c :: t) : (Go.Proofs.YtdemfbfdhpccpaaDoor.Lx.lt c = true → Go.Proofs.YtdemfbfdhpccpaaDoor.Lx.run Go.Proofs.YtdemfbfdhpccpaaDoor.Lx.inn l = Go.Proofs.YtdemfbfdhpccpaaDoor.Lx.word l ∧ 0 < Go.Proofs.YtdemfbfdhpccpaaDoor.Lx.word l) ∧ (Go.Proofs.YtdemfbfdhpccpaaDoor.Lx.lt c = false → Go.Proofs.YtdemfbfdhpccpaaDoor.Lx.word l = 0) := by
  subst h
  refine ⟨fun h1 => ?_, fun h1 => ?_⟩
  · rw [show Go.Proofs.YtdemfbfdhpccpaaDoor.Lx.word (c :: t) = (if Go.Proofs.YtdemfbfdhpccpaaDoor.Lx.lt c then Go.Proofs.YtdemfbfdhpccpaaDoor.Lx.run Go.Proofs.YtdemfbfdhpccpaaDoor.Lx.inn t + 1 else 0) from rfl, if_pos h1, Go.Proofs.YtdemfbfdhpccpaaDoor.Lx.run_cons, if_pos (by unfold Go.Proofs.YtdemfbfdhpccpaaDoor.Lx.inn; rw [h1]; rfl)]
    exact ⟨rfl, by omega⟩
  · rw [show Go.Proofs.YtdemfbfdhpccpaaDoor.Lx.word (c :: t) = (if Go.Proofs.YtdemfbfdhpccpaaDoor.Lx.lt c then Go.Proofs.YtdemfbfdhpccpaaDoor.Lx.run Go.Proofs.YtdemfbfdhpccpaaDoor.Lx.inn t + 1 else 0) from rfl, h1]; rfl
theorem p_dec (l : List UInt8) (h : ∀ c ∈ l, Go.Proofs.YtdemfbfdhpccpaaDoor.Lx.dg c = true) : ∀ acc, Lib.decFrom acc l = some (l.foldl (fun v c => 10 * v + (c.toNat - 48)) acc) := by
  induction l with
  | nil => intro acc; rfl
  | cons c l ih =>
    intro acc
    have hc := h c List.mem_cons_self
    unfold Go.Proofs.YtdemfbfdhpccpaaDoor.Lx.dg at hc
    rw [decide_eq_true_eq] at hc
    have hv : Lib.digitVal c = some (c.toNat - 48) := by
      unfold Lib.digitVal
      rw [if_pos hc]
    show (match Lib.digitVal c with | some d => Lib.decFrom (acc * 10 + d) l | none => none) = _
    rw [hv]
    show Lib.decFrom (acc * 10 + (c.toNat - 48)) l = _
    rw [ih (fun d hd => h d (List.mem_cons_of_mem _ hd)), List.foldl_cons, Nat.mul_comm acc 10]
theorem p_digs_take (l : List UInt8) : Go.Proofs.YtdemfbfdhpccpaaDoor.Lx.digs (l.take (Go.Proofs.YtdemfbfdhpccpaaDoor.Lx.nlen l)) = (Go.Proofs.YtdemfbfdhpccpaaDoor.Lx.digs l).take (Go.Proofs.YtdemfbfdhpccpaaDoor.Lx.cnt l) ∧ (0 < Go.Proofs.YtdemfbfdhpccpaaDoor.Lx.cnt l → Go.Proofs.YtdemfbfdhpccpaaDoor.Lx.neg (l.take (Go.Proofs.YtdemfbfdhpccpaaDoor.Lx.nlen l)) = Go.Proofs.YtdemfbfdhpccpaaDoor.Lx.neg l) := by
  cases l with
  | nil => exact ⟨rfl, fun h => by cases h⟩
  | cons c t =>
    by_cases hn : Go.Proofs.YtdemfbfdhpccpaaDoor.Lx.neg (c :: t) = true
    · have e : Go.Proofs.YtdemfbfdhpccpaaDoor.Lx.nlen (c :: t) = Go.Proofs.YtdemfbfdhpccpaaDoor.Lx.cnt (c :: t) + 1 := by unfold Go.Proofs.YtdemfbfdhpccpaaDoor.Lx.nlen; rw [if_pos hn]
      have hn2 : Go.Proofs.YtdemfbfdhpccpaaDoor.Lx.neg ((c :: t).take (Go.Proofs.YtdemfbfdhpccpaaDoor.Lx.nlen (c :: t))) = true := by
        rw [e, List.take_succ_cons]
        have h1 := hn
        unfold Go.Proofs.YtdemfbfdhpccpaaDoor.Lx.neg at h1 ⊢
        simp only [List.isPrefixOf, Bool.and_true] at h1 ⊢
        exact h1
      refine ⟨?_, fun _ => by rw [hn2, hn]⟩
      unfold Go.Proofs.YtdemfbfdhpccpaaDoor.Lx.digs
      rw [if_pos hn2, if_pos hn, e, List.take_succ_cons]; rfl
    · have e : Go.Proofs.YtdemfbfdhpccpaaDoor.Lx.nlen (c :: t) = Go.Proofs.YtdemfbfdhpccpaaDoor.Lx.cnt (c :: t) := by unfold Go.Proofs.YtdemfbfdhpccpaaDoor.Lx.nlen; rw [if_neg hn]; rfl
      by_cases h0 : Go.Proofs.YtdemfbfdhpccpaaDoor.Lx.cnt (c :: t) = 0
      · refine ⟨?_, fun h => by omega⟩
        rw [e, h0]; rfl
      · have hn2 : Go.Proofs.YtdemfbfdhpccpaaDoor.Lx.neg ((c :: t).take (Go.Proofs.YtdemfbfdhpccpaaDoor.Lx.nlen (c :: t))) = false := by
          obtain ⟨m, hm⟩ : ∃ m, Go.Proofs.YtdemfbfdhpccpaaDoor.Lx.cnt (c :: t) = m + 1 := ⟨Go.Proofs.YtdemfbfdhpccpaaDoor.Lx.cnt (c :: t) - 1, by omega⟩
          rw [e, hm, List.take_succ_cons, Bool.eq_false_iff]
          intro h2
          apply hn
          unfold Go.Proofs.YtdemfbfdhpccpaaDoor.Lx.neg at h2 ⊢
          simp only [List.isPrefixOf, Bool.and_true] at h2 ⊢
          exact h2
        refine ⟨?_, fun _ => by rw [hn2]; exact (Bool.eq_false_iff.2 hn).symm⟩
        unfold Go.Proofs.YtdemfbfdhpccpaaDoor.Lx.digs
        rw [hn2, if_neg hn, e]; rfl
theorem p_digs_all (l : List UInt8) : ∀ c ∈ (Go.Proofs.YtdemfbfdhpccpaaDoor.Lx.digs l).take (Go.Proofs.YtdemfbfdhpccpaaDoor.Lx.cnt l), Go.Proofs.YtdemfbfdhpccpaaDoor.Lx.dg c = true := by
  intro c hc
  obtain ⟨j, hj⟩ := List.mem_iff_getElem?.1 hc
  rw [List.getElem?_take] at hj
  split at hj
  · obtain ⟨c', h1, h2⟩ := Go.Proofs.YtdemfbfdhpccpaaDoor.Lx.run_lt Go.Proofs.YtdemfbfdhpccpaaDoor.Lx.dg (Go.Proofs.YtdemfbfdhpccpaaDoor.Lx.digs l) j (by assumption)
    rw [hj] at h1; cases h1; exact h2
  · cases hj
theorem p_cnt_take (l : List UInt8) : ((Go.Proofs.YtdemfbfdhpccpaaDoor.Lx.digs l).take (Go.Proofs.YtdemfbfdhpccpaaDoor.Lx.cnt l)).length = Go.Proofs.YtdemfbfdhpccpaaDoor.Lx.cnt l := by
  rw [List.length_take]; exact Nat.min_eq_left (Go.Proofs.YtdemfbfdhpccpaaDoor.Lx.run_le _ _)
theorem bad_no1 {n : Nat} {g : Bool} {P : Prop} (h : n = 1) (hg : g = false) : ¬ (10 < n ∨ 1 < n ∧ P ∨ g = true ∧ n = 1 ∧ P) := by
  rintro (h1 | ⟨h1, _⟩ | ⟨h1, _⟩)
  · omega
  · omega
  · rw [hg] at h1; cases h1
theorem bad_no2 {n : Nat} {g : Bool} {P : Prop} (h : n ≤ 10) (hP : ¬ P) : ¬ (10 < n ∨ 1 < n ∧ P ∨ g = true ∧ n = 1 ∧ P) := by
  rintro (h1 | ⟨_, h1⟩ | ⟨_, _, h1⟩)
  · omega
  · exact hP h1
  · exact hP h1
theorem p_right (s t : ByteArray) (h0 : 0 < Go.Proofs.YtdemfbfdhpccpaaDoor.Lx.cnt s.data.toList) (ht : t.data.toList = s.data.toList.take (Go.Proofs.YtdemfbfdhpccpaaDoor.Lx.nlen s.data.toList)) : lex_right.f t = some (!Go.Proofs.YtdemfbfdhpccpaaDoor.Lx.bad s.data.toList) := by
  obtain ⟨d, hd, hd2⟩ := p_trimNeg t
  rw [ht, (p_digs_take _).1] at hd2
  have hds : d.size = Go.Proofs.YtdemfbfdhpccpaaDoor.Lx.cnt s.data.toList := by rw [← p_len, hd2, p_cnt_take]
  have hng := (p_digs_take s.data.toList).2 h0
  obtain ⟨c, r, hcr⟩ : ∃ c r, (Go.Proofs.YtdemfbfdhpccpaaDoor.Lx.digs s.data.toList).take (Go.Proofs.YtdemfbfdhpccpaaDoor.Lx.cnt s.data.toList) = c :: r := by
    cases hx : (Go.Proofs.YtdemfbfdhpccpaaDoor.Lx.digs s.data.toList).take (Go.Proofs.YtdemfbfdhpccpaaDoor.Lx.cnt s.data.toList) with
    | nil => have := p_cnt_take s.data.toList; rw [hx] at this; simp at this; omega
    | cons c r => exact ⟨c, r, rfl⟩
  have hhead : (Go.Proofs.YtdemfbfdhpccpaaDoor.Lx.digs s.data.toList).head? = some c := by
    have h1 : ((Go.Proofs.YtdemfbfdhpccpaaDoor.Lx.digs s.data.toList).take (Go.Proofs.YtdemfbfdhpccpaaDoor.Lx.cnt s.data.toList)).head? = some c := by rw [hcr]; rfl
    rw [List.head?_take, if_neg (by omega)] at h1
    exact h1
  have hbt : bt d 0 = (c.toNat : Int) := p_bt d 0 c (by rw [hd2, hcr]; rfl)
  have hr : r.length + 1 = Go.Proofs.YtdemfbfdhpccpaaDoor.Lx.cnt s.data.toList := by have := p_cnt_take s.data.toList; rw [hcr] at this; exact this
  unfold lex_right.f
  rw [hd, Option.bind_some]
  unfold Go.Proofs.YtdemfbfdhpccpaaDoor.Lx.bad
  rw [hhead]
  have h48 : ((some c : Option UInt8) = some 48) ↔ c.toNat = 48 := by
    rw [Option.some.injEq, ← UInt8.toNat_inj]; exact Iff.rfl
  by_cases h1 : (d.size : Int) ≤ 10
  · rw [if_pos h1]
    by_cases h2 : d.toList = ([48] : List UInt8)
    · rw [if_pos h2]
      rw [ByteArray.toList_eq, hd2, hcr] at h2
      injection h2 with h2 h3
      have hc1 : Go.Proofs.YtdemfbfdhpccpaaDoor.Lx.cnt s.data.toList = 1 := by rw [h3] at hr; simpa using hr.symm
      have hc48 : c.toNat = 48 := by rw [h2]; rfl
      by_cases h4 : t.toList = d.toList
      · rw [if_pos h4]
        have h5 : Go.Proofs.YtdemfbfdhpccpaaDoor.Lx.neg s.data.toList = false := by
          rw [ByteArray.toList_eq, ByteArray.toList_eq] at h4
          have h6 := congrArg List.length h4
          rw [p_len d, hds, ht, List.length_take] at h6
          rw [Bool.eq_false_iff]
          intro h7
          have h8 : Go.Proofs.YtdemfbfdhpccpaaDoor.Lx.nlen s.data.toList = Go.Proofs.YtdemfbfdhpccpaaDoor.Lx.cnt s.data.toList + 1 := by unfold Go.Proofs.YtdemfbfdhpccpaaDoor.Lx.nlen; rw [if_pos h7]
          have h9 := Go.Proofs.YtdemfbfdhpccpaaDoor.Lx.nlen_le s.data.toList
          omega
        rw [decide_eq_false (bad_no1 hc1 h5)]; rfl
      · rw [if_neg h4, if_pos (by omega), hbt]
        have h5 : Go.Proofs.YtdemfbfdhpccpaaDoor.Lx.neg s.data.toList = true := by
          cases h6 : Go.Proofs.YtdemfbfdhpccpaaDoor.Lx.neg s.data.toList with
          | true => rfl
          | false =>
            exfalso
            apply h4
            rw [ByteArray.toList_eq, ByteArray.toList_eq, hd2, ht]
            have h7 := (p_digs_take s.data.toList).1
            rw [← h7]
            unfold Go.Proofs.YtdemfbfdhpccpaaDoor.Lx.digs
            rw [hng, h6]; rfl
        rw [decide_eq_true (Or.inr (Or.inr ⟨h5, hc1, h48.2 hc48⟩)), hc48]; rfl
    · rw [if_neg h2, if_pos (by omega), hbt]
      by_cases h3 : c.toNat = 48
      · have hc2 : 1 < Go.Proofs.YtdemfbfdhpccpaaDoor.Lx.cnt s.data.toList := by
          rcases Nat.lt_or_ge 1 (Go.Proofs.YtdemfbfdhpccpaaDoor.Lx.cnt s.data.toList) with h | h
          · exact h
          · exfalso
            apply h2
            rw [ByteArray.toList_eq, hd2, hcr]
            have hr0 : r = [] := List.length_eq_zero_iff.1 (by omega)
            have h49 : c = 48 := UInt8.toNat_inj.1 h3
            rw [hr0, h49]
        rw [decide_eq_true (Or.inr (Or.inl ⟨hc2, h48.2 h3⟩)), h3]; rfl
      · rw [decide_eq_false (bad_no2 (by omega) (fun e => h3 (h48.1 e)))]
        congr 1
        rw [bne_iff_ne.2 (by omega)]; rfl
  · rw [if_neg h1, decide_eq_true (Or.inl (by omega))]; rfl
theorem p_atoi (s t : ByteArray) (h0 : 0 < Go.Proofs.YtdemfbfdhpccpaaDoor.Lx.cnt s.data.toList) (hb : Go.Proofs.YtdemfbfdhpccpaaDoor.Lx.bad s.data.toList = false) (ht : t.data.toList = s.data.toList.take (Go.Proofs.YtdemfbfdhpccpaaDoor.Lx.nlen s.data.toList)) : strconv_Atoi.f t = some (Go.Proofs.YtdemfbfdhpccpaaDoor.Lx.num s.data.toList, none) := by
  have h10 : Go.Proofs.YtdemfbfdhpccpaaDoor.Lx.cnt s.data.toList ≤ 10 := by
    unfold Go.Proofs.YtdemfbfdhpccpaaDoor.Lx.bad at hb
    rw [decide_eq_false_iff_not] at hb
    omega
  have hsz : t.size ≤ 18 := by
    rw [← p_len, ht, List.length_take]
    have : Go.Proofs.YtdemfbfdhpccpaaDoor.Lx.nlen s.data.toList ≤ 11 := by unfold Go.Proofs.YtdemfbfdhpccpaaDoor.Lx.nlen; split <;> omega
    omega
  have hng := (p_digs_take s.data.toList).2 h0
  have hdt := (p_digs_take s.data.toList).1
  have hall := p_digs_all s.data.toList
  have hlen := p_cnt_take s.data.toList
  have hdec : Lib.decNat ((Go.Proofs.YtdemfbfdhpccpaaDoor.Lx.digs s.data.toList).take (Go.Proofs.YtdemfbfdhpccpaaDoor.Lx.cnt s.data.toList)) = some (Go.Proofs.YtdemfbfdhpccpaaDoor.Lx.val ((Go.Proofs.YtdemfbfdhpccpaaDoor.Lx.digs s.data.toList).take (Go.Proofs.YtdemfbfdhpccpaaDoor.Lx.cnt s.data.toList))) := by
    unfold Lib.decNat
    rw [if_neg (by rw [List.isEmpty_iff]; intro e; rw [e] at hlen; simp at hlen; omega)]
    exact p_dec _ hall 0
  unfold strconv_Atoi.f
  rw [if_pos hsz]
  have hat : Lib.atoi t.data.toList = some (Go.Proofs.YtdemfbfdhpccpaaDoor.Lx.num s.data.toList) := by
    rw [ht]
    generalize s.data.toList.take (Go.Proofs.YtdemfbfdhpccpaaDoor.Lx.nlen s.data.toList) = u at *
    unfold Go.Proofs.YtdemfbfdhpccpaaDoor.Lx.num
    rw [← hdt] at hdec hall hlen ⊢
    unfold Go.Proofs.YtdemfbfdhpccpaaDoor.Lx.digs at hdec hall hlen ⊢
    cases u with
    | nil => rw [hng] at hlen; simp at hlen; omega
    | cons c r =>
      cases hn : Go.Proofs.YtdemfbfdhpccpaaDoor.Lx.neg s.data.toList with
      | true =>
        rw [hng, hn] at hdec
        rw [hng, hn]
        have hc : c = 45 := by
          have h1 := hng
          rw [hn] at h1
          unfold Go.Proofs.YtdemfbfdhpccpaaDoor.Lx.neg at h1
          simp only [List.isPrefixOf, Bool.and_true, beq_iff_eq] at h1
          exact h1.symm
        show (if c == 45 then _ else _) = _
        rw [hc, if_pos rfl]
        simp only [if_true, List.drop_succ_cons, List.drop_zero] at hdec ⊢
        rw [hdec]
        simp
      | false =>
        rw [hng, hn] at hdec hall
        rw [hng, hn]
        simp only [Bool.false_eq_true, if_false] at hdec hall ⊢
        have hc := hall c List.mem_cons_self
        unfold Go.Proofs.YtdemfbfdhpccpaaDoor.Lx.dg at hc
        rw [decide_eq_true_eq] at hc
        have h45 : (c == 45) = false := beq_eq_false_iff_ne.2 (fun e => by rw [e] at hc; exact absurd hc (by decide))
        have h43 : (c == 43) = false := beq_eq_false_iff_ne.2 (fun e => by rw [e] at hc; exact absurd hc (by decide))
        show (if c == 45 then _ else if c == 43 then _ else _) = _
        rw [h45, h43, if_neg (by decide), if_neg (by decide), hdec]
        simp
  rw [hat, Option.bind_some]
theorem p_sign (l : List UInt8) (c : UInt8) (t : List UInt8) (h : l = c :: t) : Go.Proofs.YtdemfbfdhpccpaaDoor.Lx.sign l = if [46, 46].isPrefixOf l then 2 else if [40, 41, 91, 93, 123, 125, 44, 59, 58].contains c then 1 else 0 := by rw [h]; rfl
theorem p_contains (c : UInt8) : strings_ContainsRune.f ⟨#[40, 41, 91, 93, 123, 125, 44, 59, 58]⟩ (wrap32 (c.toNat : Int)) = some ([40, 41, 91, 93, 123, 125, 44, 59, 58].contains c) := by
  have hc := c.toNat_lt
  rw [show wrap32 (c.toNat : Int) = (c.toNat : Int) from by unfold wrap32; omega]
  unfold strings_ContainsRune.f
  by_cases h : (c.toNat : Int) < 128
  · rw [if_pos ⟨by omega, h⟩]
    have e : (c.toNat : Int).toNat.toUInt8 = c := by rw [Int.toNat_natCast]; exact UInt8.ofNat_toNat
    rw [e]
    congr 1
    rw [Bool.eq_iff_iff, decide_eq_true_eq, List.contains_iff_mem]
  · rw [if_neg (by omega), if_pos ⟨by omega, by omega, by decide, by decide, by decide⟩]
    congr 1
    rw [eq_comm, Bool.eq_false_iff]
    intro h2
    rw [List.contains_iff_mem] at h2
    simp only [List.mem_cons, List.not_mem_nil, or_false, ← UInt8.toNat_inj] at h2
    have h3 : c.toNat = 40 ∨ c.toNat = 41 ∨ c.toNat = 91 ∨ c.toNat = 93 ∨ c.toNat = 123 ∨ c.toNat = 125 ∨ c.toNat = 44 ∨ c.toNat = 59 ∨ c.toNat = 58 := h2
    omega
theorem p_begin_j0 (s : ByteArray) (hs : s.size ≤ 1000000000000000) (c : UInt8) (t : List UInt8) (h : s.data.toList = c :: t) (k : Nat) (x : Int) (hw : Go.Proofs.YtdemfbfdhpccpaaDoor.Lx.word s.data.toList = 0) :
    lex_begin.j0 (k + 1) s x false = some (tokR s (Go.Proofs.YtdemfbfdhpccpaaDoor.Lx.tok s.data.toList)) := by
  obtain ⟨d, hd, hd2⟩ := p_trimNeg s
  have hl := p_len s
  have hsz : 0 < s.size := by rw [← p_len, h]; simp
  have hdl : d.size ≤ s.size ∧ s.size - d.size = if Go.Proofs.YtdemfbfdhpccpaaDoor.Lx.neg s.data.toList then 1 else 0 := by
    have h1 := Go.Proofs.YtdemfbfdhpccpaaDoor.Lx.digs_len s.data.toList
    rw [← hd2, p_len, p_len] at h1
    omega
  have hnl := Go.Proofs.YtdemfbfdhpccpaaDoor.Lx.nlen_le s.data.toList
  rw [p_len] at hnl
  have hne : Go.Proofs.YtdemfbfdhpccpaaDoor.Lx.nlen s.data.toList = Go.Proofs.YtdemfbfdhpccpaaDoor.Lx.cnt s.data.toList + if Go.Proofs.YtdemfbfdhpccpaaDoor.Lx.neg s.data.toList then 1 else 0 := rfl
  simp only [lex_begin.j0]
  rw [if_neg (by decide), hd, Option.bind_some, p_digit d (by omega), Option.bind_some, hd2]
  rw [show Go.Proofs.YtdemfbfdhpccpaaDoor.Lx.run Go.Proofs.YtdemfbfdhpccpaaDoor.Lx.dg (Go.Proofs.YtdemfbfdhpccpaaDoor.Lx.digs s.data.toList) = Go.Proofs.YtdemfbfdhpccpaaDoor.Lx.cnt s.data.toList from rfl]
  unfold Go.Proofs.YtdemfbfdhpccpaaDoor.Lx.tok
  rw [hw, if_neg (by omega : ¬ (0 : Nat) > 0)]
  by_cases h0 : 0 < Go.Proofs.YtdemfbfdhpccpaaDoor.Lx.cnt s.data.toList
  · rw [if_pos (by omega), if_pos h0]
    have e1 : wrap64 ((Go.Proofs.YtdemfbfdhpccpaaDoor.Lx.cnt s.data.toList : Int) + wrap64 ((s.size : Int) - (d.size : Int))) = ((Go.Proofs.YtdemfbfdhpccpaaDoor.Lx.nlen s.data.toList : Nat) : Int) := by
      rw [hne, ← hdl.2]
      generalize Go.Proofs.YtdemfbfdhpccpaaDoor.Lx.cnt s.data.toList = n at *
      unfold wrap64; omega
    rw [e1, if_pos (by omega), if_pos (by omega), Int.toNat_natCast]
    have ht := p_upto s (Go.Proofs.YtdemfbfdhpccpaaDoor.Lx.nlen s.data.toList)
    rw [p_right s _ h0 ht, Option.bind_some]
    cases hb : Go.Proofs.YtdemfbfdhpccpaaDoor.Lx.bad s.data.toList with
    | true => rw [if_neg (by decide), if_pos rfl]; rfl
    | false =>
      rw [if_pos (by decide), p_atoi s _ h0 hb ht, Option.bind_some, if_neg (by decide)]
      rfl
  · rw [if_neg (by omega), if_neg h0, p_hasPrefix, Option.bind_some]
    have hsg := p_sign s.data.toList c t h
    rw [show (⟨#[46, 46]⟩ : ByteArray).data.toList = [46, 46] from rfl]
    by_cases h46 : [46, 46].isPrefixOf s.data.toList = true
    · rw [if_pos h46]
      rw [if_pos h46] at hsg
      rw [hsg, if_pos (by omega)]
      have h5 := List.isPrefixOf_iff_prefix.1 h46
      have h6 : s.extract 0 2 = ⟨#[46, 46]⟩ := by
        apply ByteArray.ext
        apply Array.ext'
        rw [p_upto]
        exact (List.prefix_iff_eq_take.1 h5).symm
      show some (3, (⟨#[46, 46]⟩ : ByteArray), (0 : Int), (0 : Int), (2 : Int), (0 : Int)) = some (3, s.extract 0 2, 0, 0, ((2 : Nat) : Int), 0)
      rw [h6]; rfl
    · rw [if_neg h46]
      rw [if_neg h46] at hsg
      have hb0 : bt s (0 : Int) = (c.toNat : Int) := p_bt s 0 c (by rw [h]; rfl)
      rw [if_pos (by omega), hb0, p_contains, Option.bind_some, hsg]
      cases [40, 41, 91, 93, 123, 125, 44, 59, 58].contains c with
      | true => rw [if_pos rfl, if_pos rfl, if_pos (by omega), if_pos (by omega), if_pos (by omega)]; rfl
      | false => rw [if_neg (by decide), if_neg (by decide)]; rfl
theorem p_begin (s : ByteArray) (hs : s.size ≤ 1000000000000000) (h0 : 0 < s.size) (k : Nat) (hk : 0 < k) : lex_begin.f k s = some (tokR s (Go.Proofs.YtdemfbfdhpccpaaDoor.Lx.tok s.data.toList)) := by
  obtain ⟨k, rfl⟩ : ∃ m, k = m + 1 := ⟨k - 1, by omega⟩
  obtain ⟨c, t, h⟩ : ∃ c t, s.data.toList = c :: t := by
    cases hx : s.data.toList with
    | nil => have := p_len s; rw [hx] at this; simp at this; omega
    | cons c t => exact ⟨c, t, rfl⟩
  have hb : bt s (0 : Int) = (c.toNat : Int) := p_bt s 0 c (by rw [h]; rfl)
  have hw := p_word s.data.toList c t h
  have hwl := Go.Proofs.YtdemfbfdhpccpaaDoor.Lx.word_le s.data.toList
  rw [p_len] at hwl
  unfold lex_begin.f
  rw [p_inner s hs, Option.bind_some]
  cases hlc : Go.Proofs.YtdemfbfdhpccpaaDoor.Lx.lt c with
  | true =>
    obtain ⟨h1, h2⟩ := hw.1 hlc
    rw [h1, if_pos (by omega), if_pos (by omega), hb, p_letter, hlc, Option.bind_some]
    simp only [lex_begin.j0, if_true]
    rw [if_pos (by omega), if_pos (by omega), Int.toNat_natCast]
    unfold Go.Proofs.YtdemfbfdhpccpaaDoor.Lx.tok
    rw [if_pos h2]; rfl
  | false =>
    have h2 := hw.2 hlc
    split
    · rw [if_pos (by omega), hb, p_letter, hlc, Option.bind_some]
      exact p_begin_j0 s hs c t h k _ h2
    · exact p_begin_j0 s hs c t h k _ h2
/-- The whole text, as the program tells it. -/
def tokS (t : Go.Proofs.YtdemfbfdhpccpaaDoor.Lx.T) : S33 := ⟨t.k, ⟨t.s.toArray⟩, t.n, (t.a : Int)⟩
def lexR : Except (Nat × Int) (List Go.Proofs.YtdemfbfdhpccpaaDoor.Lx.T) → List S33 × Int × Int
  | .error (a, e) => ([], (a : Int), e)
  | .ok l => (l.map tokS, 0, 0)
theorem tokS_mk (k : Int) (s : ByteArray) (n : Nat) (v : Int) (a : Nat) (ha : a + n ≤ s.size) : tokS ⟨k, (s.data.toList.drop a).take n, v, a⟩ = ⟨k, (s.extract a s.size).extract 0 n, v, (a : Int)⟩ := by
  have h : (s.extract a s.size).extract 0 n = ⟨((s.data.toList.drop a).take n).toArray⟩ := by
    apply ByteArray.ext
    apply Array.ext'
    rw [p_upto, p_to]
  rw [h]; rfl
def lexPre (xs : List S33) : Except (Nat × Int) (List Go.Proofs.YtdemfbfdhpccpaaDoor.Lx.T) → List S33 × Int × Int
  | .error (a, e) => ([], (a : Int), e)
  | .ok l => (xs ++ l.map tokS, 0, 0)
theorem tokR_ok (s : ByteArray) (k : Int) (n : Nat) (v : Int) : tokR s (.ok (k, n, v)) = (k, s.extract 0 n, v, 0, (n : Int), 0) := rfl
theorem tokR_err (s : ByteArray) (e : Int) : tokR s (.error e) = (0, ⟨#[]⟩, 0, 0, 0, e) := rfl
theorem p_room {n : Nat} (h : n ≤ 1048576) : n < 3518437208883 := by omega
theorem p_lex_l0 (s : ByteArray) (hs : s.size ≤ 1048576) : ∀ (d a f k : Nat) (xs : List S33), s.size ≤ a + d → a ≤ s.size → d + s.size + 2 < k → s.size < f + a → xs.length ≤ a →
    lex_Lex.l0 k s xs a = some (lexPre xs (Go.Proofs.YtdemfbfdhpccpaaDoor.Lx.go s.data.toList f a)) := by
  intro d
  have hs2 : s.size ≤ 1000000000000000 := by omega
  induction d with
  | zero =>
    intro a f k xs h1 h2 hk hf hx
    obtain ⟨k, rfl⟩ : ∃ m, k = m + 1 := ⟨k - 1, by omega⟩
    rw [Go.Proofs.YtdemfbfdhpccpaaDoor.Lx.go_end _ _ _ (by rw [p_len]; omega)]
    simp only [lex_Lex.l0]
    rw [if_neg (by omega)]
    show some (xs, (0 : Int), (0 : Int)) = some (xs ++ [], 0, 0)
    rw [List.append_nil]
  | succ d ih =>
    intro a f k xs h1 h2 hk hf hx
    obtain ⟨k, rfl⟩ : ∃ m, k = m + 1 := ⟨k - 1, by omega⟩
    simp only [lex_Lex.l0]
    by_cases hlt : a < s.size
    · rw [if_pos (by omega), if_pos (by omega), if_pos (by omega), Int.toNat_natCast, p_begin _ (by rw [ByteArray.size_extract]; omega) (by rw [ByteArray.size_extract]; omega) k (by omega), Option.bind_some, p_to]
      have hl : a < s.data.toList.length := by rw [p_len]; exact hlt
      cases ht : Go.Proofs.YtdemfbfdhpccpaaDoor.Lx.tok (s.data.toList.drop a) with
      -- the two ways
      | error e =>
        rw [Go.Proofs.YtdemfbfdhpccpaaDoor.Lx.go_err s.data.toList f a (by rw [p_len]; omega) hl ht]
        have he : e ≠ 0 := by
          intro e0
          subst e0
          unfold Go.Proofs.YtdemfbfdhpccpaaDoor.Lx.tok at ht
          split at ht
          · cases ht
          · split at ht
            · split at ht
              · cases ht
              · cases ht
            · split at ht
              · cases ht
              · cases ht
        rw [tokR_err]
        dsimp only
        rw [if_neg he]; rfl
      | ok x =>
        obtain ⟨q, n, v⟩ := x
        have hn := Go.Proofs.YtdemfbfdhpccpaaDoor.Lx.tok_le ht
        rw [List.length_drop, p_len] at hn
        rw [Go.Proofs.YtdemfbfdhpccpaaDoor.Lx.go_ok s.data.toList f a (by rw [p_len]; omega) hl ht]
        have hsk := Go.Proofs.YtdemfbfdhpccpaaDoor.Lx.sk_le false (s.data.toList.drop (a + n))
        rw [List.length_drop, p_len] at hsk
        have IH := ih (a + n + Go.Proofs.YtdemfbfdhpccpaaDoor.Lx.sk false (s.data.toList.drop (a + n))) f k (xs ++ [(⟨q, (s.extract a s.size).extract 0 n, v, (a : Int)⟩ : S33)]) (by omega) (by omega) (by omega) (by omega) (by rw [List.length_append]; simp; omega)
        have hxl := p_room (show xs.length ≤ 1048576 by omega)
        have g1 : 0 ≤ ((a + n : Nat) : Int) := Int.natCast_nonneg _
        have g2 : ((a + n : Nat) : Int) ≤ (s.size : Int) := by omega
        have g3 : (s.extract (a + n) s.size).size ≤ 1000000000000000 := by rw [ByteArray.size_extract]; omega
        have g4 : (s.extract (a + n) s.size).size < k := by rw [ByteArray.size_extract]; omega
        have hm := tokS_mk q s n v a (by omega)
        have P := p_skip (s.extract (a + n) s.size) g3 k g4
        rw [p_to] at P
        have e2 : wrap64 (((a + n : Nat) : Int) + ((Go.Proofs.YtdemfbfdhpccpaaDoor.Lx.sk false (s.data.toList.drop (a + n)) : Nat) : Int)) = ((a + n + Go.Proofs.YtdemfbfdhpccpaaDoor.Lx.sk false (s.data.toList.drop (a + n)) : Nat) : Int) := by
          generalize Go.Proofs.YtdemfbfdhpccpaaDoor.Lx.sk false (s.data.toList.drop (a + n)) = r at hsk ⊢
          clear IH ih P
          unfold wrap64; omega
        have e1 : wrap64 ((a : Int) + (n : Int)) = ((a + n : Nat) : Int) := by clear e2 IH ih P; unfold wrap64; omega
        rw [tokR_ok]
        dsimp only
        generalize (3518437208883 : Nat) = NN at hxl ⊢
        rw [if_pos (rfl : (0 : Int) = 0), if_pos hxl, e1, if_pos g1, if_pos g2, Int.toNat_natCast, P, Option.bind_some, e2, IH]
        congr 1
        cases Go.Proofs.YtdemfbfdhpccpaaDoor.Lx.go s.data.toList f (a + n + Go.Proofs.YtdemfbfdhpccpaaDoor.Lx.sk false (s.data.toList.drop (a + n))) with
        | error e => rfl
        | ok l =>
          show (xs ++ [_] ++ l.map tokS, (0 : Int), (0 : Int)) = (xs ++ List.map tokS (_ :: l), 0, 0)
          rw [List.map_cons, hm, List.append_assoc]; rfl
    · rw [Go.Proofs.YtdemfbfdhpccpaaDoor.Lx.go_end _ _ _ (by rw [p_len]; omega), if_neg (by omega)]
      show some (xs, (0 : Int), (0 : Int)) = some (xs ++ [], 0, 0)
      rw [List.append_nil]
theorem p_lex (s : ByteArray) (hs : s.size ≤ 1048576) (k : Nat) (hk : 2 * s.size + 4 < k) : lex_Lex.f k s = some (lexR (Go.Proofs.YtdemfbfdhpccpaaDoor.Lx.lex s.data.toList)) := by
  unfold lex_Lex.f
  have hsk := Go.Proofs.YtdemfbfdhpccpaaDoor.Lx.sk_le false s.data.toList
  rw [p_len] at hsk
  rw [if_neg (by omega), p_skip s (by omega) k (by omega), Option.bind_some, p_lex_l0 s hs s.size _ (s.size + 1) k [] (by omega) (by omega) (by omega) (by omega) (by simp)]
  unfold Go.Proofs.YtdemfbfdhpccpaaDoor.Lx.lex
  rw [p_len]
  congr 1
theorem rd33_map (ts : List Go.Proofs.YtdemfbfdhpccpaaDoor.Lx.T) (i : Nat) (h : i < ts.length) : rd_T33 (ts.map tokS) (i : Int) = tokS ts[i] := by
  unfold rd_T33
  rw [Int.toNat_natCast, List.getD_eq_getElem?_getD, List.getElem?_eq_getElem (by rw [List.length_map]; exact h), List.getElem_map]; rfl
def gapB : List ByteArray := [(⟨#[32]⟩ : ByteArray), (⟨#[10]⟩ : ByteArray), (⟨#[9, 32]⟩ : ByteArray), (⟨#[37, 32, 194, 167, 255, 10]⟩ : ByteArray), (⟨#[37, 10, 37, 37, 13, 10]⟩ : ByteArray), (⟨#[32, 13]⟩ : ByteArray)]
/-- The gap behind token i. -/
def gm (l : List Int) (i : Nat) : Nat := if i < l.length then ((rd l (i : Int)).toNat % 6) else 0
theorem gm_lt (l : List Int) (i : Nat) : gm l i < 6 := by unfold gm; split <;> omega
def gp (l : List Int) (i : Nat) : List UInt8 := Go.Proofs.YtdemfbfdhpccpaaDoor.Lx.gaps.getD (gm l i) []
theorem gp_ok (l : List Int) (i : Nat) : Go.Proofs.YtdemfbfdhpccpaaDoor.Lx.Gp (gp l i) := (Go.Proofs.YtdemfbfdhpccpaaDoor.Lx.gap_ok _ (gm_lt l i)).1
theorem gp_len (l : List Int) (i : Nat) : (gp l i).length ≤ 6 := (Go.Proofs.YtdemfbfdhpccpaaDoor.Lx.gap_ok _ (gm_lt l i)).2
theorem gapB_at (m : Nat) (h : m < 6) : (rdOf ByteArray.empty gapB (m : Int)).data.toList = Go.Proofs.YtdemfbfdhpccpaaDoor.Lx.gaps.getD m [] := by
  have h6 : m = 0 ∨ m = 1 ∨ m = 2 ∨ m = 3 ∨ m = 4 ∨ m = 5 := by omega
  rcases h6 with rfl | rfl | rfl | rfl | rfl | rfl <;> rfl
theorem p_wakes : jigsawlaw05_wakes.f 60 = some true := by decide +kernel
theorem p_wakes_k (k : Nat) (hk : 60 ≤ k) : jigsawlaw05_wakes.f k = some true := at_rounds (fun k => jigsawlaw05_wakes.mono k) hk p_wakes
theorem back_l1 (s : ByteArray) (hs : s.size ≤ 1000000) (r r' : List Go.Proofs.YtdemfbfdhpccpaaDoor.Lx.T) (hl : r.length ≤ 500) (hl' : r'.length = r.length)
    (hsame : ∀ (j : Nat) (h1 : j < r.length) (h2 : j < r'.length), r'[j].k = r[j].k ∧ r'[j].s = r[j].s ∧ r'[j].n = r[j].n)
    (hat : ∀ x ∈ r', x.a + x.s.length ≤ s.data.toList.length ∧ x.s = (s.data.toList.drop x.a).take x.s.length) :
    ∀ (d i k : Nat), r.length ≤ i + d → i ≤ r.length → d < k → jigsawlaw05_LexBack.l1 k (r.map tokS) s (r'.map tokS) (r.length : Int) (i : Int) = some true := by
  intro d
  induction d with
  | zero =>
    intro i k h1 h2 hk
    obtain ⟨k, rfl⟩ : ∃ m, k = m + 1 := ⟨k - 1, by omega⟩
    simp only [jigsawlaw05_LexBack.l1]
    rw [if_neg (by omega)]
  | succ d ih =>
    intro i k h1 h2 hk
    obtain ⟨k, rfl⟩ : ∃ m, k = m + 1 := ⟨k - 1, by omega⟩
    by_cases hlt : i < r.length
    · have IH := ih (i + 1) k (by omega) (by omega) (by omega)
      have hlt' : i < r'.length := by omega
      have er := rd33_map r i hlt
      have er' := rd33_map r' i hlt'
      obtain ⟨s0, s1, s2⟩ := hsame i hlt hlt'
      obtain ⟨ha1, ha2⟩ := hat r'[i] (List.getElem_mem hlt')
      rw [p_len] at ha1
      generalize r'[i] = x at er' s0 s1 s2 ha1 ha2
      generalize r[i] = y at er s0 s1 s2
      have g1 : (i : Int) < (r.length : Int) := by omega
      have g2 : (0 : Int) ≤ (i : Int) := by omega
      have g3 : (i : Int) < ((r'.map tokS).length : Int) := by rw [List.length_map]; omega
      have g4 : (i : Int) < ((r.map tokS).length : Int) := by rw [List.length_map]; omega
      have g5 : ¬ (x.a : Int) < 0 := by omega
      have g6 : ¬ ((x.a + x.s.length : Nat) : Int) > (s.size : Int) := by omega
      have g7 : (0 : Int) ≤ (x.a : Int) := by omega
      have g8 : (x.a : Int) ≤ ((x.a + x.s.length : Nat) : Int) := by omega
      have g9 : ((x.a + x.s.length : Nat) : Int) ≤ (s.size : Int) := by omega
      have q0 : (tokS x).f0 = (tokS y).f0 := s0
      have q1 : (tokS x).f1.toList = (tokS y).f1.toList := by rw [ByteArray.toList_eq, ByteArray.toList_eq]; exact s1
      have q2 : (tokS x).f2 = (tokS y).f2 := s2
      have q3 : (tokS x).f3 = (x.a : Int) := rfl
      have qz : (tokS x).f1.size = x.s.length := by rw [← p_len]; rfl
      have hcut : (s.extract x.a (x.a + x.s.length)).toList = (tokS x).f1.toList := by
        rw [ByteArray.toList_eq, ByteArray.toList_eq, ByteArray.data_extract, Array.toList_extract, List.extract_eq_take_drop, Nat.add_sub_cancel_left]
        exact ha2.symm
      have e : wrap64 ((i : Int) + 1) = ((i + 1 : Nat) : Int) := by unfold wrap64; omega
      have ew : wrap64 ((x.a : Int) + (x.s.length : Int)) = ((x.a + x.s.length : Nat) : Int) := by clear e; unfold wrap64; omega
      simp only [jigsawlaw05_LexBack.l1]
      rw [er, er', if_pos g1, if_pos g2, if_pos g3, if_pos g4, if_pos q0, if_pos q1, if_pos q2, q3, qz, ew, e, if_neg g5, if_neg g6, if_pos g7, if_pos g8, if_pos g9, Int.toNat_natCast, Int.toNat_natCast, if_pos hcut, IH]
    · simp only [jigsawlaw05_LexBack.l1]
      rw [if_neg (by omega)]
theorem app_len (a b : ByteArray) : (a ++ b).data.toList = a.data.toList ++ b.data.toList := by rw [ByteArray.data_append, Array.toList_append]
theorem back_l0 (l : List Int) (hw : ∀ x ∈ l, (Lit.int .u8 x).wf = true) (r : List Go.Proofs.YtdemfbfdhpccpaaDoor.Lx.T) (hl : r.length ≤ 500) (htk : ∀ x ∈ r, Go.Proofs.YtdemfbfdhpccpaaDoor.Lx.Tk x) (hb : ∀ x ∈ r, x.s.length ≤ 500) (TT : List UInt8) (hT : TT = Go.Proofs.YtdemfbfdhpccpaaDoor.Lx.F (gp l) r 0) (hTT : TT.length ≤ 253000) :
    ∀ (rem : List Go.Proofs.YtdemfbfdhpccpaaDoor.Lx.T) (i k : Nat) (x8 : ByteArray), r.drop i = rem → i ≤ r.length → x8.data.toList ++ Go.Proofs.YtdemfbfdhpccpaaDoor.Lx.F (gp l) rem i = TT → rem.length + 1000000 < k →
    jigsawlaw05_LexBack.l0 k l (r.map tokS) x8 (r.map tokS) (r.length : Int) (i : Int) = some true := by
  intro rem
  induction rem with
  | nil =>
    intro i k x8 hd hi hx hk
    obtain ⟨k, rfl⟩ : ∃ m, k = m + 1 := ⟨k - 1, by omega⟩
    have h1 : ¬ i < r.length := fun h => by rw [List.drop_eq_getElem_cons h] at hd; cases hd
    rw [show Go.Proofs.YtdemfbfdhpccpaaDoor.Lx.F (gp l) [] i = [] from rfl, List.append_nil] at hx
    have hz : x8.size = TT.length := by rw [← hx, p_len]
    have L := p_lex x8 (by omega) k (by simp only [List.length_nil] at hk; omega)
    have hlex := Go.Proofs.YtdemfbfdhpccpaaDoor.Lx.lex_F (gp l) (gp_ok l) r htk
    rw [hx, hT, hlex] at L
    have hPl := Go.Proofs.YtdemfbfdhpccpaaDoor.Lx.P_len (gp l) r 0 0
    have hP := Go.Proofs.YtdemfbfdhpccpaaDoor.Lx.P_get (gp l) r 0 0
    have hat := Go.Proofs.YtdemfbfdhpccpaaDoor.Lx.go_tk x8.data.toList _ _ (Go.Proofs.YtdemfbfdhpccpaaDoor.Lx.P (gp l) r 0 0) (by rw [hx, hT]; exact hlex)
    generalize Go.Proofs.YtdemfbfdhpccpaaDoor.Lx.P (gp l) r 0 0 = r' at L hPl hP hat
    have W := p_wakes_k k (by simp only [List.length_nil] at hk; omega)
    obtain ⟨k2, hk2⟩ : ∃ m, k = m + 1 := ⟨k - 1, by simp only [List.length_nil] at hk; omega⟩
    have B1 := back_l1 x8 (by omega) r r' hl hPl (fun j h1 h2 => hP j h1 h2) (fun x hx => ⟨(hat x hx).2.2.1, (hat x hx).2.2.2⟩) r.length 0 k2 (by omega) (by omega) (by simp only [List.length_nil] at hk; omega)
    have B2 : jigsawlaw05_LexBack.j1 k (r.map tokS) x8 (r'.map tokS) false = some true := by
      rw [hk2]
      simp only [jigsawlaw05_LexBack.j1]
      rw [if_neg (by decide), List.length_map, hPl]
      exact B1
    have hne : (((r'.map tokS).length : Int) != ((r.map tokS).length : Int)) = false := by
      rw [List.length_map, List.length_map, hPl]; simp
    simp only [jigsawlaw05_LexBack.l0]
    rw [if_neg (by omega), L, Option.bind_some, W, Option.bind_some, if_pos rfl, show lexR (.ok r') = (r'.map tokS, (0 : Int), (0 : Int)) from rfl]
    dsimp only
    rw [if_pos rfl, hne, B2]
  | cons x rem ih =>
    intro i k x8 hd hi hx hk
    obtain ⟨k, rfl⟩ : ∃ m, k = m + 1 := ⟨k - 1, by omega⟩
    have h1 : i < r.length := by
      rcases Nat.lt_or_ge i r.length with h | h
      · exact h
      · rw [List.drop_eq_nil_of_le h] at hd; cases hd
    rw [List.drop_eq_getElem_cons h1] at hd
    injection hd with hd1 hd2
    have er := rd33_map r i h1
    rw [hd1] at er
    have hx2 : (x8 ++ ((tokS x).f1 ++ rdOf ByteArray.empty gapB (gm l i : Int))).data.toList ++ Go.Proofs.YtdemfbfdhpccpaaDoor.Lx.F (gp l) rem (i + 1) = TT := by
      rw [app_len, app_len, gapB_at _ (gm_lt l i), ← hx, show Go.Proofs.YtdemfbfdhpccpaaDoor.Lx.F (gp l) (x :: rem) i = x.s ++ (gp l i ++ Go.Proofs.YtdemfbfdhpccpaaDoor.Lx.F (gp l) rem (i + 1)) from rfl, List.append_assoc, List.append_assoc]
      rfl
    have IH := ih (i + 1) k _ hd2 (by omega) hx2 (by simp only [List.length_cons] at hk; omega)
    have z1 : (x8 ++ ((tokS x).f1 ++ rdOf ByteArray.empty gapB (gm l i : Int))).size ≤ 253000 := by
      have := congrArg List.length hx2
      rw [List.length_append, p_len] at this
      omega
    have z2 : (tokS x).f1.size + (rdOf ByteArray.empty gapB (gm l i : Int)).size ≤ 9223372036854775807 := by
      rw [ByteArray.size_append, ByteArray.size_append] at z1; omega
    have z3 : x8.size + ((tokS x).f1 ++ rdOf ByteArray.empty gapB (gm l i : Int)).size ≤ 9223372036854775807 := by
      rw [ByteArray.size_append] at z1; omega
    have g1 : (i : Int) < (r.length : Int) := by omega
    have g2 : (0 : Int) ≤ (i : Int) := by omega
    have g3 : (i : Int) < ((r.map tokS).length : Int) := by rw [List.length_map]; omega
    have g4 : (0 : Int) ≤ (gm l i : Int) := by omega
    have g5 : (gm l i : Int) < (gapB.length : Int) := by have := gm_lt l i; show _ < ((6 : Nat) : Int); omega
    have hgap : (some ([(⟨#[32]⟩ : ByteArray), (⟨#[10]⟩ : ByteArray), (⟨#[9, 32]⟩ : ByteArray), (⟨#[37, 32, 194, 167, 255, 10]⟩ : ByteArray), (⟨#[37, 10, 37, 37, 13, 10]⟩ : ByteArray), (⟨#[32, 13]⟩ : ByteArray)] : List ByteArray) : Option (List ByteArray)) = some gapB := rfl
    have hgl : (i : Int) < (l.length : Int) → Int.tmod (rd l (i : Int)) 6 = (gm l i : Int) := by
      intro h
      have hlt : i < l.length := by omega
      have hrd : rd l (i : Int) = l[i] := by
        unfold rd
        rw [Int.toNat_natCast, List.getD_eq_getElem?_getD, List.getElem?_eq_getElem hlt]; rfl
      have h8 := hw l[i] (List.getElem_mem hlt)
      have h9 : 0 ≤ l[i] ∧ l[i] ≤ 255 := by
        have h10 : (decide (IntKind.u8.min ≤ l[i]) && decide (l[i] ≤ IntKind.u8.max)) = true := h8
        rw [Bool.and_eq_true, decide_eq_true_eq, decide_eq_true_eq] at h10
        have e1 : IntKind.u8.min = 0 := by decide
        have e2 : IntKind.u8.max = 255 := by decide
        omega
      unfold gm
      rw [if_pos hlt, hrd, Int.tmod_eq_emod_of_nonneg h9.1]
      omega
    have hgz : ¬ (i : Int) < (l.length : Int) → ((0 : Int) % 6) = (gm l i : Int) := by
      intro h
      unfold gm
      rw [if_neg (by omega)]; rfl
    have e : wrap64 ((i : Int) + 1) = ((i + 1 : Nat) : Int) := by unfold wrap64; omega
    simp only [jigsawlaw05_LexBack.l0]
    rw [if_pos g1, if_pos g2, if_pos g3, e, er, hgap]
    clear e
    by_cases hil : (i : Int) < (l.length : Int)
    · rw [if_pos hil, hgl hil, Option.bind_some, if_pos g4, if_pos g5, if_pos z2, if_pos z3, IH]
    · rw [if_neg hil, hgz hil, Option.bind_some, if_pos g4, if_pos g5, if_pos z2, if_pos z3, IH]
theorem go_len : ∀ (f : Nat) (l : List UInt8) (a : Nat) (r : List Go.Proofs.YtdemfbfdhpccpaaDoor.Lx.T), Go.Proofs.YtdemfbfdhpccpaaDoor.Lx.go l f a = .ok r → r.length ≤ l.length - a := by
  intro f
  induction f with
  | zero => intro l a r h; rw [show Go.Proofs.YtdemfbfdhpccpaaDoor.Lx.go l 0 a = .ok [] from rfl] at h; cases h; exact Nat.zero_le _
  | succ f ih =>
    intro l a r h
    by_cases ha : a < l.length
    · cases ht : Go.Proofs.YtdemfbfdhpccpaaDoor.Lx.tok (l.drop a) with
      | error e => rw [Go.Proofs.YtdemfbfdhpccpaaDoor.Lx.go, if_pos ha, ht] at h; cases h
      | ok y =>
        obtain ⟨k, n, v⟩ := y
        have hn := Go.Proofs.YtdemfbfdhpccpaaDoor.Lx.tok_le ht
        rw [List.length_drop] at hn
        rw [Go.Proofs.YtdemfbfdhpccpaaDoor.Lx.go, if_pos ha, ht] at h
        simp only at h
        cases hg : Go.Proofs.YtdemfbfdhpccpaaDoor.Lx.go l f (a + n + Go.Proofs.YtdemfbfdhpccpaaDoor.Lx.sk false (l.drop (a + n))) with
        | error e => rw [hg] at h; cases h
        | ok r2 =>
          rw [hg] at h
          have h2 := ih _ _ _ hg
          cases h
          simp only [List.length_cons]
          omega
    · rw [Go.Proofs.YtdemfbfdhpccpaaDoor.Lx.go, if_neg ha] at h
      cases h; exact Nat.zero_le _
theorem LexBack : jigsawlaw05_LexBack.Pure := by
  intro a0 l h0 _ _ hw
  have hm0 : 0 ≤ mn (a0.size : Int) 500 := by unfold mn; omega
  have hm1 : mn (a0.size : Int) 500 ≤ (a0.size : Int) := by unfold mn; omega
  have hm2 : mn (a0.size : Int) 500 ≤ 500 := by unfold mn; omega
  refine ⟨2000000, ?_⟩
  unfold jigsawlaw05_LexBack.f
  generalize mn (a0.size : Int) 500 = m at *
  have hsz : (a0.extract 0 m.toNat).size ≤ 500 := by rw [ByteArray.size_extract]; omega
  rw [if_pos hm0, if_pos hm1]
  generalize a0.extract 0 m.toNat = s at *
  have L := p_lex s (by omega) 2000000 (by omega)
  have W := p_wakes_k 2000000 (by omega)
  have hsl := p_len s
  rw [L, Option.bind_some]
  cases hL : Go.Proofs.YtdemfbfdhpccpaaDoor.Lx.lex s.data.toList with
  | error x =>
    obtain ⟨a, e⟩ := x
    have hb := Go.Proofs.YtdemfbfdhpccpaaDoor.Lx.go_bad _ _ _ _ _ hL
    rw [show lexR (.error (a, e)) = (([] : List S33), (a : Int), e) from rfl]
    dsimp only
    rw [if_neg (by omega), W, Option.bind_some, if_pos rfl]
    rfl
  | ok r =>
    have hr : r.length ≤ 500 := by
      unfold Go.Proofs.YtdemfbfdhpccpaaDoor.Lx.lex at hL
      have h1 := go_len _ _ _ _ hL
      omega
    have htk := Go.Proofs.YtdemfbfdhpccpaaDoor.Lx.go_tk _ _ _ _ hL
    have hB : ∀ x ∈ r, x.s.length ≤ 500 := fun x hx => by have := (htk x hx).2.1; omega
    have hF := Go.Proofs.YtdemfbfdhpccpaaDoor.Lx.F_len (gp l) 500 (gp_len l) r 0 hB
    have H := back_l0 l hw r hr (fun x hx => (htk x hx).1) hB _ rfl (by omega) r 0 2000000 ⟨#[]⟩ (List.drop_zero) (Nat.zero_le _) rfl (by omega)
    rw [show lexR (.ok r) = (r.map tokS, (0 : Int), (0 : Int)) from rfl]
    dsimp only
    rw [if_pos rfl, List.length_map]
    exact H
end Go.Proofs.YtdemfbfdhpccpaaDoorX.H5b
