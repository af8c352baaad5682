/- The plain law of LexPlaces: lines, what is empty, where tokens stand. No program in sight. -/
import Derived.Test.YtdemfbfdhpccpaaDoorLexA
import Derived.Lib.SplitLaws
import Derived.Lib.IndexBytes
import Derived.Lib.SlTrimSet
import Derived.Lib.CutLaws
namespace Go.Proofs.YtdemfbfdhpccpaaDoor
set_option linter.unusedSimpArgs false
set_option linter.unusedVariables false
open Go
def Lx.lines : List UInt8 → List (List UInt8)
  | [] => [[]]
  | c :: l => if c = 10 then [] :: Lx.lines l else match Lx.lines l with
    | [] => [[c]]
    | h :: t => (c :: h) :: t
theorem Lx.lines_cons : ∀ l : List UInt8, ∃ h t, Lx.lines l = h :: t
  | [] => ⟨[], [], rfl⟩
  | c :: l => by
    obtain ⟨h, t, e⟩ := Lx.lines_cons l
    by_cases hc : c = 10
    · exact ⟨[], Lx.lines l, by rw [Lx.lines, if_pos hc]⟩
    · exact ⟨c :: h, t, by rw [Lx.lines, if_neg hc, e]⟩
theorem Lx.lines_step (c : UInt8) (l : List UInt8) (hc : ¬ c = 10) {h : List UInt8} {t : List (List UInt8)} (e : Lx.lines l = h :: t) : Lx.lines (c :: l) = (c :: h) :: t := by
  rw [Lx.lines, if_neg hc, e]
theorem Lx.lines_nl (l : List UInt8) : Lx.lines (10 :: l) = [] :: Lx.lines l := by rw [Lx.lines, if_pos rfl]
theorem Lx.lines_miss : ∀ l : List UInt8, 10 ∉ l → Lx.lines l = [l]
  | [], _ => rfl
  | c :: l, h => by
    have h1 : ¬ c = 10 := fun e => h (by rw [e]; exact List.mem_cons_self)
    exact Lx.lines_step c l h1 (Lx.lines_miss l (fun h2 => h (List.mem_cons_of_mem _ h2)))
theorem Lx.lines_hit : ∀ p q : List UInt8, 10 ∉ p → Lx.lines (p ++ 10 :: q) = p :: Lx.lines q
  | [], q, _ => Lx.lines_nl q
  | c :: p, q, h => by
    have h1 : ¬ c = 10 := fun e => h (by rw [e]; exact List.mem_cons_self)
    rw [List.cons_append]
    exact Lx.lines_step c _ h1 (Lx.lines_hit p q (fun h2 => h (List.mem_cons_of_mem _ h2)))
/-- A line that is empty: blanks, then perhaps a comment. -/
def Lx.em : Bool → List UInt8 → Bool
  | true, _ => true
  | false, [] => true
  | false, c :: l => if c = 32 ∨ c = 9 ∨ c = 13 then Lx.em false l else decide (c = 37)
theorem Lx.u8 {c d : UInt8} : c = d ↔ c.toNat = d.toNat := UInt8.toNat_inj.symm
theorem Lx.sk_lines : ∀ (l : List UInt8) (b : Bool), Lx.sk b l = l.length → ∀ h t, Lx.lines l = h :: t → Lx.em b h = true ∧ ∀ x ∈ t, Lx.em false x = true
  | [], b, _, h, t, e => by
    cases e
    exact ⟨by cases b <;> rfl, fun x hx => by cases hx⟩
  | c :: l, b, hs, h, t, e => by
    obtain ⟨h', t', e'⟩ := Lx.lines_cons l
    by_cases h10 : c = 10
    · subst h10
      rw [Lx.lines_nl] at e
      cases e
      have hs' : Lx.sk false l = l.length := by
        cases b with
        | false =>
          rw [show Lx.sk false (10 :: l) = (if Lx.bl 10 then Lx.sk false l + 1 else if (10 : UInt8).toNat = 37 then Lx.sk true l + 1 else 0) from rfl, if_pos (by decide), List.length_cons] at hs
          omega
        | true =>
          rw [show Lx.sk true (10 :: l) = (if (10 : UInt8).toNat = 10 then Lx.sk false l + 1 else Lx.sk true l + 1) from rfl, if_pos (by decide), List.length_cons] at hs
          omega
      have ih := Lx.sk_lines l false hs' h' t' e'
      refine ⟨by cases b <;> rfl, fun x hx => ?_⟩
      rw [e'] at hx
      cases hx with
      | head => exact ih.1
      | tail _ hx => exact ih.2 x hx
    · rw [Lx.lines_step c l h10 e'] at e
      cases e
      have hn : ¬ c.toNat = 10 := fun h2 => h10 (Lx.u8.2 h2)
      cases b with
      | true =>
        rw [show Lx.sk true (c :: l) = (if c.toNat = 10 then Lx.sk false l + 1 else Lx.sk true l + 1) from rfl, if_neg hn, List.length_cons] at hs
        exact ⟨rfl, (Lx.sk_lines l true (by omega) h' t e').2⟩
      | false =>
        rw [show Lx.sk false (c :: l) = (if Lx.bl c then Lx.sk false l + 1 else if c.toNat = 37 then Lx.sk true l + 1 else 0) from rfl, List.length_cons] at hs
        by_cases hb : Lx.bl c = true
        · rw [if_pos hb] at hs
          have ih := Lx.sk_lines l false (by omega) h' t e'
          refine ⟨?_, ih.2⟩
          unfold Lx.bl at hb
          rw [decide_eq_true_eq] at hb
          rw [show Lx.em false (c :: h') = (if c = 32 ∨ c = 9 ∨ c = 13 then Lx.em false h' else decide (c = 37)) from rfl, if_pos (by
            rcases hb with hb | hb | hb | hb
            · exact .inl (Lx.u8.2 hb)
            · exact .inr (.inl (Lx.u8.2 hb))
            · exact .inr (.inr (Lx.u8.2 hb))
            · exact absurd hb hn)]
          exact ih.1
        · rw [if_neg hb] at hs
          by_cases h37 : c.toNat = 37
          · rw [if_pos h37] at hs
            refine ⟨?_, (Lx.sk_lines l true (by omega) h' t e').2⟩
            have e37 : c = 37 := Lx.u8.2 h37
            subst e37
            rfl
          · rw [if_neg h37] at hs
            omega
theorem Lx.ib_miss (c : UInt8) : ∀ l : List UInt8, Lib.indexByte l c = -1 → c ∉ l
  | [], _, h => by cases h
  | b :: l, h, hm => by
    unfold Lib.indexByte at h
    have hge := Lib.indexByte_ge l c
    by_cases hb : (b == c) = true
    · rw [if_pos hb] at h; cases h
    · rw [if_neg hb] at h
      by_cases h1 : (Lib.indexByte l c == -1) = true
      · cases hm with
        | head => simp at hb
        | tail _ hm => exact Lx.ib_miss c l (beq_iff_eq.1 h1) hm
      · rw [if_neg h1] at h
        have h2 : ¬ Lib.indexByte l c = -1 := fun e => h1 (beq_iff_eq.2 e)
        omega
theorem Lx.ib_hit (c : UInt8) : ∀ (l : List UInt8) (i : Nat), Lib.indexByte l c = i → l = l.take i ++ c :: l.drop (i + 1) ∧ c ∉ l.take i
  | [], i, h => by unfold Lib.indexByte at h; omega
  | b :: l, i, h => by
    unfold Lib.indexByte at h
    have hge := Lib.indexByte_ge l c
    by_cases hb : (b == c) = true
    · rw [if_pos hb] at h
      have : i = 0 := by omega
      subst this
      have e : b = c := beq_iff_eq.1 hb
      subst e
      exact ⟨rfl, fun h => by cases h⟩
    · rw [if_neg hb] at h
      by_cases h1 : (Lib.indexByte l c == -1) = true
      · rw [if_pos h1] at h; omega
      · rw [if_neg h1] at h
        obtain ⟨j, rfl⟩ : ∃ j, i = j + 1 := ⟨i - 1, by have h2 : ¬ Lib.indexByte l c = -1 := fun e => h1 (beq_iff_eq.2 e); omega⟩
        have ih := Lx.ib_hit c l j (by omega)
        rw [List.take_succ_cons, List.drop_succ_cons, List.cons_append]
        refine ⟨by rw [← ih.1], fun hm => ?_⟩
        cases hm with
        | head => simp at hb
        | tail _ hm => exact ih.2 hm
theorem Lx.split_lines : ∀ (n : Nat) (s : ByteArray), s.size ≤ n → (Lib.splitB ⟨#[10]⟩ 0 (Lib.countB s ⟨#[10]⟩) s).map (·.data.toList) = Lx.lines s.data.toList := by
  intro n
  induction n with
  | zero =>
    intro s hs
    have h1 : Lib.indexB s ⟨#[10]⟩ = Lib.indexByte s.data.toList 10 := Lib.index_one s.data.toList 10
    have h0 : s.data.toList = [] := List.eq_nil_of_length_eq_zero (by rw [Array.length_toList]; show s.size = 0; omega)
    have h2 : Lib.indexB s ⟨#[10]⟩ = -1 := by rw [h1, h0]; rfl
    rw [Lib.splitB_miss _ _ _ _ h2, h0]
    show [s.data.toList] = _
    rw [h0]; rfl
  | succ n ih =>
    intro s hs
    have h1 : Lib.indexB s ⟨#[10]⟩ = Lib.indexByte s.data.toList 10 := Lib.index_one s.data.toList 10
    rcases Lib.indexB_cases s ⟨#[10]⟩ with hm | ⟨i, hi, hle⟩
    · rw [Lib.splitB_miss _ _ _ _ hm, Lx.lines_miss _ (Lx.ib_miss 10 _ (by rw [← h1]; exact hm))]
      rfl
    · have hi2 := Lx.ib_hit 10 s.data.toList i (by rw [← h1]; exact hi)
      have z1 : (⟨#[10]⟩ : ByteArray).size = 1 := rfl
      rw [Lib.countB_hit s ⟨#[10]⟩ i (Nat.le_refl _) hi, Nat.add_comm 1, Lib.splitB_hit _ _ _ _ i hi, List.map_cons, z1]
      have e2 : (s.extract (i + 1) s.size).size ≤ n := by rw [ByteArray.size_extract]; omega
      rw [ih _ e2]
      have e3 : (s.extract (i + 1) s.size).data.toList = s.data.toList.drop (i + 1) := Lib.extract_to_end s (i + 1)
      have e4 : (s.extract 0 (i + 0)).data.toList = s.data.toList.take i := by rw [Nat.add_zero]; exact Lib.extract_from_zero s i
      rw [e3, e4]
      conv => rhs; rw [hi2.1]
      rw [Lx.lines_hit _ _ hi2.2]
/-- What of a line stands ahead of a comment. -/
def Lx.cut (l : List UInt8) : List UInt8 := if 0 ≤ Lib.indexByte l 37 then l.take (Lib.indexByte l 37).toNat else l
theorem Lx.cut_cons (c : UInt8) (l : List UInt8) (h : ¬ c = 37) : Lx.cut (c :: l) = c :: Lx.cut l := by
  have hge := Lib.indexByte_ge l 37
  have e : Lib.indexByte (c :: l) 37 = if (Lib.indexByte l 37 == -1) = true then -1 else Lib.indexByte l 37 + 1 := by
    rw [Lib.indexByte, if_neg (by rw [beq_iff_eq]; exact h)]
  unfold Lx.cut
  by_cases h1 : (Lib.indexByte l 37 == -1) = true
  · rw [if_pos h1] at e
    have h2 := beq_iff_eq.1 h1
    rw [e, h2, if_neg (by omega), if_neg (by omega)]
  · rw [if_neg h1] at e
    have h2 : ¬ Lib.indexByte l 37 = -1 := fun e => h1 (beq_iff_eq.2 e)
    rw [e, if_pos (by omega), if_pos (by omega), show (Lib.indexByte l 37 + 1).toNat = (Lib.indexByte l 37).toNat + 1 from by omega, List.take_succ_cons]
theorem Lx.em_cut : ∀ l : List UInt8, Lx.em false l = true → ∀ x ∈ Lx.cut l, [32, 9, 13].contains x = true
  | [], _, x, hx => by cases hx
  | c :: l, h, x, hx => by
    rw [show Lx.em false (c :: l) = (if c = 32 ∨ c = 9 ∨ c = 13 then Lx.em false l else decide (c = 37)) from rfl] at h
    by_cases hb : c = 32 ∨ c = 9 ∨ c = 13
    · rw [if_pos hb] at h
      have h37 : ¬ c = 37 := by rcases hb with rfl | rfl | rfl <;> decide
      rw [Lx.cut_cons c l h37] at hx
      cases hx with
      | head => rcases hb with rfl | rfl | rfl <;> decide
      | tail _ hx => exact Lx.em_cut l h x hx
    · rw [if_neg hb, decide_eq_true_eq] at h
      subst h
      unfold Lx.cut at hx
      have e : Lib.indexByte (37 :: l) 37 = 0 := by rw [Lib.indexByte, if_pos (by decide)]
      rw [e, if_pos (by decide)] at hx
      cases hx
theorem Lx.drop_all (p : UInt8 → Bool) : ∀ l : List UInt8, (∀ x ∈ l, p x = true) → l.dropWhile p = []
  | [], _ => rfl
  | c :: l, h => by rw [List.dropWhile_cons, if_pos (h c List.mem_cons_self)]; exact Lx.drop_all p l fun x hx => h x (List.mem_cons_of_mem _ hx)
theorem Lx.trim_all (l : List UInt8) (cs : List UInt8) (h : ∀ x ∈ l, cs.contains x = true) : Lib.trimS l cs = [] := by
  have h1 : l.reverse.dropWhile (cs.contains ·) = [] := by
    exact Lx.drop_all _ _ fun x hx => h x (List.mem_reverse.1 hx)
  unfold Lib.trimS Lib.trimRightS
  rw [h1]
  rfl
/-- A head of what is skipped is skipped. -/
theorem Lx.sk_take : ∀ (l : List UInt8) (b : Bool) (m : Nat), m ≤ Lx.sk b l → Lx.sk b (l.take m) = m
  | [], b, m, h => by
    rw [show Lx.sk b [] = 0 from by cases b <;> rfl] at h
    have : m = 0 := by omega
    subst this
    cases b <;> rfl
  | c :: l, b, 0, h => by cases b <;> rfl
  | c :: l, true, m + 1, h => by
    rw [show Lx.sk true (c :: l) = (if c.toNat = 10 then Lx.sk false l + 1 else Lx.sk true l + 1) from rfl] at h
    rw [List.take_succ_cons, show Lx.sk true (c :: l.take m) = (if c.toNat = 10 then Lx.sk false (l.take m) + 1 else Lx.sk true (l.take m) + 1) from rfl]
    by_cases hc : c.toNat = 10
    · rw [if_pos hc] at h ⊢
      rw [Lx.sk_take l false m (by omega)]
    · rw [if_neg hc] at h ⊢
      rw [Lx.sk_take l true m (by omega)]
  | c :: l, false, m + 1, h => by
    rw [show Lx.sk false (c :: l) = (if Lx.bl c then Lx.sk false l + 1 else if c.toNat = 37 then Lx.sk true l + 1 else 0) from rfl] at h
    rw [List.take_succ_cons, show Lx.sk false (c :: l.take m) = (if Lx.bl c then Lx.sk false (l.take m) + 1 else if c.toNat = 37 then Lx.sk true (l.take m) + 1 else 0) from rfl]
    by_cases hb : Lx.bl c = true
    · rw [if_pos hb] at h ⊢
      rw [Lx.sk_take l false m (by omega)]
    · rw [if_neg hb] at h ⊢
      by_cases hc : c.toNat = 37
      · rw [if_pos hc] at h ⊢
        rw [Lx.sk_take l true m (by omega)]
      · rw [if_neg hc] at h
        omega
/-- Where tokens stand. -/
def Lx.pl (t : List UInt8) : Nat → List Lx.T → Prop
  | at_, [] => at_ ≤ t.length ∧ Lx.sk false (t.drop at_) = t.length - at_
  | at_, x :: r => x.a = at_ + Lx.sk false (t.drop at_) ∧ ∃ n, 0 < n ∧ x.a + n ≤ t.length ∧ x.s = (t.drop x.a).take n ∧ Lx.pl t (x.a + n) r
theorem Lx.go_pl (t : List UInt8) : ∀ (f at_ : Nat) (r : List Lx.T), at_ ≤ t.length → t.length < f + at_ → Lx.go t f (at_ + Lx.sk false (t.drop at_)) = .ok r → Lx.pl t at_ r
  | 0, at_, r, h1, h2, _ => by omega
  | f + 1, at_, r, h1, h2, h => by
    have hsk := Lx.sk_le false (t.drop at_)
    rw [List.length_drop] at hsk
    rw [Lx.go] at h
    by_cases ha : at_ + Lx.sk false (t.drop at_) < t.length
    · rw [if_pos ha] at h
      cases ht : Lx.tok (t.drop (at_ + Lx.sk false (t.drop at_))) with
      | error e => rw [ht] at h; cases h
      | ok y =>
        obtain ⟨k, n, v⟩ := y
        have hn := Lx.tok_le ht
        rw [List.length_drop] at hn
        rw [ht] at h
        simp only at h
        cases hg : Lx.go t f (at_ + Lx.sk false (t.drop at_) + n + Lx.sk false (t.drop (at_ + Lx.sk false (t.drop at_) + n))) with
        | error e => rw [hg] at h; cases h
        | ok r2 =>
          rw [hg] at h
          cases h
          exact ⟨rfl, n, hn.1, (by show at_ + _ + n ≤ _; omega), rfl, Lx.go_pl t f (at_ + Lx.sk false (t.drop at_) + n) r2 (by omega) (by omega) hg⟩
    · rw [if_neg ha] at h
      cases h
      exact ⟨h1, by omega⟩
theorem Lx.go_bad (t : List UInt8) : ∀ (f a : Nat) (b : Nat) (e : Int), Lx.go t f a = .error (b, e) → b < t.length ∧ (e = 6 ∨ e = 15)
  | 0, a, b, e, h => by rw [show Lx.go t 0 a = .ok [] from rfl] at h; cases h
  | f + 1, a, b, e, h => by
    rw [Lx.go] at h
    by_cases ha : a < t.length
    · rw [if_pos ha] at h
      cases ht : Lx.tok (t.drop a) with
      | error e2 =>
        rw [ht] at h
        cases h
        refine ⟨ha, ?_⟩
        unfold Lx.tok at ht
        split at ht
        · cases ht
        · split at ht
          · split at ht
            · cases ht; exact .inr rfl
            · cases ht
          · split at ht
            · cases ht
            · cases ht; exact .inl rfl
      | ok y =>
        obtain ⟨k, n, v⟩ := y
        rw [ht] at h
        simp only at h
        cases hg : Lx.go t f (a + n + Lx.sk false (t.drop (a + n))) with
        | error x =>
          rw [hg] at h
          cases h
          exact Lx.go_bad t f _ b e hg
        | ok r2 => rw [hg] at h; cases h
    · rw [if_neg ha] at h; cases h
end Go.Proofs.YtdemfbfdhpccpaaDoor
