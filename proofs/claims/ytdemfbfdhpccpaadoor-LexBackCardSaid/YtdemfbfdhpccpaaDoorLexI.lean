/- The plain law of LexBack: tokens with gaps between them are told again. No program in sight. -/
import Derived.Test.YtdemfbfdhpccpaaDoorLexG
namespace Go.Proofs.YtdemfbfdhpccpaaDoor
set_option linter.unusedSimpArgs false
set_option linter.unusedVariables false
open Go
/-- What begins with what no token goes on with. -/
def Lx.dl (q : List UInt8) : Prop := ∃ d q', q = d :: q' ∧ (d = 32 ∨ d = 10 ∨ d = 9 ∨ d = 37)
theorem Lx.dl_not {d : UInt8} (h : d = 32 ∨ d = 10 ∨ d = 9 ∨ d = 37) : Lx.inn d = false ∧ Lx.dg d = false := by
  rcases h with rfl | rfl | rfl | rfl <;> decide
/-- A run that ends where the text is cut, ends there with something else behind it. -/
theorem Lx.run_cut (p : UInt8 → Bool) : ∀ (l q : List UInt8), (∀ d q', q = d :: q' → p d = false) → Lx.run p (l.take (Lx.run p l) ++ q) = Lx.run p l
  | [], q, h => by
    rw [Lx.run_nil, List.take_nil, List.nil_append]
    cases q with
    | nil => rfl
    | cons d q => rw [Lx.run_cons, h d q rfl]; rfl
  | c :: l, q, h => by
    rw [Lx.run_cons]
    by_cases hc : p c = true
    · rw [if_pos hc, List.take_succ_cons, List.cons_append, Lx.run_cons, if_pos hc, Lx.run_cut p l q h]
    · rw [if_neg hc, List.take_zero, List.nil_append]
      cases q with
      | nil => rfl
      | cons d q => rw [Lx.run_cons, h d q rfl]; rfl
theorem Lx.word_head (c : UInt8) (l : List UInt8) : Lx.word (c :: l) = if Lx.lt c then Lx.run Lx.inn l + 1 else 0 := rfl
theorem Lx.neg_cons (c : UInt8) (l : List UInt8) : Lx.neg (c :: l) = (c == 45) := by
  unfold Lx.neg
  rw [show [45].isPrefixOf (c :: l) = ((45 : UInt8) == c && ([] : List UInt8).isPrefixOf l) from rfl]
  rw [show ([] : List UInt8).isPrefixOf l = true from by cases l <;> rfl, Bool.and_true]
  rw [Bool.eq_iff_iff, beq_iff_eq, beq_iff_eq]
  exact eq_comm
theorem Lx.digs_cons (c : UInt8) (l : List UInt8) : Lx.digs (c :: l) = if c = 45 then l else c :: l := by
  unfold Lx.digs
  rw [Lx.neg_cons]
  by_cases h : c = 45
  · rw [if_pos (by rw [beq_iff_eq]; exact h), if_pos h]; rfl
  · rw [if_neg (by rw [beq_iff_eq]; exact h), if_neg h]
theorem Lx.head_take {α : Type} (l : List α) (n : Nat) (q : List α) (h : 0 < n) (h2 : 0 < l.length) : (l.take n ++ q).head? = l.head? := by
  cases l with
  | nil => cases h2
  | cons c l =>
    obtain ⟨m, rfl⟩ : ∃ m, n = m + 1 := ⟨n - 1, by omega⟩
    rw [List.take_succ_cons]; rfl
/-- A token's own text, with a delimiter behind it, is told the same. -/
theorem Lx.tok_again (l : List UInt8) (k : Int) (n : Nat) (v : Int) (h : Lx.tok l = .ok (k, n, v)) (q : List UInt8) (hq : Lx.dl q) : Lx.tok (l.take n ++ q) = .ok (k, n, v) := by
  obtain ⟨d, q', rfl, hd⟩ := hq
  have hin := (Lx.dl_not hd).1
  have hdg := (Lx.dl_not hd).2
  have hle := Lx.tok_le h
  cases l with
  | nil => simp at hle; omega
  | cons c l =>
    unfold Lx.tok at h
    by_cases hw : Lx.word (c :: l) > 0
    · rw [if_pos hw] at h
      cases h
      rw [Lx.word_head] at hw ⊢
      have hc : Lx.lt c = true := by
        cases hc : Lx.lt c with
        | true => rfl
        | false => rw [hc] at hw; exact absurd hw (by simp)
      rw [if_pos hc, List.take_succ_cons, List.cons_append]
      unfold Lx.tok
      rw [Lx.word_head, if_pos hc, Lx.run_cut Lx.inn l (d :: q') (fun d' q'' e => by cases e; exact hin), if_pos (by omega)]
    · rw [if_neg hw] at h
      have hc : Lx.lt c = false := by
        cases hc : Lx.lt c with
        | false => rfl
        | true => rw [Lx.word_head, hc] at hw; exact absurd (Nat.succ_pos _) hw
      by_cases hn : Lx.cnt (c :: l) > 0
      · rw [if_pos hn] at h
        by_cases hb : Lx.bad (c :: l) = true
        · rw [if_pos hb] at h; cases h
        · rw [if_neg hb] at h
          cases h
          have hlen : Lx.nlen (c :: l) = Lx.cnt (c :: l) + if c = 45 then 1 else 0 := by
            unfold Lx.nlen
            rw [Lx.neg_cons]
            by_cases h45 : c = 45
            · rw [if_pos (by rw [beq_iff_eq]; exact h45), if_pos h45]
            · rw [if_neg (by rw [beq_iff_eq]; exact h45), if_neg h45]
          have e0 : (c :: l).take (Lx.nlen (c :: l)) ++ d :: q' = c :: (l.take (Lx.nlen (c :: l) - 1) ++ d :: q') := by
            obtain ⟨m, hm⟩ : ∃ m, Lx.nlen (c :: l) = m + 1 := ⟨Lx.nlen (c :: l) - 1, by rw [hlen]; split <;> omega⟩
            rw [hm, List.take_succ_cons, Nat.add_sub_cancel]; rfl
          have ed : Lx.digs ((c :: l).take (Lx.nlen (c :: l)) ++ d :: q') = (Lx.digs (c :: l)).take (Lx.cnt (c :: l)) ++ d :: q' := by
            rw [e0, Lx.digs_cons, Lx.digs_cons]
            by_cases h45 : c = 45
            · rw [if_pos h45, if_pos h45, hlen, if_pos h45, Nat.add_sub_cancel]
            · rw [if_neg h45, if_neg h45, ← e0, hlen, if_neg h45, Nat.add_zero]
          have en : Lx.neg ((c :: l).take (Lx.nlen (c :: l)) ++ d :: q') = Lx.neg (c :: l) := by rw [e0, Lx.neg_cons, Lx.neg_cons]
          have ec : Lx.cnt ((c :: l).take (Lx.nlen (c :: l)) ++ d :: q') = Lx.cnt (c :: l) := by
            unfold Lx.cnt at ed ⊢
            rw [ed]
            exact Lx.run_cut Lx.dg _ (d :: q') (fun d' q'' e => by cases e; exact hdg)
          have hdl : 0 < (Lx.digs (c :: l)).length := by
            have := Lx.run_le Lx.dg (Lx.digs (c :: l))
            unfold Lx.cnt at hn
            omega
          have eh : (Lx.digs ((c :: l).take (Lx.nlen (c :: l)) ++ d :: q')).head? = (Lx.digs (c :: l)).head? := by rw [ed, Lx.head_take _ _ _ hn hdl]
          have eb : Lx.bad ((c :: l).take (Lx.nlen (c :: l)) ++ d :: q') = Lx.bad (c :: l) := by unfold Lx.bad; rw [ec, eh, en]
          have el : Lx.nlen ((c :: l).take (Lx.nlen (c :: l)) ++ d :: q') = Lx.nlen (c :: l) := by
            have e5 : ∀ x : List UInt8, Lx.nlen x = Lx.cnt x + if Lx.neg x then 1 else 0 := fun _ => rfl
            rw [e5, ec, en, e5 (c :: l)]
          have ev : Lx.num ((c :: l).take (Lx.nlen (c :: l)) ++ d :: q') = Lx.num (c :: l) := by
            unfold Lx.num
            rw [en, ec, ed, List.take_left' (by rw [List.length_take]; have := Lx.run_le Lx.dg (Lx.digs (c :: l)); unfold Lx.cnt; omega)]
          have ew : ¬ Lx.word ((c :: l).take (Lx.nlen (c :: l)) ++ d :: q') > 0 := by
            rw [e0, Lx.word_head, hc]; simp
          unfold Lx.tok
          rw [if_neg ew, ec, if_pos hn, eb, if_neg hb, el, ev]
      · rw [if_neg hn] at h
        by_cases hs : Lx.sign (c :: l) > 0
        · rw [if_pos hs] at h
          cases h
          have hsv : Lx.sign (c :: l) = if [46, 46].isPrefixOf (c :: l) then 2 else if [40, 41, 91, 93, 123, 125, 44, 59, 58].contains c then 1 else 0 := rfl
          have hdc : Lx.dg c = false ∧ c ≠ 45 := by
            by_cases hpp : [46, 46].isPrefixOf (c :: l) = true
            · have : c = 46 := by
                cases l with
                | nil => simp [List.isPrefixOf] at hpp
                | cons e l => simp only [List.isPrefixOf, Bool.and_true, Bool.and_eq_true, beq_iff_eq] at hpp; exact hpp.1.symm
              subst this
              decide
            · rw [hsv, if_neg hpp] at hs
              by_cases hcc : [40, 41, 91, 93, 123, 125, 44, 59, 58].contains c = true
              · rw [List.contains_iff_mem] at hcc
                simp only [List.mem_cons, List.not_mem_nil, or_false] at hcc
                rcases hcc with rfl | rfl | rfl | rfl | rfl | rfl | rfl | rfl | rfl <;> decide
              · rw [if_neg hcc] at hs; exact absurd hs (by simp)
          have hz : ∀ x : List UInt8, Lx.cnt (c :: x) = 0 := by
            intro x
            unfold Lx.cnt
            rw [Lx.digs_cons, if_neg hdc.2, Lx.run_cons, hdc.1]; rfl
          have hz2 : ∀ x : List UInt8, ¬ Lx.word (c :: x) > 0 := by intro x; rw [Lx.word_head, hc]; simp
          by_cases hpp : [46, 46].isPrefixOf (c :: l) = true
          · have hl : ∃ l', l = 46 :: l' ∧ c = 46 := by
              cases l with
              | nil => simp [List.isPrefixOf] at hpp
              | cons e l => simp only [List.isPrefixOf, Bool.and_true, Bool.and_eq_true, beq_iff_eq] at hpp; exact ⟨l, by rw [hpp.2], hpp.1.symm⟩
            obtain ⟨l', rfl, rfl⟩ := hl
            rw [hsv, if_pos hpp]
            show Lx.tok (46 :: 46 :: d :: q') = _
            unfold Lx.tok
            rw [if_neg (hz2 _), hz, if_neg (by omega)]
            have e2 : Lx.sign (46 :: 46 :: d :: q') = 2 := by
              show (if [46, 46].isPrefixOf (46 :: 46 :: d :: q') then 2 else if [40, 41, 91, 93, 123, 125, 44, 59, 58].contains 46 then 1 else 0) = 2
              rw [if_pos (by simp [List.isPrefixOf])]
            rw [e2]; rfl
          · have hcc : [40, 41, 91, 93, 123, 125, 44, 59, 58].contains c = true := by
              cases hcc : [40, 41, 91, 93, 123, 125, 44, 59, 58].contains c with
              | true => rfl
              | false => rw [hsv, if_neg hpp, hcc] at hs; exact absurd hs (by simp)
            rw [hsv, if_neg hpp, if_pos hcc]
            show Lx.tok (c :: d :: q') = _
            unfold Lx.tok
            rw [if_neg (hz2 _), hz, if_neg (by omega)]
            have hc46 : c ≠ 46 := by
              rw [List.contains_iff_mem] at hcc
              simp only [List.mem_cons, List.not_mem_nil, or_false] at hcc
              rcases hcc with rfl | rfl | rfl | rfl | rfl | rfl | rfl | rfl | rfl <;> decide
            have e2 : Lx.sign (c :: d :: q') = 1 := by
              show (if [46, 46].isPrefixOf (c :: d :: q') then 2 else if [40, 41, 91, 93, 123, 125, 44, 59, 58].contains c then 1 else 0) = _
              rw [if_neg (by
                simp only [List.isPrefixOf, Bool.and_true, Bool.and_eq_true, beq_iff_eq]
                exact fun h => hc46 h.1.symm), if_pos hcc]
            rw [e2]; rfl
        · rw [if_neg hs] at h; cases h
/-- The first byte of a token is no blank. -/
theorem Lx.tok_sk (l : List UInt8) (k : Int) (n : Nat) (v : Int) (h : Lx.tok l = .ok (k, n, v)) : Lx.sk false l = 0 := by
  cases l with
  | nil => rfl
  | cons c l =>
    have h1 : ¬ (Lx.bl c = true ∨ c = 37) := by
      intro hb
      have hx : c = 32 ∨ c = 9 ∨ c = 13 ∨ c = 10 ∨ c = 37 := by
        rcases hb with hb | hb
        · unfold Lx.bl at hb
          rw [decide_eq_true_eq] at hb
          rcases hb with hb | hb | hb | hb
          · exact .inl (Lx.u8.2 hb)
          · exact .inr (.inl (Lx.u8.2 hb))
          · exact .inr (.inr (.inl (Lx.u8.2 hb)))
          · exact .inr (.inr (.inr (.inl (Lx.u8.2 hb))))
        · exact .inr (.inr (.inr (.inr hb)))
      have hf : Lx.lt c = false ∧ Lx.dg c = false ∧ c ≠ 45 ∧ c ≠ 46 ∧ [40, 41, 91, 93, 123, 125, 44, 59, 58].contains c = false := by
        rcases hx with rfl | rfl | rfl | rfl | rfl <;> decide
      unfold Lx.tok at h
      rw [Lx.word_head, hf.1] at h
      have hz : Lx.cnt (c :: l) = 0 := by
        unfold Lx.cnt
        rw [Lx.digs_cons, if_neg hf.2.2.1, Lx.run_cons, hf.2.1]; rfl
      have hs : Lx.sign (c :: l) = 0 := by
        show (if [46, 46].isPrefixOf (c :: l) then 2 else if [40, 41, 91, 93, 123, 125, 44, 59, 58].contains c then 1 else 0) = _
        rw [if_neg (by
          simp only [List.isPrefixOf, Bool.and_eq_true, beq_iff_eq]
          exact fun h => hf.2.2.2.1 h.1.symm), hf.2.2.2.2]; rfl
      rw [hz, hs] at h
      cases h
    have h2 : Lx.bl c = false := by
      cases hb : Lx.bl c with
      | false => rfl
      | true => exact absurd (.inl hb) h1
    exact Lx.sk_zero c l h2 (fun e => h1 (.inr (Lx.u8.2 e)))
/-- A token whose text is told the same again. -/
def Lx.Tk (x : Lx.T) : Prop := ∀ q, Lx.dl q → Lx.tok (x.s ++ q) = .ok (x.k, x.s.length, x.n)
theorem Lx.go_tk (t : List UInt8) : ∀ (f a : Nat) (r : List Lx.T), Lx.go t f a = .ok r → ∀ x ∈ r, Lx.Tk x ∧ x.s.length ≤ t.length ∧ x.a + x.s.length ≤ t.length ∧ x.s = (t.drop x.a).take x.s.length
  | 0, a, r, h, x, hx => by rw [show Lx.go t 0 a = .ok [] from rfl] at h; cases h; cases hx
  | f + 1, a, r, h, x, hx => by
    rw [Lx.go] at h
    by_cases ha : a < t.length
    · rw [if_pos ha] at h
      cases ht : Lx.tok (t.drop a) with
      | error e => rw [ht] at h; cases h
      | ok y =>
        obtain ⟨k, n, v⟩ := y
        rw [ht] at h
        simp only at h
        cases hg : Lx.go t f (a + n + Lx.sk false (t.drop (a + n))) with
        | error e => rw [hg] at h; cases h
        | ok r2 =>
          rw [hg] at h
          cases h
          cases hx with
          | head =>
            have hn := Lx.tok_le ht
            rw [List.length_drop] at hn
            have hl : ((t.drop a).take n).length = n := by rw [List.length_take, List.length_drop]; omega
            refine ⟨fun q hq => ?_, ?_, ?_, ?_⟩
            · show Lx.tok ((t.drop a).take n ++ q) = .ok (k, ((t.drop a).take n).length, v)
              rw [hl]
              exact Lx.tok_again _ k n v ht q hq
            · show ((t.drop a).take n).length ≤ _
              omega
            · show a + ((t.drop a).take n).length ≤ _
              omega
            · show (t.drop a).take n = (t.drop a).take ((t.drop a).take n).length
              rw [hl]
          | tail _ hx => exact Lx.go_tk t f _ r2 hg x hx
    · rw [if_neg ha] at h; cases h; cases hx
/-- A gap: it ends no token, and is skipped whole. -/
def Lx.Gp (g : List UInt8) : Prop := ∀ q, Lx.dl (g ++ q) ∧ Lx.sk false (g ++ q) = g.length + Lx.sk false q
/-- Tokens' texts with gaps between them; where they then stand. -/
def Lx.F (g : Nat → List UInt8) : List Lx.T → Nat → List UInt8
  | [], _ => []
  | x :: r, i => x.s ++ (g i ++ Lx.F g r (i + 1))
def Lx.P (g : Nat → List UInt8) : List Lx.T → Nat → Nat → List Lx.T
  | [], _, _ => []
  | x :: r, i, a => ⟨x.k, x.s, x.n, a⟩ :: Lx.P g r (i + 1) (a + x.s.length + (g i).length)
theorem Lx.F_sk (g : Nat → List UInt8) (hg : ∀ i, Lx.Gp (g i)) : ∀ (r : List Lx.T) (i : Nat), (∀ x ∈ r, Lx.Tk x) → Lx.sk false (Lx.F g r i) = 0
  | [], _, _ => rfl
  | x :: r, i, h => Lx.tok_sk _ _ _ _ (h x List.mem_cons_self (g i ++ Lx.F g r (i + 1)) ((hg i _).1))
theorem Lx.go_F (g : Nat → List UInt8) (hg : ∀ i, Lx.Gp (g i)) : ∀ (r : List Lx.T) (i : Nat) (p : List UInt8) (f : Nat), (∀ x ∈ r, Lx.Tk x) → (p ++ Lx.F g r i).length < f + p.length → Lx.go (p ++ Lx.F g r i) f p.length = .ok (Lx.P g r i p.length)
  | [], i, p, f, _, _ => by
    rw [show Lx.F g [] i = [] from rfl, List.append_nil]
    exact Lx.go_end _ _ _ (by omega)
  | x :: r, i, p, f, h, hf => by
    have ht := h x List.mem_cons_self (g i ++ Lx.F g r (i + 1)) ((hg i _).1)
    have hr : ∀ y ∈ r, Lx.Tk y := fun y hy => h y (List.mem_cons_of_mem _ hy)
    have hn := Lx.tok_le ht
    have hd : (p ++ Lx.F g (x :: r) i).drop p.length = x.s ++ (g i ++ Lx.F g r (i + 1)) := by rw [List.drop_left]; rfl
    have hlen : (p ++ Lx.F g (x :: r) i).length = p.length + (x.s.length + ((g i).length + (Lx.F g r (i + 1)).length)) := by
      rw [List.length_append, show Lx.F g (x :: r) i = x.s ++ (g i ++ Lx.F g r (i + 1)) from rfl, List.length_append, List.length_append]
    rw [← hd] at ht
    have e1 : p ++ Lx.F g (x :: r) i = (p ++ x.s) ++ (g i ++ Lx.F g r (i + 1)) := by
      rw [show Lx.F g (x :: r) i = x.s ++ (g i ++ Lx.F g r (i + 1)) from rfl, List.append_assoc]
    have e2 : p ++ Lx.F g (x :: r) i = (p ++ x.s ++ g i) ++ Lx.F g r (i + 1) := by
      rw [e1, List.append_assoc]; rw [List.append_assoc]; rw [List.append_assoc]
    have hd2 : (p ++ Lx.F g (x :: r) i).drop (p.length + x.s.length) = g i ++ Lx.F g r (i + 1) := by
      rw [e1, ← List.length_append, List.drop_left]
    rw [Lx.go_ok _ f p.length (by omega) (by omega) ht, hd2, (hg i _).2, Lx.F_sk g hg r (i + 1) hr, Nat.add_zero]
    have ep : p.length + x.s.length + (g i).length = (p ++ x.s ++ g i).length := by rw [List.length_append, List.length_append]
    have IH := Lx.go_F g hg r (i + 1) (p ++ x.s ++ g i) f hr (by rw [← e2, hlen, ← ep]; omega)
    rw [ep, e2, IH]
    rw [← e2, hd, List.take_left, ← ep]
    rfl
theorem Lx.lex_F (g : Nat → List UInt8) (hg : ∀ i, Lx.Gp (g i)) (r : List Lx.T) (h : ∀ x ∈ r, Lx.Tk x) : Lx.lex (Lx.F g r 0) = .ok (Lx.P g r 0 0) := by
  unfold Lx.lex
  rw [Lx.F_sk g hg r 0 h]
  exact Lx.go_F g hg r 0 [] ((Lx.F g r 0).length + 1) h (by simp)
theorem Lx.P_len (g : Nat → List UInt8) : ∀ (r : List Lx.T) (i a : Nat), (Lx.P g r i a).length = r.length
  | [], _, _ => rfl
  | x :: r, i, a => by rw [Lx.P, List.length_cons, List.length_cons, Lx.P_len g r]
theorem Lx.P_get (g : Nat → List UInt8) : ∀ (r : List Lx.T) (i a j : Nat) (h1 : j < r.length) (h2 : j < (Lx.P g r i a).length), (Lx.P g r i a)[j].k = r[j].k ∧ (Lx.P g r i a)[j].s = r[j].s ∧ (Lx.P g r i a)[j].n = r[j].n
  | [], _, _, j, h1, _ => by cases h1
  | x :: r, i, a, 0, _, _ => ⟨rfl, rfl, rfl⟩
  | x :: r, i, a, j + 1, h1, h2 => Lx.P_get g r (i + 1) _ j (by simpa using h1) (by rw [Lx.P] at h2; simpa using h2)
theorem Lx.F_len (g : Nat → List UInt8) (B : Nat) (hB : ∀ i, (g i).length ≤ 6) : ∀ (r : List Lx.T) (i : Nat), (∀ x ∈ r, x.s.length ≤ B) → (Lx.F g r i).length ≤ r.length * (B + 6)
  | [], _, _ => Nat.zero_le _
  | x :: r, i, h => by
    have h1 := Lx.F_len g B hB r (i + 1) (fun y hy => h y (List.mem_cons_of_mem _ hy))
    have h2 := h x List.mem_cons_self
    have h3 := hB i
    rw [show Lx.F g (x :: r) i = x.s ++ (g i ++ Lx.F g r (i + 1)) from rfl, List.length_append, List.length_append, List.length_cons, Nat.succ_mul]
    omega
/-- The six gaps. -/
def Lx.gaps : List (List UInt8) := [[32], [10], [9, 32], [37, 32, 194, 167, 255, 10], [37, 10, 37, 37, 13, 10], [32, 13]]
theorem Lx.gap_ok (m : Nat) (h : m < 6) : Lx.Gp (Lx.gaps.getD m []) ∧ (Lx.gaps.getD m []).length ≤ 6 := by
  have h6 : m = 0 ∨ m = 1 ∨ m = 2 ∨ m = 3 ∨ m = 4 ∨ m = 5 := by omega
  rcases h6 with rfl | rfl | rfl | rfl | rfl | rfl
  · exact ⟨fun q => ⟨⟨32, q, rfl, by decide⟩, by show Lx.sk false q + 1 = 1 + _; omega⟩, by decide⟩
  · exact ⟨fun q => ⟨⟨10, q, rfl, by decide⟩, by show Lx.sk false q + 1 = 1 + _; omega⟩, by decide⟩
  · exact ⟨fun q => ⟨⟨9, 32 :: q, rfl, by decide⟩, by show Lx.sk false q + 1 + 1 = 2 + _; omega⟩, by decide⟩
  · exact ⟨fun q => ⟨⟨37, _, rfl, by decide⟩, by show Lx.sk false q + 1 + 1 + 1 + 1 + 1 + 1 = 6 + _; omega⟩, by decide⟩
  · exact ⟨fun q => ⟨⟨37, _, rfl, by decide⟩, by show Lx.sk false q + 1 + 1 + 1 + 1 + 1 + 1 = 6 + _; omega⟩, by decide⟩
  · exact ⟨fun q => ⟨⟨32, 13 :: q, rfl, by decide⟩, by show Lx.sk false q + 1 + 1 = 2 + _; omega⟩, by decide⟩
end Go.Proofs.YtdemfbfdhpccpaaDoor
