import Derived.Test.YtdnllmngaljflaaGreatDoorOpPrint
namespace Go.Proofs.YtdnllmngaljflaaGreatDoorX.Ho
open Go.RowKit Go.Proofs.YtdnllmngaljflaaGreatDoorW.PrintWords Go.Proofs.YtdnllmngaljflaaGreatDoorW.PrintLast Go.Proofs.YtdnllmngaljflaaGreatDoorW.PrintMore
attribute [local go_sem] max2_int min2_int max_two min_two max_three min_three max_four min_four
set_option linter.unusedVariables false
set_option linter.unusedSimpArgs false
attribute [local go_sem] Go.Proofs.YtdnllmngaljflaaGreatDoor.Hook.cell_two
/-! ### What is printed is parsed again -/
theorem valD_snoc (l : Bs) (c : UInt8) (n : Nat) : valD (l ++ [c]) n = 10 * valD l n + (c.toNat - 48) := by unfold valD; rw [List.foldl_append]; rfl
theorem dig_val {i : Nat} (h : i < 10) : (UInt8.ofNat (48 + i)).toNat = 48 + i := by
  rw [UInt8.toNat_ofNat']; omega
theorem dig_is {i : Nat} (h : i < 10) : isDg (UInt8.ofNat (48 + i)) = true := by
  unfold isDg; rw [dig_val h, decide_eq_true (by omega), decide_eq_true (by omega)]; rfl
theorem dd_step (u : Nat) (h : ¬ u < 10) : Lib.decDigits u = Lib.decDigits (u / 10) ++ [UInt8.ofNat (48 + u % 10)] := by rw [Lib.decDigits, dif_neg h]
theorem dd_all (u : Nat) : (Lib.decDigits u).all isDg = true := by
  induction u using Nat.strongRecOn with
  | ind u ih =>
    by_cases h : u < 10
    · rw [Lib.decDigits_one h, List.all_cons, dig_is h]; rfl
    · rw [dd_step u h, List.all_append, ih (u / 10) (by omega), List.all_cons, dig_is (by omega)]; rfl
theorem dd_val (u : Nat) : valD (Lib.decDigits u) 0 = u := by
  induction u using Nat.strongRecOn with
  | ind u ih =>
    by_cases h : u < 10
    · rw [Lib.decDigits_one h]; unfold valD; simp only [List.foldl_cons, List.foldl_nil]; rw [dig_val h]; omega
    · rw [dd_step u h, valD_snoc, ih (u / 10) (by omega), dig_val (by omega)]; omega
theorem dd_ne (u : Nat) : Lib.decDigits u ≠ [] := by
  by_cases h : u < 10
  · rw [Lib.decDigits_one h]; simp
  · rw [dd_step u h]; simp
theorem dd_head (u : Nat) (h0 : u ≠ 0) : (Lib.decDigits u).head? ≠ some 48 := by
  induction u using Nat.strongRecOn with
  | ind u ih =>
    by_cases h : u < 10
    · rw [Lib.decDigits_one h]
      intro e
      have e2 : UInt8.ofNat (48 + u) = 48 := by simpa using e
      have := dig_val h
      rw [e2] at this
      have e3 : (48 : UInt8).toNat = 48 := rfl
      omega
    · rw [dd_step u h]
      have := ih (u / 10) (by omega) (by omega)
      cases hd : Lib.decDigits (u / 10) with
      | nil => exact absurd hd (dd_ne _)
      | cons c l => rw [hd] at this; exact this
theorem dd_len : ∀ (k u : Nat), u < 10 ^ (k + 1) → (Lib.decDigits u).length ≤ k + 1
  | 0, u, h => by rw [Lib.decDigits_one (by simpa using h)]; simp
  | k + 1, u, h => by
    by_cases h1 : u < 10
    · rw [Lib.decDigits_one h1]; simp
    · rw [dd_step u h1, List.length_append]
      have := dd_len k (u / 10) (by rw [Nat.pow_succ] at h; omega)
      simp only [List.length_cons, List.length_nil]; omega
theorem num_itoa (n : Nat) (h : n ≤ 1000000) : numL (Lib.itoa (n : Int)) = some n := by
  have e : Lib.itoa (n : Int) = Lib.decDigits n := by unfold Lib.itoa; rw [if_neg (by omega)]; rfl
  rw [e]
  unfold numL
  have h1 : 1 ≤ (Lib.decDigits n).length := by
    cases hd : Lib.decDigits n with
    | nil => exact absurd hd (dd_ne _)
    | cons c l => simp
  rw [if_pos ⟨h1, dd_len 6 n (by omega), dd_all n, by
    by_cases h0 : n = 0
    · left; subst h0; rw [Lib.decDigits_one (by decide)]; rfl
    · right; exact dd_head n h0⟩, dd_val]
theorem itoa_dg (n : Nat) : ∀ c ∈ Lib.itoa (n : Int), isDg c = true := by
  have e : Lib.itoa (n : Int) = Lib.decDigits n := by unfold Lib.itoa; rw [if_neg (by omega)]; rfl
  rw [e]
  exact List.all_eq_true.1 (dd_all n)
theorem dg_58 {c : UInt8} (h : isDg c = true) : c ≠ 58 := by rintro rfl; cases h
theorem dg_bl {c : UInt8} (h : isDg c = true) : isBl c = false := by
  unfold isDg at h
  rw [Bool.and_eq_true, decide_eq_true_eq, decide_eq_true_eq] at h
  unfold isBl
  have q : ∀ k : UInt8, k.toNat < 48 → (c == k) = false := fun k hk => by
    rw [beq_eq_false_iff_ne]; intro e; rw [e] at h; omega
  rw [q 32 (by decide), q 9 (by decide), q 10 (by decide), q 13 (by decide)]; rfl
theorem not58 (n : Nat) : (58 : UInt8) ∉ Lib.itoa (n : Int) := fun h => dg_58 (itoa_dg n 58 h) rfl
theorem sch_back (k u n d : Nat) (hu : u ≤ 1000000) (hn : n ≤ 1000000) (hd : d ≤ 1000000) (h : schOk k u n d = true) : schL (schT k u n d) = some ((k : Int), (u : Int), (n : Int), (d : Int)) := by
  rcases (schOk_iff k u n d).1 h with ⟨h1, h2, h3, h4, h5⟩ | ⟨h1, h2, h3, h4, h5, h6⟩ | ⟨h1, h2, h3, h4⟩
  · obtain rfl : k = 1 := by omega
    obtain rfl : n = 0 := by omega
    obtain rfl : d = 0 := by omega
    have e : schT ((1 : Nat) : Int) u ((0 : Nat) : Int) ((0 : Nat) : Int) = [108, 117, 98, 121] ++ 58 :: Lib.itoa (u : Int) := rfl
    rw [e]
    unfold schL
    rw [sc_hit 58 _ _ (by decide), sc_miss 58 _ (not58 u)]
    simp only
    rw [show plc [108, 117, 98, 121] schedsL = some 1 from by decide, Option.bind_some]
    unfold schP
    rw [if_pos rfl]
    simp only
    rw [num_itoa u hu]
    rfl
  · obtain rfl : k = 2 := by omega
    have e : schT ((2 : Nat) : Int) u n d = [103, 101, 111, 109, 101, 116, 114, 105, 99] ++ 58 :: (Lib.itoa (u : Int) ++ 58 :: (Lib.itoa (n : Int) ++ 58 :: Lib.itoa (d : Int))) := by
      unfold schT
      rw [if_neg (by decide), if_pos (show ((2 : Nat) : Int) = 2 from rfl)]
      simp only [List.cons_append, List.append_assoc]
      rfl
    rw [e]
    unfold schL
    rw [sc_hit 58 _ _ (by decide), sc_hit 58 _ _ (not58 u), sc_hit 58 _ _ (not58 n), sc_miss 58 _ (not58 d)]
    simp only
    rw [show plc [103, 101, 111, 109, 101, 116, 114, 105, 99] schedsL = some 2 from by decide, Option.bind_some]
    unfold schP
    rw [if_neg (by decide), if_pos rfl]
    simp only
    rw [num_itoa u hu, num_itoa n hn, num_itoa d hd]
    rfl
  · obtain rfl : u = 0 := by omega
    obtain rfl : n = 0 := by omega
    obtain rfl : d = 0 := by omega
    have h9 : k = 0 ∨ k = 3 ∨ k = 4 := by omega
    rcases h9 with rfl | rfl | rfl <;> decide

/-! ### Words and blanks -/
theorem wf_blank (b : UInt8) (h : isBl b = true) (l : Bs) : wordsF (b :: l) [] = wordsF l [] := by
  conv => lhs; unfold wordsF
  rw [if_pos h, if_pos rfl]
theorem wf_blanks : ∀ (p l : Bs), (∀ c ∈ p, isBl c = true) → wordsF (p ++ l) [] = wordsF l []
  | [], l, _ => rfl
  | b :: p, l, h => by
    rw [List.cons_append, wf_blank b (h b List.mem_cons_self)]
    exact wf_blanks p l (fun c hc => h c (List.mem_cons_of_mem _ hc))
/-- A word: not empty, no blanks. -/
def Wd (x : Bs) : Prop := x ≠ [] ∧ ∀ c ∈ x, isBl c = false
theorem wf_word {x : Bs} (hx : Wd x) (b : UInt8) (h : isBl b = true) (l : Bs) : wordsF (x ++ b :: l) [] = x :: wordsF l [] := by
  rw [wordsF_app x _ _ hx.2, List.nil_append]
  conv => lhs; unfold wordsF
  rw [if_pos h, if_neg hx.1]
theorem wf_end {x : Bs} (hx : Wd x) : wordsF x [] = [x] := by
  have := wordsF_app x [] [] hx.2
  rw [List.append_nil, List.nil_append] at this
  rw [this]
  unfold wordsF
  rw [if_neg hx.1]
theorem wf_tail {x : Bs} (hx : Wd x) (t : Bs) (ht : ∀ c ∈ t, isBl c = true) : wordsF (x ++ t) [] = [x] := by
  cases t with
  | nil => rw [List.append_nil]; exact wf_end hx
  | cons b t =>
    rw [wf_word hx b (ht b List.mem_cons_self)]
    have := wf_blanks t [] (fun c hc => ht c (List.mem_cons_of_mem _ hc))
    rw [List.append_nil] at this
    rw [this]; rfl
theorem wf_jt (b : UInt8) (sep : Bs) (hb : isBl b = true) (hs : ∀ c ∈ sep, isBl c = true) (t : Bs) (ht : ∀ c ∈ t, isBl c = true) : ∀ (r : List Bs) (x : Bs), Wd x → (∀ y ∈ r, Wd y) → wordsF (x ++ Lib.joinTail (b :: sep) r ++ t) [] = x :: r
  | [], x, hx, _ => by
    show wordsF (x ++ [] ++ t) [] = [x]
    rw [List.append_nil]; exact wf_tail hx t ht
  | y :: r, x, hx, hr => by
    have e : x ++ Lib.joinTail (b :: sep) (y :: r) ++ t = x ++ b :: (sep ++ (y ++ Lib.joinTail (b :: sep) r ++ t)) := by
      simp [Lib.joinTail, List.append_assoc]
    rw [e, wf_word hx b hb, wf_blanks sep _ hs, wf_jt b sep hb hs t ht r y (hr y List.mem_cons_self) (fun z hz => hr z (List.mem_cons_of_mem _ hz))]
theorem wf_join (b : UInt8) (sep : Bs) (hb : isBl b = true) (hs : ∀ c ∈ sep, isBl c = true) (t : Bs) (ht : ∀ c ∈ t, isBl c = true) (L : List Bs) (hL : ∀ y ∈ L, Wd y) : wordsF (Lib.join L (b :: sep) ++ t) [] = L := by
  cases L with
  | nil =>
    rw [Lib.join_nil, List.nil_append]
    have := wf_blanks t [] ht
    rw [List.append_nil] at this
    rw [this]; rfl
  | cons x r =>
    rw [Lib.join_cons]
    exact wf_jt b sep hb hs t ht r x (hL x List.mem_cons_self) (fun z hz => hL z (List.mem_cons_of_mem _ hz))
theorem wf_wd : ∀ (l w : Bs), (∀ c ∈ w, isBl c = false) → ∀ x ∈ wordsF l w, Wd x
  | [], w, hw, x, hx => by
    unfold wordsF at hx
    by_cases h0 : w = []
    · rw [if_pos h0] at hx; cases hx
    · rw [if_neg h0] at hx
      rw [List.mem_singleton] at hx
      subst hx; exact ⟨h0, hw⟩
  | c :: l, w, hw, x, hx => by
    unfold wordsF at hx
    by_cases hc : isBl c = true
    · rw [if_pos hc] at hx
      by_cases h0 : w = []
      · rw [if_pos h0] at hx; exact wf_wd l [] (fun c hc => by cases hc) x hx
      · rw [if_neg h0] at hx
        cases hx with
        | head => exact ⟨h0, hw⟩
        | tail _ hx => exact wf_wd l [] (fun c hc => by cases hc) x hx
    · rw [if_neg hc] at hx
      exact wf_wd l (w ++ [c]) (fun d hd => by
        rcases List.mem_append.1 hd with h | h
        · exact hw d h
        · rw [List.mem_singleton] at h; subst h; simpa using hc) x hx
/-! ### The round trip -/
theorem cut_app : ∀ (k v : Bs), (61 : UInt8) ∉ k → cutE (k ++ 61 :: v) = some (k, v)
  | [], v, _ => by unfold cutE; rfl
  | c :: k, v, h => by
    have hc : ¬ c = 61 := fun e => h (by rw [e]; exact List.mem_cons_self)
    rw [List.cons_append]
    unfold cutE
    rw [if_neg hc, cut_app k v (fun h2 => h (List.mem_cons_of_mem _ h2))]
    rfl
theorem run_step {w k v : Bs} {ws : List Bs} {i : Int} {o p : Ov} {met : List Bs} (h1 : cutE w = some (k, v)) (h2 : setL o k v = some p) (h3 : k ∉ met) (h4 : goodL p = true) : runL (w :: ws) i o met = runL ws (i + 1) p (met ++ [k]) := by
  conv => lhs; unfold runL
  rw [h1]
  simp only
  rw [h2]
  simp only
  rw [if_neg h3, if_pos h4]
theorem good_mk (r k u n d st : Int) (gr la ph ng : Bool) (h1 : schOk k u n d = true) (h2 : 0 ≤ r ∧ r ≤ 5 ∧ 0 ≤ st ∧ st ≤ 1000000) : goodL ⟨r, gr, la, ph, ng, k, u, n, d, st⟩ = true := by
  rw [goodL_is]; unfold checkB; rw [h1, decide_eq_true h2]; rfl
theorem plc_rule : ∀ r, r < 6 → plc (rulesL.getD r []) rulesL = some r := by decide
theorem onB_flag (b : Bool) : flagL (onB b) bOff bOn = some b := by cases b <;> decide
theorem vaB_flag (b : Bool) : flagL (vaB b) bLeast bGreatest = some b := by cases b <;> decide
theorem set_rule (o : Ov) (r : Nat) (h : r < 6) : setL o kRule (rulesL.getD r []) = some { o with rule := r } := by
  unfold setL; rw [if_pos rfl, plc_rule r h]; rfl
theorem set_value (o : Ov) (b : Bool) : setL o kValue (vaB b) = some { o with gr := b } := by
  unfold setL; rw [if_neg (by decide), if_pos rfl, vaB_flag]; rfl
theorem set_last (o : Ov) (b : Bool) : setL o kLast (onB b) = some { o with la := b } := by
  unfold setL; rw [if_neg (by decide), if_neg (by decide), if_pos rfl, onB_flag]; rfl
theorem set_phase (o : Ov) (b : Bool) : setL o kPhase (onB b) = some { o with ph := b } := by
  unfold setL; rw [if_neg (by decide), if_neg (by decide), if_neg (by decide), if_pos rfl, onB_flag]; rfl
theorem set_nogoods (o : Ov) (b : Bool) : setL o kNogoods (onB b) = some { o with ng := b } := by
  unfold setL; rw [if_neg (by decide), if_neg (by decide), if_neg (by decide), if_neg (by decide), if_pos rfl, onB_flag]; rfl
theorem set_restart (o : Ov) (k u n d : Nat) (hu : u ≤ 1000000) (hn : n ≤ 1000000) (hd : d ≤ 1000000) (h : schOk k u n d = true) : setL o kRestart (schT k u n d) = some { o with kind := k, unit := u, num := n, den := d } := by
  unfold setL; rw [if_neg (by decide), if_neg (by decide), if_neg (by decide), if_neg (by decide), if_neg (by decide), if_pos rfl, sch_back k u n d hu hn hd h]; rfl
theorem set_steps (o : Ov) (n : Nat) (h : n ≤ 1000000) : setL o kSteps (Lib.itoa (n : Int)) = some { o with steps := n } := by
  unfold setL; rw [if_neg (by decide), if_neg (by decide), if_neg (by decide), if_neg (by decide), if_neg (by decide), if_neg (by decide), if_pos rfl, num_itoa n h]; rfl
theorem rule_wd : ∀ r, r < 6 → ∀ c ∈ rulesL.getD r [], isBl c = false := by decide
theorem sched_wd : ∀ r, r < 5 → ∀ c ∈ schedsL.getD r [], isBl c = false := by decide
theorem itoa_wd (n : Nat) : ∀ c ∈ Lib.itoa (n : Int), isBl c = false := fun c hc => dg_bl (itoa_dg n c hc)
theorem cons_wd {P : Bs} (h : ∀ c ∈ P, isBl c = false) : ∀ c ∈ (58 : UInt8) :: P, isBl c = false := fun c hc => by
  cases hc with
  | head => rfl
  | tail _ hc => exact h c hc
theorem app_wd {P Q : Bs} (h : ∀ c ∈ P, isBl c = false) (h2 : ∀ c ∈ Q, isBl c = false) : ∀ c ∈ P ++ Q, isBl c = false := fun c hc => (List.mem_append.1 hc).elim (h c) (h2 c)
theorem sch_wd (k u n d : Nat) (hk : k < 5) : ∀ c ∈ schT (k : Int) u n d, isBl c = false := by
  unfold schT
  rw [Int.toNat_natCast]
  refine app_wd (sched_wd k hk) ?_
  split
  · exact cons_wd (itoa_wd u)
  · split
    · exact app_wd (app_wd (cons_wd (itoa_wd u)) (cons_wd (itoa_wd n))) (cons_wd (itoa_wd d))
    · intro c hc; cases hc
theorem key_wd {k : Bs} (hk : k ∈ keysL) {v : Bs} (hv : ∀ c ∈ v, isBl c = false) : Wd (k ++ 61 :: v) := by
  have h1 : ∀ k ∈ keysL, ∀ c ∈ k, isBl c = false := by decide
  refine ⟨by simp, app_wd (h1 k hk) (fun c hc => ?_)⟩
  cases hc with
  | head => rfl
  | tail _ hc => exact hv c hc
theorem words_wd (r k u n d st : Nat) (gr la ph ng : Bool) (hr : r < 6) (hk : k < 5) : ∀ y ∈ wordsP ⟨r, gr, la, ph, ng, k, u, n, d, st⟩, Wd y := by
  unfold wordsP
  simp only [Int.toNat_natCast]
  have ho : ∀ b, ∀ c ∈ onB b, isBl c = false := by decide
  have hv : ∀ b, ∀ c ∈ vaB b, isBl c = false := by decide
  intro y hy
  simp only [List.mem_cons, List.not_mem_nil, or_false] at hy
  rcases hy with rfl | rfl | rfl | rfl | rfl | rfl | rfl
  · exact key_wd (by decide) (rule_wd r hr)
  · exact key_wd (by decide) (hv _)
  · exact key_wd (by decide) (ho _)
  · exact key_wd (by decide) (ho _)
  · exact key_wd (by decide) (ho _)
  · exact key_wd (by decide) (sch_wd k u n d hk)
  · exact key_wd (by decide) (itoa_wd st)
theorem back_ok (o : Ov) (h : goodL o = true) : parseL (printL o) = (o, 0, 0) := by
  obtain ⟨r, k, u, n, d, st, he, hr, hk, hu, hn, hd, hs⟩ := good_nat o h
  obtain ⟨r0, gr, la, ph, ng, k0, u0, n0, d0, st0⟩ := o
  simp only at he
  rw [he] at h ⊢
  have hsk : schOk k u n d = true := by
    rw [goodL_is] at h
    unfold checkB at h
    exact (Bool.and_eq_true _ _ ▸ h).1
  have h0 : schOk 0 0 0 0 = true := by decide
  have hw := wf_join 32 [] (by decide) (fun c hc => by cases hc) [] (fun c hc => by cases hc) (wordsP ⟨r, gr, la, ph, ng, k, u, n, d, st⟩) (words_wd r k u n d st gr la ph ng hr hk)
  rw [List.append_nil] at hw
  unfold parseL printL
  rw [hw]
  unfold wordsP
  simp only [Int.toNat_natCast]
  unfold ov1
  refine (run_step (cut_app _ _ (by decide)) (set_rule _ r hr) (by decide) (good_mk _ _ _ _ _ _ _ _ _ _ h0 (by dsimp only; omega))).trans ?_
  refine (run_step (cut_app _ _ (by decide)) (set_value _ gr) (by decide) (good_mk _ _ _ _ _ _ _ _ _ _ h0 (by dsimp only; omega))).trans ?_
  refine (run_step (cut_app _ _ (by decide)) (set_last _ la) (by decide) (good_mk _ _ _ _ _ _ _ _ _ _ h0 (by dsimp only; omega))).trans ?_
  refine (run_step (cut_app _ _ (by decide)) (set_phase _ ph) (by decide) (good_mk _ _ _ _ _ _ _ _ _ _ h0 (by dsimp only; omega))).trans ?_
  refine (run_step (cut_app _ _ (by decide)) (set_nogoods _ ng) (by decide) (good_mk _ _ _ _ _ _ _ _ _ _ h0 (by dsimp only; omega))).trans ?_
  refine (run_step (cut_app _ _ (by decide)) (set_restart _ k u n d hu hn hd hsk) (by decide) (good_mk _ _ _ _ _ _ _ _ _ _ hsk (by dsimp only; omega))).trans ?_
  refine (run_step (cut_app _ _ (by decide)) (set_steps _ st hs) (by decide) (good_mk _ _ _ _ _ _ _ _ _ _ hsk (by dsimp only; omega))).trans ?_
  rfl
/-- What is parsed may be; what is not parsed is nothing. -/
theorem run_good : ∀ (ws : List Bs) (i : Int) (o : Ov) (met : List Bs), goodL o = true → ((runL ws i o met).2.2 = 0 → goodL (runL ws i o met).1 = true) ∧ ((runL ws i o met).2.2 ≠ 0 → (runL ws i o met).1 = ov0)
  | [], i, o, met, h => ⟨fun _ => h, fun h => absurd rfl h⟩
  | w :: ws, i, o, met, h => by
    unfold runL
    cases hc : cutE w with
    | none => exact ⟨(fun h => by simp at h), fun _ => rfl⟩
    | some x =>
      obtain ⟨k, v⟩ := x
      simp only
      cases hs : setL o k v with
      | none => exact ⟨(fun h => by simp at h), fun _ => rfl⟩
      | some p =>
        simp only
        by_cases hm : k ∈ met
        · rw [if_pos hm]; exact ⟨(fun h => by simp at h), fun _ => rfl⟩
        · rw [if_neg hm]
          by_cases hg : goodL p = true
          · rw [if_pos hg]; exact run_good ws (i + 1) p (met ++ [k]) hg
          · rw [if_neg hg]; exact ⟨(fun h => by simp at h), fun _ => rfl⟩
theorem parse_good (s : Bs) : ((parseL s).2.2 = 0 → goodL (parseL s).1 = true) ∧ ((parseL s).2.2 ≠ 0 → (parseL s).1 = ov0) := run_good _ _ _ _ (by decide)
end Go.Proofs.YtdnllmngaljflaaGreatDoorX.Ho
