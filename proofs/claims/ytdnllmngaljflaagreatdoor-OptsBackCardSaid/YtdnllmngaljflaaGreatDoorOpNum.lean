import Derived.Test.YtdnllmngaljflaaGreatDoorOpSmall
namespace Go.Proofs.YtdnllmngaljflaaGreatDoorX.Ho
open Go.RowKit Go.Proofs.YtdnllmngaljflaaGreatDoorW.PrintWords Go.Proofs.YtdnllmngaljflaaGreatDoorW.PrintLast Go.Proofs.YtdnllmngaljflaaGreatDoorW.PrintMore
attribute [local go_sem] max2_int min2_int max_two min_two max_three min_three max_four min_four
set_option linter.unusedVariables false
set_option linter.unusedSimpArgs false
attribute [local go_sem] Go.Proofs.YtdnllmngaljflaaGreatDoor.Hook.cell_two
/-! ### number -/
theorem pu_digits : ∀ (l : Bs) (acc : Nat), l.all isDg = true → (acc + 1) * 10 ^ l.length ≤ 10000000000 → Lib.parseUint10 acc l = .ok (valD l acc)
  | [], acc, _, _ => rfl
  | c :: l, acc, h, hb => by
    rw [List.all_cons, Bool.and_eq_true] at h
    have hd := h.1
    unfold isDg at hd
    rw [Bool.and_eq_true, decide_eq_true_eq, decide_eq_true_eq] at hd
    have e : (acc * 10 + (c.toNat - 48) + 1) * 10 ^ l.length ≤ (acc + 1) * 10 ^ (c :: l).length := by
      rw [List.length_cons, Nat.pow_succ, ← Nat.mul_assoc, Nat.mul_right_comm]
      exact Nat.mul_le_mul_right _ (by omega)
    have hp : 1 ≤ 10 ^ (c :: l).length := Nat.one_le_pow _ _ (by decide)
    have hacc : acc + 1 ≤ 10000000000 := Nat.le_trans (Nat.le_mul_of_pos_right _ hp) hb
    have e2 : Nat.succ 0 ≤ 10 ^ l.length := Nat.one_le_pow _ _ (by decide)
    have hlt : acc * 10 + (c.toNat - 48) + 1 ≤ 10000000000 := Nat.le_trans (Nat.le_mul_of_pos_right _ e2) (Nat.le_trans e hb)
    unfold Lib.parseUint10
    rw [if_pos (by omega), if_neg (by omega), if_neg (by omega), pu_digits l _ h.2 (Nat.le_trans e hb)]
    unfold valD
    rw [List.foldl_cons, Nat.mul_comm 10 acc]
theorem atoi_digits (l : Bs) (h : l.all isDg = true) (h1 : 1 ≤ l.length) (h7 : l.length ≤ 7) : Lib.atoiAll l = .ok (valD l 0 : Nat) := by
  match l, h1 with
  | c :: r, _ =>
    have hd := h
    rw [List.all_cons, Bool.and_eq_true] at hd
    have hc := hd.1
    unfold isDg at hc
    rw [Bool.and_eq_true, decide_eq_true_eq, decide_eq_true_eq] at hc
    have hpow : 10 ^ (c :: r).length ≤ 10 ^ 7 := Nat.pow_le_pow_right (by decide) h7
    have hp := pu_digits (c :: r) 0 h (by omega)
    have hv := Lib.parseUint10_lt (c :: r) 0 (valD (c :: r) 0) (by decide) hp
    have hsmall : valD (c :: r) 0 < 9223372036854775808 := by
      have : ∀ (l : Bs) (n : Nat), l.all isDg = true → valD l n < (n + 1) * 10 ^ l.length := by
        intro l
        induction l with
        | nil => intro n _; show n < (n + 1) * 1; omega
        | cons b l ih =>
          intro n hb
          rw [List.all_cons, Bool.and_eq_true] at hb
          have h2 := ih (10 * n + (b.toNat - 48)) hb.2
          have h3 := hb.1
          unfold isDg at h3
          rw [Bool.and_eq_true, decide_eq_true_eq, decide_eq_true_eq] at h3
          refine Nat.lt_of_lt_of_le (show valD (b :: l) n < _ from h2) ?_
          rw [List.length_cons, Nat.pow_succ, ← Nat.mul_assoc, Nat.mul_right_comm]
          exact Nat.mul_le_mul_right _ (by omega)
      have := this (c :: r) 0 h
      omega
    unfold Lib.atoiAll Lib.parseMag
    simp only
    rw [if_neg (by omega : ¬ (c.toNat = 43 ∨ c.toNat = 45)), if_neg (by simp), hp]
    simp only
    rw [if_neg (by omega), if_neg (by omega), if_neg (by omega)]
/-- strconv.Atoi, whatever it says. -/
theorem atoiQ (s : ByteArray) (hs : s.size ≤ 10000000) (w : World) (hE : Env w) :
    Calls Tryz.prog 86 #[.string s] w fun e w' => ∃ n err, e = .returned (.tuple #[.int .i64 n, err]) ∧ (err = .nilIface ∨ ∃ t p, err = .iface t p) ∧ Below w.heap.size w w' := by
  cases h : Lib.atoiAll s.data.toList with
  | ok v =>
    refine (Tryz.strconv_Atoi_ok s (by omega) v h w).mono ?_
    rintro e w' ⟨rfl, hw⟩
    refine ⟨v, _, rfl, .inl rfl, ?_⟩
    rcases hw with rfl | ⟨t, rfl⟩
    · exact Below.refl _ _
    · exact Lib.bytesWorld_below _ _ _
  | «syntax» =>
    obtain ⟨t, p, he⟩ := hE.e4
    refine (Tryz.strconv_Atoi_syntax s (by omega) h _ w he (.inr ⟨t, p, rfl⟩)).mono ?_
    rintro e w' ⟨N, rfl, _, _, hb⟩
    exact ⟨_, _, rfl, .inr ⟨_, _, rfl⟩, hb⟩
  | range =>
    obtain ⟨t, p, he⟩ := hE.e5
    refine (Tryz.strconv_Atoi_range s (by omega) h _ w he (.inr ⟨t, p, rfl⟩)).mono ?_
    rintro e w' ⟨N, rfl, _, _, hb⟩
    exact ⟨_, _, rfl, .inr ⟨_, _, rfl⟩, hb⟩
theorem dg_contains (c : UInt8) : ([48, 49, 50, 51, 52, 53, 54, 55, 56, 57] : Bs).contains c = isDg c := by
  rw [Bool.eq_iff_iff]
  unfold isDg
  simp only [List.contains_iff_mem, List.mem_cons, List.not_mem_nil, or_false, Bool.and_eq_true, decide_eq_true_eq]
  constructor
  · rintro (h | h | h | h | h | h | h | h | h | h) <;> subst h <;> decide
  · rintro ⟨h1, h2⟩
    have h : c.toNat = 48 ∨ c.toNat = 49 ∨ c.toNat = 50 ∨ c.toNat = 51 ∨ c.toNat = 52 ∨ c.toNat = 53 ∨ c.toNat = 54 ∨ c.toNat = 55 ∨ c.toNat = 56 ∨ c.toNat = 57 := by omega
    have k : ∀ n : UInt8, c.toNat = n.toNat → c = n := fun n h => UInt8.toNat_inj.1 h
    rcases h with h | h | h | h | h | h | h | h | h | h
    · exact .inl (k 48 h)
    · exact .inr (.inl (k 49 h))
    · exact .inr (.inr (.inl (k 50 h)))
    · exact .inr (.inr (.inr (.inl (k 51 h))))
    · exact .inr (.inr (.inr (.inr (.inl (k 52 h)))))
    · exact .inr (.inr (.inr (.inr (.inr (.inl (k 53 h))))))
    · exact .inr (.inr (.inr (.inr (.inr (.inr (.inl (k 54 h)))))))
    · exact .inr (.inr (.inr (.inr (.inr (.inr (.inr (.inl (k 55 h))))))))
    · exact .inr (.inr (.inr (.inr (.inr (.inr (.inr (.inr (.inl (k 56 h)))))))))
    · exact .inr (.inr (.inr (.inr (.inr (.inr (.inr (.inr (.inr (k 57 h)))))))))
theorem dw_all {α : Type} (p : α → Bool) : ∀ l : List α, (∀ x ∈ l.dropWhile p, p x = true) → ∀ x ∈ l, p x = true
  | [], _, x, hx => nomatch hx
  | a :: l, h, x, hx => by
    rw [List.dropWhile_cons] at h
    cases ha : p a with
    | false =>
      rw [ha, if_neg (by decide)] at h
      exact h x hx
    | true =>
      rw [ha, if_pos rfl] at h
      rcases List.mem_cons.1 hx with rfl | hx
      · exact ha
      · exact dw_all p l h x hx
theorem dw_nil {α : Type} (p : α → Bool) : ∀ l : List α, (∀ x ∈ l, p x = true) → l.dropWhile p = []
  | [], _ => rfl
  | a :: l, h => by rw [List.dropWhile_cons, if_pos (h a List.mem_cons_self)]; exact dw_nil p l (fun x hx => h x (List.mem_cons_of_mem _ hx))
theorem trim_digits (l : Bs) : Lib.trimS l [48, 49, 50, 51, 52, 53, 54, 55, 56, 57] = [] ↔ l.all isDg = true := by
  unfold Lib.trimS Lib.trimLeftS Lib.trimRightS
  have hc : (fun x => ([48, 49, 50, 51, 52, 53, 54, 55, 56, 57] : Bs).contains x) = isDg := funext dg_contains
  rw [hc, List.all_eq_true]
  constructor
  · intro h
    have h1 := dw_all isDg _ (fun x hx => by rw [h] at hx; cases hx)
    have h2 := dw_all isDg l.reverse (fun x hx => h1 x (by rw [List.mem_reverse]; exact hx))
    exact fun x hx => h2 x (List.mem_reverse.2 hx)
  · intro h
    have h1 := dw_nil isDg l.reverse (fun x hx => h x (List.mem_reverse.1 hx))
    rw [h1]; rfl
/-- number: where it is one, the number. -/
def NQ (o : Option Nat) (w : World) (e : Ending) (w' : World) : Prop := ∃ n : Int, e = .returned (.tuple #[.int .i64 n, .bool o.isSome]) ∧ (∀ v, o = some v → n = v) ∧ Below w.heap.size w w'
theorem trimW (s : ByteArray) (hs : s.size ≤ 10000000) (w : World) : Calls Tryz.prog 87 #[.string s, .string ⟨#[48, 49, 50, 51, 52, 53, 54, 55, 56, 57]⟩] w fun e w' => ∃ x : ByteArray, e = .returned (.string x) ∧ (s.data.toList.all isDg = true → x = ⟨#[]⟩) ∧ (s.data.toList.all isDg = false → x.toList.isEmpty = false) ∧ Below w.heap.size w w' := by
  refine (Any.strings_Trim_laid Tryz.trimAscii (by kernel_rfl) s _ w (by omega) (by decide) (ascii_of_all (by decide))).mono ?_
  rintro e w' ⟨rfl, hb⟩
  refine ⟨_, rfl, fun h => ?_, fun h => ?_, hb⟩
  · rw [show Lib.trimS s.data.toList _ = [] from (trim_digits _).2 h]
  · cases hx : Lib.trimS s.data.toList (⟨#[48, 49, 50, 51, 52, 53, 54, 55, 56, 57]⟩ : ByteArray).data.toList with
    | nil => rw [(trim_digits _).1 hx] at h; cases h
    | cons a l => rw [ByteArray.toList_eq]; rfl
theorem hp48 (l : Bs) : Lib.hasPrefix l [48] = decide (l.head? = some 48) := by
  cases l with
  | nil => rfl
  | cons a l =>
    rw [Bool.eq_iff_iff, decide_eq_true_eq]
    unfold Lib.hasPrefix
    simp
    exact eq_comm
theorem numL_no {l : Bs} (h : ¬ (1 ≤ l.length ∧ l.length ≤ 7 ∧ l.all isDg = true ∧ (l = [48] ∨ l.head? ≠ some 48))) : numL l = none := by unfold numL; rw [if_neg h]
theorem NQ.yes {o : Option Nat} {v : Nat} {w w' : World} (h : o = some v) (hb : Below w.heap.size w w') : NQ o w (.returned (.tuple #[.int .i64 (v : Int), .bool true])) w' := by
  subst h; exact ⟨_, rfl, fun u hu => by cases hu; rfl, hb⟩
theorem NQ.no {o : Option Nat} {n : Int} {w w' : World} (h : o = none) (hb : Below w.heap.size w w') : NQ o w (.returned (.tuple #[.int .i64 n, .bool false])) w' := by
  subst h; exact ⟨_, rfl, fun u hu => by (cases hu), hb⟩
set_option maxHeartbeats 1000000 in
theorem numW (s : ByteArray) (hs : s.size ≤ 10000000) (w : World) (hE : Env w) : Calls Tryz.prog 74 #[.string s] w (NQ (numL s.data.toList) w) := by
  have hl : s.data.toList.length = s.size := by simp
  have HT := Aside0.mk (fun w1 => trimW s hs w1)
  have HH := Aside0.mk (fun w1 => Tryz.strings_HasPrefix s ⟨#[48]⟩ w1)
  have e48 : (⟨#[48]⟩ : ByteArray).data.toList = [48] := rfl
  rw [e48] at HH
  simp only [hp48] at HH
  by_cases hg : s.data.toList.all isDg = true ∧ 1 ≤ s.size ∧ s.size ≤ 7
  · obtain ⟨ha, h1, h7⟩ := hg
    have HA := Aside0.mk (Tryz.strconv_Atoi_ok s (by omega) (valD s.data.toList 0 : Nat) (atoi_digits _ ha (by omega) (by omega)) w)
    have HG := Aside0.mk ha
    have hn : s.data.toList = [48] ∨ s.data.toList.head? ≠ some 48 → numL s.data.toList = some (valD s.data.toList 0) := fun h => by
      unfold numL; rw [if_pos ⟨by omega, by omega, ha, h⟩]
    have hno : ¬ (s.data.toList = [48] ∨ s.data.toList.head? ≠ some 48) → numL s.data.toList = none := fun h => numL_no (fun hc => h hc.2.2.2)
    have HN := Aside0.mk hn
    have HNO := Aside0.mk hno
    have hd7 : decide ((s.size : Int) ≤ 7) = true := decide_eq_true (by omega)
    clear ha hl hn hno e48
    by_cases h48 : s.toList = [48]
    · go_enter Tryz.func74, Tryz.ntmps74
      go_wp2_with fail
      refine HA.out.mono ?_
      rintro e w1 ⟨rfl, hw⟩
      have HB : Aside0 (Below w.heap.size w w1) := Aside0.mk (by rcases hw with rfl | ⟨t, rfl⟩; exact Below.refl _ _; exact Lib.bytesWorld_below _ _ _)
      clear hw
      go_wp2_with fail
      refine (HT.out w1).mono ?_
      rintro e w2 ⟨x, rfl, hx, _, hb2⟩
      obtain rfl := hx HG.out
      have HB2 := Aside0.mk (below_step HB.out hb2)
      clear hx hb2
      go_wp2_with fail
      go_ret2
      exact NQ.yes (HN.out (.inl (by rw [← ByteArray.toList_eq]; exact h48))) HB2.out
    · cases hd : decide (s.data.toList.head? = some 48) with
      | true =>
        rw [hd] at HH
        have HD := Aside0.mk (of_decide_eq_true hd)
        clear hd
        go_enter Tryz.func74, Tryz.ntmps74
        go_wp2_with fail
        refine HA.out.mono ?_
        rintro e w1 ⟨rfl, hw⟩
        have HB : Aside0 (Below w.heap.size w w1) := Aside0.mk (by rcases hw with rfl | ⟨t, rfl⟩; exact Below.refl _ _; exact Lib.bytesWorld_below _ _ _)
        clear hw
        go_wp2_with fail
        refine (HT.out w1).mono ?_
        rintro e w2 ⟨x, rfl, hx, _, hb2⟩
        obtain rfl := hx HG.out
        have HB2 := Aside0.mk (below_step HB.out hb2)
        clear hx hb2
        go_wp2_with (go_at_call 88; ((with_reducible refine (HH.out _).mono ?_); rintro e w3 ⟨rfl, rfl⟩))
        go_ret2
        have hno := HNO.out (fun h => by rcases h with h | h; exact h48 (by rw [ByteArray.toList_eq]; exact h); exact h HD.out)
        exact NQ.no hno HB2.out
      | false =>
        rw [hd] at HH
        have HD := Aside0.mk (of_decide_eq_false hd)
        clear hd
        go_enter Tryz.func74, Tryz.ntmps74
        go_wp2_with fail
        refine HA.out.mono ?_
        rintro e w1 ⟨rfl, hw⟩
        have HB : Aside0 (Below w.heap.size w w1) := Aside0.mk (by rcases hw with rfl | ⟨t, rfl⟩; exact Below.refl _ _; exact Lib.bytesWorld_below _ _ _)
        clear hw
        go_wp2_with fail
        refine (HT.out w1).mono ?_
        rintro e w2 ⟨x, rfl, hx, _, hb2⟩
        obtain rfl := hx HG.out
        have HB2 := Aside0.mk (below_step HB.out hb2)
        clear hx hb2
        go_wp2_with (go_at_call 88; ((with_reducible refine (HH.out _).mono ?_); rintro e w3 ⟨rfl, rfl⟩))
        go_ret2
        exact NQ.yes (HN.out (.inr HD.out)) HB2.out
  · have hno := Aside0.mk (numL_no (l := s.data.toList) (fun h => hg ⟨h.2.2.1, by omega, by omega⟩))
    have HQ := Aside0.mk (atoiQ s hs w hE)
    cases ha : s.data.toList.all isDg with
    | false =>
      have HG := Aside0.mk ha
      clear ha hg hl e48
      go_enter Tryz.func74, Tryz.ntmps74
      go_wp2_with fail
      refine HQ.out.mono ?_
      rintro e w1 ⟨n, err, rfl, he, hb⟩
      have HB := Aside0.mk hb
      clear hb
      go_wp2_with fail
      refine (HT.out w1).mono ?_
      rintro e w2 ⟨x, rfl, _, hx, hb2⟩
      have HB2 := Aside0.mk (below_step HB.out hb2)
      have hx2 := hx HG.out
      have hx3 : ¬ x.toList = [] := by intro h; rw [h] at hx2; cases hx2
      clear hx hb2
      rcases he with rfl | ⟨t, p, rfl⟩
      all_goals
        go_wp2_with fail
        go_ret2
        exact NQ.no hno.out HB2.out
    | true =>
      have HG := Aside0.mk ha
      by_cases h0 : s.size = 0
      · have hsy : Lib.atoiAll s.data.toList = .«syntax» := by
          rw [List.eq_nil_of_length_eq_zero (hl.trans h0)]; rfl
        obtain ⟨t4, p4, he4⟩ := hE.e4
        have HA := Aside0.mk (Tryz.strconv_Atoi_syntax s (by omega) hsy _ w he4 (.inr ⟨t4, p4, rfl⟩))
        have HS0 : Aside0 (s.data.toList = []) := Aside0.mk (List.eq_nil_of_length_eq_zero (hl.trans h0))
        rw [HS0.out] at HH
        have hne : ¬ s.toList = [48] := by rw [ByteArray.toList_eq, HS0.out]; simp
        simp only [List.head?_nil, reduceCtorEq, decide_false] at HH
        clear ha hg hl h0 hsy he4 e48
        go_enter Tryz.func74, Tryz.ntmps74
        go_wp2_with fail
        refine HA.out.mono ?_
        rintro e w1 ⟨N, rfl, _, _, hb⟩
        have HB := Aside0.mk hb
        clear hb
        go_wp2_with fail
        refine (HT.out w1).mono ?_
        rintro e w2 ⟨x, rfl, hx, _, hb2⟩
        obtain rfl := hx HG.out
        have HB2 := Aside0.mk (below_step HB.out hb2)
        clear hx hb2
        go_wp2_with (go_at_call 88; ((with_reducible refine (HH.out _).mono ?_); rintro e w3 ⟨rfl, rfl⟩))
        go_ret2
        exact NQ.no hno.out HB2.out
      · have h8 : ¬ (s.size : Int) ≤ 7 := by intro h; exact hg ⟨ha, by omega, by omega⟩
        have hne : ¬ s.toList = [48] := by intro h; rw [ByteArray.toList_eq] at h; rw [h] at hl; simp at hl; omega
        have hd8 : decide ((s.size : Int) ≤ 7) = false := decide_eq_false h8
        generalize decide (s.data.toList.head? = some 48) = hq at HH
        clear ha hg hl e48 h0
        go_enter Tryz.func74, Tryz.ntmps74
        go_wp2_with fail
        refine HQ.out.mono ?_
        rintro e w1 ⟨n, err, rfl, he, hb⟩
        have HB := Aside0.mk hb
        clear hb
        go_wp2_with fail
        refine (HT.out w1).mono ?_
        rintro e w2 ⟨x, rfl, hx, _, hb2⟩
        obtain rfl := hx HG.out
        have HB2 := Aside0.mk (below_step HB.out hb2)
        clear hx hb2
        rcases he with rfl | ⟨t, p, rfl⟩
        all_goals
          cases hq
          all_goals
            go_wp2_with (go_at_call 88; ((with_reducible refine (HH.out _).mono ?_); rintro e w3 ⟨rfl, rfl⟩))
            go_ret2
            exact NQ.no hno.out HB2.out
theorem stepsW (g : Nat) (o : Ov) (s : ByteArray) (hs : s.size ≤ 10000000) (w : World) (h : OB w g o) (hE : Env w) :
    Calls Tryz.prog 59 #[.pointer (some ⟨g, 0, none⟩), .string s] w (SP g ((numL s.data.toList).map fun (n : Nat) => { o with steps := n }) w) := by
  have HN := Aside0.mk (numW s hs w hE)
  have H0 := Aside0.mk (show w.heap[g]? = some (.cells o.pc 29 (0, 0)) from h)
  clear h hE
  generalize numL s.data.toList = r at HN ⊢
  go_enter Tryz.func59, Tryz.ntmps59
  go_wp2_with fail
  refine HN.out.mono ?_
  rintro e w1 ⟨n, rfl, hn, hb⟩
  have h1 : w1.heap[g]? = some (.cells o.pc 29 (0, 0)) := (hb.block g (blk_lt H0.out)).trans H0.out
  have c0 : w1.cell? ⟨g, 9, none⟩ = some (.int .i64 o.steps) := blk_cell h1 9
  have f0 : w1.frozen? ⟨g, 9, none⟩ = false := blk_frozen h1 9
  have hsz : g < w1.heap.size := blk_lt h1
  have H1 := Aside0.mk h1
  have HF := Aside0.mk (FrG.of_below (g := g) hb)
  have HN2 := Aside0.mk hn
  clear h1 hb hn HN H0
  go_wp2_with fail
  go_ret
  refine ⟨{ o with steps := n }, by cases r <;> rfl, heap_set H1.out 9 _, fun p hp => ?_, HF.out.set 9 _⟩
  cases r with
  | none => cases hp
  | some i => cases hp; rw [HN2.out i rfl]
end Go.Proofs.YtdnllmngaljflaaGreatDoorX.Ho
