import Derived.Test.YtgckohmppefibaaDoorNgRef
import Derived.Test.YtgckohmppefibaaDoorHzx5
import Derived.Test.YtgckohmppefibaaDoorNgFil
namespace Go.Proofs.YtgckohmppefibaaDoorX.Hz
open Go.RowKit Go.Proofs.YtgckohmppefibaaDoorW.PrintWords Go.Proofs.YtgckohmppefibaaDoorW.PrintLast Go.Proofs.YtgckohmppefibaaDoorW.PrintMore
attribute [local go_sem] max2_int min2_int max_two min_two max_three min_three max_four min_four
set_option linter.unusedVariables false
set_option linter.unusedSimpArgs false
attribute [local go_sem] Go.Proofs.YtgckohmppefibaaDoor.Hook.cell_two
def un84 (p : Int × Int) : S84 := ⟨p.1, p.2⟩
theorem rd84 (L : List (Int × Int)) (i : Nat) (h : i < L.length) : rd_T84 (L.map un84) (i : Int) = un84 L[i] := by
  unfold rd_T84
  rw [Int.toNat_natCast, List.getD_eq_getElem?_getD, List.getElem?_eq_getElem (by rw [List.length_map]; exact h), List.getElem_map]; rfl
theorem w64s (i : Nat) (h : i ≤ 1000000) : wrap64 ((i : Int) + 1) = ((i + 1 : Nat) : Int) := by unfold wrap64; omega
theorem has84_l0 (L : List (Int × Int)) (hb : L.length ≤ 1000000) (a b : Int) : ∀ (r : List (Int × Int)) (i k : Nat), L.drop i = r → i ≤ L.length → r.length < k → jigsawref24_has.l0 k (L.map un84) (i : Int) a b = some (decide ((a, b) ∈ r)) := by
  intro r
  induction r with
  | nil =>
    intro i k hd hi hk
    obtain ⟨k, rfl⟩ : ∃ m, k = m + 1 := ⟨k - 1, by omega⟩
    have h1 : ¬ i < L.length := fun h => by rw [List.drop_eq_getElem_cons h] at hd; cases hd
    simp only [jigsawref24_has.l0]
    rw [if_neg (by rw [List.length_map]; omega)]
    simp
  | cons x r ih =>
    intro i k hd hi hk
    obtain ⟨k, rfl⟩ : ∃ m, k = m + 1 := ⟨k - 1, by omega⟩
    have h1 : i < L.length := by
      rcases Nat.lt_or_ge i L.length with h | h
      · exact h
      · rw [List.drop_eq_nil_of_le h] at hd; cases hd
    rw [List.drop_eq_getElem_cons h1] at hd
    injection hd with hd1 hd2
    have IH := ih (i + 1) k hd2 (by omega) (by simp only [List.length_cons] at hk; omega)
    have er := rd84 L i h1
    rw [hd1] at er
    have g1 : (i : Int) < ((L.map un84).length : Int) := by rw [List.length_map]; omega
    have g2 : (0 : Int) ≤ (i : Int) := by omega
    have ew := w64s i (by omega)
    simp only [jigsawref24_has.l0]
    rw [er, ew, if_pos g1, if_pos g2, IH]
    obtain ⟨x1, x2⟩ := x
    show (if x1 = a then (if x2 = b then some true else _) else _) = _
    by_cases e1 : x1 = a
    · rw [if_pos e1]
      by_cases e2 : x2 = b
      · rw [if_pos e2, e1, e2]; simp
      · rw [if_neg e2]
        congr 1
        rw [decide_eq_decide, List.mem_cons]
        exact ⟨.inr, fun h => h.elim (fun h => by injection h with _ h; exact absurd h.symm e2) id⟩
    · rw [if_neg e1]
      congr 1
      rw [decide_eq_decide, List.mem_cons]
      exact ⟨.inr, fun h => h.elim (fun h => by injection h with h _; exact absurd h.symm e1) id⟩
theorem has84 (L : List (Int × Int)) (hb : L.length ≤ 1000000) (a b : Int) (k : Nat) (hk : L.length < k) : jigsawref24_has.f k (L.map un84) a b = some (decide ((a, b) ∈ L)) := has84_l0 L hb a b L 0 k (List.drop_zero) (Nat.zero_le _) hk
theorem snoc84 (A : List (Int × Int)) (x : Int × Int) : A.map un84 ++ [(⟨(un84 x).f0, (un84 x).f1⟩ : S84)] = (A ++ [x]).map un84 := by rw [List.map_append]; rfl
theorem made_l1_t (X A : List (Int × Int)) (hA : A.length ≤ 1000000) (i : Nat) (hi : i ≤ 1000000) (K : Nat) : ∀ (r N : List (Int × Int)) (j : Nat), A.drop j = r → j ≤ A.length → N.length + r.length ≤ 2000000 →
    jigsawref24_Made.l1 (r.length + 1 + K) (X.map un84) (A.map un84) (i : Int) (N.map un84) true (j : Int) = jigsawref24_Made.l0 K (X.map un84) ((N ++ r).map un84) ((i + 1 : Nat) : Int) := by
  intro r
  induction r with
  | nil =>
    intro N j hd hj hN
    have h1 : ¬ j < A.length := fun h => by rw [List.drop_eq_getElem_cons h] at hd; cases hd
    rw [show ([] : List (Int × Int)).length + 1 + K = K + 1 from by simp; omega]
    have ew := w64s i hi
    have g1 : ¬ (j : Int) < ((A.map un84).length : Int) := by rw [List.length_map]; omega
    simp only [jigsawref24_Made.l1]
    rw [if_neg g1, if_pos trivial, ew, List.append_nil]
  | cons y r ih =>
    intro N j hd hj hN
    have h1 : j < A.length := by
      rcases Nat.lt_or_ge j A.length with h | h
      · exact h
      · rw [List.drop_eq_nil_of_le h] at hd; cases hd
    rw [List.drop_eq_getElem_cons h1] at hd
    injection hd with hd1 hd2
    have er := rd84 A j h1
    rw [hd1] at er
    simp only [List.length_cons] at hN
    have IH := ih (N ++ [y]) (j + 1) hd2 (by omega) (by simp; omega)
    rw [show (y :: r).length + 1 + K = (r.length + 1 + K) + 1 from by simp; omega]
    have g1 : (j : Int) < ((A.map un84).length : Int) := by rw [List.length_map]; omega
    have g2 : (0 : Int) ≤ (j : Int) := by omega
    have g3 : (N.map un84).length < 8796093022208 := by rw [List.length_map]; omega
    have ew := w64s j (by omega)
    simp only [jigsawref24_Made.l1]
    rw [er, ew, if_pos g1, if_pos trivial, if_pos g2, if_pos g3, snoc84, IH, List.append_assoc]
    rfl
theorem made_l1_f (X A : List (Int × Int)) (hA : A.length ≤ 1000000) (i : Nat) (hi : i < X.length) (hX : X.length ≤ 1000000) (K : Nat) : ∀ (r N : List (Int × Int)) (j : Nat), A.drop j = r → j ≤ A.length → N.length + r.length ≤ 1000000 →
    jigsawref24_Made.l1 (r.length + 1 + K) (X.map un84) (A.map un84) (i : Int) (N.map un84) false (j : Int) = jigsawref24_Made.l0 K (X.map un84) ((N ++ Go.Proofs.YtgckohmppefibaaDoor.Ng.ins X[i] r).map un84) ((i + 1 : Nat) : Int) := by
  intro r
  have eX := rd84 X i hi
  have gx1 : (0 : Int) ≤ (i : Int) := by omega
  have gx2 : (i : Int) < ((X.map un84).length : Int) := by rw [List.length_map]; omega
  induction r with
  | nil =>
    intro N j hd hj hN
    have h1 : ¬ j < A.length := fun h => by rw [List.drop_eq_getElem_cons h] at hd; cases hd
    rw [show ([] : List (Int × Int)).length + 1 + K = K + 1 from by simp; omega]
    have ew := w64s i (by omega)
    have g1 : ¬ (j : Int) < ((A.map un84).length : Int) := by rw [List.length_map]; omega
    have g3 : (N.map un84).length < 8796093022208 := by rw [List.length_map]; simp at hN; omega
    simp only [jigsawref24_Made.l1]
    rw [if_neg g1, if_neg (by decide), if_pos gx1, if_pos gx2, if_pos g3, eX, snoc84, ew]
    rfl
  | cons y r ih =>
    intro N j hd hj hN
    have h1 : j < A.length := by
      rcases Nat.lt_or_ge j A.length with h | h
      · exact h
      · rw [List.drop_eq_nil_of_le h] at hd; cases hd
    rw [List.drop_eq_getElem_cons h1] at hd
    injection hd with hd1 hd2
    have er := rd84 A j h1
    rw [hd1] at er
    simp only [List.length_cons] at hN
    have IH := ih (N ++ [y]) (j + 1) hd2 (by omega) (by simp; omega)
    have T := made_l1_t X A hA i (by omega) K r (N ++ [X[i]] ++ [y]) (j + 1) hd2 (by omega) (by simp; omega)
    rw [show (y :: r).length + 1 + K = (r.length + 1 + K) + 1 from by simp; omega]
    have g1 : (j : Int) < ((A.map un84).length : Int) := by rw [List.length_map]; omega
    have g2 : (0 : Int) ≤ (j : Int) := by omega
    have g3 : (N.map un84).length < 8796093022208 := by rw [List.length_map]; omega
    have g4 : ((N ++ [X[i]]).map un84).length < 8796093022208 := by rw [List.length_map]; simp; omega
    have ew := w64s j (by omega)
    have hcf := Go.Proofs.YtgckohmppefibaaDoor.Ng.cf_lt X[i] y
    have hins : Go.Proofs.YtgckohmppefibaaDoor.Ng.ins X[i] (y :: r) = if Go.Proofs.YtgckohmppefibaaDoor.Ng.cf X[i] y < 0 then X[i] :: y :: r else y :: Go.Proofs.YtgckohmppefibaaDoor.Ng.ins X[i] r := rfl
    simp only [jigsawref24_Made.l1]
    rw [er, eX, ew, if_pos g1, if_neg (by decide), if_pos g2, if_pos gx1, if_pos gx2]
    have B1 : (if (N.map un84).length < 8796093022208 then ((some (N.map un84 ++ [(⟨(un84 X[i]).f0, (un84 X[i]).f1⟩ : S84)] : List (S84))).bind fun y150 => (if y150.length < 8796093022208 then (jigsawref24_Made.l1 (r.length + 1 + K) (X.map un84) (A.map un84) (i : Int) (y150 ++ [(⟨(un84 y).f0, (un84 y).f1⟩ : S84)]) true ((j + 1 : Nat) : Int)) else (none))) else (none)) = jigsawref24_Made.l0 K (X.map un84) ((N ++ X[i] :: y :: r).map un84) ((i + 1 : Nat) : Int) := by
      rw [if_pos g3, snoc84, Option.bind_some, if_pos g4, snoc84, T]
      congr 2
      simp
    have B2 : (if (N.map un84).length < 8796093022208 then (jigsawref24_Made.l1 (r.length + 1 + K) (X.map un84) (A.map un84) (i : Int) (N.map un84 ++ [(⟨(un84 y).f0, (un84 y).f1⟩ : S84)]) false ((j + 1 : Nat) : Int)) else (none)) = jigsawref24_Made.l0 K (X.map un84) ((N ++ y :: Go.Proofs.YtgckohmppefibaaDoor.Ng.ins X[i] r).map un84) ((i + 1 : Nat) : Int) := by
      rw [if_pos g3, snoc84, IH]
      congr 2
      simp
    have hlt : Go.Proofs.YtgckohmppefibaaDoor.Ng.cf X[i] y < 0 ↔ (X[i].1 < y.1 ∨ X[i].1 = y.1 ∧ X[i].2 < y.2) := hcf
    have u1 : ∀ p : Int × Int, (un84 p).f0 = p.1 := fun _ => rfl
    have u2 : ∀ p : Int × Int, (un84 p).f1 = p.2 := fun _ => rfl
    by_cases c1 : y.1 > X[i].1
    · rw [if_pos (show (un84 y).f0 > (un84 X[i]).f0 from c1), hins.trans (if_pos (hlt.2 (.inl c1)))]
      exact B1
    · rw [if_neg (show ¬ (un84 y).f0 > (un84 X[i]).f0 from c1)]
      by_cases c2 : y.1 = X[i].1
      · rw [if_pos (show (un84 y).f0 = (un84 X[i]).f0 from c2)]
        by_cases c3 : y.2 > X[i].2
        · rw [if_pos (show (un84 y).f1 > (un84 X[i]).f1 from c3), hins.trans (if_pos (hlt.2 (.inr ⟨c2.symm, c3⟩)))]
          exact B1
        · rw [if_neg (show ¬ (un84 y).f1 > (un84 X[i]).f1 from c3), hins.trans (if_neg (by rw [hlt]; omega))]
          exact B2
      · rw [if_neg (show ¬ (un84 y).f0 = (un84 X[i]).f0 from c2), hins.trans (if_neg (by rw [hlt]; omega))]
        exact B2
theorem ins_len (x : Int × Int) : ∀ l : List (Int × Int), (Go.Proofs.YtgckohmppefibaaDoor.Ng.ins x l).length = l.length + 1
  | [] => rfl
  | y :: l => by unfold Go.Proofs.YtgckohmppefibaaDoor.Ng.ins; split <;> simp [ins_len x l]
theorem made_l0 (X : List (Int × Int)) (hX : X.length ≤ 1000) (c : Nat) : ∀ (r A : List (Int × Int)) (i k : Nat), X.drop i = r → i ≤ X.length → A.length + r.length ≤ 1000 → A.length + r.length + 3 ≤ c → r.length * c + 1 ≤ k →
    jigsawref24_Made.l0 k (X.map un84) (A.map un84) (i : Int) = some ((r.foldl Go.Proofs.YtgckohmppefibaaDoor.Ng.put A).map un84) := by
  intro r
  induction r with
  | nil =>
    intro A i k hd hi hA hc hk
    obtain ⟨k, rfl⟩ : ∃ m, k = m + 1 := ⟨k - 1, by omega⟩
    have h1 : ¬ i < X.length := fun h => by rw [List.drop_eq_getElem_cons h] at hd; cases hd
    simp only [jigsawref24_Made.l0]
    rw [if_neg (by rw [List.length_map]; omega)]
    rfl
  | cons x r ih =>
    intro A i k hd hi hA hc hk
    rw [List.length_cons, Nat.succ_mul] at hk
    simp only [List.length_cons] at hA hc
    obtain ⟨k, rfl⟩ : ∃ m, k = m + 1 := ⟨k - 1, by omega⟩
    have h1 : i < X.length := by
      rcases Nat.lt_or_ge i X.length with h | h
      · exact h
      · rw [List.drop_eq_nil_of_le h] at hd; cases hd
    rw [List.drop_eq_getElem_cons h1] at hd
    injection hd with hd1 hd2
    have er := rd84 X i h1
    rw [hd1] at er
    have g1 : (i : Int) < ((X.map un84).length : Int) := by rw [List.length_map]; omega
    have g2 : (0 : Int) ≤ (i : Int) := by omega
    have H := has84 A (by omega) x.1 x.2 k (by omega)
    have ew := w64s i (by omega)
    simp only [jigsawref24_Made.l0]
    rw [er, if_pos g1, if_pos g2, show (un84 x).f0 = x.1 from rfl, show (un84 x).f1 = x.2 from rfl, H, Option.bind_some, ew]
    have hp : ((x.1, x.2) : Int × Int) = x := rfl
    rw [hp, List.foldl_cons]
    by_cases hx : x ∈ A
    · rw [if_pos (decide_eq_true hx), show Go.Proofs.YtgckohmppefibaaDoor.Ng.put A x = A from if_pos hx]
      clear ew
      exact ih A (i + 1) k hd2 (by omega) (by omega) (by omega) (by omega)
    · have L := made_l1_f X A (by omega) i h1 (by omega) (k - A.length - 1) A [] 0 (List.drop_zero) (Nat.zero_le _) (by simp; omega)
      rw [hd1] at L
      have hk2 : A.length + 1 + (k - A.length - 1) = k := by clear ew; omega
      rw [hk2] at L
      have hp2 : Go.Proofs.YtgckohmppefibaaDoor.Ng.put A x = Go.Proofs.YtgckohmppefibaaDoor.Ng.ins x A := if_neg hx
      have IH := ih (Go.Proofs.YtgckohmppefibaaDoor.Ng.ins x A) (i + 1) (k - A.length - 1) hd2 (by clear ew; omega) (by rw [ins_len]; clear ew; omega) (by rw [ins_len]; clear ew; omega) (by clear ew; omega)
      rw [if_neg (by rw [decide_eq_false hx]; decide), hp2, ← IH]
      exact L
/-- The document's nogood of literals. -/
theorem made84 (X : List (Int × Int)) (hX : X.length ≤ 1000) (k : Nat) (hk : X.length * (X.length + 3) + 1 ≤ k) : jigsawref24_Made.f k (X.map un84) = some ((Go.Proofs.YtgckohmppefibaaDoor.Ng.mk X).map un84) := made_l0 X hX (X.length + 3) X [] 0 k (List.drop_zero) (Nat.zero_le _) (by simp; omega) (by simp) hk
theorem madeL_un (L : List (Int × Int)) : madeL (L.map un29) = (Go.Proofs.YtgckohmppefibaaDoor.Ng.mk L).map un29 := by
  unfold madeL
  rw [List.map_map, show pr29 ∘ un29 = id from rfl, List.map_id, Go.Proofs.YtgckohmppefibaaDoor.Ng.made_mk]
/-- The nogoods of a branch. -/
theorem mk_len (L : List (Int × Int)) : (Go.Proofs.YtgckohmppefibaaDoor.Ng.mk L).length ≤ L.length := by rw [← Go.Proofs.YtgckohmppefibaaDoor.Ng.made_mk]; exact Go.Proofs.YtgckohmppefibaaDoor.Ng.made_le L
def de (x : S27) : Int × Int := (wrap64 x.f0, wrap64 x.f1)
theorem lits_l0 (Y : List S27) (hY : Y.length ≤ 1000) : ∀ (m i k : Nat), Y.length = i + m → m + 1 ≤ k →
    jigsawlaw24_lits.l0 k (((Y.take i).map de).map un29) (((Y.take i).map de).map un84) Y (Y.length : Int) (i : Int) = some ((Y.map de).map un29, (Y.map de).map un84)
  | 0, i, k, hm, hk => by
    obtain ⟨k, rfl⟩ : ∃ k', k = k' + 1 := ⟨k - 1, by omega⟩
    rw [jigsawlaw24_lits.l0, if_neg (by omega), List.take_of_length_le (by omega)]
  | m + 1, i, k, hm, hk => by
    obtain ⟨k, rfl⟩ : ∃ k', k = k' + 1 := ⟨k - 1, by omega⟩
    have hi : i < Y.length := by omega
    have IH := lits_l0 Y hY m (i + 1) k (by omega) (by omega)
    rw [List.take_succ_eq_append_getElem hi] at IH
    have er : rd_T27 Y (i : Int) = Y[i] := by
      unfold rd_T27
      rw [Int.toNat_natCast, List.getD_eq_getElem?_getD, List.getElem?_eq_getElem hi]; rfl
    have ew := w64s i (by omega)
    have l1 : (((Y.take i).map de).map un29).length < 8796093022208 := by rw [List.length_map, List.length_map, List.length_take]; omega
    have l2 : (((Y.take i).map de).map un84).length < 8796093022208 := by rw [List.length_map, List.length_map, List.length_take]; omega
    have s1 : ((Y.take i).map de).map un29 ++ [(⟨wrap64 (Y[i].f0), wrap64 (Y[i].f1)⟩ : S29)] = ((Y.take i ++ [Y[i]]).map de).map un29 := by rw [List.map_append, List.map_append]; rfl
    have s2 : ((Y.take i).map de).map un84 ++ [(⟨wrap64 (Y[i].f0), wrap64 (Y[i].f1)⟩ : S84)] = ((Y.take i ++ [Y[i]]).map de).map un84 := by rw [List.map_append, List.map_append]; rfl
    rw [jigsawlaw24_lits.l0, er, ew, if_pos (by omega), if_pos (by omega), if_pos (by omega), if_pos l1, if_pos l2, s1, s2, IH]
theorem lits_pure (l : List S27) (most : Nat) (hm : most ≤ 1000) (k : Nat) (hk : most + 1 ≤ k) : jigsawlaw24_lits.f k l (most : Int) = some (((l.take most).map de).map un29, ((l.take most).map de).map un84) := by
  unfold jigsawlaw24_lits.f
  have h0 : 0 ≤ mn (l.length : Int) (most : Int) := by unfold mn; split <;> omega
  have h1 : mn (l.length : Int) (most : Int) ≤ (l.length : Int) := by unfold mn; split <;> omega
  have h2 : l.take (mn (l.length : Int) (most : Int)).toNat = l.take most := by
    rw [List.take_eq_take_iff]; unfold mn; split <;> omega
  have hY : (l.take most).length ≤ most := by rw [List.length_take]; omega
  rw [if_pos h0, if_pos h1, Option.bind_some, h2]
  have := lits_l0 (l.take most) (by omega) (l.take most).length 0 k (by omega) (by omega)
  rw [List.take_zero] at this
  exact this
theorem within84_l0 (A B : List (Int × Int)) (hA : A.length ≤ 1000) (hB : B.length ≤ 1000) : ∀ (m i k : Nat), A.length = i + m → B.length + m + 2 ≤ k →
    jigsawref24_Within.l0 k (A.map un84) (B.map un84) (i : Int) = some ((A.drop i).all fun x => decide (x ∈ B))
  | 0, i, k, hm, hk => by
    obtain ⟨k, rfl⟩ : ∃ k', k = k' + 1 := ⟨k - 1, by omega⟩
    rw [jigsawref24_Within.l0, if_neg (by rw [List.length_map]; omega), List.drop_eq_nil_of_le (by omega)]
    rfl
  | m + 1, i, k, hm, hk => by
    obtain ⟨k, rfl⟩ : ∃ k', k = k' + 1 := ⟨k - 1, by omega⟩
    have hi : i < A.length := by omega
    have IH := within84_l0 A B hA hB m (i + 1) k (by omega) (by omega)
    rw [List.drop_eq_getElem_cons hi, jigsawref24_Within.l0, if_pos (by rw [List.length_map]; omega), if_pos (by omega), rd84 A i hi]
    generalize A[i] = x
    have e : jigsawref24_has.f k (B.map un84) (un84 x).f0 (un84 x).f1 = some (decide (x ∈ B)) := has84 B (by omega) x.1 x.2 k (by omega)
    rw [e, Option.bind_some, List.all_cons]
    cases decide (x ∈ B) with
    | true => rw [if_pos rfl, w64s i (by omega), IH, Bool.true_and]
    | false => rw [if_neg (by decide), Bool.false_and]
/-- Are all of one another one's? -/
def inP (A B : List (Int × Int)) : Bool := A.all fun x => decide (x ∈ B)
theorem within84 (A B : List (Int × Int)) (hA : A.length ≤ 1000) (hB : B.length ≤ 1000) (k : Nat) (hk : A.length + B.length + 2 ≤ k) : jigsawref24_Within.f k (A.map un84) (B.map un84) = some (inP A B) := by
  have := within84_l0 A B hA hB A.length 0 k (by omega) (by omega)
  rw [List.drop_zero] at this
  exact this
def pr84 (x : S84) : Int × Int := (x.f0, x.f1)
/-- The same, of the document's literals. -/
def W84 (a b : List S84) : Bool := inP (a.map pr84) (b.map pr84)
theorem pr_un84 (l : List (Int × Int)) : (l.map un84).map pr84 = l := by rw [List.map_map]; exact List.map_id _
theorem W84_un (A B : List (Int × Int)) : W84 (A.map un84) (B.map un84) = inP A B := by unfold W84; rw [pr_un84, pr_un84]
theorem inL_un (A B : List (Int × Int)) : inL (A.map un29) (B.map un29) = inP A B := by
  unfold inL inP
  rw [List.all_map, pr_un]
  rfl
/-- What Add leaves, of pairs. -/
def addP (L : List (List (Int × Int))) (n : List (Int × Int)) : List (List (Int × Int)) × Bool := if L.any (fun x => inP x n) then (L, false) else ((L.filter fun x => !inP n x) ++ [n], true)
theorem addL_P (L : List (List (Int × Int))) (n : List (Int × Int)) : addL inL (L.map (List.map un29)) (n.map un29) = ((addP L n).1.map (List.map un29), (addP L n).2) := by
  unfold addL addP
  have e1 : (L.map (List.map un29)).any (fun x => inL x (n.map un29)) = L.any (fun x => inP x n) := by
    rw [List.any_map]; congr 1; funext x; exact inL_un x n
  have e2 : (L.map (List.map un29)).filter (fun x => !inL (n.map un29) x) = (L.filter fun x => !inP n x).map (List.map un29) := by
    rw [List.filter_map]; congr 1; apply List.filter_congr; intro x _; show (!inL (n.map un29) (x.map un29)) = _; rw [inL_un]
  rw [e1, e2]
  split
  · rfl
  · rw [List.map_append]; rfl
theorem addR_P (L : List (List (Int × Int))) (n : List (Int × Int)) : addR W84 (L.map (List.map un84)) (n.map un84) = ((addP L n).1.map (List.map un84), (addP L n).2) := by
  unfold addR addP
  have e1 : (L.map (List.map un84)).any (fun x => W84 x (n.map un84)) = L.any (fun x => inP x n) := by
    rw [List.any_map]; congr 1; funext x; exact W84_un x n
  have e2 : (L.map (List.map un84)).filter (fun x => !W84 (n.map un84) x) = (L.filter fun x => !inP n x).map (List.map un84) := by
    rw [List.filter_map]; congr 1; apply List.filter_congr; intro x _; show (!W84 (n.map un84) (x.map un84)) = _; rw [W84_un]
  rw [e1, e2]
  split
  · rfl
  · rw [List.map_append]; rfl
/-- What the laws keep of a base: in order, none long, not many. -/
structure LOk (L : List (List (Int × Int))) (n most : Nat) : Prop where
  len : L.length ≤ n
  ord : ∀ x ∈ L, Go.Proofs.YtgckohmppefibaaDoor.Ng.Ord x
  short : ∀ x ∈ L, x.length ≤ most
theorem LOk.add {L : List (List (Int × Int))} {n most : Nat} (h : LOk L n most) (P : List (Int × Int)) (hP : P.length ≤ most) : LOk (addP L (Go.Proofs.YtgckohmppefibaaDoor.Ng.mk P)).1 (n + 1) most := by
  unfold addP
  split
  · exact ⟨Nat.le_succ_of_le h.len, h.ord, h.short⟩
  · refine ⟨?_, fun x hx => ?_, fun x hx => ?_⟩
    · rw [List.length_append]
      have := List.length_filter_le (fun x => !inP (Go.Proofs.YtgckohmppefibaaDoor.Ng.mk P) x) L
      have := h.len
      simp; omega
    · rcases List.mem_append.1 hx with hx | hx
      · exact h.ord x (List.mem_filter.1 hx).1
      · rw [List.mem_singleton.1 hx]; exact Go.Proofs.YtgckohmppefibaaDoor.Ng.ord_mk P
    · rcases List.mem_append.1 hx with hx | hx
      · exact h.short x (List.mem_filter.1 hx).1
      · rw [List.mem_singleton.1 hx]; exact Nat.le_trans (mk_len P) hP
end Go.Proofs.YtgckohmppefibaaDoorX.Hz
