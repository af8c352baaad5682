import Derived.Test.YtgckohmppefibaaDoorHzf
import Derived.Test.YtgckohmppefibaaDoorNgH
namespace Go.Proofs.YtgckohmppefibaaDoorX.Hz
open Go.RowKit Go.Proofs.YtgckohmppefibaaDoorW.PrintWords Go.Proofs.YtgckohmppefibaaDoorW.PrintLast Go.Proofs.YtgckohmppefibaaDoorW.PrintMore
attribute [local go_sem] max2_int min2_int max_two min_two max_three min_three max_four min_four
set_option linter.unusedVariables false
set_option linter.unusedSimpArgs false
attribute [local go_sem] Go.Proofs.YtgckohmppefibaaDoor.Hook.cell_two
def un84 (p : Int × Int) : S84 := ⟨p.1, p.2⟩
theorem rd84 (L : List (Int × Int)) (i : Nat) (h : i < L.length) : rd_T84 (L.map un84) (i : Int) = un84 L[i] := by
  unfold rd_T84
  rw [Int.toNat_natCast, List.getD_eq_getElem?_getD, List.getElem?_eq_getElem (by rw [List.length_map]; exact h), List.getElem_map]; rfl
theorem w64s (i : Nat) (h : i ≤ 1000000) : wrap64 ((i : Int) + 1) = ((i + 1 : Nat) : Int) := by unfold wrap64; omega
theorem has84_l0 (L : List (Int × Int)) (hb : L.length ≤ 1000000) (a b : Int) : ∀ (r : List (Int × Int)) (i k : Nat), L.drop i = r → i ≤ L.length → r.length < k → jigsawref24_has.l0 k (L.map un84) (i : Int) a b = some (decide ((a, b) ∈ r)) := by
  intro r
  induction r with
  | nil =>
    intro i k hd hi hk
    obtain ⟨k, rfl⟩ : ∃ m, k = m + 1 := ⟨k - 1, by omega⟩
    have h1 : ¬ i < L.length := fun h => by rw [List.drop_eq_getElem_cons h] at hd; cases hd
    simp only [jigsawref24_has.l0]
    rw [if_neg (by rw [List.length_map]; omega)]
    simp
  | cons x r ih =>
    intro i k hd hi hk
    obtain ⟨k, rfl⟩ : ∃ m, k = m + 1 := ⟨k - 1, by omega⟩
    have h1 : i < L.length := by
      rcases Nat.lt_or_ge i L.length with h | h
      · exact h
      · rw [List.drop_eq_nil_of_le h] at hd; cases hd
    rw [List.drop_eq_getElem_cons h1] at hd
    injection hd with hd1 hd2
    have IH := ih (i + 1) k hd2 (by omega) (by simp only [List.length_cons] at hk; omega)
    have er := rd84 L i h1
    rw [hd1] at er
    have g1 : (i : Int) < ((L.map un84).length : Int) := by rw [List.length_map]; omega
    have g2 : (0 : Int) ≤ (i : Int) := by omega
    have ew := w64s i (by omega)
    simp only [jigsawref24_has.l0]
    rw [er, ew, if_pos g1, if_pos g2, IH]
    obtain ⟨x1, x2⟩ := x
    show (if x1 = a then (if x2 = b then some true else _) else _) = _
    by_cases e1 : x1 = a
    · rw [if_pos e1]
      by_cases e2 : x2 = b
      · rw [if_pos e2, e1, e2]; simp
      · rw [if_neg e2]
        congr 1
        rw [decide_eq_decide, List.mem_cons]
        exact ⟨.inr, fun h => h.elim (fun h => by injection h with _ h; exact absurd h.symm e2) id⟩
    · rw [if_neg e1]
      congr 1
      rw [decide_eq_decide, List.mem_cons]
      exact ⟨.inr, fun h => h.elim (fun h => by injection h with h _; exact absurd h.symm e1) id⟩
theorem has84 (L : List (Int × Int)) (hb : L.length ≤ 1000000) (a b : Int) (k : Nat) (hk : L.length < k) : jigsawref24_has.f k (L.map un84) a b = some (decide ((a, b) ∈ L)) := has84_l0 L hb a b L 0 k (List.drop_zero) (Nat.zero_le _) hk
theorem snoc84 (A : List (Int × Int)) (x : Int × Int) : A.map un84 ++ [(⟨(un84 x).f0, (un84 x).f1⟩ : S84)] = (A ++ [x]).map un84 := by rw [List.map_append]; rfl
theorem made_l1_t (X A : List (Int × Int)) (hA : A.length ≤ 1000000) (i : Nat) (hi : i ≤ 1000000) (K : Nat) : ∀ (r N : List (Int × Int)) (j : Nat), A.drop j = r → j ≤ A.length → N.length + r.length ≤ 2000000 →
    jigsawref24_Made.l1 (r.length + 1 + K) (X.map un84) (A.map un84) (i : Int) (N.map un84) true (j : Int) = jigsawref24_Made.l0 K (X.map un84) ((N ++ r).map un84) ((i + 1 : Nat) : Int) := by
  intro r
  induction r with
  | nil =>
    intro N j hd hj hN
    have h1 : ¬ j < A.length := fun h => by rw [List.drop_eq_getElem_cons h] at hd; cases hd
    rw [show ([] : List (Int × Int)).length + 1 + K = K + 1 from by simp; omega]
    have ew := w64s i hi
    have g1 : ¬ (j : Int) < ((A.map un84).length : Int) := by rw [List.length_map]; omega
    simp only [jigsawref24_Made.l1]
    rw [if_neg g1, if_pos trivial, ew, List.append_nil]
  | cons y r ih =>
    intro N j hd hj hN
    have h1 : j < A.length := by
      rcases Nat.lt_or_ge j A.length with h | h
      · exact h
      · rw [List.drop_eq_nil_of_le h] at hd; cases hd
    rw [List.drop_eq_getElem_cons h1] at hd
    injection hd with hd1 hd2
    have er := rd84 A j h1
    rw [hd1] at er
    simp only [List.length_cons] at hN
    have IH := ih (N ++ [y]) (j + 1) hd2 (by omega) (by simp; omega)
    rw [show (y :: r).length + 1 + K = (r.length + 1 + K) + 1 from by simp; omega]
    have g1 : (j : Int) < ((A.map un84).length : Int) := by rw [List.length_map]; omega
    have g2 : (0 : Int) ≤ (j : Int) := by omega
    have g3 : (N.map un84).length < 8796093022208 := by rw [List.length_map]; omega
    have ew := w64s j (by omega)
    simp only [jigsawref24_Made.l1]
    rw [er, ew, if_pos g1, if_pos trivial, if_pos g2, if_pos g3, snoc84, IH, List.append_assoc]
    rfl
theorem made_l1_f (X A : List (Int × Int)) (hA : A.length ≤ 1000000) (i : Nat) (hi : i < X.length) (hX : X.length ≤ 1000000) (K : Nat) : ∀ (r N : List (Int × Int)) (j : Nat), A.drop j = r → j ≤ A.length → N.length + r.length ≤ 1000000 →
    jigsawref24_Made.l1 (r.length + 1 + K) (X.map un84) (A.map un84) (i : Int) (N.map un84) false (j : Int) = jigsawref24_Made.l0 K (X.map un84) ((N ++ Go.Proofs.YtgckohmppefibaaDoor.Ng.ins X[i] r).map un84) ((i + 1 : Nat) : Int) := by
  intro r
  have eX := rd84 X i hi
  have gx1 : (0 : Int) ≤ (i : Int) := by omega
  have gx2 : (i : Int) < ((X.map un84).length : Int) := by rw [List.length_map]; omega
  induction r with
  | nil =>
    intro N j hd hj hN
    have h1 : ¬ j < A.length := fun h => by rw [List.drop_eq_getElem_cons h] at hd; cases hd
    rw [show ([] : List (Int × Int)).length + 1 + K = K + 1 from by simp; omega]
    have ew := w64s i (by omega)
    have g1 : ¬ (j : Int) < ((A.map un84).length : Int) := by rw [List.length_map]; omega
    have g3 : (N.map un84).length < 8796093022208 := by rw [List.length_map]; simp at hN; omega
    simp only [jigsawref24_Made.l1]
    rw [if_neg g1, if_neg (by decide), if_pos gx1, if_pos gx2, if_pos g3, eX, snoc84, ew]
    rfl
  | cons y r ih =>
    intro N j hd hj hN
    have h1 : j < A.length := by
      rcases Nat.lt_or_ge j A.length with h | h
      · exact h
      · rw [List.drop_eq_nil_of_le h] at hd; cases hd
    rw [List.drop_eq_getElem_cons h1] at hd
    injection hd with hd1 hd2
    have er := rd84 A j h1
    rw [hd1] at er
    simp only [List.length_cons] at hN
    have IH := ih (N ++ [y]) (j + 1) hd2 (by omega) (by simp; omega)
    have T := made_l1_t X A hA i (by omega) K r (N ++ [X[i]] ++ [y]) (j + 1) hd2 (by omega) (by simp; omega)
    rw [show (y :: r).length + 1 + K = (r.length + 1 + K) + 1 from by simp; omega]
    have g1 : (j : Int) < ((A.map un84).length : Int) := by rw [List.length_map]; omega
    have g2 : (0 : Int) ≤ (j : Int) := by omega
    have g3 : (N.map un84).length < 8796093022208 := by rw [List.length_map]; omega
    have g4 : ((N ++ [X[i]]).map un84).length < 8796093022208 := by rw [List.length_map]; simp; omega
    have ew := w64s j (by omega)
    have hcf := Go.Proofs.YtgckohmppefibaaDoor.Ng.cf_lt X[i] y
    have hins : Go.Proofs.YtgckohmppefibaaDoor.Ng.ins X[i] (y :: r) = if Go.Proofs.YtgckohmppefibaaDoor.Ng.cf X[i] y < 0 then X[i] :: y :: r else y :: Go.Proofs.YtgckohmppefibaaDoor.Ng.ins X[i] r := rfl
    simp only [jigsawref24_Made.l1]
    rw [er, eX, ew, if_pos g1, if_neg (by decide), if_pos g2, if_pos gx1, if_pos gx2]
    have B1 : (if (N.map un84).length < 8796093022208 then ((some (N.map un84 ++ [(⟨(un84 X[i]).f0, (un84 X[i]).f1⟩ : S84)] : List (S84))).bind fun y150 => (if y150.length < 8796093022208 then (jigsawref24_Made.l1 (r.length + 1 + K) (X.map un84) (A.map un84) (i : Int) (y150 ++ [(⟨(un84 y).f0, (un84 y).f1⟩ : S84)]) true ((j + 1 : Nat) : Int)) else (none))) else (none)) = jigsawref24_Made.l0 K (X.map un84) ((N ++ X[i] :: y :: r).map un84) ((i + 1 : Nat) : Int) := by
      rw [if_pos g3, snoc84, Option.bind_some, if_pos g4, snoc84, T]
      congr 2
      simp
    have B2 : (if (N.map un84).length < 8796093022208 then (jigsawref24_Made.l1 (r.length + 1 + K) (X.map un84) (A.map un84) (i : Int) (N.map un84 ++ [(⟨(un84 y).f0, (un84 y).f1⟩ : S84)]) false ((j + 1 : Nat) : Int)) else (none)) = jigsawref24_Made.l0 K (X.map un84) ((N ++ y :: Go.Proofs.YtgckohmppefibaaDoor.Ng.ins X[i] r).map un84) ((i + 1 : Nat) : Int) := by
      rw [if_pos g3, snoc84, IH]
      congr 2
      simp
    have hlt : Go.Proofs.YtgckohmppefibaaDoor.Ng.cf X[i] y < 0 ↔ (X[i].1 < y.1 ∨ X[i].1 = y.1 ∧ X[i].2 < y.2) := hcf
    have u1 : ∀ p : Int × Int, (un84 p).f0 = p.1 := fun _ => rfl
    have u2 : ∀ p : Int × Int, (un84 p).f1 = p.2 := fun _ => rfl
    by_cases c1 : y.1 > X[i].1
    · rw [if_pos (show (un84 y).f0 > (un84 X[i]).f0 from c1), hins.trans (if_pos (hlt.2 (.inl c1)))]
      exact B1
    · rw [if_neg (show ¬ (un84 y).f0 > (un84 X[i]).f0 from c1)]
      by_cases c2 : y.1 = X[i].1
      · rw [if_pos (show (un84 y).f0 = (un84 X[i]).f0 from c2)]
        by_cases c3 : y.2 > X[i].2
        · rw [if_pos (show (un84 y).f1 > (un84 X[i]).f1 from c3), hins.trans (if_pos (hlt.2 (.inr ⟨c2.symm, c3⟩)))]
          exact B1
        · rw [if_neg (show ¬ (un84 y).f1 > (un84 X[i]).f1 from c3), hins.trans (if_neg (by rw [hlt]; omega))]
          exact B2
      · rw [if_neg (show ¬ (un84 y).f0 = (un84 X[i]).f0 from c2), hins.trans (if_neg (by rw [hlt]; omega))]
        exact B2
theorem ins_len (x : Int × Int) : ∀ l : List (Int × Int), (Go.Proofs.YtgckohmppefibaaDoor.Ng.ins x l).length = l.length + 1
  | [] => rfl
  | y :: l => by unfold Go.Proofs.YtgckohmppefibaaDoor.Ng.ins; split <;> simp [ins_len x l]
theorem made_l0 (X : List (Int × Int)) (hX : X.length ≤ 1000) (c : Nat) : ∀ (r A : List (Int × Int)) (i k : Nat), X.drop i = r → i ≤ X.length → A.length + r.length ≤ 1000 → A.length + r.length + 3 ≤ c → r.length * c + 1 ≤ k →
    jigsawref24_Made.l0 k (X.map un84) (A.map un84) (i : Int) = some ((r.foldl Go.Proofs.YtgckohmppefibaaDoor.Ng.put A).map un84) := by
  intro r
  induction r with
  | nil =>
    intro A i k hd hi hA hc hk
    obtain ⟨k, rfl⟩ : ∃ m, k = m + 1 := ⟨k - 1, by omega⟩
    have h1 : ¬ i < X.length := fun h => by rw [List.drop_eq_getElem_cons h] at hd; cases hd
    simp only [jigsawref24_Made.l0]
    rw [if_neg (by rw [List.length_map]; omega)]
    rfl
  | cons x r ih =>
    intro A i k hd hi hA hc hk
    rw [List.length_cons, Nat.succ_mul] at hk
    simp only [List.length_cons] at hA hc
    obtain ⟨k, rfl⟩ : ∃ m, k = m + 1 := ⟨k - 1, by omega⟩
    have h1 : i < X.length := by
      rcases Nat.lt_or_ge i X.length with h | h
      · exact h
      · rw [List.drop_eq_nil_of_le h] at hd; cases hd
    rw [List.drop_eq_getElem_cons h1] at hd
    injection hd with hd1 hd2
    have er := rd84 X i h1
    rw [hd1] at er
    have g1 : (i : Int) < ((X.map un84).length : Int) := by rw [List.length_map]; omega
    have g2 : (0 : Int) ≤ (i : Int) := by omega
    have H := has84 A (by omega) x.1 x.2 k (by omega)
    have ew := w64s i (by omega)
    simp only [jigsawref24_Made.l0]
    rw [er, if_pos g1, if_pos g2, show (un84 x).f0 = x.1 from rfl, show (un84 x).f1 = x.2 from rfl, H, Option.bind_some, ew]
    have hp : ((x.1, x.2) : Int × Int) = x := rfl
    rw [hp, List.foldl_cons]
    by_cases hx : x ∈ A
    · rw [if_pos (decide_eq_true hx), show Go.Proofs.YtgckohmppefibaaDoor.Ng.put A x = A from if_pos hx]
      clear ew
      exact ih A (i + 1) k hd2 (by omega) (by omega) (by omega) (by omega)
    · have L := made_l1_f X A (by omega) i h1 (by omega) (k - A.length - 1) A [] 0 (List.drop_zero) (Nat.zero_le _) (by simp; omega)
      rw [hd1] at L
      have hk2 : A.length + 1 + (k - A.length - 1) = k := by clear ew; omega
      rw [hk2] at L
      have hp2 : Go.Proofs.YtgckohmppefibaaDoor.Ng.put A x = Go.Proofs.YtgckohmppefibaaDoor.Ng.ins x A := if_neg hx
      have IH := ih (Go.Proofs.YtgckohmppefibaaDoor.Ng.ins x A) (i + 1) (k - A.length - 1) hd2 (by clear ew; omega) (by rw [ins_len]; clear ew; omega) (by rw [ins_len]; clear ew; omega) (by clear ew; omega)
      rw [if_neg (by rw [decide_eq_false hx]; decide), hp2, ← IH]
      exact L
/-- The document's nogood of literals. -/
theorem made84 (X : List (Int × Int)) (hX : X.length ≤ 1000) (k : Nat) (hk : X.length * (X.length + 3) + 1 ≤ k) : jigsawref24_Made.f k (X.map un84) = some ((Go.Proofs.YtgckohmppefibaaDoor.Ng.mk X).map un84) := made_l0 X hX (X.length + 3) X [] 0 k (List.drop_zero) (Nat.zero_le _) (by simp; omega) (by simp) hk
def un31 (d : (Int × Int) × Bool) : S31 := ⟨un29 d.1, d.2⟩
def un33 (d : (Int × Int) × Bool) : S33 := ⟨d.1.1, d.1.2, d.2⟩
theorem rd31 (L : List ((Int × Int) × Bool)) (i : Nat) (h : i < L.length) : rd_T31 (L.map un31) (i : Int) = un31 L[i] := by
  unfold rd_T31
  rw [Int.toNat_natCast, List.getD_eq_getElem?_getD, List.getElem?_eq_getElem (by rw [List.length_map]; exact h), List.getElem_map]; rfl
theorem rd33 (L : List ((Int × Int) × Bool)) (i : Nat) (h : i < L.length) : rd_T33 (L.map un33) (i : Int) = un33 L[i] := by
  unfold rd_T33
  rw [Int.toNat_natCast, List.getD_eq_getElem?_getD, List.getElem?_eq_getElem (by rw [List.length_map]; exact h), List.getElem_map]; rfl
theorem madeL_un (L : List (Int × Int)) : madeL (L.map un29) = (Go.Proofs.YtgckohmppefibaaDoor.Ng.mk L).map un29 := by
  unfold madeL
  rw [List.map_map, show pr29 ∘ un29 = id from rfl, List.map_id, Go.Proofs.YtgckohmppefibaaDoor.Ng.made_mk]
/-- The nogoods of a branch. -/
def frm : List (Int × Int) → List ((Int × Int) × Bool) → List (List (Int × Int))
  | _, [] => []
  | A, (p, true) :: r => frm (A ++ [p]) r
  | A, (p, false) :: r => Go.Proofs.YtgckohmppefibaaDoor.Ng.mk (A ++ [p]) :: frm A r
theorem mk_len (L : List (Int × Int)) : (Go.Proofs.YtgckohmppefibaaDoor.Ng.mk L).length ≤ L.length := by rw [← Go.Proofs.YtgckohmppefibaaDoor.Ng.made_mk]; exact Go.Proofs.YtgckohmppefibaaDoor.Ng.made_le L
theorem snoc29 (A : List (Int × Int)) (x : (Int × Int) × Bool) : A.map un29 ++ [(⟨(un31 x).f0.f0, (un31 x).f0.f1⟩ : S29)] = (A ++ [x.1]).map un29 := by rw [List.map_append]; rfl
theorem from_l0 (D : List ((Int × Int) × Bool)) (hD : D.length ≤ 1000) : ∀ (r : List ((Int × Int) × Bool)) (out : List (List (Int × Int))) (A : List (Int × Int)) (i k : Nat), D.drop i = r → i ≤ D.length → out.length ≤ i → A.length ≤ i → r.length < k →
    nogood_From.l0 k (out.map (List.map un29)) (A.map un29) (D.map un31) (D.length : Int) (i : Int) = some ((out ++ frm A r).map (List.map un29)) := by
  intro r
  induction r with
  | nil =>
    intro out A i k hd hi ho hA hk
    obtain ⟨k, rfl⟩ : ∃ m, k = m + 1 := ⟨k - 1, by omega⟩
    have h1 : ¬ i < D.length := fun h => by rw [List.drop_eq_getElem_cons h] at hd; cases hd
    simp only [nogood_From.l0]
    rw [if_neg (by omega), show frm A [] = [] from rfl, List.append_nil]
  | cons x r ih =>
    intro out A i k hd hi ho hA hk
    obtain ⟨k, rfl⟩ : ∃ m, k = m + 1 := ⟨k - 1, by omega⟩
    simp only [List.length_cons] at hk
    have h1 : i < D.length := by
      rcases Nat.lt_or_ge i D.length with h | h
      · exact h
      · rw [List.drop_eq_nil_of_le h] at hd; cases hd
    rw [List.drop_eq_getElem_cons h1] at hd
    injection hd with hd1 hd2
    have er := rd31 D i h1
    rw [hd1] at er
    have g1 : (i : Int) < (D.length : Int) := by omega
    have g2 : (0 : Int) ≤ (i : Int) := by omega
    have g3 : (i : Int) < ((D.map un31).length : Int) := by rw [List.length_map]; omega
    have ew := w64s i (by omega)
    obtain ⟨p, b⟩ := x
    have z1 : (A.map un29).length + ([(⟨(un31 (p, b)).f0.f0, (un31 (p, b)).f0.f1⟩ : S29)] : List S29).length < 8796093022208 := by rw [List.length_map]; show A.length + 1 < _; clear ew; omega
    have zc : nogood_Lit_38.f (A.map un29) = some (A.map un29) := by unfold nogood_Lit_38.f; rw [if_pos (by rw [List.length_map]; clear ew; omega)]
    have zm : nogood_made.f ((A ++ [p]).map un29) = some ((Go.Proofs.YtgckohmppefibaaDoor.Ng.mk (A ++ [p])).map un29) := by unfold nogood_made.f; rw [if_pos (by rw [List.length_map, List.length_append]; simp; clear ew; omega), madeL_un]
    have z2 : (out.map (List.map un29)).length + ([(Go.Proofs.YtgckohmppefibaaDoor.Ng.mk (A ++ [p])).map un29] : List (List S29)).length < 5864062014805 := by rw [List.length_map]; show out.length + 1 < _; clear ew; omega
    simp only [nogood_From.l0]
    rw [er, ew, if_pos g1, if_pos g2, if_pos g3]
    cases b with
    | true =>
      rw [if_pos (show (un31 (p, true)).f1 = true from rfl), Option.bind_some, if_pos z1, snoc29]
      clear ew
      rw [ih out (A ++ [p]) (i + 1) k hd2 (by omega) (by omega) (by simp; omega) (by omega)]
      rfl
    | false =>
      rw [if_neg (show ¬ (un31 (p, false)).f1 = true from Bool.false_ne_true), zc, Option.bind_some, Option.bind_some, if_pos z1, snoc29, zm, Option.bind_some, Option.bind_some, if_pos z2]
      clear ew
      have e : out.map (List.map un29) ++ [(Go.Proofs.YtgckohmppefibaaDoor.Ng.mk (A ++ [p])).map un29] = (out ++ [Go.Proofs.YtgckohmppefibaaDoor.Ng.mk (A ++ [p])]).map (List.map un29) := by rw [List.map_append]; rfl
      rw [e, ih (out ++ [Go.Proofs.YtgckohmppefibaaDoor.Ng.mk (A ++ [p])]) A (i + 1) k hd2 (by omega) (by simp; omega) (by omega) (by omega), List.append_assoc]
      rfl
/-- What was decided so, ahead. -/
def ahd : List ((Int × Int) × Bool) → List (Int × Int)
  | [] => []
  | (p, true) :: r => p :: ahd r
  | (_, false) :: r => ahd r
theorem ahd_app : ∀ a b, ahd (a ++ b) = ahd a ++ ahd b
  | [], _ => rfl
  | (p, true) :: a, b => by rw [List.cons_append]; show p :: ahd (a ++ b) = p :: ahd a ++ ahd b; rw [ahd_app a b]; rfl
  | (_, false) :: a, b => by rw [List.cons_append]; exact ahd_app a b
theorem ahd_len : ∀ a, (ahd a).length ≤ a.length
  | [] => Nat.le_refl _
  | (p, true) :: a => by have := ahd_len a; show (ahd a).length + 1 ≤ a.length + 1; omega
  | (_, false) :: a => by have := ahd_len a; show (ahd a).length ≤ a.length + 1; omega
theorem ahd_take (D : List ((Int × Int) × Bool)) (j : Nat) (h : j < D.length) : ahd (D.take (j + 1)) = ahd (D.take j) ++ (if D[j].2 then [D[j].1] else []) := by
  rw [List.take_succ_eq_append_getElem h, ahd_app]
  congr 1
  generalize D[j] = x
  obtain ⟨p, b⟩ := x
  cases b <;> rfl
theorem snoc84' (A : List (Int × Int)) (x : (Int × Int) × Bool) : A.map un84 ++ [(⟨(un33 x).f0, (un33 x).f1⟩ : S84)] = (A ++ [x.1]).map un84 := by rw [List.map_append]; rfl
theorem rfrom_l1 (D : List ((Int × Int) × Bool)) (hD : D.length ≤ 100) (out : List (List (Int × Int))) (i : Nat) (hi : i < D.length) (hout : out.length ≤ i) (K : Nat) (hK : 20000 ≤ K) : ∀ (d j : Nat), j + d = i →
    jigsawref24_From.l1 (d + 1 + K) (D.map un33) (out.map (List.map un84)) (i : Int) ((ahd (D.take j)).map un84) (j : Int) = jigsawref24_From.l0 K (D.map un33) ((out ++ [Go.Proofs.YtgckohmppefibaaDoor.Ng.mk (ahd (D.take i) ++ [D[i].1])]).map (List.map un84)) ((i + 1 : Nat) : Int) := by
  intro d
  induction d with
  | zero =>
    intro j hj
    have e : j = i := by omega
    subst e
    rw [show 0 + 1 + K = K + 1 from by omega]
    have er := rd33 D j hi
    have hl := ahd_len (D.take j)
    rw [List.length_take] at hl
    have g2 : (0 : Int) ≤ (j : Int) := by omega
    have g3 : (j : Int) < ((D.map un33).length : Int) := by rw [List.length_map]; omega
    have z1 : ((ahd (D.take j)).map un84).length < 8796093022208 := by rw [List.length_map]; omega
    have z2 : (out.map (List.map un84)).length < 5864062014805 := by rw [List.length_map]; omega
    have hm := made84 (ahd (D.take j) ++ [D[j].1]) (by simp; omega) K (by
      have h5 : (ahd (D.take j) ++ [D[j].1]).length ≤ 100 := by simp; omega
      have h6 := Nat.mul_le_mul h5 (Nat.add_le_add_right h5 3)
      omega)
    have ew := w64s j (by omega)
    simp only [jigsawref24_From.l1]
    rw [if_neg (by clear ew; omega), if_pos g2, if_pos g3, if_pos z1, er, snoc84', hm, Option.bind_some, if_pos z2, ew]
    congr 1
    rw [List.map_append]; rfl
  | succ d ih =>
    intro j hj
    have h1 : j < D.length := by omega
    rw [show d + 1 + 1 + K = (d + 1 + K) + 1 from by omega]
    have er := rd33 D j h1
    have hl := ahd_len (D.take j)
    rw [List.length_take] at hl
    have g1 : (j : Int) < (i : Int) := by omega
    have g2 : (0 : Int) ≤ (j : Int) := by omega
    have g3 : (j : Int) < ((D.map un33).length : Int) := by rw [List.length_map]; omega
    have z1 : ((ahd (D.take j)).map un84).length < 8796093022208 := by rw [List.length_map]; omega
    have IH := ih (j + 1) (by omega)
    rw [ahd_take D j h1] at IH
    have ew := w64s j (by omega)
    simp only [jigsawref24_From.l1]
    rw [if_pos g1, if_pos g2, if_pos g3, er, ew]
    generalize D[j] = x at *
    obtain ⟨p, b⟩ := x
    cases b with
    | true =>
      rw [if_pos (show (un33 (p, true)).f2 = true from rfl), if_pos z1, snoc84']
      exact IH
    | false =>
      rw [if_neg (show ¬ (un33 (p, false)).f2 = true from Bool.false_ne_true)]
      rw [if_neg (show ¬ ((p, false) : (Int × Int) × Bool).2 = true from Bool.false_ne_true), List.append_nil] at IH
      exact IH
theorem rfrom_l0 (D : List ((Int × Int) × Bool)) (hD : D.length ≤ 100) : ∀ (r : List ((Int × Int) × Bool)) (out : List (List (Int × Int))) (i k : Nat), D.drop i = r → i ≤ D.length → out.length ≤ i → r.length * 200 + 20001 ≤ k →
    jigsawref24_From.l0 k (D.map un33) (out.map (List.map un84)) (i : Int) = some ((out ++ frm (ahd (D.take i)) r).map (List.map un84)) := by
  intro r
  induction r with
  | nil =>
    intro out i k hd hi ho hk
    obtain ⟨k, rfl⟩ : ∃ m, k = m + 1 := ⟨k - 1, by omega⟩
    have h1 : ¬ i < D.length := fun h => by rw [List.drop_eq_getElem_cons h] at hd; cases hd
    simp only [jigsawref24_From.l0]
    rw [if_neg (by rw [List.length_map]; omega), show ∀ A, frm A [] = [] from fun _ => rfl, List.append_nil]
  | cons x r ih =>
    intro out i k hd hi ho hk
    obtain ⟨k, rfl⟩ : ∃ m, k = m + 1 := ⟨k - 1, by omega⟩
    simp only [List.length_cons] at hk
    have h1 : i < D.length := by
      rcases Nat.lt_or_ge i D.length with h | h
      · exact h
      · rw [List.drop_eq_nil_of_le h] at hd; cases hd
    rw [List.drop_eq_getElem_cons h1] at hd
    injection hd with hd1 hd2
    have er := rd33 D i h1
    have ht := ahd_take D i h1
    have L := rfrom_l1 D hD out i h1 ho (k - (i + 1)) (by omega) i 0 (by omega)
    rw [hd1] at er ht L
    have g1 : (i : Int) < ((D.map un33).length : Int) := by rw [List.length_map]; omega
    have g2 : (0 : Int) ≤ (i : Int) := by omega
    rw [show i + 1 + (k - (i + 1)) = k from by omega] at L
    have I1 := fun o2 (ho2 : o2.length ≤ i + 1) => ih o2 (i + 1) k hd2 (by omega) ho2 (by omega)
    have I2 := fun o2 (ho2 : o2.length ≤ i + 1) => ih o2 (i + 1) (k - (i + 1)) hd2 (by omega) ho2 (by omega)
    have ew := w64s i (by omega)
    simp only [jigsawref24_From.l0]
    rw [er, if_pos g1, if_pos g2, ew]
    obtain ⟨p, b⟩ := x
    cases b with
    | true =>
      rw [if_pos (show (un33 (p, true)).f2 = true from rfl), I1 out (by clear ew; omega), ht]
      rfl
    | false =>
      rw [if_neg (show ¬ (un33 (p, false)).f2 = true from Bool.false_ne_true)]
      rw [if_neg (show ¬ ((p, false) : (Int × Int) × Bool).2 = true from Bool.false_ne_true), List.append_nil] at ht
      refine Eq.trans L ?_
      rw [I2 _ (by simp; clear ew; omega), ht, List.append_assoc]
      rfl
theorem rd29 (L : List (Int × Int)) (i : Nat) (h : i < L.length) : rd_T29 (L.map un29) (i : Int) = un29 L[i] := by
  unfold rd_T29
  rw [Int.toNat_natCast, List.getD_eq_getElem?_getD, List.getElem?_eq_getElem (by rw [List.length_map]; exact h), List.getElem_map]; rfl
theorem rdL2 (L : List (List (Int × Int))) (i : Nat) (h : i < L.length) : rd_L7 (L.map (List.map un29)) (i : Int) = L[i].map un29 := by
  unfold rd_L7
  rw [Int.toNat_natCast, List.getD_eq_getElem?_getD, List.getElem?_eq_getElem (by rw [List.length_map]; exact h), List.getElem_map]; rfl
theorem rdL4 (L : List (List (Int × Int))) (i : Nat) (h : i < L.length) : rd_L9 (L.map (List.map un84)) (i : Int) = L[i].map un84 := by
  unfold rd_L9
  rw [Int.toNat_natCast, List.getD_eq_getElem?_getD, List.getElem?_eq_getElem (by rw [List.length_map]; exact h), List.getElem_map]; rfl
theorem same24_l1 (L : List (List (Int × Int))) (hL : L.length ≤ 100000) (i : Nat) (hi : i < L.length) (hM : L[i].length ≤ 100000) (K : Nat) (x13 : Int) : ∀ (d j : Nat), j + d = L[i].length →
    jigsawlaw24_same.l1 (d + 1 + K) (L.map (List.map un29)) (L.map (List.map un84)) (i : Int) x13 (i : Int) (L[i].length : Int) (j : Int) = jigsawlaw24_same.l0 K (L.map (List.map un29)) (L.map (List.map un84)) x13 ((i + 1 : Nat) : Int) := by
  intro d
  have e2 := rdL2 L i hi
  have e4 := rdL4 L i hi
  generalize L[i] = M at *
  induction d with
  | zero =>
    intro j hj
    rw [show 0 + 1 + K = K + 1 from by omega]
    have ew := w64s i (by omega)
    simp only [jigsawlaw24_same.l1]
    rw [if_neg (by clear ew; omega), ew]
  | succ d ih =>
    intro j hj
    rw [show d + 1 + 1 + K = (d + 1 + K) + 1 from by omega]
    have hjM : j < M.length := by omega
    have IH := ih (j + 1) (by omega)
    have g1 : (j : Int) < (M.length : Int) := by omega
    have g2 : (0 : Int) ≤ (i : Int) := by omega
    have g3 : (i : Int) < ((L.map (List.map un29)).length : Int) := by rw [List.length_map]; omega
    have g4 : (0 : Int) ≤ (j : Int) := by omega
    have g5 : (j : Int) < ((M.map un29).length : Int) := by rw [List.length_map]; omega
    have g6 : (i : Int) < ((L.map (List.map un84)).length : Int) := by rw [List.length_map]; omega
    have g7 : (j : Int) < ((M.map un84).length : Int) := by rw [List.length_map]; omega
    have r1 := rd29 M j hjM
    have r2 := rd84 M j hjM
    have q0 : (un29 M[j]).f0 = (un84 M[j]).f0 := rfl
    have q1 : (un29 M[j]).f1 = (un84 M[j]).f1 := rfl
    have ew := w64s j (by omega)
    simp only [jigsawlaw24_same.l1]
    rw [e2, e4, r1, r2, ew, if_pos g1, if_pos g2, if_pos g3, if_pos g4, if_pos g5, if_pos g6, if_pos g7, if_pos q0, if_pos q1, IH]
theorem same24_l0 (L : List (List (Int × Int))) (hL : L.length ≤ 100000) (hM : ∀ M ∈ L, M.length ≤ 1000) : ∀ (d i k : Nat), i + d = L.length → d * 1002 + 1 ≤ k →
    jigsawlaw24_same.l0 k (L.map (List.map un29)) (L.map (List.map un84)) (L.length : Int) (i : Int) = some true := by
  intro d
  induction d with
  | zero =>
    intro i k hd hk
    obtain ⟨k, rfl⟩ : ∃ m, k = m + 1 := ⟨k - 1, by omega⟩
    simp only [jigsawlaw24_same.l0]
    rw [if_neg (by omega)]
  | succ d ih =>
    intro i k hd hk
    obtain ⟨k, rfl⟩ : ∃ m, k = m + 1 := ⟨k - 1, by omega⟩
    have hi : i < L.length := by omega
    have hm := hM L[i] (List.getElem_mem hi)
    have e2 := rdL2 L i hi
    have e4 := rdL4 L i hi
    rw [Nat.succ_mul] at hk
    have hk2 : d * 1002 + 1 ≤ k - L[i].length - 1 := by
      generalize L[i].length = n at *
      generalize d * 1002 = q at *
      omega
    have hk3 : L[i].length + 1 + (k - L[i].length - 1) = k := by
      generalize L[i].length = n at *
      generalize d * 1002 = q at *
      omega
    have S := same24_l1 L hL i hi (by omega) (k - L[i].length - 1) (L.length : Int) L[i].length 0 (by omega)
    rw [hk3] at S
    have IH := ih (i + 1) (k - L[i].length - 1) (by omega) hk2
    clear hk2 hk3 hk
    generalize L[i] = M at *
    have g1 : (i : Int) < (L.length : Int) := by omega
    have g2 : (0 : Int) ≤ (i : Int) := by omega
    have g3 : (i : Int) < ((L.map (List.map un29)).length : Int) := by rw [List.length_map]; omega
    have g4 : (i : Int) < ((L.map (List.map un84)).length : Int) := by rw [List.length_map]; omega
    have q : ((M.map un29).length : Int) = ((M.map un84).length : Int) := by rw [List.length_map, List.length_map]
    simp only [jigsawlaw24_same.l0]
    rw [e2, e4, if_pos g1, if_pos g2, if_pos g3, if_pos g4, if_pos q, List.length_map]
    exact S.trans IH
theorem same24 (L : List (List (Int × Int))) (hL : L.length ≤ 100000) (hM : ∀ M ∈ L, M.length ≤ 1000) (k : Nat) (hk : L.length * 1002 + 1 ≤ k) : jigsawlaw24_same.f k (L.map (List.map un29)) (L.map (List.map un84)) = some true := by
  unfold jigsawlaw24_same.f
  rw [if_pos (by rw [List.length_map, List.length_map]), List.length_map]
  exact same24_l0 L hL hM L.length 0 k (by omega) hk
theorem frm_len : ∀ (D : List ((Int × Int) × Bool)) (A : List (Int × Int)), (frm A D).length ≤ D.length ∧ ∀ M ∈ frm A D, M.length ≤ A.length + D.length
  | [], A => ⟨Nat.le_refl _, fun M h => by cases h⟩
  | (p, true) :: D, A => by
    have h := frm_len D (A ++ [p])
    rw [List.length_append] at h
    exact ⟨Nat.le_trans h.1 (Nat.le_succ _), fun M hM => by have h3 := h.2 M hM; simp at h3 ⊢; omega⟩
  | (p, false) :: D, A => by
    have h := frm_len D A
    refine ⟨Nat.succ_le_succ h.1, fun M hM => ?_⟩
    cases hM with
    | head => have h3 := mk_len (A ++ [p]); simp at h3 ⊢; omega
    | tail _ hM => have h3 := h.2 M hM; simp; omega
def de27 (x : S27) : (Int × Int) × Bool := ((wrap64 x.f0, wrap64 x.f1), x.f2)
theorem law_l0 (Y : List S27) (hY : Y.length ≤ 20) : ∀ (r : List S27) (i k : Nat), Y.drop i = r → i ≤ Y.length → r.length + 60000 ≤ k →
    jigsawlaw24_NogoodFrom.l0 k (((Y.take i).map de27).map un31) (((Y.take i).map de27).map un33) Y (Y.length : Int) (i : Int) = some true := by
  intro r
  induction r with
  | nil =>
    intro i k hd hi hk
    obtain ⟨k, rfl⟩ : ∃ m, k = m + 1 := ⟨k - 1, by omega⟩
    have h1 : ¬ i < Y.length := fun h => by rw [List.drop_eq_getElem_cons h] at hd; cases hd
    have e : Y.take i = Y := List.take_of_length_le (by omega)
    rw [e]
    have hD : (Y.map de27).length = Y.length := List.length_map _
    generalize Y.map de27 = D at *
    have F1 : nogood_From.f k (D.map un31) = some ((frm [] D).map (List.map un29)) := by
      unfold nogood_From.f
      rw [List.length_map]
      have h := from_l0 D (by omega) D [] [] 0 k (List.drop_zero) (Nat.zero_le _) (Nat.le_refl _) (Nat.le_refl _) (by omega)
      rw [List.nil_append] at h
      exact h
    have F2 : jigsawref24_From.f k (D.map un33) = some ((frm [] D).map (List.map un84)) := by
      unfold jigsawref24_From.f
      have h := rfrom_l0 D (by omega) D [] 0 k (List.drop_zero) (Nat.zero_le _) (Nat.le_refl _) (by simp only [List.length_nil] at hk; omega)
      rw [List.nil_append] at h
      exact h
    have hf := frm_len D []
    have S := same24 (frm [] D) (by omega) (fun M hM => by have := hf.2 M hM; simp at this; omega) k (by simp only [List.length_nil] at hk; omega)
    simp only [jigsawlaw24_NogoodFrom.l0]
    rw [if_neg (by omega), show jigsawlaw24_wakes.f = some true from rfl, Option.bind_some, if_pos rfl, F1, Option.bind_some, F2, Option.bind_some, S]
    rfl
  | cons x r ih =>
    intro i k hd hi hk
    obtain ⟨k, rfl⟩ : ∃ m, k = m + 1 := ⟨k - 1, by omega⟩
    simp only [List.length_cons] at hk
    have h1 : i < Y.length := by
      rcases Nat.lt_or_ge i Y.length with h | h
      · exact h
      · rw [List.drop_eq_nil_of_le h] at hd; cases hd
    rw [List.drop_eq_getElem_cons h1] at hd
    injection hd with hd1 hd2
    have er : rd_T27 Y (i : Int) = x := by
      unfold rd_T27
      rw [Int.toNat_natCast, List.getD_eq_getElem?_getD, List.getElem?_eq_getElem h1, hd1]; rfl
    have IH := ih (i + 1) k hd2 (by omega) (by omega)
    rw [List.take_succ_eq_append_getElem h1, hd1] at IH
    have hl : (Y.take i).length ≤ 20 := by rw [List.length_take]; omega
    have g1 : (i : Int) < (Y.length : Int) := by omega
    have g2 : (0 : Int) ≤ (i : Int) := by omega
    have z1 : (((Y.take i).map de27).map un31).length < 5864062014805 := by rw [List.length_map, List.length_map]; omega
    have z2 : (((Y.take i).map de27).map un33).length < 5864062014805 := by rw [List.length_map, List.length_map]; omega
    have s1 : ((Y.take i).map de27).map un31 ++ [(⟨(⟨wrap64 (x.f0), wrap64 (x.f1)⟩ : S29), x.f2⟩ : S31)] = ((Y.take i ++ [x]).map de27).map un31 := by rw [List.map_append, List.map_append]; rfl
    have s2 : ((Y.take i).map de27).map un33 ++ [(⟨wrap64 (x.f0), wrap64 (x.f1), x.f2⟩ : S33)] = ((Y.take i ++ [x]).map de27).map un33 := by rw [List.map_append, List.map_append]; rfl
    have ew := w64s i (by omega)
    simp only [jigsawlaw24_NogoodFrom.l0]
    rw [er, ew, if_pos g1, if_pos g2, if_pos g1, if_pos z1, if_pos z2, s1, s2, IH]
theorem NogoodFrom (l0 : List S27) : ∃ k, jigsawlaw24_NogoodFrom.f k l0 = some true := by
  refine ⟨70000, ?_⟩
  unfold jigsawlaw24_NogoodFrom.f
  have hm0 : 0 ≤ mn (l0.length : Int) 20 := by unfold mn; omega
  have hm1 : mn (l0.length : Int) 20 ≤ (l0.length : Int) := by unfold mn; omega
  have hm2 : mn (l0.length : Int) 20 ≤ 20 := by unfold mn; omega
  generalize mn (l0.length : Int) 20 = m at *
  rw [if_pos hm0, if_pos hm1, Option.bind_some]
  have hY : (l0.take m.toNat).length ≤ 20 := by rw [List.length_take]; omega
  exact law_l0 (l0.take m.toNat) hY (l0.take m.toNat) 0 70000 (List.drop_zero) (Nat.zero_le _) (by omega)
end Go.Proofs.YtgckohmppefibaaDoorX.Hz
