import Derived.Test.YtgckohmppefibaaDoorNgRef
import Derived.Test.YtgckohmppefibaaDoorHzx5
import Derived.Test.YtgckohmppefibaaDoorNgFil
namespace Go.Proofs.YtgckohmppefibaaDoorX.Hz
open Go.RowKit Go.Proofs.YtgckohmppefibaaDoorW.PrintWords Go.Proofs.YtgckohmppefibaaDoorW.PrintLast Go.Proofs.YtgckohmppefibaaDoorW.PrintMore
attribute [local go_sem] max2_int min2_int max_two min_two max_three min_three max_four min_four
set_option linter.unusedVariables false
set_option linter.unusedSimpArgs false
attribute [local go_sem] Go.Proofs.YtgckohmppefibaaDoor.Hook.cell_two
def un84 (p : Int × Int) : S84 := ⟨p.1, p.2⟩
theorem w64s (i : Nat) (h : i ≤ 1000000) : wrap64 ((i : Int) + 1) = ((i + 1 : Nat) : Int) := by unfold wrap64; omega
theorem madeL_un (L : List (Int × Int)) : madeL (L.map un29) = (Go.Proofs.YtgckohmppefibaaDoor.Ng.mk L).map un29 := by
  unfold madeL
  rw [List.map_map, show pr29 ∘ un29 = id from rfl, List.map_id, Go.Proofs.YtgckohmppefibaaDoor.Ng.made_mk]
/-- The nogoods of a branch. -/
theorem mk_len (L : List (Int × Int)) : (Go.Proofs.YtgckohmppefibaaDoor.Ng.mk L).length ≤ L.length := by rw [← Go.Proofs.YtgckohmppefibaaDoor.Ng.made_mk]; exact Go.Proofs.YtgckohmppefibaaDoor.Ng.made_le L
def de (x : S27) : Int × Int := (wrap64 x.f0, wrap64 x.f1)
theorem lits_l0 (Y : List S27) (hY : Y.length ≤ 1000) : ∀ (m i k : Nat), Y.length = i + m → m + 1 ≤ k →
    jigsawlaw24_lits.l0 k (((Y.take i).map de).map un29) (((Y.take i).map de).map un84) Y (Y.length : Int) (i : Int) = some ((Y.map de).map un29, (Y.map de).map un84)
  | 0, i, k, hm, hk => by
    obtain ⟨k, rfl⟩ : ∃ k', k = k' + 1 := ⟨k - 1, by omega⟩
    rw [jigsawlaw24_lits.l0, if_neg (by omega), List.take_of_length_le (by omega)]
  | m + 1, i, k, hm, hk => by
    obtain ⟨k, rfl⟩ : ∃ k', k = k' + 1 := ⟨k - 1, by omega⟩
    have hi : i < Y.length := by omega
    have IH := lits_l0 Y hY m (i + 1) k (by omega) (by omega)
    rw [List.take_succ_eq_append_getElem hi] at IH
    have er : rd_T27 Y (i : Int) = Y[i] := by
      unfold rd_T27
      rw [Int.toNat_natCast, List.getD_eq_getElem?_getD, List.getElem?_eq_getElem hi]; rfl
    have ew := w64s i (by omega)
    have l1 : (((Y.take i).map de).map un29).length < 8796093022208 := by rw [List.length_map, List.length_map, List.length_take]; omega
    have l2 : (((Y.take i).map de).map un84).length < 8796093022208 := by rw [List.length_map, List.length_map, List.length_take]; omega
    have s1 : ((Y.take i).map de).map un29 ++ [(⟨wrap64 (Y[i].f0), wrap64 (Y[i].f1)⟩ : S29)] = ((Y.take i ++ [Y[i]]).map de).map un29 := by rw [List.map_append, List.map_append]; rfl
    have s2 : ((Y.take i).map de).map un84 ++ [(⟨wrap64 (Y[i].f0), wrap64 (Y[i].f1)⟩ : S84)] = ((Y.take i ++ [Y[i]]).map de).map un84 := by rw [List.map_append, List.map_append]; rfl
    rw [jigsawlaw24_lits.l0, er, ew, if_pos (by omega), if_pos (by omega), if_pos (by omega), if_pos l1, if_pos l2, s1, s2, IH]
theorem lits_pure (l : List S27) (most : Nat) (hm : most ≤ 1000) (k : Nat) (hk : most + 1 ≤ k) : jigsawlaw24_lits.f k l (most : Int) = some (((l.take most).map de).map un29, ((l.take most).map de).map un84) := by
  unfold jigsawlaw24_lits.f
  have h0 : 0 ≤ mn (l.length : Int) (most : Int) := by unfold mn; split <;> omega
  have h1 : mn (l.length : Int) (most : Int) ≤ (l.length : Int) := by unfold mn; split <;> omega
  have h2 : l.take (mn (l.length : Int) (most : Int)).toNat = l.take most := by
    rw [List.take_eq_take_iff]; unfold mn; split <;> omega
  have hY : (l.take most).length ≤ most := by rw [List.length_take]; omega
  rw [if_pos h0, if_pos h1, Option.bind_some, h2]
  have := lits_l0 (l.take most) (by omega) (l.take most).length 0 k (by omega) (by omega)
  rw [List.take_zero] at this
  exact this
/-- Are all of one another one's? -/
def inP (A B : List (Int × Int)) : Bool := A.all fun x => decide (x ∈ B)
theorem inL_un (A B : List (Int × Int)) : inL (A.map un29) (B.map un29) = inP A B := by
  unfold inL inP
  rw [List.all_map, pr_un]
  rfl
/-- What Add leaves, of pairs. -/
def addP (L : List (List (Int × Int))) (n : List (Int × Int)) : List (List (Int × Int)) × Bool := if L.any (fun x => inP x n) then (L, false) else ((L.filter fun x => !inP n x) ++ [n], true)
theorem addL_P (L : List (List (Int × Int))) (n : List (Int × Int)) : addL inL (L.map (List.map un29)) (n.map un29) = ((addP L n).1.map (List.map un29), (addP L n).2) := by
  unfold addL addP
  have e1 : (L.map (List.map un29)).any (fun x => inL x (n.map un29)) = L.any (fun x => inP x n) := by
    rw [List.any_map]; congr 1; funext x; exact inL_un x n
  have e2 : (L.map (List.map un29)).filter (fun x => !inL (n.map un29) x) = (L.filter fun x => !inP n x).map (List.map un29) := by
    rw [List.filter_map]; congr 1; apply List.filter_congr; intro x _; show (!inL (n.map un29) (x.map un29)) = _; rw [inL_un]
  rw [e1, e2]
  split
  · rfl
  · rw [List.map_append]; rfl
/-- What the laws keep of a base: in order, none long, not many. -/
structure LOk (L : List (List (Int × Int))) (n most : Nat) : Prop where
  len : L.length ≤ n
  ord : ∀ x ∈ L, Go.Proofs.YtgckohmppefibaaDoor.Ng.Ord x
  short : ∀ x ∈ L, x.length ≤ most
theorem LOk.add {L : List (List (Int × Int))} {n most : Nat} (h : LOk L n most) (P : List (Int × Int)) (hP : P.length ≤ most) : LOk (addP L (Go.Proofs.YtgckohmppefibaaDoor.Ng.mk P)).1 (n + 1) most := by
  unfold addP
  split
  · exact ⟨Nat.le_succ_of_le h.len, h.ord, h.short⟩
  · refine ⟨?_, fun x hx => ?_, fun x hx => ?_⟩
    · rw [List.length_append]
      have := List.length_filter_le (fun x => !inP (Go.Proofs.YtgckohmppefibaaDoor.Ng.mk P) x) L
      have := h.len
      simp; omega
    · rcases List.mem_append.1 hx with hx | hx
      · exact h.ord x (List.mem_filter.1 hx).1
      · rw [List.mem_singleton.1 hx]; exact Go.Proofs.YtgckohmppefibaaDoor.Ng.ord_mk P
    · rcases List.mem_append.1 hx with hx | hx
      · exact h.short x (List.mem_filter.1 hx).1
      · rw [List.mem_singleton.1 hx]; exact Nat.le_trans (mk_len P) hP
end Go.Proofs.YtgckohmppefibaaDoorX.Hz
