import Derived.Test.YtgckohmppefibaaDoorNgLeave
import Derived.Test.YtgckohmppefibaaDoorHzx8
namespace Go.Proofs.YtgckohmppefibaaDoorX.Hz
open Go.RowKit Go.Proofs.YtgckohmppefibaaDoorW.PrintWords Go.Proofs.YtgckohmppefibaaDoorW.PrintLast Go.Proofs.YtgckohmppefibaaDoorW.PrintMore
attribute [local go_sem] max2_int min2_int max_two min_two max_three min_three max_four min_four
set_option linter.unusedVariables false
set_option linter.unusedSimpArgs false
attribute [local go_sem] Go.Proofs.YtgckohmppefibaaDoor.Hook.cell_two
theorem rdL13 (a : List (List Int)) (i : Nat) (h : i < a.length) : rd_L13 a (i : Int) = a[i] := by
  unfold rd_L13
  rw [Int.toNat_natCast, List.getD_eq_getElem?_getD, List.getElem?_eq_getElem h]; rfl
theorem rdI (a : List Int) (i : Nat) (h : i < a.length) : rd a (i : Int) = a[i] := by
  unfold rd
  rw [Int.toNat_natCast, List.getD_eq_getElem?_getD, List.getElem?_eq_getElem h]; rfl
theorem same10_l1 (a b : List (List Int)) (i : Nat) (hi : i < a.length) (hib : i < b.length) (hl : a[i].length = b[i].length) (ha : a.length ≤ 1000) (hal : a[i].length ≤ 1000) (K : Nat) : ∀ (m q : Nat), a[i].length = q + m →
    jigsawref10_Same.l1 (K + m + 1) a b (i : Int) (q : Int) = if a[i].drop q = b[i].drop q then jigsawref10_Same.l0 K a b ((i + 1 : Nat) : Int) else some false
  | 0, q, hm => by
    rw [List.drop_eq_nil_of_le (by omega), List.drop_eq_nil_of_le (by omega), if_pos rfl]
    rw [jigsawref10_Same.l1, rdL13 a i hi, if_pos (by omega), if_pos (by omega), if_neg (by omega), w64s i (by omega)]
  | m + 1, q, hm => by
    have IH := same10_l1 a b i hi hib hl ha hal K m (q + 1) (by omega)
    have hq : q < a[i].length := by omega
    have hqb : q < b[i].length := by omega
    rw [List.drop_eq_getElem_cons hq, List.drop_eq_getElem_cons hqb]
    rw [show K + (m + 1) + 1 = (K + m + 1) + 1 from by omega]
    rw [jigsawref10_Same.l1, rdL13 a i hi, rdL13 b i hib, rdI _ q hq, rdI _ q hqb, if_pos (by omega), if_pos (by omega), if_pos (by omega), if_pos (by omega), if_pos (by omega), if_pos (by omega), w64s q (by omega), IH]
    by_cases he : a[i][q] = b[i][q]
    · rw [if_pos he, he]
      by_cases hd : a[i].drop (q + 1) = b[i].drop (q + 1)
      · rw [if_pos hd, if_pos (by rw [hd])]
      · rw [if_neg hd, if_neg (by intro h; injection h with _ h; exact hd h)]
    · rw [if_neg he, if_neg (by intro h; injection h with h _; exact he h)]
theorem same10_l0 (a b : List (List Int)) (hl : a.length = b.length) (ha : a.length ≤ 1000) (hal : ∀ x ∈ a, x.length ≤ 1000) (c : Nat) (hc : 1002 ≤ c) : ∀ (m i k : Nat), a.length = i + m → m * c + 1 ≤ k → jigsawref10_Same.l0 k a b (i : Int) = some (decide (a.drop i = b.drop i)) := by
  intro m
  induction m with
  | zero =>
    intro i k hm hk
    obtain ⟨k, rfl⟩ : ∃ k', k = k' + 1 := ⟨k - 1, by omega⟩
    have e1 : a.drop i = [] := List.drop_eq_nil_of_le (by omega)
    have e2 : b.drop i = [] := List.drop_eq_nil_of_le (by omega)
    rw [jigsawref10_Same.l0, if_neg (by omega), e1, e2]
    rfl
  | succ m ih =>
    intro i k hm hk
    rw [Nat.succ_mul] at hk
    have hi : i < a.length := by omega
    have hib : i < b.length := by omega
    have hali := hal a[i] (List.getElem_mem hi)
    obtain ⟨K, rfl, hK⟩ : ∃ K, k = (K + a[i].length + 1) + 1 ∧ m * c + 1 ≤ K := ⟨k - a[i].length - 2, by omega, by omega⟩
    have IH := ih (i + 1) K (by omega) hK
    rw [List.drop_eq_getElem_cons hi, List.drop_eq_getElem_cons hib]
    rw [jigsawref10_Same.l0, rdL13 a i hi, rdL13 b i hib, if_pos (by omega), if_pos (by omega), if_pos (by omega)]
    by_cases hll : a[i].length = b[i].length
    · rw [if_pos (by omega)]
      have h1 := same10_l1 a b i hi hib hll ha hali K a[i].length 0 (by omega)
      rw [List.drop_zero, List.drop_zero] at h1
      have h1' : jigsawref10_Same.l1 (K + a[i].length + 1) a b (i : Int) 0 = if a[i] = b[i] then jigsawref10_Same.l0 K a b ((i + 1 : Nat) : Int) else some false := h1
      rw [h1']
      by_cases he : a[i] = b[i]
      · rw [if_pos he, IH]
        congr 1
        by_cases hd : a.drop (i + 1) = b.drop (i + 1)
        · rw [decide_eq_true hd, decide_eq_true (by rw [he, hd])]
        · rw [decide_eq_false hd, decide_eq_false (by intro h; injection h with _ h; exact hd h)]
      · rw [if_neg he, decide_eq_false (by intro h; injection h with h _; exact he h)]
    · rw [if_neg (by omega), decide_eq_false (by intro h; injection h with h _; exact hll (by rw [h]))]
theorem same10 (a b : List (List Int)) (ha : a.length ≤ 1000) (hal : ∀ x ∈ a, x.length ≤ 1000) (k : Nat) (c : Nat) (hc : 1002 ≤ c) (hk : a.length * c + 1 ≤ k) : jigsawref10_Same.f k a b = some (decide (a = b)) := by
  unfold jigsawref10_Same.f
  by_cases hl : a.length = b.length
  · rw [if_pos (by omega)]
    have := same10_l0 a b hl ha hal c hc a.length 0 k (by omega) hk
    rw [List.drop_zero, List.drop_zero] at this
    exact this
  · rw [if_neg (by omega), decide_eq_false (by intro h; exact hl (by rw [h]))]
/-- jigsawref10.Same over the rows as ch. 2 reads them. -/
theorem same10W (A0 : Option Addr) (c0 : Nat) (a : List (List Int)) (A1 : Option Addr) (c1 : Nat) (b : List (List Int)) (w : World) (h0 : Kd.C kInts w A0 a.length a) (hc0 : a.length ≤ c0) (h1 : Kd.C kInts w A1 b.length b) (hc1 : b.length ≤ c1) (ha : a.length ≤ 1000) (hal : ∀ x ∈ a, x.length ≤ 1000) :
    Calls Tryd.prog 20 #[.slice A0 a.length c0, .slice A1 b.length c1] w fun e w' => e = .returned (.bool (decide (a = b))) ∧ Below w.heap.size w w' := by
  obtain ⟨c9, hc9⟩ : ∃ c9 : Nat, 1002 ≤ c9 := ⟨1002, Nat.le_refl _⟩
  refine (jigsawref10_Same.calls (a.length * c9 + 1) A0 c0 a A1 c1 b _ w (Kd.C_imp (d := kInts) (d' := Kd.slice 3 (Kd.int .i64)) rfl kInts_slice h0) hc0 (Kd.C_imp (d := kInts) (d' := Kd.slice 3 (Kd.int .i64)) rfl kInts_slice h1) hc1 (same10 a b ha hal _ c9 hc9 (Nat.le_refl _))).mono ?_
  rintro e w' ⟨rfl, nd, rfl⟩
  exact ⟨rfl, pw_below_drewN (Below.refl _ _) nd⟩
/-- All nogoods once, by the document. -/
def lvAll : List (List (Int × Int)) → List (List Int) → Option (List (List Int))
  | [], D => some D
  | P :: L, D => match lv D P with
    | none => none
    | some D2 => lvAll L D2
theorem passL_lv : ∀ (L : List (List (Int × Int))) (D : List (List Int)) (ch : Bool), ((passL (L.map (List.map un29)) D ch).2.1 = true ↔ (lvAll L D).isSome = true) ∧ ((passL (L.map (List.map un29)) D ch).2.1 = true → lvAll L D = some (passL (L.map (List.map un29)) D ch).2.2)
  | [], D, ch => ⟨⟨fun _ => rfl, fun _ => rfl⟩, fun _ => rfl⟩
  | P :: L, D, ch => by
    rw [List.map_cons]
    unfold passL lvAll lv
    by_cases h0 : (openL D (P.map un29) (0, 0) 0).2.2 = 0
    · rw [if_pos h0, if_pos h0]
      exact ⟨⟨fun h => (by cases h), fun h => (by cases h)⟩, fun h => (by cases h)⟩
    · rw [if_neg h0, if_neg h0]
      by_cases h1 : (openL D (P.map un29) (0, 0) 0).2.2 = 1
      · rw [if_pos h1, if_pos h1]
        exact passL_lv L _ true
      · rw [if_neg h1, if_neg h1]
        exact passL_lv L D ch
/-- The document's rounds. -/
def filtR : Nat → List (List (Int × Int)) → List (List Int) → Option (List (List Int))
  | 0, _, _ => none
  | k + 1, L, D => match lvAll L D with
    | none => none
    | some D2 => if D = D2 then some D2 else filtR k L D2
theorem pass_same : ∀ (L : List (List S29)) (D : List (List Int)) (ch : Bool), (passL L D ch).2.1 = true → (passL L D ch).1 = false → (passL L D ch).2.2 = D
  | [], D, ch, _, _ => rfl
  | n :: L, D, ch, h, hc => by
    unfold passL at h hc ⊢
    by_cases h0 : (openL D n (0, 0) 0).2.2 = 0
    · rw [if_pos h0] at h; cases h
    · by_cases h1 : (openL D n (0, 0) 0).2.2 = 1
      · rw [if_neg h0, if_pos h1] at h hc
        exfalso
        have mono : ∀ (L : List (List S29)) (D : List (List Int)), (passL L D true).2.1 = true → (passL L D true).1 = true := by
          intro L
          induction L with
          | nil => intro D _; rfl
          | cons m L ih =>
            intro D h
            unfold passL at h ⊢
            by_cases g0 : (openL D m (0, 0) 0).2.2 = 0
            · rw [if_pos g0] at h; cases h
            · by_cases g1 : (openL D m (0, 0) 0).2.2 = 1
              · rw [if_neg g0, if_pos g1] at h ⊢; exact ih _ h
              · rw [if_neg g0, if_neg g1] at h ⊢; exact ih _ h
        rw [mono L _ h] at hc
        cases hc
      · rw [if_neg h0, if_neg h1] at h hc ⊢
        exact pass_same L D ch h hc
theorem filtL_R : ∀ (k : Nat) (L : List (List (Int × Int))) (D : List (List Int)), filtL k (L.map (List.map un29)) D = filtR k L D
  | 0, _, _ => rfl
  | k + 1, L, D => by
    obtain ⟨p1, p2⟩ := passL_lv L D false
    unfold filtL filtR
    by_cases h1 : (passL (L.map (List.map un29)) D false).2.1 = true
    · rw [if_pos h1, p2 h1]
      simp only
      by_cases h2 : (passL (L.map (List.map un29)) D false).1 = true
      · rw [if_pos h2]
        have hne : ¬ D = (passL (L.map (List.map un29)) D false).2.2 := fun h => by
          obtain ⟨_, b, _⟩ := passL_total (L.map (List.map un29)) D false h1
          rcases b h2 with b | b
          · cases b
          · rw [← h] at b; omega
        rw [if_neg hne]
        exact filtL_R k L _
      · have h3 := pass_same (L.map (List.map un29)) D false h1 (by simpa using h2)
        rw [if_neg h2, if_pos h3.symm]
    · rw [if_neg h1]
      have : lvAll L D = none := by
        cases h : lvAll L D with
        | none => rfl
        | some x => exact absurd (p1.2 (by rw [h]; rfl)) h1
      rw [this]
end Go.Proofs.YtgckohmppefibaaDoorX.Hz
