/- The queue as a list of what was pushed: plain lists, no program in sight. -/
import Derived.Test.YtdbjljbkneopcaaSl
namespace Go.Proofs.Ytdbjljbkneopcaa
open Go.RowKit
set_option linter.unusedSimpArgs false
set_option linter.unusedVariables false

def Qu.flat (l : List (Int × Int)) : List Value := l.flatMap fun x => [.int .i64 x.1, .int .i64 x.2]
theorem Qu.flat_len (l : List (Int × Int)) : (Qu.flat l).length = l.length * 2 := by
  induction l with
  | nil => rfl
  | cons x l ih => simp only [Qu.flat, List.flatMap_cons, List.length_append, List.length_cons, List.length_nil] at *; omega
theorem Qu.flat_app (l m : List (Int × Int)) : Qu.flat (l ++ m) = Qu.flat l ++ Qu.flat m := by simp [Qu.flat]
theorem Qu.flat_at (l : List (Int × Int)) : ∀ (j : Nat) (h : j < l.length), (Qu.flat l)[j * 2]? = some (.int .i64 l[j].1) ∧ (Qu.flat l)[j * 2 + 1]? = some (.int .i64 l[j].2) := by
  induction l with
  | nil => intro j h; simp at h
  | cons x l ih =>
    intro j h
    cases j with
    | zero => simp [Qu.flat]
    | succ j =>
      have := ih j (by simpa using h)
      have e : Qu.flat (x :: l) = .int .i64 x.1 :: .int .i64 x.2 :: Qu.flat l := by simp [Qu.flat]
      rw [e, show (j + 1) * 2 = j * 2 + 1 + 1 from by omega]
      simpa using this

/-- The numbers of a bucket, in order. -/
def Qu.ids (b : Int) (l : List (Int × Int)) : List Int := (l.filter fun x => x.2 == b).map Prod.fst
theorem Qu.ids_cons (b : Int) (x : Int × Int) (l : List (Int × Int)) : Qu.ids b (x :: l) = if x.2 = b then x.1 :: Qu.ids b l else Qu.ids b l := by
  unfold Qu.ids
  by_cases h : x.2 = b
  · rw [if_pos h, List.filter_cons_of_pos (by simpa using h)]; rfl
  · rw [if_neg h, List.filter_cons_of_neg (by simpa using h)]
theorem Qu.ids_app (b : Int) (l m : List (Int × Int)) : Qu.ids b (l ++ m) = Qu.ids b l ++ Qu.ids b m := by simp [Qu.ids]
theorem Qu.ids_le (b : Int) (l : List (Int × Int)) : (Qu.ids b l).length ≤ l.length := by
  unfold Qu.ids; rw [List.length_map]; exact List.length_filter_le _ _
theorem Qu.ids_mem (b i : Int) (l : List (Int × Int)) : i ∈ Qu.ids b l → i ∈ l.map Prod.fst := by
  unfold Qu.ids
  intro h
  obtain ⟨x, hx, rfl⟩ := List.mem_map.1 h
  exact List.mem_map.2 ⟨x, (List.mem_filter.1 hx).1, rfl⟩

/-- The place of the one that is popped: the first of the least bucket. -/
def Qu.IsAt (l : List (Int × Int)) (a : Nat) : Prop := ∃ h : a < l.length, (∀ (j : Nat) (hj : j < l.length), l[a].2 ≤ l[j].2) ∧ ∀ (j : Nat) (hj : j < a), l[a].2 < (l[j]'(by omega)).2
theorem Qu.at_ids (b : Int) (l : List (Int × Int)) : ∀ (a : Nat) (h : a < l.length), l[a].2 = b → (∀ (j : Nat) (hj : j < a), (l[j]'(by omega)).2 ≠ b) →
    Qu.ids b l = l[a].1 :: Qu.ids b (l.eraseIdx a) ∧ ∀ c, c ≠ b → Qu.ids c (l.eraseIdx a) = Qu.ids c l := by
  induction l with
  | nil => intro a h; simp at h
  | cons x l ih =>
    intro a h hb hn
    cases a with
    | zero =>
      simp only [List.getElem_cons_zero] at hb ⊢
      simp only [List.eraseIdx_cons_zero, Qu.ids_cons, if_pos hb]
      refine ⟨trivial, fun c hc => ?_⟩
      rw [if_neg (by omega)]
    | succ a =>
      have hx : x.2 ≠ b := hn 0 (by omega)
      have := ih a (by simpa using h) (by simpa using hb) (fun j hj => by have := hn (j + 1) (by omega); simpa using this)
      simp only [List.eraseIdx_cons_succ, Qu.ids_cons, if_neg hx, List.getElem_cons_succ]
      refine ⟨this.1, fun c hc => ?_⟩
      split
      · rw [this.2 c hc]
      · exact this.2 c hc
theorem Qu.ids_nil (b : Int) (l : List (Int × Int)) (h : ∀ (j : Nat) (hj : j < l.length), b < l[j].2) : Qu.ids b l = [] := by
  unfold Qu.ids
  rw [List.map_eq_nil_iff, List.filter_eq_nil_iff]
  intro x hx
  obtain ⟨j, hj, rfl⟩ := List.mem_iff_getElem.1 hx
  have := h j hj
  simp; omega
theorem Qu.erase_mem (l : List (Int × Int)) : ∀ (a : Nat) (h : a < l.length), (l.map Prod.fst).Nodup → ∀ i : Int, i ∈ (l.eraseIdx a).map Prod.fst ↔ i ∈ l.map Prod.fst ∧ i ≠ l[a].1 := by
  induction l with
  | nil => intro a h; simp at h
  | cons x l ih =>
    intro a h hnd i
    rw [List.map_cons, List.nodup_cons] at hnd
    cases a with
    | zero =>
      simp only [List.eraseIdx_cons_zero, List.getElem_cons_zero, List.map_cons, List.mem_cons]
      constructor
      · intro hi; exact ⟨Or.inr hi, fun e => hnd.1 (e ▸ hi)⟩
      · rintro ⟨rfl | hi, hne⟩
        · exact absurd rfl hne
        · exact hi
    | succ a =>
      have ha : a < l.length := by simpa using h
      have := ih a ha hnd.2 i
      simp only [List.eraseIdx_cons_succ, List.getElem_cons_succ, List.map_cons, List.mem_cons, this]
      have hm : l[a].1 ∈ l.map Prod.fst := List.mem_map.2 ⟨l[a], List.getElem_mem _, rfl⟩
      constructor
      · rintro (rfl | ⟨h1, h2⟩)
        · exact ⟨Or.inl rfl, fun e => hnd.1 (e ▸ hm)⟩
        · exact ⟨Or.inr h1, h2⟩
      · rintro ⟨rfl | h1, h2⟩
        · exact Or.inl rfl
        · exact Or.inr ⟨h1, h2⟩
theorem Qu.erase_nodup (l : List (Int × Int)) (a : Nat) (h : (l.map Prod.fst).Nodup) : ((l.eraseIdx a).map Prod.fst).Nodup := by
  have : ((l.eraseIdx a).map Prod.fst).Sublist (l.map Prod.fst) := (List.eraseIdx_sublist l a).map _
  exact this.nodup h
theorem Qu.take_snoc (l : List (Int × Int)) (j : Nat) (h : j < l.length) : l.take (j + 1) = l.take j ++ [l[j]] := by
  rw [List.take_succ_eq_append_getElem h]
theorem Qu.flat_snoc (l : List (Int × Int)) (x : Int × Int) : Qu.flat (l ++ [x]) = Qu.flat l ++ [.int .i64 x.1, .int .i64 x.2] := by simp [Qu.flat]
end Go.Proofs.Ytdbjljbkneopcaa
