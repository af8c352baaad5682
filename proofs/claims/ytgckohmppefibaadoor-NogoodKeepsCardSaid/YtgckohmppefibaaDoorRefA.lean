/- The reference's lists, plain: rising lists of numbers, what is next, what is left. -/
import Derived.Test.YtgckohmppefibaaDoorSets
namespace Go.Proofs.YtgckohmppefibaaDoor
open Go

/-- A number put into a rising list. -/
def Rf.put (v : Int) : List Int → List Int
  | [] => [v]
  | x :: r => if v < x then v :: x :: r else x :: Rf.put v r
def Rf.add (l : List Int) (v : Int) : List Int := if v ∈ l then l else Rf.put v l
def Rf.sort (m : List Int) : List Int := m.foldl Rf.add []
def Rf.lo (m : List Int) : Int := m.foldl min (m.headD 0)
def Rf.hi (m : List Int) : Int := m.foldl max (m.headD 0)
def Rf.inr (m : List Int) : Bool := m.all fun v => decide (-1000000 ≤ v ∧ v ≤ 1000000)
/-- The error of Of. -/
def Rf.code (m : List Int) : Int := if m = [] then 4 else if Rf.inr m = false then 3 else if 65536 ≤ Rf.hi m - Rf.lo m then 5 else 0
def Rf.of (m : List Int) : List Int := if Rf.code m = 0 then Rf.sort m else []
def Rf.range (low high : Int) : Int := if (low < -1000000 ∨ 1000000 < low) ∨ (high < -1000000 ∨ 1000000 < high) then 3 else if high < low then 4 else if 65536 ≤ high - low then 5 else 0
def Rf.next (l : List Int) (v : Int) : Option Int := l.find? fun u => decide (v < u)
theorem Rf.put_mem (v : Int) : ∀ (l : List Int) (u : Int), u ∈ Rf.put v l ↔ u = v ∨ u ∈ l
  | [], u => by simp [Rf.put]
  | x :: r, u => by
    unfold Rf.put
    split
    · simp
    · rw [List.mem_cons, Rf.put_mem v r u, List.mem_cons]
      constructor
      · rintro (h | h | h) <;> simp [h]
      · rintro (h | h | h) <;> simp [h]
theorem Rf.put_sorted (v : Int) : ∀ (l : List Int), l.Pairwise (· < ·) → v ∉ l → (Rf.put v l).Pairwise (· < ·)
  | [], _, _ => by simp [Rf.put]
  | x :: r, h, hn => by
    unfold Rf.put
    rw [List.pairwise_cons] at h
    split
    · rename_i hv
      rw [List.pairwise_cons, List.pairwise_cons]
      exact ⟨fun u hu => by
        rcases List.mem_cons.1 hu with rfl | hu
        · exact hv
        · have := h.1 u hu; omega, h⟩
    · rename_i hv
      rw [List.mem_cons, not_or] at hn
      rw [List.pairwise_cons]
      refine ⟨fun u hu => ?_, Rf.put_sorted v r h.2 hn.2⟩
      rcases (Rf.put_mem v r u).1 hu with rfl | hu
      · omega
      · exact h.1 u hu
theorem Rf.put_length (v : Int) : ∀ l : List Int, (Rf.put v l).length = l.length + 1
  | [] => rfl
  | x :: r => by
    unfold Rf.put
    split
    · rfl
    · rw [List.length_cons, Rf.put_length v r, List.length_cons]
theorem Rf.add_mem (l : List Int) (v u : Int) : u ∈ Rf.add l v ↔ u ∈ l ∨ u = v := by
  unfold Rf.add
  split
  · rename_i h
    constructor
    · exact Or.inl
    · rintro (h1 | rfl)
      · exact h1
      · exact h
  · rw [Rf.put_mem]
    exact Or.comm
theorem Rf.add_sorted (l : List Int) (v : Int) (h : l.Pairwise (· < ·)) : (Rf.add l v).Pairwise (· < ·) := by
  unfold Rf.add
  split
  · exact h
  · exact Rf.put_sorted v l h ‹_›
theorem Rf.fold_mem (m : List Int) : ∀ (a : List Int) (u : Int), u ∈ m.foldl Rf.add a ↔ u ∈ a ∨ u ∈ m := by
  induction m with
  | nil => intro a u; simp
  | cons x r ih =>
    intro a u
    rw [List.foldl_cons, ih, Rf.add_mem, List.mem_cons]
    constructor
    · rintro ((h | h) | h)
      · exact Or.inl h
      · exact Or.inr (Or.inl h)
      · exact Or.inr (Or.inr h)
    · rintro (h | h | h)
      · exact Or.inl (Or.inl h)
      · exact Or.inl (Or.inr h)
      · exact Or.inr h
theorem Rf.fold_sorted (m : List Int) : ∀ (a : List Int), a.Pairwise (· < ·) → (m.foldl Rf.add a).Pairwise (· < ·) := by
  induction m with
  | nil => intro a h; exact h
  | cons x r ih => intro a h; exact ih _ (Rf.add_sorted a x h)
theorem Rf.sort_mem (m : List Int) (u : Int) : u ∈ Rf.sort m ↔ u ∈ m := by
  unfold Rf.sort; rw [Rf.fold_mem]; simp
theorem Rf.sort_sorted (m : List Int) : (Rf.sort m).Pairwise (· < ·) := Rf.fold_sorted m [] List.Pairwise.nil
theorem Rf.sort_eq (m l : List Int) (hl : l.Pairwise (· < ·)) (h : ∀ u, u ∈ l ↔ u ∈ m) : l = Rf.sort m :=
  int_ext l _ hl (Rf.sort_sorted m) fun u => (h u).trans (Rf.sort_mem m u).symm
theorem Rf.add_length (l : List Int) (v : Int) : (Rf.add l v).length ≤ l.length + 1 := by
  unfold Rf.add
  split
  · omega
  · rw [Rf.put_length]; exact Nat.le_refl _
theorem Rf.fold_length (m : List Int) : ∀ a : List Int, (m.foldl Rf.add a).length ≤ a.length + m.length := by
  induction m with
  | nil => intro a; simp
  | cons x r ih =>
    intro a
    have h1 := ih (Rf.add a x)
    have h2 := Rf.add_length a x
    rw [List.foldl_cons, List.length_cons]
    omega
theorem Rf.sort_length (m : List Int) : (Rf.sort m).length ≤ m.length := by
  have := Rf.fold_length m []
  simpa [Rf.sort] using this
theorem Rf.fmin (r : List Int) : ∀ a : Int, (r.foldl min a = a ∨ r.foldl min a ∈ r) ∧ r.foldl min a ≤ a ∧ ∀ v ∈ r, r.foldl min a ≤ v := by
  induction r with
  | nil => intro a; simp
  | cons x r ih =>
    intro a
    obtain ⟨h1, h2, h3⟩ := ih (min a x)
    rw [List.foldl_cons]
    refine ⟨?_, by omega, fun v hv => ?_⟩
    · rcases h1 with h | h
      · rcases Int.le_total a x with e | e
        · left; rw [h]; omega
        · right; rw [h, show min a x = x from by omega]; exact List.mem_cons_self
      · right; exact List.mem_cons_of_mem _ h
    · rcases List.mem_cons.1 hv with rfl | hv
      · omega
      · exact h3 v hv
theorem Rf.fmax (r : List Int) : ∀ a : Int, (r.foldl max a = a ∨ r.foldl max a ∈ r) ∧ a ≤ r.foldl max a ∧ ∀ v ∈ r, v ≤ r.foldl max a := by
  induction r with
  | nil => intro a; simp
  | cons x r ih =>
    intro a
    obtain ⟨h1, h2, h3⟩ := ih (max a x)
    rw [List.foldl_cons]
    refine ⟨?_, by omega, fun v hv => ?_⟩
    · rcases h1 with h | h
      · rcases Int.le_total a x with e | e
        · right; rw [h, show max a x = x from by omega]; exact List.mem_cons_self
        · left; rw [h]; omega
      · right; exact List.mem_cons_of_mem _ h
    · rcases List.mem_cons.1 hv with rfl | hv
      · omega
      · exact h3 v hv
theorem Rf.lo_is (m : List Int) (h : m ≠ []) : Rf.lo m ∈ m ∧ ∀ v ∈ m, Rf.lo m ≤ v := by
  obtain ⟨x, r, rfl⟩ := List.exists_cons_of_ne_nil h
  unfold Rf.lo
  obtain ⟨h1, h2, h3⟩ := Rf.fmin (x :: r) x
  refine ⟨?_, h3⟩
  rcases h1 with h1 | h1
  · show (x :: r).foldl min x ∈ x :: r
    rw [h1]; exact List.mem_cons_self
  · exact h1
theorem Rf.hi_is (m : List Int) (h : m ≠ []) : Rf.hi m ∈ m ∧ ∀ v ∈ m, v ≤ Rf.hi m := by
  obtain ⟨x, r, rfl⟩ := List.exists_cons_of_ne_nil h
  unfold Rf.hi
  obtain ⟨h1, h2, h3⟩ := Rf.fmax (x :: r) x
  refine ⟨?_, h3⟩
  rcases h1 with h1 | h1
  · show (x :: r).foldl max x ∈ x :: r
    rw [h1]; exact List.mem_cons_self
  · exact h1
theorem Rf.of_sorted (m : List Int) : (Rf.of m).Pairwise (· < ·) := by
  unfold Rf.of
  split
  · exact Rf.sort_sorted m
  · exact List.Pairwise.nil
theorem Rf.of_mem {m : List Int} {u : Int} (h : u ∈ Rf.of m) : u ∈ m := by
  unfold Rf.of at h
  split at h
  · exact (Rf.sort_mem m u).1 h
  · cases h
theorem Rf.of_length (m : List Int) : (Rf.of m).length ≤ m.length := by
  unfold Rf.of
  split
  · exact Rf.sort_length m
  · exact Nat.zero_le _
end Go.Proofs.YtgckohmppefibaaDoor
