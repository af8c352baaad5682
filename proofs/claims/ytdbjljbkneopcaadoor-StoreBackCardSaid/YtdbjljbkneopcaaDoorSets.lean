/- Words of 64 bits as sets of numbers: rising lists. Plain lists, no program in sight. -/
import Derived.Test.YtdbjljbkneopcaaDoorBits
namespace Go.Proofs.YtdbjljbkneopcaaDoor
open Go
set_option linter.unusedSimpArgs false
set_option linter.unusedVariables false

/-- Two rising lists of the same numbers are one. -/
theorem sorted_ext {α : Type} (r : α → α → Prop) (irr : ∀ a, ¬ r a a) (asy : ∀ a b, r a b → ¬ r b a) : ∀ (l m : List α), l.Pairwise r → m.Pairwise r → (∀ x, x ∈ l ↔ x ∈ m) → l = m
  | [], [], _, _, _ => rfl
  | [], y :: m, _, _, h => by have := (h y).2 (by simp); simp at this
  | x :: l, [], _, _, h => by have := (h x).1 (by simp); simp at this
  | x :: l, y :: m, hl, hm, h => by
    rw [List.pairwise_cons] at hl hm
    have hxy : x = y := by
      have h1 := (h x).1 (by simp)
      have h2 := (h y).2 (by simp)
      rcases List.mem_cons.1 h1 with e | e
      · exact e
      · rcases List.mem_cons.1 h2 with e2 | e2
        · exact e2.symm
        · exact absurd (hl.1 y e2) (asy _ _ (hm.1 x e))
    subst hxy
    rw [sorted_ext r irr asy l m hl.2 hm.2 (fun z => ?_)]
    constructor
    · intro hz
      rcases List.mem_cons.1 ((h z).1 (List.mem_cons_of_mem _ hz)) with e | e
      · subst e; exact absurd (hl.1 z hz) (irr z)
      · exact e
    · intro hz
      rcases List.mem_cons.1 ((h z).2 (List.mem_cons_of_mem _ hz)) with e | e
      · subst e; exact absurd (hm.1 z hz) (irr z)
      · exact e
theorem int_ext (l m : List Int) (hl : l.Pairwise (· < ·)) (hm : m.Pairwise (· < ·)) (h : ∀ x, x ∈ l ↔ x ∈ m) : l = m :=
  sorted_ext _ (fun a => Int.lt_irrefl a) (fun a b h1 h2 => by omega) l m hl hm h
theorem nat_ext (l m : List Nat) (hl : l.Pairwise (· < ·)) (hm : m.Pairwise (· < ·)) (h : ∀ x, x ∈ l ↔ x ∈ m) : l = m :=
  sorted_ext _ (fun a => Nat.lt_irrefl a) (fun a b h1 h2 => by omega) l m hl hm h

/-- The places of a word's bits, rising. -/
def Bt.of (x : Nat) : List Nat := (List.range 64).filter fun b => x.testBit b
theorem Bt.mem (x b : Nat) : b ∈ Bt.of x ↔ b < 64 ∧ x.testBit b = true := by simp [Bt.of]
theorem Bt.sorted (x : Nat) : (Bt.of x).Pairwise (· < ·) := List.Pairwise.filter _ List.pairwise_lt_range
theorem Bt.zero : Bt.of 0 = [] := by simp [Bt.of]
theorem Bt.low (k m : Nat) : (∀ b, b < k → (2 ^ k * (2 * m + 1)).testBit b = false) ∧ (2 ^ k * (2 * m + 1)).testBit k = true ∧ (2 ^ k * (2 * m + 1)) &&& (2 ^ k * (2 * m + 1) - 1) = 2 ^ k * (2 * m) := by
  refine ⟨fun b hb => ?_, ?_, ?_⟩
  · rw [Nat.testBit_two_pow_mul]; simp; omega
  · rw [Nat.testBit_two_pow_mul]; simp
  · have hp : 0 < 2 ^ k := Nat.two_pow_pos k
    have e : 2 ^ k * (2 * m + 1) - 1 = 2 ^ k * (2 * m) + (2 ^ k - 1) := by rw [Nat.mul_add, Nat.mul_one]; omega
    apply Nat.eq_of_testBit_eq
    intro j
    rw [e, Nat.testBit_and, Nat.testBit_two_pow_mul, Nat.testBit_two_pow_mul, Nat.testBit_two_pow_mul_add _ (by omega)]
    by_cases hj : j < k
    · have : ¬ k ≤ j := by omega
      simp [hj, this]
    · have hk : k ≤ j := by omega
      simp only [hj, hk, decide_true, Bool.true_and, if_false]
      cases h : j - k with
      | zero => simp
      | succ i => simp [Nat.testBit_succ, show (2 * m + 1) / 2 = m from by omega]
theorem Bt.step (x : Nat) (h0 : x ≠ 0) (hx : x < 18446744073709551616) : Bt.of x = Lib.ctz 64 x :: Bt.of (x &&& (x - 1)) ∧ Lib.ctz 64 x < 64 := by
  obtain ⟨m, hm, hk⟩ := Lib.ctzFrom_spec 64 x (by omega) hx
  have hc : Lib.ctz 64 x = Lib.ctzFrom 64 x := by unfold Lib.ctz; rw [if_neg h0]
  rw [hc]
  generalize Lib.ctzFrom 64 x = k at *
  obtain ⟨l1, l2, l3⟩ := Bt.low k m
  rw [← hm] at l1 l2 l3
  refine ⟨?_, hk⟩
  have hz : ∀ b, (x &&& (x - 1)).testBit b = (x.testBit b && decide (b ≠ k)) := by
    intro b
    rw [l3, hm, Nat.testBit_two_pow_mul, Nat.testBit_two_pow_mul]
    rcases Nat.lt_trichotomy b k with h | h | h
    · have : ¬ k ≤ b := by omega
      simp [this]
    · subst h; simp
    · have h1 : k ≤ b := by omega
      have h2 : b ≠ k := by omega
      simp only [h1, h2, decide_true, Bool.true_and, Bool.and_true, ne_eq, not_false_eq_true]
      obtain ⟨i, hi⟩ : ∃ i, b - k = i + 1 := ⟨b - k - 1, by omega⟩
      rw [hi]
      simp only [Nat.testBit_succ]
      congr 1
      omega
  apply nat_ext
  · exact Bt.sorted x
  · rw [List.pairwise_cons]
    refine ⟨fun b hb => ?_, Bt.sorted _⟩
    have h1 := (Bt.mem _ _).1 hb
    rw [hz] at h1
    have h2 := h1.2
    simp only [Bool.and_eq_true, decide_eq_true_eq] at h2
    rcases Nat.lt_trichotomy b k with h | h | h
    · rw [l1 b h] at h2; simp at h2
    · exact absurd h h2.2
    · exact h
  · intro b
    rw [List.mem_cons, Bt.mem, Bt.mem, hz]
    by_cases hb : b = k
    · subst hb; simp [l2, hk]
    · simp [hb]
theorem Bt.last (x : Nat) (h0 : x ≠ 0) (hx : x < 18446744073709551616) : 1 ≤ Lib.bitLen x ∧ Lib.bitLen x ≤ 64 ∧ (Lib.bitLen x - 1) ∈ Bt.of x ∧ ∀ b ∈ Bt.of x, b ≤ Lib.bitLen x - 1 := by
  obtain ⟨h1, h2, h3⟩ := Lib.bitLenAux_bounds 64 x hx h0
  change 1 ≤ Lib.bitLen x at h1
  change 2 ^ (Lib.bitLen x - 1) ≤ x at h2
  change x < 2 ^ Lib.bitLen x at h3
  have h4 : Lib.bitLen x ≤ 64 := Lib.bitLen_le x 64 (Nat.le_refl _) hx
  refine ⟨h1, h4, (Bt.mem _ _).2 ⟨by omega, ?_⟩, fun b hb => ?_⟩
  · obtain ⟨i, hi⟩ : ∃ i, Lib.bitLen x = i + 1 := ⟨Lib.bitLen x - 1, by omega⟩
    rw [hi] at h2 h3 ⊢
    simp only [Nat.add_sub_cancel] at h2 ⊢
    have e : x = 2 ^ i + (x - 2 ^ i) := by omega
    rw [e, Nat.testBit_two_pow_add_eq]
    rw [Nat.pow_succ] at h3
    rw [Nat.testBit_lt_two_pow (by omega)]
    rfl
  · have h5 := ((Bt.mem _ _).1 hb).2
    have h6 := Nat.ge_two_pow_of_testBit h5
    have h7 : b < Lib.bitLen x := (Nat.pow_lt_pow_iff_right (by decide : 1 < 2)).1 (Nat.lt_of_le_of_lt h6 h3)
    omega
theorem Bt.count_aux (f : Nat) : ∀ x : Nat, ((List.range f).filter fun b => x.testBit b).length = Lib.popAux f x := by
  induction f with
  | zero => intro x; rfl
  | succ f ih =>
    intro x
    rw [List.range_succ_eq_map, List.filter_cons]
    have e : ((List.map Nat.succ (List.range f)).filter fun b => x.testBit b).length = Lib.popAux f (x / 2) := by
      rw [← ih (x / 2), List.filter_map, List.length_map]
      congr 2
      funext b
      simp [Nat.testBit_succ]
    by_cases h : x.testBit 0 = true
    · rw [if_pos h, List.length_cons, e, Lib.popAux]
      rw [Nat.testBit_zero] at h
      simp at h
      omega
    · rw [if_neg h, e, Lib.popAux]
      rw [Nat.testBit_zero] at h
      simp at h
      omega
theorem Bt.count (x : Nat) : (Bt.of x).length = Lib.popAux 64 x := Bt.count_aux 64 x

/-- The numbers of words, from a number on: rising. -/
def Bt.els (off : Int) : List Nat → List Int
  | [] => []
  | x :: xs => (Bt.of x).map (fun b : Nat => off + (b : Int)) ++ Bt.els (off + 64) xs
theorem Bt.els_mem : ∀ (ws : List Nat) (off v : Int), v ∈ Bt.els off ws ↔ ∃ i b : Nat, i < ws.length ∧ b < 64 ∧ (ws.getD i 0).testBit b = true ∧ v = off + 64 * i + b
  | [], off, v => by simp [Bt.els]
  | x :: xs, off, v => by
    rw [Bt.els, List.mem_append, Bt.els_mem xs, List.mem_map]
    constructor
    · rintro (⟨b, hb, rfl⟩ | ⟨i, b, hi, hb, ht, rfl⟩)
      · have := (Bt.mem _ _).1 hb
        exact ⟨0, b, by simp, this.1, by simpa using this.2, by simp⟩
      · exact ⟨i + 1, b, by simpa using hi, hb, by simpa using ht, by simp; omega⟩
    · rintro ⟨i, b, hi, hb, ht, rfl⟩
      cases i with
      | zero => exact Or.inl ⟨b, (Bt.mem _ _).2 ⟨hb, by simpa using ht⟩, by simp⟩
      | succ i => exact Or.inr ⟨i, b, by simpa using hi, hb, by simpa using ht, by simp; omega⟩
theorem Bt.els_low (off : Int) (ws : List Nat) (v : Int) (h : v ∈ Bt.els off ws) : off ≤ v ∧ v < off + 64 * ws.length := by
  obtain ⟨i, b, hi, hb, _, rfl⟩ := (Bt.els_mem _ _ _).1 h
  omega
theorem Bt.els_sorted : ∀ (ws : List Nat) (off : Int), (Bt.els off ws).Pairwise (· < ·)
  | [], _ => List.Pairwise.nil
  | x :: xs, off => by
    rw [Bt.els, List.pairwise_append]
    refine ⟨?_, Bt.els_sorted xs _, ?_⟩
    · rw [List.pairwise_map]
      exact (Bt.sorted x).imp (fun h => by omega)
    · intro a ha b hb
      obtain ⟨c, hc, rfl⟩ := List.mem_map.1 ha
      have h1 := ((Bt.mem _ _).1 hc).1
      have h2 := (Bt.els_low _ _ _ hb).1
      omega
theorem Bt.els_append : ∀ (a b : List Nat) (off : Int), Bt.els off (a ++ b) = Bt.els off a ++ Bt.els (off + 64 * a.length) b
  | [], b, off => by simp [Bt.els]
  | x :: a, b, off => by
    rw [List.cons_append, Bt.els, Bt.els, Bt.els_append a b, List.append_assoc]
    rw [show off + 64 + 64 * (a.length : Int) = off + 64 * ((x :: a).length : Int) from by simp; omega]
/-- At a word's place: its bit says whether the number is there. -/
theorem Bt.els_at (ws : List Nat) (off v : Int) (i : Nat) (hi : i < ws.length) (h1 : off + 64 * i ≤ v) (h2 : v < off + 64 * i + 64) : v ∈ Bt.els off ws ↔ (ws.getD i 0).testBit (v - (off + 64 * i)).toNat = true := by
  rw [Bt.els_mem]
  constructor
  · rintro ⟨j, b, hj, hb, ht, hv⟩
    obtain rfl : j = i := by omega
    rw [show (v - (off + 64 * j)).toNat = b from by omega]
    exact ht
  · intro ht
    exact ⟨i, _, hi, by omega, ht, by omega⟩
end Go.Proofs.YtdbjljbkneopcaaDoor
