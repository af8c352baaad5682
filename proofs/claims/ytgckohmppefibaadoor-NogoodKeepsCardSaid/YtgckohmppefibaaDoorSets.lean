import Derived.Lib.BitFns
import Derived.Lib.TrailingZeros
import Derived.Lib.ItoaNum
import Derived.Laws.Bits64b
/- Words of 64 bits: how many bits are set (as math/bits counts them). Plain arithmetic, no program in sight. -/
namespace Go.Proofs.YtgckohmppefibaaDoor
open Go
set_option linter.unusedSimpArgs false
set_option linter.unusedVariables false

theorem and_split (p q r s : Nat) (hq : q < 256) (hs : s < 256) : (256 * p + q) &&& (256 * r + s) = 256 * (p &&& r) + (q &&& s) := by
  have hqs : q &&& s < 256 := Nat.lt_of_le_of_lt Nat.and_le_left hq
  have h1 : ((256 * p + q) &&& (256 * r + s)) / 2 ^ 8 = p &&& r := by
    rw [Nat.and_div_two_pow]
    congr 1 <;> omega
  have h2 : ((256 * p + q) &&& (256 * r + s)) % 2 ^ 8 = q &&& s := by
    rw [Nat.and_mod_two_pow]
    congr 1 <;> omega
  have h3 := Nat.div_add_mod ((256 * p + q) &&& (256 * r + s)) (2 ^ 8)
  rw [h1, h2] at h3
  omega

/-- A byte k times over. -/
def rep (m : Nat) : Nat → Nat
  | 0 => 0
  | k + 1 => 256 * rep m k + m
def sw1 (k x : Nat) : Nat := (x / 2 &&& rep 85 k) + (x &&& rep 85 k)
def sw2 (k x : Nat) : Nat := (x / 4 &&& rep 51 k) + (x &&& rep 51 k)
def sw3 (k x : Nat) : Nat := (x / 16 + x) &&& rep 15 k
def by1 (b : Nat) : Nat := (b / 2 &&& 85) + (b &&& 85)
def by2 (b : Nat) : Nat := (b / 4 &&& 51) + (b &&& 51)
def by3 (b : Nat) : Nat := (b / 16 + b) &&& 15
theorem by1_up : ∀ b, b < 256 → by1 b < 256 ∧ ∀ t, t < 2 → (128 * t + b / 2) &&& 85 = (b / 2) &&& 85 := by decide +kernel
theorem by2_up : ∀ b, b < 256 → ∀ t, t < 4 → (64 * t + b / 4) &&& 51 = (b / 4) &&& 51 := by decide +kernel
theorem by12 : ∀ b, b < 256 → by2 (by1 b) % 16 ≤ 4 ∧ by2 (by1 b) ≤ 68 := by decide +kernel
theorem by3_up : ∀ b, b < 69 → ∀ t, t < 5 → (16 * t + b / 16 + b) &&& 15 = (b / 16 + b) &&& 15 := by decide +kernel
theorem by123 : ∀ b, b < 256 → by3 (by2 (by1 b)) = Lib.popAux 8 b ∧ Lib.popAux 8 b ≤ 8 := by decide +kernel

theorem sw1_step (k h b : Nat) (hb : b < 256) : sw1 (k + 1) (256 * h + b) = 256 * sw1 k h + by1 b := by
  have e : (256 * h + b) / 2 = 256 * (h / 2) + (128 * (h % 2) + b / 2) := by omega
  unfold sw1 by1
  rw [show rep 85 (k + 1) = 256 * rep 85 k + 85 from rfl]
  rw [e, and_split _ _ _ _ (by omega) (by omega), and_split _ _ _ _ hb (by omega), (by1_up b hb).2 _ (by omega)]
  omega
theorem sw2_step (k h b : Nat) (hb : b < 256) : sw2 (k + 1) (256 * h + b) = 256 * sw2 k h + by2 b := by
  have e : (256 * h + b) / 4 = 256 * (h / 4) + (64 * (h % 4) + b / 4) := by omega
  unfold sw2 by2
  rw [show rep 51 (k + 1) = 256 * rep 51 k + 51 from rfl]
  rw [e, and_split _ _ _ _ (by omega) (by omega), and_split _ _ _ _ hb (by omega), by2_up b hb _ (by omega)]
  omega
theorem sw3_step (k h b : Nat) (hb : b ≤ 68) (hh : h % 16 ≤ 4) : sw3 (k + 1) (256 * h + b) = 256 * sw3 k h + by3 b := by
  have e : (256 * h + b) / 16 + (256 * h + b) = 256 * (h / 16 + h) + (16 * (h % 16) + b / 16 + b) := by omega
  unfold sw3 by3
  rw [show rep 15 (k + 1) = 256 * rep 15 k + 15 from rfl]
  rw [e, and_split _ _ _ _ (by omega) (by omega), by3_up b (by omega) _ (by omega)]
theorem sw_low (k h : Nat) : sw2 k (sw1 k h) % 16 ≤ 4 := by
  cases k with
  | zero => simp [sw2, rep]
  | succ k =>
    have e : h = 256 * (h / 256) + h % 256 := by omega
    have hb : h % 256 < 256 := by omega
    rw [e, sw1_step k _ _ hb, sw2_step k _ _ (by1_up _ hb).1]
    have := (by12 _ hb).1
    omega
theorem sw_step (k h b : Nat) (hb : b < 256) : sw3 (k + 1) (sw2 (k + 1) (sw1 (k + 1) (256 * h + b))) = 256 * sw3 k (sw2 k (sw1 k h)) + Lib.popAux 8 b := by
  rw [sw1_step k h b hb, sw2_step k _ _ (by1_up b hb).1, sw3_step k _ _ (by12 b hb).2 (sw_low k h), (by123 b hb).1]
theorem popAux_byte (f x : Nat) : Lib.popAux (f + 8) x = Lib.popAux 8 (x % 256) + Lib.popAux f (x / 256) := by
  have e : x / 2 / 2 / 2 / 2 / 2 / 2 / 2 / 2 = x / 256 := by omega
  simp only [Lib.popAux, e]
  omega

/-- What OnesCount64 reckons. -/
def swar (x : Nat) : Nat := sw3 8 (sw2 8 (sw1 8 x))
theorem swar_bytes (x : Nat) (hx : x < 18446744073709551616) : ∃ p0 p1 p2 p3 p4 p5 p6 p7 : Nat, p0 ≤ 8 ∧ p1 ≤ 8 ∧ p2 ≤ 8 ∧ p3 ≤ 8 ∧ p4 ≤ 8 ∧ p5 ≤ 8 ∧ p6 ≤ 8 ∧ p7 ≤ 8 ∧
    swar x = p0 + 256 * (p1 + 256 * (p2 + 256 * (p3 + 256 * (p4 + 256 * (p5 + 256 * (p6 + 256 * p7)))))) ∧ Lib.popAux 64 x = p0 + p1 + p2 + p3 + p4 + p5 + p6 + p7 := by
  have hb : ∀ y : Nat, y % 256 < 256 := fun y => by omega
  have step : ∀ (k y : Nat), sw3 (k + 1) (sw2 (k + 1) (sw1 (k + 1) y)) = 256 * sw3 k (sw2 k (sw1 k (y / 256))) + Lib.popAux 8 (y % 256) := fun k y => by
    have e : y = 256 * (y / 256) + y % 256 := by omega
    conv => lhs; rw [e]
    exact sw_step k _ _ (hb y)
  have z : sw3 0 (sw2 0 (sw1 0 (x / 256 / 256 / 256 / 256 / 256 / 256 / 256 / 256))) = 0 := by simp [sw3, rep]
  have zx : x / 256 / 256 / 256 / 256 / 256 / 256 / 256 / 256 = 0 := by omega
  refine ⟨_, _, _, _, _, _, _, _, (by123 _ (hb x)).2, (by123 _ (hb (x / 256))).2, (by123 _ (hb (x / 256 / 256))).2, (by123 _ (hb (x / 256 / 256 / 256))).2, (by123 _ (hb (x / 256 / 256 / 256 / 256))).2,
    (by123 _ (hb (x / 256 / 256 / 256 / 256 / 256))).2, (by123 _ (hb (x / 256 / 256 / 256 / 256 / 256 / 256))).2, (by123 _ (hb (x / 256 / 256 / 256 / 256 / 256 / 256 / 256))).2, ?_, ?_⟩
  · unfold swar
    rw [step 7, step 6, step 5, step 4, step 3, step 2, step 1, step 0, z]
    omega
  · rw [popAux_byte 56, popAux_byte 48, popAux_byte 40, popAux_byte 32, popAux_byte 24, popAux_byte 16, popAux_byte 8, show x / 256 / 256 / 256 / 256 / 256 / 256 / 256 % 256 = x / 256 / 256 / 256 / 256 / 256 / 256 / 256 from by omega]
    omega
theorem p_two {a b p q s t : Nat} (ha : a = p + 256 * s) (hb : b = q + 256 * t) : a + b = (p + q) + 256 * (s + t) := by omega
theorem p_div2 {a p s q t : Nat} (h1 : a = p + 256 * s) (h2 : s = q + 256 * t) (hp : p ≤ 64) (hq : q ≤ 64) : a / 65536 = t := by omega
theorem p_div4 {a p s q t p' s' q' t' : Nat} (h1 : a = p + 256 * s) (h2 : s = q + 256 * t) (h3 : t = p' + 256 * s') (h4 : s' = q' + 256 * t') (hp : p ≤ 64) (hq : q ≤ 64) (hp' : p' ≤ 64) (hq' : q' ≤ 64) : a / 4294967296 = t' := by
  have e1 : a / 65536 = t := p_div2 h1 h2 hp hq
  have e2 : t / 65536 = t' := p_div2 h3 h4 hp' hq'
  rw [show (4294967296 : Nat) = 65536 * 65536 from rfl, ← Nat.div_div_eq_div_mul, e1, e2]
theorem p_bnd {a p s : Nat} (B : Nat) (h : a = p + 256 * s) (hp : p ≤ 8) (hs : s ≤ B) : a ≤ 8 + 256 * B := by omega
theorem p_all {c d e f : Nat} (hc : c ≤ 578721382704613384) (hd : d = c + c / 256) (he : e = d + d / 65536) (hf : f = e + e / 4294967296) :
    c < 600000000000000000 ∧ d < 700000000000000000 ∧ e < 800000000000000000 ∧ f < 900000000000000000 := by omega
theorem p_mod {f p s : Nat} (h : f = p + 256 * s) (hp : p ≤ 64) : f % 128 = p := by omega
theorem p_le2 {a b n : Nat} (ha : a ≤ n) (hb : b ≤ n) : a + b ≤ n + n := Nat.add_le_add ha hb
theorem pop_sum (x : Nat) (hx : x < 18446744073709551616) (c d e f : Nat) (hc : c = swar x) (hd : d = c + c / 256) (he : e = d + d / 65536) (hf : f = e + e / 4294967296) :
    c < 600000000000000000 ∧ d < 700000000000000000 ∧ e < 800000000000000000 ∧ f < 900000000000000000 ∧ f % 128 = Lib.popAux 64 x := by
  obtain ⟨p0, p1, p2, p3, p4, p5, p6, p7, h0, h1, h2, h3, h4, h5, h6, h7, hs, hp⟩ := swar_bytes x hx
  rw [hp]
  rw [hs] at hc
  clear hs hp hx
  have e7 : p7 = p7 + 256 * 0 := by omega
  obtain ⟨t6, e6⟩ : ∃ t, t = p6 + 256 * p7 := ⟨_, rfl⟩
  rw [← e6] at hc
  obtain ⟨t5, e5⟩ : ∃ t, t = p5 + 256 * t6 := ⟨_, rfl⟩
  rw [← e5] at hc
  obtain ⟨t4, e4⟩ : ∃ t, t = p4 + 256 * t5 := ⟨_, rfl⟩
  rw [← e4] at hc
  obtain ⟨t3, e3⟩ : ∃ t, t = p3 + 256 * t4 := ⟨_, rfl⟩
  rw [← e3] at hc
  obtain ⟨t2, e2⟩ : ∃ t, t = p2 + 256 * t3 := ⟨_, rfl⟩
  rw [← e2] at hc
  obtain ⟨t1, e1⟩ : ∃ t, t = p1 + 256 * t2 := ⟨_, rfl⟩
  rw [← e1] at hc
  have b0 : c ≤ 578721382704613384 := Nat.le_trans (p_bnd _ hc h0 (p_bnd _ e1 h1 (p_bnd _ e2 h2 (p_bnd _ e3 h3 (p_bnd _ e4 h4 (p_bnd _ e5 h5 (p_bnd _ e6 h6 h7))))))) (by decide)
  obtain ⟨r1, r2, r3, r4⟩ := p_all b0 hd he hf
  refine ⟨r1, r2, r3, r4, ?_⟩
  have d1 : c / 256 = t1 := by rw [hc, Nat.add_mul_div_left _ _ (by decide), Nat.div_eq_of_lt (Nat.lt_of_le_of_lt h0 (by decide)), Nat.zero_add]
  rw [d1] at hd
  have q0 := p_two hc e1
  have q1 := p_two e1 e2
  have q2 := p_two e2 e3
  have q3 := p_two e3 e4
  have q4 := p_two e4 e5
  have q5 := p_two e5 e6
  have q6 := p_two e6 e7
  have u0 : p0 + p1 ≤ 64 := Nat.le_trans (p_le2 h0 h1) (by decide)
  have u1 : p1 + p2 ≤ 64 := Nat.le_trans (p_le2 h1 h2) (by decide)
  have d2 : d / 65536 = t2 + t3 := p_div2 (hd.trans q0) q1 u0 u1
  rw [d2] at he
  have x0 := p_two (hd.trans q0) q2
  have x1 := p_two q1 q3
  have x2 := p_two q2 q4
  have x3 := p_two q3 q5
  have x4 := p_two q4 q6
  have v0 : p0 + p1 + (p2 + p3) ≤ 64 := Nat.le_trans (p_le2 (p_le2 h0 h1) (p_le2 h2 h3)) (by decide)
  have v1 : p1 + p2 + (p3 + p4) ≤ 64 := Nat.le_trans (p_le2 (p_le2 h1 h2) (p_le2 h3 h4)) (by decide)
  have v2 : p2 + p3 + (p4 + p5) ≤ 64 := Nat.le_trans (p_le2 (p_le2 h2 h3) (p_le2 h4 h5)) (by decide)
  have v3 : p3 + p4 + (p5 + p6) ≤ 64 := Nat.le_trans (p_le2 (p_le2 h3 h4) (p_le2 h5 h6)) (by decide)
  have d3 : e / 4294967296 = (t4 + t5) + (t6 + p7) := p_div4 (he.trans x0) x1 x2 x3 v0 v1 v2 v3
  rw [d3] at hf
  have y0 := p_two (he.trans x0) x4
  have z0 : p0 + p1 + (p2 + p3) + (p4 + p5 + (p6 + p7)) ≤ 64 := Nat.le_trans (p_le2 (p_le2 (p_le2 h0 h1) (p_le2 h2 h3)) (p_le2 (p_le2 h4 h5) (p_le2 h6 h7))) (by decide)
  rw [p_mod (hf.trans y0) z0]
  simp only [Nat.add_assoc]
end Go.Proofs.YtgckohmppefibaaDoor
/- Words of 64 bits as sets of numbers: rising lists. Plain lists, no program in sight. -/
namespace Go.Proofs.YtgckohmppefibaaDoor
open Go
set_option linter.unusedSimpArgs false
set_option linter.unusedVariables false

/-- Two rising lists of the same numbers are one. -/
theorem sorted_ext {α : Type} (r : α → α → Prop) (irr : ∀ a, ¬ r a a) (asy : ∀ a b, r a b → ¬ r b a) : ∀ (l m : List α), l.Pairwise r → m.Pairwise r → (∀ x, x ∈ l ↔ x ∈ m) → l = m
  | [], [], _, _, _ => rfl
  | [], y :: m, _, _, h => by have := (h y).2 (by simp); simp at this
  | x :: l, [], _, _, h => by have := (h x).1 (by simp); simp at this
  | x :: l, y :: m, hl, hm, h => by
    rw [List.pairwise_cons] at hl hm
    have hxy : x = y := by
      have h1 := (h x).1 (by simp)
      have h2 := (h y).2 (by simp)
      rcases List.mem_cons.1 h1 with e | e
      · exact e
      · rcases List.mem_cons.1 h2 with e2 | e2
        · exact e2.symm
        · exact absurd (hl.1 y e2) (asy _ _ (hm.1 x e))
    subst hxy
    rw [sorted_ext r irr asy l m hl.2 hm.2 (fun z => ?_)]
    constructor
    · intro hz
      rcases List.mem_cons.1 ((h z).1 (List.mem_cons_of_mem _ hz)) with e | e
      · subst e; exact absurd (hl.1 z hz) (irr z)
      · exact e
    · intro hz
      rcases List.mem_cons.1 ((h z).2 (List.mem_cons_of_mem _ hz)) with e | e
      · subst e; exact absurd (hm.1 z hz) (irr z)
      · exact e
theorem int_ext (l m : List Int) (hl : l.Pairwise (· < ·)) (hm : m.Pairwise (· < ·)) (h : ∀ x, x ∈ l ↔ x ∈ m) : l = m :=
  sorted_ext _ (fun a => Int.lt_irrefl a) (fun a b h1 h2 => by omega) l m hl hm h
theorem nat_ext (l m : List Nat) (hl : l.Pairwise (· < ·)) (hm : m.Pairwise (· < ·)) (h : ∀ x, x ∈ l ↔ x ∈ m) : l = m :=
  sorted_ext _ (fun a => Nat.lt_irrefl a) (fun a b h1 h2 => by omega) l m hl hm h

/-- The places of a word's bits, rising. -/
def Bt.of (x : Nat) : List Nat := (List.range 64).filter fun b => x.testBit b
theorem Bt.mem (x b : Nat) : b ∈ Bt.of x ↔ b < 64 ∧ x.testBit b = true := by simp [Bt.of]
theorem Bt.sorted (x : Nat) : (Bt.of x).Pairwise (· < ·) := List.Pairwise.filter _ List.pairwise_lt_range
theorem Bt.zero : Bt.of 0 = [] := by simp [Bt.of]
theorem Bt.low (k m : Nat) : (∀ b, b < k → (2 ^ k * (2 * m + 1)).testBit b = false) ∧ (2 ^ k * (2 * m + 1)).testBit k = true ∧ (2 ^ k * (2 * m + 1)) &&& (2 ^ k * (2 * m + 1) - 1) = 2 ^ k * (2 * m) := by
  refine ⟨fun b hb => ?_, ?_, ?_⟩
  · rw [Nat.testBit_two_pow_mul]; simp; omega
  · rw [Nat.testBit_two_pow_mul]; simp
  · have hp : 0 < 2 ^ k := Nat.two_pow_pos k
    have e : 2 ^ k * (2 * m + 1) - 1 = 2 ^ k * (2 * m) + (2 ^ k - 1) := by rw [Nat.mul_add, Nat.mul_one]; omega
    apply Nat.eq_of_testBit_eq
    intro j
    rw [e, Nat.testBit_and, Nat.testBit_two_pow_mul, Nat.testBit_two_pow_mul, Nat.testBit_two_pow_mul_add _ (by omega)]
    by_cases hj : j < k
    · have : ¬ k ≤ j := by omega
      simp [hj, this]
    · have hk : k ≤ j := by omega
      simp only [hj, hk, decide_true, Bool.true_and, if_false]
      cases h : j - k with
      | zero => simp
      | succ i => simp [Nat.testBit_succ, show (2 * m + 1) / 2 = m from by omega]
theorem Bt.step (x : Nat) (h0 : x ≠ 0) (hx : x < 18446744073709551616) : Bt.of x = Lib.ctz 64 x :: Bt.of (x &&& (x - 1)) ∧ Lib.ctz 64 x < 64 := by
  obtain ⟨m, hm, hk⟩ := Lib.ctzFrom_spec 64 x (by omega) hx
  have hc : Lib.ctz 64 x = Lib.ctzFrom 64 x := by unfold Lib.ctz; rw [if_neg h0]
  rw [hc]
  generalize Lib.ctzFrom 64 x = k at *
  obtain ⟨l1, l2, l3⟩ := Bt.low k m
  rw [← hm] at l1 l2 l3
  refine ⟨?_, hk⟩
  have hz : ∀ b, (x &&& (x - 1)).testBit b = (x.testBit b && decide (b ≠ k)) := by
    intro b
    rw [l3, hm, Nat.testBit_two_pow_mul, Nat.testBit_two_pow_mul]
    rcases Nat.lt_trichotomy b k with h | h | h
    · have : ¬ k ≤ b := by omega
      simp [this]
    · subst h; simp
    · have h1 : k ≤ b := by omega
      have h2 : b ≠ k := by omega
      simp only [h1, h2, decide_true, Bool.true_and, Bool.and_true, ne_eq, not_false_eq_true]
      obtain ⟨i, hi⟩ : ∃ i, b - k = i + 1 := ⟨b - k - 1, by omega⟩
      rw [hi]
      simp only [Nat.testBit_succ]
      congr 1
      omega
  apply nat_ext
  · exact Bt.sorted x
  · rw [List.pairwise_cons]
    refine ⟨fun b hb => ?_, Bt.sorted _⟩
    have h1 := (Bt.mem _ _).1 hb
    rw [hz] at h1
    have h2 := h1.2
    simp only [Bool.and_eq_true, decide_eq_true_eq] at h2
    rcases Nat.lt_trichotomy b k with h | h | h
    · rw [l1 b h] at h2; simp at h2
    · exact absurd h h2.2
    · exact h
  · intro b
    rw [List.mem_cons, Bt.mem, Bt.mem, hz]
    by_cases hb : b = k
    · subst hb; simp [l2, hk]
    · simp [hb]
theorem Bt.last (x : Nat) (h0 : x ≠ 0) (hx : x < 18446744073709551616) : 1 ≤ Lib.bitLen x ∧ Lib.bitLen x ≤ 64 ∧ (Lib.bitLen x - 1) ∈ Bt.of x ∧ ∀ b ∈ Bt.of x, b ≤ Lib.bitLen x - 1 := by
  obtain ⟨h1, h2, h3⟩ := Lib.bitLenAux_bounds 64 x hx h0
  change 1 ≤ Lib.bitLen x at h1
  change 2 ^ (Lib.bitLen x - 1) ≤ x at h2
  change x < 2 ^ Lib.bitLen x at h3
  have h4 : Lib.bitLen x ≤ 64 := Lib.bitLen_le x 64 (Nat.le_refl _) hx
  refine ⟨h1, h4, (Bt.mem _ _).2 ⟨by omega, ?_⟩, fun b hb => ?_⟩
  · obtain ⟨i, hi⟩ : ∃ i, Lib.bitLen x = i + 1 := ⟨Lib.bitLen x - 1, by omega⟩
    rw [hi] at h2 h3 ⊢
    simp only [Nat.add_sub_cancel] at h2 ⊢
    have e : x = 2 ^ i + (x - 2 ^ i) := by omega
    rw [e, Nat.testBit_two_pow_add_eq]
    rw [Nat.pow_succ] at h3
    rw [Nat.testBit_lt_two_pow (by omega)]
    rfl
  · have h5 := ((Bt.mem _ _).1 hb).2
    have h6 := Nat.ge_two_pow_of_testBit h5
    have h7 : b < Lib.bitLen x := (Nat.pow_lt_pow_iff_right (by decide : 1 < 2)).1 (Nat.lt_of_le_of_lt h6 h3)
    omega
theorem Bt.count_aux (f : Nat) : ∀ x : Nat, ((List.range f).filter fun b => x.testBit b).length = Lib.popAux f x := by
  induction f with
  | zero => intro x; rfl
  | succ f ih =>
    intro x
    rw [List.range_succ_eq_map, List.filter_cons]
    have e : ((List.map Nat.succ (List.range f)).filter fun b => x.testBit b).length = Lib.popAux f (x / 2) := by
      rw [← ih (x / 2), List.filter_map, List.length_map]
      congr 2
      funext b
      simp [Nat.testBit_succ]
    by_cases h : x.testBit 0 = true
    · rw [if_pos h, List.length_cons, e, Lib.popAux]
      rw [Nat.testBit_zero] at h
      simp at h
      omega
    · rw [if_neg h, e, Lib.popAux]
      rw [Nat.testBit_zero] at h
      simp at h
      omega
theorem Bt.count (x : Nat) : (Bt.of x).length = Lib.popAux 64 x := Bt.count_aux 64 x

/-- The numbers of words, from a number on: rising. -/
def Bt.els (off : Int) : List Nat → List Int
  | [] => []
  | x :: xs => (Bt.of x).map (fun b : Nat => off + (b : Int)) ++ Bt.els (off + 64) xs
theorem Bt.els_mem : ∀ (ws : List Nat) (off v : Int), v ∈ Bt.els off ws ↔ ∃ i b : Nat, i < ws.length ∧ b < 64 ∧ (ws.getD i 0).testBit b = true ∧ v = off + 64 * i + b
  | [], off, v => by simp [Bt.els]
  | x :: xs, off, v => by
    rw [Bt.els, List.mem_append, Bt.els_mem xs, List.mem_map]
    constructor
    · rintro (⟨b, hb, rfl⟩ | ⟨i, b, hi, hb, ht, rfl⟩)
      · have := (Bt.mem _ _).1 hb
        exact ⟨0, b, by simp, this.1, by simpa using this.2, by simp⟩
      · exact ⟨i + 1, b, by simpa using hi, hb, by simpa using ht, by simp; omega⟩
    · rintro ⟨i, b, hi, hb, ht, rfl⟩
      cases i with
      | zero => exact Or.inl ⟨b, (Bt.mem _ _).2 ⟨hb, by simpa using ht⟩, by simp⟩
      | succ i => exact Or.inr ⟨i, b, by simpa using hi, hb, by simpa using ht, by simp; omega⟩
theorem Bt.els_low (off : Int) (ws : List Nat) (v : Int) (h : v ∈ Bt.els off ws) : off ≤ v ∧ v < off + 64 * ws.length := by
  obtain ⟨i, b, hi, hb, _, rfl⟩ := (Bt.els_mem _ _ _).1 h
  omega
theorem Bt.els_sorted : ∀ (ws : List Nat) (off : Int), (Bt.els off ws).Pairwise (· < ·)
  | [], _ => List.Pairwise.nil
  | x :: xs, off => by
    rw [Bt.els, List.pairwise_append]
    refine ⟨?_, Bt.els_sorted xs _, ?_⟩
    · rw [List.pairwise_map]
      exact (Bt.sorted x).imp (fun h => by omega)
    · intro a ha b hb
      obtain ⟨c, hc, rfl⟩ := List.mem_map.1 ha
      have h1 := ((Bt.mem _ _).1 hc).1
      have h2 := (Bt.els_low _ _ _ hb).1
      omega
theorem Bt.els_append : ∀ (a b : List Nat) (off : Int), Bt.els off (a ++ b) = Bt.els off a ++ Bt.els (off + 64 * a.length) b
  | [], b, off => by simp [Bt.els]
  | x :: a, b, off => by
    rw [List.cons_append, Bt.els, Bt.els, Bt.els_append a b, List.append_assoc]
    rw [show off + 64 + 64 * (a.length : Int) = off + 64 * ((x :: a).length : Int) from by simp; omega]
/-- At a word's place: its bit says whether the number is there. -/
theorem Bt.els_at (ws : List Nat) (off v : Int) (i : Nat) (hi : i < ws.length) (h1 : off + 64 * i ≤ v) (h2 : v < off + 64 * i + 64) : v ∈ Bt.els off ws ↔ (ws.getD i 0).testBit (v - (off + 64 * i)).toNat = true := by
  rw [Bt.els_mem]
  constructor
  · rintro ⟨j, b, hj, hb, ht, hv⟩
    obtain rfl : j = i := by omega
    rw [show (v - (off + 64 * j)).toNat = b from by omega]
    exact ht
  · intro ht
    exact ⟨i, _, hi, by omega, ht, by omega⟩
end Go.Proofs.YtgckohmppefibaaDoor
