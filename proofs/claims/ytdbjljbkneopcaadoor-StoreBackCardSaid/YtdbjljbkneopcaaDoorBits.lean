/- Words of 64 bits: how many bits are set (as math/bits counts them). Plain arithmetic, no program in sight. -/
import Derived.Lib.BitFns
import Derived.Lib.TrailingZeros
import Derived.Lib.ItoaNum
import Derived.Laws.Bits64b
namespace Go.Proofs.YtdbjljbkneopcaaDoor
open Go
set_option linter.unusedSimpArgs false
set_option linter.unusedVariables false

theorem and_split (p q r s : Nat) (hq : q < 256) (hs : s < 256) : (256 * p + q) &&& (256 * r + s) = 256 * (p &&& r) + (q &&& s) := by
  have hqs : q &&& s < 256 := Nat.lt_of_le_of_lt Nat.and_le_left hq
  have h1 : ((256 * p + q) &&& (256 * r + s)) / 2 ^ 8 = p &&& r := by
    rw [Nat.and_div_two_pow]
    congr 1 <;> omega
  have h2 : ((256 * p + q) &&& (256 * r + s)) % 2 ^ 8 = q &&& s := by
    rw [Nat.and_mod_two_pow]
    congr 1 <;> omega
  have h3 := Nat.div_add_mod ((256 * p + q) &&& (256 * r + s)) (2 ^ 8)
  rw [h1, h2] at h3
  omega

/-- A byte k times over. -/
def rep (m : Nat) : Nat → Nat
  | 0 => 0
  | k + 1 => 256 * rep m k + m
def sw1 (k x : Nat) : Nat := (x / 2 &&& rep 85 k) + (x &&& rep 85 k)
def sw2 (k x : Nat) : Nat := (x / 4 &&& rep 51 k) + (x &&& rep 51 k)
def sw3 (k x : Nat) : Nat := (x / 16 + x) &&& rep 15 k
def by1 (b : Nat) : Nat := (b / 2 &&& 85) + (b &&& 85)
def by2 (b : Nat) : Nat := (b / 4 &&& 51) + (b &&& 51)
def by3 (b : Nat) : Nat := (b / 16 + b) &&& 15
theorem by1_up : ∀ b, b < 256 → by1 b < 256 ∧ ∀ t, t < 2 → (128 * t + b / 2) &&& 85 = (b / 2) &&& 85 := by decide +kernel
theorem by2_up : ∀ b, b < 256 → ∀ t, t < 4 → (64 * t + b / 4) &&& 51 = (b / 4) &&& 51 := by decide +kernel
theorem by12 : ∀ b, b < 256 → by2 (by1 b) % 16 ≤ 4 ∧ by2 (by1 b) ≤ 68 := by decide +kernel
theorem by3_up : ∀ b, b < 69 → ∀ t, t < 5 → (16 * t + b / 16 + b) &&& 15 = (b / 16 + b) &&& 15 := by decide +kernel
theorem by123 : ∀ b, b < 256 → by3 (by2 (by1 b)) = Lib.popAux 8 b ∧ Lib.popAux 8 b ≤ 8 := by decide +kernel

theorem sw1_step (k h b : Nat) (hb : b < 256) : sw1 (k + 1) (256 * h + b) = 256 * sw1 k h + by1 b := by
  have e : (256 * h + b) / 2 = 256 * (h / 2) + (128 * (h % 2) + b / 2) := by omega
  unfold sw1 by1
  rw [show rep 85 (k + 1) = 256 * rep 85 k + 85 from rfl]
  rw [e, and_split _ _ _ _ (by omega) (by omega), and_split _ _ _ _ hb (by omega), (by1_up b hb).2 _ (by omega)]
  omega
theorem sw2_step (k h b : Nat) (hb : b < 256) : sw2 (k + 1) (256 * h + b) = 256 * sw2 k h + by2 b := by
  have e : (256 * h + b) / 4 = 256 * (h / 4) + (64 * (h % 4) + b / 4) := by omega
  unfold sw2 by2
  rw [show rep 51 (k + 1) = 256 * rep 51 k + 51 from rfl]
  rw [e, and_split _ _ _ _ (by omega) (by omega), and_split _ _ _ _ hb (by omega), by2_up b hb _ (by omega)]
  omega
theorem sw3_step (k h b : Nat) (hb : b ≤ 68) (hh : h % 16 ≤ 4) : sw3 (k + 1) (256 * h + b) = 256 * sw3 k h + by3 b := by
  have e : (256 * h + b) / 16 + (256 * h + b) = 256 * (h / 16 + h) + (16 * (h % 16) + b / 16 + b) := by omega
  unfold sw3 by3
  rw [show rep 15 (k + 1) = 256 * rep 15 k + 15 from rfl]
  rw [e, and_split _ _ _ _ (by omega) (by omega), by3_up b (by omega) _ (by omega)]
theorem sw_low (k h : Nat) : sw2 k (sw1 k h) % 16 ≤ 4 := by
  cases k with
  | zero => simp [sw2, rep]
  | succ k =>
    have e : h = 256 * (h / 256) + h % 256 := by omega
    have hb : h % 256 < 256 := by omega
    rw [e, sw1_step k _ _ hb, sw2_step k _ _ (by1_up _ hb).1]
    have := (by12 _ hb).1
    omega
theorem sw_step (k h b : Nat) (hb : b < 256) : sw3 (k + 1) (sw2 (k + 1) (sw1 (k + 1) (256 * h + b))) = 256 * sw3 k (sw2 k (sw1 k h)) + Lib.popAux 8 b := by
  rw [sw1_step k h b hb, sw2_step k _ _ (by1_up b hb).1, sw3_step k _ _ (by12 b hb).2 (sw_low k h), (by123 b hb).1]
theorem popAux_zero (f : Nat) : Lib.popAux f 0 = 0 := by
  induction f with
  | zero => rfl
  | succ f ih => simp [Lib.popAux, ih]
theorem popAux_byte (f x : Nat) : Lib.popAux (f + 8) x = Lib.popAux 8 (x % 256) + Lib.popAux f (x / 256) := by
  have e : x / 2 / 2 / 2 / 2 / 2 / 2 / 2 / 2 = x / 256 := by omega
  simp only [Lib.popAux, e]
  omega

/-- What OnesCount64 reckons. -/
def swar (x : Nat) : Nat := sw3 8 (sw2 8 (sw1 8 x))
theorem swar_bytes (x : Nat) (hx : x < 18446744073709551616) : ∃ p0 p1 p2 p3 p4 p5 p6 p7 : Nat, p0 ≤ 8 ∧ p1 ≤ 8 ∧ p2 ≤ 8 ∧ p3 ≤ 8 ∧ p4 ≤ 8 ∧ p5 ≤ 8 ∧ p6 ≤ 8 ∧ p7 ≤ 8 ∧
    swar x = p0 + 256 * (p1 + 256 * (p2 + 256 * (p3 + 256 * (p4 + 256 * (p5 + 256 * (p6 + 256 * p7)))))) ∧ Lib.popAux 64 x = p0 + p1 + p2 + p3 + p4 + p5 + p6 + p7 := by
  have hb : ∀ y : Nat, y % 256 < 256 := fun y => by omega
  have step : ∀ (k y : Nat), sw3 (k + 1) (sw2 (k + 1) (sw1 (k + 1) y)) = 256 * sw3 k (sw2 k (sw1 k (y / 256))) + Lib.popAux 8 (y % 256) := fun k y => by
    have e : y = 256 * (y / 256) + y % 256 := by omega
    conv => lhs; rw [e]
    exact sw_step k _ _ (hb y)
  have z : sw3 0 (sw2 0 (sw1 0 (x / 256 / 256 / 256 / 256 / 256 / 256 / 256 / 256))) = 0 := by simp [sw3, rep]
  have zx : x / 256 / 256 / 256 / 256 / 256 / 256 / 256 / 256 = 0 := by omega
  refine ⟨_, _, _, _, _, _, _, _, (by123 _ (hb x)).2, (by123 _ (hb (x / 256))).2, (by123 _ (hb (x / 256 / 256))).2, (by123 _ (hb (x / 256 / 256 / 256))).2, (by123 _ (hb (x / 256 / 256 / 256 / 256))).2,
    (by123 _ (hb (x / 256 / 256 / 256 / 256 / 256))).2, (by123 _ (hb (x / 256 / 256 / 256 / 256 / 256 / 256))).2, (by123 _ (hb (x / 256 / 256 / 256 / 256 / 256 / 256 / 256))).2, ?_, ?_⟩
  · unfold swar
    rw [step 7, step 6, step 5, step 4, step 3, step 2, step 1, step 0, z]
    omega
  · rw [popAux_byte 56, popAux_byte 48, popAux_byte 40, popAux_byte 32, popAux_byte 24, popAux_byte 16, popAux_byte 8, show x / 256 / 256 / 256 / 256 / 256 / 256 / 256 % 256 = x / 256 / 256 / 256 / 256 / 256 / 256 / 256 from by omega]
    omega
theorem p_two {a b p q s t : Nat} (ha : a = p + 256 * s) (hb : b = q + 256 * t) : a + b = (p + q) + 256 * (s + t) := by omega
theorem p_div2 {a p s q t : Nat} (h1 : a = p + 256 * s) (h2 : s = q + 256 * t) (hp : p ≤ 64) (hq : q ≤ 64) : a / 65536 = t := by omega
theorem p_div4 {a p s q t p' s' q' t' : Nat} (h1 : a = p + 256 * s) (h2 : s = q + 256 * t) (h3 : t = p' + 256 * s') (h4 : s' = q' + 256 * t') (hp : p ≤ 64) (hq : q ≤ 64) (hp' : p' ≤ 64) (hq' : q' ≤ 64) : a / 4294967296 = t' := by
  have e1 : a / 65536 = t := p_div2 h1 h2 hp hq
  have e2 : t / 65536 = t' := p_div2 h3 h4 hp' hq'
  rw [show (4294967296 : Nat) = 65536 * 65536 from rfl, ← Nat.div_div_eq_div_mul, e1, e2]
theorem p_bnd {a p s : Nat} (B : Nat) (h : a = p + 256 * s) (hp : p ≤ 8) (hs : s ≤ B) : a ≤ 8 + 256 * B := by omega
theorem p_all {c d e f : Nat} (hc : c ≤ 578721382704613384) (hd : d = c + c / 256) (he : e = d + d / 65536) (hf : f = e + e / 4294967296) :
    c < 600000000000000000 ∧ d < 700000000000000000 ∧ e < 800000000000000000 ∧ f < 900000000000000000 := by omega
theorem p_mod {f p s : Nat} (h : f = p + 256 * s) (hp : p ≤ 64) : f % 128 = p := by omega
theorem p_le2 {a b n : Nat} (ha : a ≤ n) (hb : b ≤ n) : a + b ≤ n + n := Nat.add_le_add ha hb
theorem pop_sum (x : Nat) (hx : x < 18446744073709551616) (c d e f : Nat) (hc : c = swar x) (hd : d = c + c / 256) (he : e = d + d / 65536) (hf : f = e + e / 4294967296) :
    c < 600000000000000000 ∧ d < 700000000000000000 ∧ e < 800000000000000000 ∧ f < 900000000000000000 ∧ f % 128 = Lib.popAux 64 x := by
  obtain ⟨p0, p1, p2, p3, p4, p5, p6, p7, h0, h1, h2, h3, h4, h5, h6, h7, hs, hp⟩ := swar_bytes x hx
  rw [hp]
  rw [hs] at hc
  clear hs hp hx
  have e7 : p7 = p7 + 256 * 0 := by omega
  obtain ⟨t6, e6⟩ : ∃ t, t = p6 + 256 * p7 := ⟨_, rfl⟩
  rw [← e6] at hc
  obtain ⟨t5, e5⟩ : ∃ t, t = p5 + 256 * t6 := ⟨_, rfl⟩
  rw [← e5] at hc
  obtain ⟨t4, e4⟩ : ∃ t, t = p4 + 256 * t5 := ⟨_, rfl⟩
  rw [← e4] at hc
  obtain ⟨t3, e3⟩ : ∃ t, t = p3 + 256 * t4 := ⟨_, rfl⟩
  rw [← e3] at hc
  obtain ⟨t2, e2⟩ : ∃ t, t = p2 + 256 * t3 := ⟨_, rfl⟩
  rw [← e2] at hc
  obtain ⟨t1, e1⟩ : ∃ t, t = p1 + 256 * t2 := ⟨_, rfl⟩
  rw [← e1] at hc
  have b0 : c ≤ 578721382704613384 := Nat.le_trans (p_bnd _ hc h0 (p_bnd _ e1 h1 (p_bnd _ e2 h2 (p_bnd _ e3 h3 (p_bnd _ e4 h4 (p_bnd _ e5 h5 (p_bnd _ e6 h6 h7))))))) (by decide)
  obtain ⟨r1, r2, r3, r4⟩ := p_all b0 hd he hf
  refine ⟨r1, r2, r3, r4, ?_⟩
  have d1 : c / 256 = t1 := by rw [hc, Nat.add_mul_div_left _ _ (by decide), Nat.div_eq_of_lt (Nat.lt_of_le_of_lt h0 (by decide)), Nat.zero_add]
  rw [d1] at hd
  have q0 := p_two hc e1
  have q1 := p_two e1 e2
  have q2 := p_two e2 e3
  have q3 := p_two e3 e4
  have q4 := p_two e4 e5
  have q5 := p_two e5 e6
  have q6 := p_two e6 e7
  have u0 : p0 + p1 ≤ 64 := Nat.le_trans (p_le2 h0 h1) (by decide)
  have u1 : p1 + p2 ≤ 64 := Nat.le_trans (p_le2 h1 h2) (by decide)
  have d2 : d / 65536 = t2 + t3 := p_div2 (hd.trans q0) q1 u0 u1
  rw [d2] at he
  have x0 := p_two (hd.trans q0) q2
  have x1 := p_two q1 q3
  have x2 := p_two q2 q4
  have x3 := p_two q3 q5
  have x4 := p_two q4 q6
  have v0 : p0 + p1 + (p2 + p3) ≤ 64 := Nat.le_trans (p_le2 (p_le2 h0 h1) (p_le2 h2 h3)) (by decide)
  have v1 : p1 + p2 + (p3 + p4) ≤ 64 := Nat.le_trans (p_le2 (p_le2 h1 h2) (p_le2 h3 h4)) (by decide)
  have v2 : p2 + p3 + (p4 + p5) ≤ 64 := Nat.le_trans (p_le2 (p_le2 h2 h3) (p_le2 h4 h5)) (by decide)
  have v3 : p3 + p4 + (p5 + p6) ≤ 64 := Nat.le_trans (p_le2 (p_le2 h3 h4) (p_le2 h5 h6)) (by decide)
  have d3 : e / 4294967296 = (t4 + t5) + (t6 + p7) := p_div4 (he.trans x0) x1 x2 x3 v0 v1 v2 v3
  rw [d3] at hf
  have y0 := p_two (he.trans x0) x4
  have z0 : p0 + p1 + (p2 + p3) + (p4 + p5 + (p6 + p7)) ≤ 64 := Nat.le_trans (p_le2 (p_le2 (p_le2 h0 h1) (p_le2 h2 h3)) (p_le2 (p_le2 h4 h5) (p_le2 h6 h7))) (by decide)
  rw [p_mod (hf.trans y0) z0]
  simp only [Nat.add_assoc]
end Go.Proofs.YtdbjljbkneopcaaDoor
