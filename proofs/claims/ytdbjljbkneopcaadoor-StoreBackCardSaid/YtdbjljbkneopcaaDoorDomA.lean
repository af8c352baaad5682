/- The contracts of math/bits' functions and of dom.place, dom.in, dom.above. -/
import Derived.Test.YtdbjljbkneopcaaDoorSets
import Derived.Test.YtdbjljbkneopcaaDoorSl
import Derived.Test.YtdbjljbkneopcaaDoorShelf
import Derived.Shelf.Spec.TrailingZeros
import Derived.Laws.Bits128
namespace Go.Proofs.YtdbjljbkneopcaaDoor
open Go.RowKit
set_option linter.unusedSimpArgs false
set_option linter.unusedVariables false

/-- The library's table lies where its initialiser lays it. -/
structure Tab (w : World) : Prop where
  lt : 0 < w.heap.size
  at_ : TabAt 0 Lib.deBruijn64tab w
theorem cell_same {w w' : World} (a : Addr) (h : w'.heap[a.block]? = w.heap[a.block]?) : w'.cell? a = w.cell? a := by
  simp [World.cell?, h]
theorem Tab.call {w w' : World} (h : Tab w) (hb : Below w.heap.size w w') : Tab w' :=
  ⟨Nat.lt_of_lt_of_le h.lt hb.size, fun j hj => by rw [cell_same _ (hb.block 0 h.lt)]; exact h.at_ j hj⟩
theorem Tab.kept {S : Nat → Prop} {w w' : World} (h : Tab w) (hf : Fr S w w') (hn : ¬ S 0) : Tab w' :=
  ⟨Nat.lt_of_lt_of_le h.lt hf.size, fun j hj => by rw [cell_same _ (hf.block 0 h.lt hn)]; exact h.at_ j hj⟩
theorem Tab.alloc {w : World} (h : Tab w) (o : Obj) : Tab (w.alloc o) := h.call (below_alloc (Below.refl _ _) o)

theorem nat_andNot63 (n : Nat) (h : n < 18446744073709551616) : n &&& 18446744073709551552 = n - n % 64 := by
  have h1 : (n &&& 18446744073709551552) / 2 ^ 6 = n / 64 := by
    rw [Nat.and_div_two_pow]
    have : n / 2 ^ 6 &&& (2 ^ 58 - 1) = n / 2 ^ 6 % 2 ^ 58 := Nat.and_two_pow_sub_one_eq_mod _ _
    rw [show 18446744073709551552 / 2 ^ 6 = 2 ^ 58 - 1 from by decide, this]
    omega
  have h2 : (n &&& 18446744073709551552) % 2 ^ 6 = 0 := by
    rw [Nat.and_mod_two_pow, show 18446744073709551552 % 2 ^ 6 = 0 from by decide, Nat.and_zero]
  have h3 := Nat.div_add_mod (n &&& 18446744073709551552) (2 ^ 6)
  rw [h1, h2] at h3
  omega
theorem andNot63 (v : Int) (h1 : -9223372036854775808 ≤ v) (h2 : v ≤ 9223372036854775807) : bits .andNot .i64 v 63 = v - v % 64 := by
  show IntKind.i64.wrap (((BitVec.ofInt 64 v &&& ~~~ (BitVec.ofInt 64 63)).toNat : Nat) : Int) = _
  have e1 : (~~~ (BitVec.ofInt 64 63)).toNat = 18446744073709551552 := by decide
  rw [BitVec.toNat_and, e1, nat_andNot63 _ (BitVec.isLt _), BitVec.toNat_ofInt, IntKind.wrap_i64]
  omega

set_option maxHeartbeats 400000 in
theorem dom_place (v : Int) (w : World) (h1 : -9223372036854775808 ≤ v) (h2 : v ≤ 9223372036854775807) :
    Calls Tryd.prog 95 #[.int .i64 v] w fun e w' => e = .returned (.int .i64 (v - v % 64)) ∧ w = w' := by
  have e := andNot63 v h1 h2
  go_enter Tryd.func95, Tryd.ntmps95
  go_wp2
  go_ret
  exact ⟨rfl, rfl⟩

set_option maxHeartbeats 400000 in
theorem dom_in (v : Int) (w : World) :
    Calls Tryd.prog 85 #[.int .i64 v] w fun e w' => e = .returned (.bool (decide (-1000000 ≤ v ∧ v ≤ 1000000))) ∧ w = w' := by
  rcases Int.lt_or_le v (-1000000) with h | h
  · have e : decide (-1000000 ≤ v ∧ v ≤ 1000000) = false := decide_eq_false (by omega)
    rw [e]
    clear e
    go_enter Tryd.func85, Tryd.ntmps85
    go_wp2
    go_ret
    exact ⟨ret_bool (by first | (simp; done) | (simp; omega)), rfl⟩
  · rcases Int.lt_or_le 1000000 v with h3 | h3
    · have e : decide (-1000000 ≤ v ∧ v ≤ 1000000) = false := decide_eq_false (by omega)
      rw [e]
      clear e
      go_enter Tryd.func85, Tryd.ntmps85
      go_wp2
      go_ret
      exact ⟨ret_bool (by first | (simp; done) | (simp; omega)), rfl⟩
    · have e : decide (-1000000 ≤ v ∧ v ≤ 1000000) = true := decide_eq_true (by omega)
      rw [e]
      clear e
      go_enter Tryd.func85, Tryd.ntmps85
      go_wp2
      go_ret
      exact ⟨ret_bool (by first | (simp; done) | (simp; omega)), rfl⟩

set_option maxHeartbeats 1000000 in
theorem tz64_core (x k idx : Nat) (w : World) (hx0 : ((x : Int) == 0) = false)
    (key : IntKind.u64.wrap (bits BinOp.and IntKind.u64 (x : Int) (IntKind.u64.wrap (-(x : Int))) * 285870213051353865) / 288230376151711744 = (idx : Int))
    (hi : idx < 64) (hk : k < 64) (hcell : w.cell? ⟨0, idx, none⟩ = some (.int .u8 k)) :
    Calls Tryd.prog 94 #[.int .u64 x] w fun e w' => e = .returned (.int .i64 k) ∧ w = w' := by
  go_enter Tryd.func94, Tryd.ntmps94
  go_wp2_with (simp only [key])
  go_ret
  exact ⟨rfl, rfl⟩
theorem tz64 (x : Nat) (w : World) (h0 : x ≠ 0) (hx : x < 18446744073709551616) (hT : Tab w) :
    Calls Tryd.prog 94 #[.int .u64 x] w fun e w' => e = .returned (.int .i64 (Lib.ctz 64 x)) ∧ w = w' := by
  obtain ⟨hlow, hk⟩ := Lib.lowest_bit 64 x h0 hx
  obtain ⟨hi, htab⟩ := Lib.deBruijn64_at _ hk
  have hcell := hT.at_ _ hi
  rw [htab] at hcell
  exact tz64_core x _ _ w (by simp; omega) (tz64_key x _ hx h0 hlow) hi hk hcell

theorem nat_div (x k : Nat) : ((x : Int) / (k : Int)) = ((x / k : Nat) : Int) := by omega
theorem and64 (a b : Nat) (ha : a < 18446744073709551616) (hb : b < 18446744073709551616) (z : Int) (hz : z = (a : Int)) (u : Int) (hu : u = (b : Int)) : bits .and .u64 z u = ((a &&& b : Nat) : Int) := by
  subst hz; subst hu
  exact bits_and_u64_nat a b ha hb
theorem wrap64_nat (z : Int) (n : Nat) (hz : z = (n : Int)) (hn : n < 18446744073709551616) : IntKind.u64.wrap z = (n : Int) := by
  subst hz
  rw [IntKind.wrap_u64]
  omega
theorem sw1_lt (k x : Nat) : sw1 k x ≤ rep 85 k + rep 85 k := Nat.add_le_add Nat.and_le_right Nat.and_le_right
theorem sw2_lt (k x : Nat) : sw2 k x ≤ rep 51 k + rep 51 k := Nat.add_le_add Nat.and_le_right Nat.and_le_right
theorem rep85 : rep 85 8 = 6148914691236517205 := by decide +kernel
theorem rep51 : rep 51 8 = 3689348814741910323 := by decide +kernel
theorem rep15 : rep 15 8 = 1085102592571150095 := by decide +kernel
set_option maxHeartbeats 1000000 in
theorem ones64 (x : Nat) (w : World) (hx : x < 18446744073709551616) :
    Calls Tryd.prog 124 #[.int .u64 x] w fun e w' => e = .returned (.int .i64 (Bt.of x).length) ∧ w = w' := by
  have b1 := sw1_lt 8 x
  have b2 := sw2_lt 8 (sw1 8 x)
  rw [rep85] at b1
  rw [rep51] at b2
  have m0 : (6148914691236517205 : Int) = ((6148914691236517205 : Nat) : Int) := rfl
  have m1 : (3689348814741910323 : Int) = ((3689348814741910323 : Nat) : Int) := rfl
  have m2 : (1085102592571150095 : Int) = ((1085102592571150095 : Nat) : Int) := rfl
  have W1 : IntKind.u64.wrap (bits .and .u64 ((x : Int) / 2) 6148914691236517205 + bits .and .u64 (x : Int) 6148914691236517205) = (sw1 8 x : Int) := by
    have E1 : bits .and .u64 ((x : Int) / 2) 6148914691236517205 = ((x / 2 &&& 6148914691236517205 : Nat) : Int) := and64 (x / 2) 6148914691236517205 (by omega) (by decide) _ (nat_div x 2) _ m0
    have E2 : bits .and .u64 (x : Int) 6148914691236517205 = ((x &&& 6148914691236517205 : Nat) : Int) := and64 x 6148914691236517205 hx (by decide) _ rfl _ m0
    rw [E1, E2]
    exact wrap64_nat _ _ (by unfold sw1; rw [rep85]; simp) (by omega)
  have ha : sw1 8 x < 18446744073709551616 := by omega
  have W2 : IntKind.u64.wrap (bits .and .u64 ((sw1 8 x : Int) / 4) 3689348814741910323 + bits .and .u64 (sw1 8 x : Int) 3689348814741910323) = (sw2 8 (sw1 8 x) : Int) := by
    have E1 : bits .and .u64 ((sw1 8 x : Int) / 4) 3689348814741910323 = ((sw1 8 x / 4 &&& 3689348814741910323 : Nat) : Int) := and64 (sw1 8 x / 4) 3689348814741910323 (by omega) (by decide) _ (nat_div (sw1 8 x) 4) _ m1
    have E2 : bits .and .u64 (sw1 8 x : Int) 3689348814741910323 = ((sw1 8 x &&& 3689348814741910323 : Nat) : Int) := and64 (sw1 8 x) 3689348814741910323 ha (by decide) _ rfl _ m1
    rw [E1, E2]
    exact wrap64_nat _ _ (by unfold sw2; rw [rep51]; simp) (by omega)
  have hb : sw2 8 (sw1 8 x) / 16 + sw2 8 (sw1 8 x) < 18446744073709551616 := by omega
  have W3 : bits .and .u64 (IntKind.u64.wrap ((sw2 8 (sw1 8 x) : Int) / 16 + (sw2 8 (sw1 8 x) : Int))) 1085102592571150095 = (swar x : Int) := by
    have E0 : IntKind.u64.wrap ((sw2 8 (sw1 8 x) : Int) / 16 + (sw2 8 (sw1 8 x) : Int)) = ((sw2 8 (sw1 8 x) / 16 + sw2 8 (sw1 8 x) : Nat) : Int) := wrap64_nat _ _ (by omega) hb
    rw [E0]
    have := and64 (sw2 8 (sw1 8 x) / 16 + sw2 8 (sw1 8 x)) 1085102592571150095 hb (by decide) _ rfl _ m2
    rw [this]
    unfold swar
    rw [show sw3 8 (sw2 8 (sw1 8 x)) = (sw2 8 (sw1 8 x) / 16 + sw2 8 (sw1 8 x)) &&& rep 15 8 from rfl, rep15]
  obtain ⟨c1, c2, c3, c4, c5⟩ := pop_sum x hx _ _ _ _ rfl rfl rfl rfl
  have W4 : IntKind.u64.wrap ((swar x : Int) + (swar x : Int) / 256) = ((swar x + swar x / 256 : Nat) : Int) := wrap64_nat _ _ (by omega) (by omega)
  generalize swar x + swar x / 256 = d at *
  have W5 : IntKind.u64.wrap ((d : Int) + (d : Int) / 65536) = ((d + d / 65536 : Nat) : Int) := wrap64_nat _ _ (by omega) (by omega)
  generalize d + d / 65536 = e at *
  have W6 : IntKind.u64.wrap ((e : Int) + (e : Int) / 4294967296) = ((e + e / 4294967296 : Nat) : Int) := wrap64_nat _ _ (by omega) (by omega)
  generalize e + e / 4294967296 = f at *
  have W7 : bits .and .i64 (f : Int) 127 = ((Bt.of x).length : Int) := by
    rw [i64_and127, Bt.count, ← c5]
    omega
  have X1 := Lib.hid W1
  have X2 := Lib.hid W2
  have X3 := Lib.hid W3
  have X4 := Lib.hid W4
  have X5 := Lib.hid W5
  have X6 := Lib.hid W6
  have X7 := Lib.hid W7
  clear W1 W2 W3 W4 W5 W6 W7 m0 m1 m2 b1 b2 ha hb
  go_enter Tryd.func124, Tryd.ntmps124
  go_wp2_with fail
  go_ret
  refine ⟨?_, rfl⟩
  simp only [X1.out, X2.out, X3.out, X4.out, X5.out, X6.out]
  exact ret_int (by rw [show wrap64 (f : Int) = (f : Int) from (by unfold wrap64; omega), X7.out])
theorem lz64 (x : Nat) (w : World) (hx : x < 18446744073709551616) :
    Calls Tryd.prog 123 #[.int .u64 x] w fun e w' => e = .returned (.int .i64 (64 - (Lib.bitLen x : Int))) ∧ w = w' :=
  (Tryd.bits_LeadingZeros64 (x : Int) w (by omega) (by omega)).mono fun _ _ h => ⟨h.1, h.2.symm⟩
end Go.Proofs.YtdbjljbkneopcaaDoor
