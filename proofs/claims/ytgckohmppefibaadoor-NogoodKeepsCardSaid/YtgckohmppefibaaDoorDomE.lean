import Derived.Test.YtgckohmppefibaaDoorSets
import Derived.Test.YtgckohmppefibaaDoorSl
import Derived.Test.YtgckohmppefibaaDoorShelf
import Derived.Shelf.Spec.TrailingZeros
import Derived.Laws.Bits128
import Derived.Deep.RegionHeld3
import Derived.BigQuiet
import Derived.Deep.QuietTactic
import Derived.Deep.RegionLaw
import Derived.Deep.LoopGhost
/- The contracts of math/bits' functions and of dom.place, dom.in, dom.above. -/
namespace Go.Proofs.YtgckohmppefibaaDoor
open Go.RowKit
attribute [local go_sem high] go_max_int go_min_int
set_option linter.unusedSimpArgs false
set_option linter.unusedVariables false

/-- The library's table lies where its initialiser lays it. -/
structure Tab (w : World) : Prop where
  lt : 0 < w.heap.size
  at_ : TabAt 0 Lib.deBruijn64tab w
theorem cell_same {w w' : World} (a : Addr) (h : w'.heap[a.block]? = w.heap[a.block]?) : w'.cell? a = w.cell? a := by
  simp [World.cell?, h]
theorem Tab.call {w w' : World} (h : Tab w) (hb : Below w.heap.size w w') : Tab w' :=
  ⟨Nat.lt_of_lt_of_le h.lt hb.size, fun j hj => by rw [cell_same _ (hb.block 0 h.lt)]; exact h.at_ j hj⟩
theorem Tab.kept {S : Nat → Prop} {w w' : World} (h : Tab w) (hf : Fr S w w') (hn : ¬ S 0) : Tab w' :=
  ⟨Nat.lt_of_lt_of_le h.lt hf.size, fun j hj => by rw [cell_same _ (hf.block 0 h.lt hn)]; exact h.at_ j hj⟩
theorem Tab.alloc {w : World} (h : Tab w) (o : Obj) : Tab (w.alloc o) := h.call (below_alloc (Below.refl _ _) o)

theorem nat_andNot63 (n : Nat) (h : n < 18446744073709551616) : n &&& 18446744073709551552 = n - n % 64 := by
  have h1 : (n &&& 18446744073709551552) / 2 ^ 6 = n / 64 := by
    rw [Nat.and_div_two_pow]
    have : n / 2 ^ 6 &&& (2 ^ 58 - 1) = n / 2 ^ 6 % 2 ^ 58 := Nat.and_two_pow_sub_one_eq_mod _ _
    rw [show 18446744073709551552 / 2 ^ 6 = 2 ^ 58 - 1 from by decide, this]
    omega
  have h2 : (n &&& 18446744073709551552) % 2 ^ 6 = 0 := by
    rw [Nat.and_mod_two_pow, show 18446744073709551552 % 2 ^ 6 = 0 from by decide, Nat.and_zero]
  have h3 := Nat.div_add_mod (n &&& 18446744073709551552) (2 ^ 6)
  rw [h1, h2] at h3
  omega
theorem andNot63 (v : Int) (h1 : -9223372036854775808 ≤ v) (h2 : v ≤ 9223372036854775807) : bits .andNot .i64 v 63 = v - v % 64 := by
  show IntKind.i64.wrap (((BitVec.ofInt 64 v &&& ~~~ (BitVec.ofInt 64 63)).toNat : Nat) : Int) = _
  have e1 : (~~~ (BitVec.ofInt 64 63)).toNat = 18446744073709551552 := by decide
  rw [BitVec.toNat_and, e1, nat_andNot63 _ (BitVec.isLt _), BitVec.toNat_ofInt, IntKind.wrap_i64]
  omega

set_option maxHeartbeats 400000 in
theorem dom_place (v : Int) (w : World) (h1 : -9223372036854775808 ≤ v) (h2 : v ≤ 9223372036854775807) :
    Calls Tryd.prog 56 #[.int .i64 v] w fun e w' => e = .returned (.int .i64 (v - v % 64)) ∧ w = w' := by
  have e := andNot63 v h1 h2
  go_enter Tryd.func56, Tryd.ntmps56
  go_wp2
  go_ret
  exact ⟨rfl, rfl⟩

set_option maxHeartbeats 400000 in
theorem dom_in (v : Int) (w : World) :
    Calls Tryd.prog 54 #[.int .i64 v] w fun e w' => e = .returned (.bool (decide (-1000000 ≤ v ∧ v ≤ 1000000))) ∧ w = w' := by
  rcases Int.lt_or_le v (-1000000) with h | h
  · have e : decide (-1000000 ≤ v ∧ v ≤ 1000000) = false := decide_eq_false (by omega)
    rw [e]
    clear e
    go_enter Tryd.func54, Tryd.ntmps54
    go_wp2
    go_ret
    exact ⟨ret_bool (by first | (simp; done) | (simp; omega)), rfl⟩
  · rcases Int.lt_or_le 1000000 v with h3 | h3
    · have e : decide (-1000000 ≤ v ∧ v ≤ 1000000) = false := decide_eq_false (by omega)
      rw [e]
      clear e
      go_enter Tryd.func54, Tryd.ntmps54
      go_wp2
      go_ret
      exact ⟨ret_bool (by first | (simp; done) | (simp; omega)), rfl⟩
    · have e : decide (-1000000 ≤ v ∧ v ≤ 1000000) = true := decide_eq_true (by omega)
      rw [e]
      clear e
      go_enter Tryd.func54, Tryd.ntmps54
      go_wp2
      go_ret
      exact ⟨ret_bool (by first | (simp; done) | (simp; omega)), rfl⟩

set_option maxHeartbeats 1000000 in
theorem tz64_core (x k idx : Nat) (w : World) (hx0 : ((x : Int) == 0) = false)
    (key : IntKind.u64.wrap (bits BinOp.and IntKind.u64 (x : Int) (IntKind.u64.wrap (-(x : Int))) * 285870213051353865) / 288230376151711744 = (idx : Int))
    (hi : idx < 64) (hk : k < 64) (hcell : w.cell? ⟨0, idx, none⟩ = some (.int .u8 k)) :
    Calls Tryd.prog 51 #[.int .u64 x] w fun e w' => e = .returned (.int .i64 k) ∧ w = w' := by
  go_enter Tryd.func51, Tryd.ntmps51
  go_wp2_with (simp only [key])
  go_ret
  exact ⟨rfl, rfl⟩
theorem tz64 (x : Nat) (w : World) (h0 : x ≠ 0) (hx : x < 18446744073709551616) (hT : Tab w) :
    Calls Tryd.prog 51 #[.int .u64 x] w fun e w' => e = .returned (.int .i64 (Lib.ctz 64 x)) ∧ w = w' := by
  obtain ⟨hlow, hk⟩ := Lib.lowest_bit 64 x h0 hx
  obtain ⟨hi, htab⟩ := Lib.deBruijn64_at _ hk
  have hcell := hT.at_ _ hi
  rw [htab] at hcell
  exact tz64_core x _ _ w (by simp; omega) (tz64_key x _ hx h0 hlow) hi hk hcell

theorem nat_div (x k : Nat) : ((x : Int) / (k : Int)) = ((x / k : Nat) : Int) := by omega
theorem and64 (a b : Nat) (ha : a < 18446744073709551616) (hb : b < 18446744073709551616) (z : Int) (hz : z = (a : Int)) (u : Int) (hu : u = (b : Int)) : bits .and .u64 z u = ((a &&& b : Nat) : Int) := by
  subst hz; subst hu
  exact bits_and_u64_nat a b ha hb
theorem wrap64_nat (z : Int) (n : Nat) (hz : z = (n : Int)) (hn : n < 18446744073709551616) : IntKind.u64.wrap z = (n : Int) := by
  subst hz
  rw [IntKind.wrap_u64]
  omega
theorem sw1_lt (k x : Nat) : sw1 k x ≤ rep 85 k + rep 85 k := Nat.add_le_add Nat.and_le_right Nat.and_le_right
theorem sw2_lt (k x : Nat) : sw2 k x ≤ rep 51 k + rep 51 k := Nat.add_le_add Nat.and_le_right Nat.and_le_right
theorem rep85 : rep 85 8 = 6148914691236517205 := by decide +kernel
theorem rep51 : rep 51 8 = 3689348814741910323 := by decide +kernel
theorem rep15 : rep 15 8 = 1085102592571150095 := by decide +kernel
set_option maxHeartbeats 1000000 in
theorem ones64 (x : Nat) (w : World) (hx : x < 18446744073709551616) :
    Calls Tryd.prog 77 #[.int .u64 x] w fun e w' => e = .returned (.int .i64 (Bt.of x).length) ∧ w = w' := by
  have b1 := sw1_lt 8 x
  have b2 := sw2_lt 8 (sw1 8 x)
  rw [rep85] at b1
  rw [rep51] at b2
  have m0 : (6148914691236517205 : Int) = ((6148914691236517205 : Nat) : Int) := rfl
  have m1 : (3689348814741910323 : Int) = ((3689348814741910323 : Nat) : Int) := rfl
  have m2 : (1085102592571150095 : Int) = ((1085102592571150095 : Nat) : Int) := rfl
  have W1 : IntKind.u64.wrap (bits .and .u64 ((x : Int) / 2) 6148914691236517205 + bits .and .u64 (x : Int) 6148914691236517205) = (sw1 8 x : Int) := by
    have E1 : bits .and .u64 ((x : Int) / 2) 6148914691236517205 = ((x / 2 &&& 6148914691236517205 : Nat) : Int) := and64 (x / 2) 6148914691236517205 (by omega) (by decide) _ (nat_div x 2) _ m0
    have E2 : bits .and .u64 (x : Int) 6148914691236517205 = ((x &&& 6148914691236517205 : Nat) : Int) := and64 x 6148914691236517205 hx (by decide) _ rfl _ m0
    rw [E1, E2]
    exact wrap64_nat _ _ (by unfold sw1; rw [rep85]; simp) (by omega)
  have ha : sw1 8 x < 18446744073709551616 := by omega
  have W2 : IntKind.u64.wrap (bits .and .u64 ((sw1 8 x : Int) / 4) 3689348814741910323 + bits .and .u64 (sw1 8 x : Int) 3689348814741910323) = (sw2 8 (sw1 8 x) : Int) := by
    have E1 : bits .and .u64 ((sw1 8 x : Int) / 4) 3689348814741910323 = ((sw1 8 x / 4 &&& 3689348814741910323 : Nat) : Int) := and64 (sw1 8 x / 4) 3689348814741910323 (by omega) (by decide) _ (nat_div (sw1 8 x) 4) _ m1
    have E2 : bits .and .u64 (sw1 8 x : Int) 3689348814741910323 = ((sw1 8 x &&& 3689348814741910323 : Nat) : Int) := and64 (sw1 8 x) 3689348814741910323 ha (by decide) _ rfl _ m1
    rw [E1, E2]
    exact wrap64_nat _ _ (by unfold sw2; rw [rep51]; simp) (by omega)
  have hb : sw2 8 (sw1 8 x) / 16 + sw2 8 (sw1 8 x) < 18446744073709551616 := by omega
  have W3 : bits .and .u64 (IntKind.u64.wrap ((sw2 8 (sw1 8 x) : Int) / 16 + (sw2 8 (sw1 8 x) : Int))) 1085102592571150095 = (swar x : Int) := by
    have E0 : IntKind.u64.wrap ((sw2 8 (sw1 8 x) : Int) / 16 + (sw2 8 (sw1 8 x) : Int)) = ((sw2 8 (sw1 8 x) / 16 + sw2 8 (sw1 8 x) : Nat) : Int) := wrap64_nat _ _ (by omega) hb
    rw [E0]
    have := and64 (sw2 8 (sw1 8 x) / 16 + sw2 8 (sw1 8 x)) 1085102592571150095 hb (by decide) _ rfl _ m2
    rw [this]
    unfold swar
    rw [show sw3 8 (sw2 8 (sw1 8 x)) = (sw2 8 (sw1 8 x) / 16 + sw2 8 (sw1 8 x)) &&& rep 15 8 from rfl, rep15]
  obtain ⟨c1, c2, c3, c4, c5⟩ := pop_sum x hx _ _ _ _ rfl rfl rfl rfl
  have W4 : IntKind.u64.wrap ((swar x : Int) + (swar x : Int) / 256) = ((swar x + swar x / 256 : Nat) : Int) := wrap64_nat _ _ (by omega) (by omega)
  generalize swar x + swar x / 256 = d at *
  have W5 : IntKind.u64.wrap ((d : Int) + (d : Int) / 65536) = ((d + d / 65536 : Nat) : Int) := wrap64_nat _ _ (by omega) (by omega)
  generalize d + d / 65536 = e at *
  have W6 : IntKind.u64.wrap ((e : Int) + (e : Int) / 4294967296) = ((e + e / 4294967296 : Nat) : Int) := wrap64_nat _ _ (by omega) (by omega)
  generalize e + e / 4294967296 = f at *
  have W7 : bits .and .i64 (f : Int) 127 = ((Bt.of x).length : Int) := by
    rw [i64_and127, Bt.count, ← c5]
    omega
  have X1 := Lib.hid W1
  have X2 := Lib.hid W2
  have X3 := Lib.hid W3
  have X4 := Lib.hid W4
  have X5 := Lib.hid W5
  have X6 := Lib.hid W6
  have X7 := Lib.hid W7
  clear W1 W2 W3 W4 W5 W6 W7 m0 m1 m2 b1 b2 ha hb
  go_enter Tryd.func77, Tryd.ntmps77
  go_wp2_with fail
  go_ret
  refine ⟨?_, rfl⟩
  simp only [X1.out, X2.out, X3.out, X4.out, X5.out, X6.out]
  exact ret_int (by rw [show wrap64 (f : Int) = (f : Int) from (by unfold wrap64; omega), X7.out])
theorem lz64 (x : Nat) (w : World) (hx : x < 18446744073709551616) :
    Calls Tryd.prog 76 #[.int .u64 x] w fun e w' => e = .returned (.int .i64 (64 - (Lib.bitLen x : Int))) ∧ w = w' :=
  (Tryd.bits_LeadingZeros64 (x : Int) w (by omega) (by omega)).mono fun _ _ h => ⟨h.1, h.2.symm⟩
end Go.Proofs.YtgckohmppefibaaDoor
/- A domain as a value: what it reads as. The contracts of word and Has. -/
namespace Go.Proofs.YtgckohmppefibaaDoor
open Go.RowKit
attribute [local go_sem high] go_max_int go_min_int
set_option linter.unusedSimpArgs false
set_option linter.unusedVariables false

def Dm.u64s (ws : List Nat) : List Value := ws.map fun x : Nat => .int .u64 (x : Int)
/-- A domain's parts: words from off on; its numbers are l. -/
structure Dm.RepX (w : World) (off : Int) (sv : Value) (ws : List Nat) (l : List Int) : Prop where
  sl : Sl w 99 1 sv ws.length (Dm.u64s ws)
  lt : ∀ x ∈ ws, x < 18446744073709551616
  mod : off % 64 = 0
  lo : -1000000 ≤ off
  hi : off + 64 * ws.length ≤ 1000064
  els : l = Bt.els off ws
  inr : ∀ u ∈ l, -1000000 ≤ u ∧ u ≤ 1000000
def Dm.val (off : Int) (sv : Value) (l : List Int) : Value := .agg #[.int .i64 off, sv, .int .i64 (l.headD 0), .int .i64 (l.getLastD 0), .int .i64 l.length]
/-- A value that is the domain of just l. -/
def Dm.Rep (w : World) (v : Value) (l : List Int) : Prop := ∃ off sv ws, v = Dm.val off sv l ∧ Dm.RepX w off sv ws l
theorem Dm.RepX.kept {S : Nat → Prop} {w w' : World} {off : Int} {sv : Value} {ws : List Nat} {l : List Int} (h : Dm.RepX w off sv ws l) (hf : Fr S w w') (hn : ∀ b, sv.ownBlock = some b → ¬ S b) : Dm.RepX w' off sv ws l :=
  ⟨h.sl.kept hf hn, h.lt, h.mod, h.lo, h.hi, h.els, h.inr⟩
theorem Dm.RepX.call {w w' : World} {off : Int} {sv : Value} {ws : List Nat} {l : List Int} (h : Dm.RepX w off sv ws l) (hb : Below w.heap.size w w') : Dm.RepX w' off sv ws l :=
  ⟨h.sl.call hb, h.lt, h.mod, h.lo, h.hi, h.els, h.inr⟩
theorem Dm.Rep.call {w w' : World} {v : Value} {l : List Int} (h : Dm.Rep w v l) (hb : Below w.heap.size w w') : Dm.Rep w' v l := by
  obtain ⟨off, sv, ws, e, hx⟩ := h
  exact ⟨off, sv, ws, e, hx.call hb⟩
theorem Dm.RepX.sorted {w : World} {off : Int} {sv : Value} {ws : List Nat} {l : List Int} (h : Dm.RepX w off sv ws l) : l.Pairwise (· < ·) := by
  rw [h.els]; exact Bt.els_sorted _ _
theorem Dm.Rep.sorted {w : World} {v : Value} {l : List Int} (h : Dm.Rep w v l) : l.Pairwise (· < ·) := by
  obtain ⟨off, sv, ws, e, hx⟩ := h
  exact hx.sorted
theorem Dm.Rep.inr {w : World} {v : Value} {l : List Int} (h : Dm.Rep w v l) : ∀ u ∈ l, -1000000 ≤ u ∧ u ≤ 1000000 := by
  obtain ⟨off, sv, ws, e, hx⟩ := h
  exact hx.inr
/-- The empty domain. -/
theorem Dm.none_ (w : World) : Dm.Rep w (.agg #[.int .i64 0, .slice none 0 0, .int .i64 0, .int .i64 0, .int .i64 0]) [] :=
  ⟨0, .slice none 0 0, [], rfl, ⟨Sl.nil _ _ _, (fun x hx => by cases hx), by decide, by decide, by simp, rfl, (fun u hu => by cases hu)⟩⟩

/-- A word's value: its bits say which numbers are there. -/
def Dm.Wd (l : List Int) (p : Int) (w : World) (e : Ending) (w' : World) : Prop :=
  ∃ x : Nat, e = .returned (.int .u64 (x : Int)) ∧ x < 18446744073709551616 ∧ (∀ b : Nat, b < 64 → x.testBit b = decide (p + b ∈ l)) ∧ Below w.heap.size w w'
theorem Dm.word_none {w : World} {off : Int} {sv : Value} {ws : List Nat} {l : List Int} (h : Dm.RepX w off sv ws l) (p : Int) (hp : p % 64 = 0) (ho : p < off ∨ off + 64 * ws.length ≤ p) (b : Nat) (hb : b < 64) : (0 : Nat).testBit b = decide (p + b ∈ l) := by
  have : p + b ∉ l := fun hm => by
    rw [h.els] at hm
    have h1 := Bt.els_low _ _ _ hm
    have h2 := h.mod
    omega
  rw [decide_eq_false this, Nat.zero_testBit]
theorem Dm.word_some {w : World} {off : Int} {sv : Value} {ws : List Nat} {l : List Int} (h : Dm.RepX w off sv ws l) (i : Nat) (hi : i < ws.length) (b : Nat) (hb : b < 64) : (ws.getD i 0).testBit b = decide (off + 64 * i + b ∈ l) := by
  have := Bt.els_at ws off (off + 64 * i + b) i hi (by omega) (by omega)
  rw [show (off + 64 * i + b - (off + 64 * i)).toNat = b from by omega] at this
  rw [h.els]
  by_cases e : (ws.getD i 0).testBit b = true
  · rw [e, decide_eq_true (this.2 e)]
  · rw [decide_eq_false (fun hh => e (this.1 hh))]
    simpa using e
theorem Dm.cell_u64 {w : World} {b o c : Nat} {ws : List Nat} (h : Sl w 99 1 (.slice (some ⟨b, o, none⟩) ws.length c) ws.length (Dm.u64s ws)) (i : Nat) (hi : i < ws.length) : w.cell? ⟨b, o + i, none⟩ = some (.int .u64 (ws.getD i 0 : Nat)) := by
  rw [h.cell i (by omega)]
  unfold Dm.u64s
  rw [List.getElem?_map, List.getElem?_eq_getElem hi]
  simp [List.getD_eq_getElem?_getD, List.getElem?_eq_getElem hi]

set_option maxHeartbeats 400000 in
theorem dom_word (v : Value) (l : List Int) (p : Int) (w : World) (h : Dm.Rep w v l) (hp : p % 64 = 0) (h1 : -2000000 ≤ p) (h2 : p ≤ 2000000) :
    Calls Tryd.prog 55 #[v, .int .i64 p] w (Dm.Wd l p w) := by
  obtain ⟨off, sv, ws, rfl, hx⟩ := h
  obtain ⟨A, c, rfl⟩ := hx.sl.len
  have HX := Lib.hid hx
  have ho := hx.lo
  have hh := hx.hi
  have hm := hx.mod
  unfold Dm.val
  generalize l.headD 0 = lo at *
  generalize l.getLastD 0 = hi at *
  generalize l.length = sz at *
  rcases Int.lt_or_le p off with hlt | hge
  · have W0 := Lib.hid (Dm.word_none hx p hp (Or.inl hlt))
    clear hx
    generalize ws.length = n at *
    go_enter Tryd.func55, Tryd.ntmps55
    go_wp2
    go_ret
    exact ⟨0, rfl, by decide, W0.out, below_alloc (Below.refl _ _) _⟩
  · obtain ⟨i, hi⟩ : ∃ i : Nat, p = off + 64 * i := ⟨((p - off) / 64).toNat, by omega⟩
    subst hi
    by_cases hn : ws.length ≤ i
    · have W0 := Lib.hid (Dm.word_none hx (off + 64 * i) hp (Or.inr (by omega)))
      clear hx
      generalize ws.length = n at *
      go_enter Tryd.func55, Tryd.ntmps55
      go_wp2
      go_ret
      exact ⟨0, rfl, by decide, W0.out, below_alloc (Below.refl _ _) _⟩
    · have hin : i < ws.length := by omega
      obtain ⟨b, o, c', cs, e, hc, _⟩ := hx.sl.form (by omega)
      cases e
      have W0 := Lib.hid (Dm.word_some hx i hin)
      have HC := hx.sl.call (below_alloc (Below.refl _ _) (.cells #[.int .i64 off, .slice (some ⟨b, o, none⟩) ws.length c, .int .i64 lo, .int .i64 hi, .int .i64 sz] 62))
      have hcell := Dm.cell_u64 HC i hin
      have hxl := hx.lt (ws.getD i 0) (by rw [List.getD_eq_getElem?_getD, List.getElem?_eq_getElem hin]; simp)
      clear hx HC hc
      have e1 : (off + 64 * (i : Int) - off) / 64 = (i : Int) := by omega
      generalize ws.getD i 0 = x at *
      generalize ws.length = n at *
      go_enter Tryd.func55, Tryd.ntmps55
      go_wp2
      go_ret
      exact ⟨x, rfl, hxl, W0.out, below_alloc (Below.refl _ _) _⟩
end Go.Proofs.YtgckohmppefibaaDoor
/- The contract of Has. -/
namespace Go.Proofs.YtgckohmppefibaaDoor
open Go.RowKit
attribute [local go_sem high] go_max_int go_min_int
set_option linter.unusedSimpArgs false
set_option linter.unusedVariables false

theorem shift_bit (x r : Nat) (hx : x < 18446744073709551616) : (bits BinOp.and IntKind.u64 ((x : Int) / 2 ^ r) 1 == 1) = x.testBit r := by
  have e : bits BinOp.and IntKind.u64 ((x : Int) / 2 ^ r) 1 = ((x / 2 ^ r &&& 1 : Nat) : Int) :=
    and64 (x / 2 ^ r) 1 (Nat.lt_of_le_of_lt (Nat.div_le_self _ _) hx) (by decide) _ (by simp) _ rfl
  rw [e, Nat.and_one_is_mod, Nat.testBit_eq_decide_div_mod_eq]
  have : x / 2 ^ r % 2 < 2 := Nat.mod_lt _ (by decide)
  generalize x / 2 ^ r % 2 = m at *
  have : m = 0 ∨ m = 1 := by omega
  rcases this with rfl | rfl <;> rfl

set_option maxHeartbeats 400000 in
theorem dom_has_out (v : Value) (l : List Int) (u : Int) (w : World) (h : Dm.Rep w v l) (hu : u < -1000000 ∨ 1000000 < u) :
    Calls Tryd.prog 29 #[v, .int .i64 u] w fun e w' => e = .returned (.bool false) ∧ Below w.heap.size w w' := by
  have hd : decide (-1000000 ≤ u ∧ u ≤ 1000000) = false := decide_eq_false (by omega)
  obtain ⟨off, sv, ws, rfl, hx⟩ := h
  unfold Dm.val
  clear hx
  go_enter Tryd.func29, Tryd.ntmps29
  go_wp2_with fail
  go_quiet ((first
    | (go_at_call 54; exact Calls.quiet_of_same ((dom_in _ _).mono fun _ _ h => ⟨by rw [h.1, hd], h.2.symm⟩))))
  go_wp2
  go_ret
  exact ⟨rfl, by repeat (first | exact Below.refl _ _ | refine below_drewN ?_ _ | refine below_alloc ?_ _)⟩

set_option maxHeartbeats 1000000 in
theorem dom_has_in (v : Value) (l : List Int) (p : Int) (r : Nat) (w : World) (h : Dm.Rep w v l) (hp : p % 64 = 0) (hr : r < 64) (h1 : -1000000 ≤ p + r) (h2 : p + r ≤ 1000000) :
    Calls Tryd.prog 29 #[v, .int .i64 (p + r)] w fun e w' => e = .returned (.bool (decide (p + r ∈ l))) ∧ Below w.heap.size w w' := by
  have hd : decide (-1000000 ≤ p + (r : Int) ∧ p + (r : Int) ≤ 1000000) = true := decide_eq_true (by omega)
  have e1 : p + (r : Int) - (p + r) % 64 = p := by omega
  have e2 : p + (r : Int) - p = r := by omega
  have e3 : IntKind.i64.wrap (r : Int) = (r : Int) := by rw [IntKind.wrap_i64]; omega
  have HV := Lib.hid h
  obtain ⟨off, sv, ws, rfl, hx⟩ := h
  have HD := Lib.hid hd
  have E1 := Lib.hid e1
  unfold Dm.val at *
  generalize l.headD 0 = lo at *
  generalize l.getLastD 0 = hi at *
  generalize l.length = sz at *
  clear hx hd e1
  go_enter Tryd.func29, Tryd.ntmps29
  go_wp2_with fail
  go_region_held3 (fun w' => w'.cell? ⟨w.heap.size, 0, none⟩ = some (.int .i64 off) ∧ w'.cell? ⟨w.heap.size, 1, none⟩ = some sv ∧ w'.cell? ⟨w.heap.size, 2, none⟩ = some (.int .i64 lo) ∧ w'.cell? ⟨w.heap.size, 3, none⟩ = some (.int .i64 hi) ∧ w'.cell? ⟨w.heap.size, 4, none⟩ = some (.int .i64 sz) ∧ Below w.heap.size w w')
    (first
      | exact ⟨by simp [go_sem], by simp [go_sem], by simp [go_sem], by simp [go_sem], by simp [go_sem], (below_alloc (Below.refl _ _) _).drew⟩
      | exact ⟨hs0, hs1, hs2, hs3, hs4, hs5⟩)
    (first
      | (go_at_call 54; refine (dom_in _ _).mono ?_; rintro e w' ⟨rfl, rfl⟩; rw [HD.out])
      | (go_at_call 56; refine (dom_place _ _ (by omega) (by omega)).mono ?_; rintro e w' ⟨rfl, rfl⟩; rw [E1.out])
      | (go_at_call 55; refine (dom_word _ l p _ (HV.out.call ((below_alloc (Below.refl _ _) _).drew)) hp (by omega) (by omega)).mono ?_; rintro e w' ⟨x, rfl, hx, hb, hbel⟩; have hs0 : w'.cell? ⟨w.heap.size, 0, none⟩ = some (.int .i64 off) := (by rw [(bcell hbel).1 _ _ (by simp)]; simp [go_sem]); have hs1 : w'.cell? ⟨w.heap.size, 1, none⟩ = some sv := (by rw [(bcell hbel).1 _ _ (by simp)]; simp [go_sem]); have hs2 : w'.cell? ⟨w.heap.size, 2, none⟩ = some (.int .i64 lo) := (by rw [(bcell hbel).1 _ _ (by simp)]; simp [go_sem]); have hs3 : w'.cell? ⟨w.heap.size, 3, none⟩ = some (.int .i64 hi) := (by rw [(bcell hbel).1 _ _ (by simp)]; simp [go_sem]); have hs4 : w'.cell? ⟨w.heap.size, 4, none⟩ = some (.int .i64 sz) := (by rw [(bcell hbel).1 _ _ (by simp)]; simp [go_sem]); have hs5 : Below w.heap.size w w' := (by refine Below.trans ?_ (hbel.mono (by simp)); exact (below_alloc (Below.refl _ _) _).drew); have HB := Lib.hid hb; clear hb hbel))
  go_wp2
  go_ret
  refine ⟨ret_bool ?_, hs5⟩
  rw [← HB.out r hr]
  exact shift_bit x r hx
theorem dom_has (v : Value) (l : List Int) (u : Int) (w : World) (h : Dm.Rep w v l) :
    Calls Tryd.prog 29 #[v, .int .i64 u] w fun e w' => e = .returned (.bool (decide (u ∈ l))) ∧ Below w.heap.size w w' := by
  by_cases hu : u < -1000000 ∨ 1000000 < u
  · have : u ∉ l := fun hm => by have := h.inr u hm; omega
    rw [decide_eq_false this]
    exact dom_has_out v l u w h hu
  · have e : u = (u - u % 64) + ((u % 64).toNat : Int) := by omega
    rw [e]
    exact dom_has_in v l (u - u % 64) (u % 64).toNat w h (by omega) (by omega) (by omega) (by omega)
end Go.Proofs.YtgckohmppefibaaDoor
/- The contract of dom.made. -/
namespace Go.Proofs.YtgckohmppefibaaDoor
open Go.RowKit
attribute [local go_sem high] go_max_int go_min_int
set_option linter.unusedSimpArgs false
set_option linter.unusedVariables false

theorem headD_append (a b : List Int) : (a ++ b).headD 0 = if a = [] then b.headD 0 else a.headD 0 := by cases a <;> simp
theorem getLastD_append (a b : List Int) (hb : b ≠ []) : (a ++ b).getLastD 0 = b.getLastD 0 := by
  rw [List.getLastD_eq_getLast?, List.getLastD_eq_getLast?, List.getLast?_append]
  cases h : b.getLast? with
  | none => exact absurd (List.getLast?_eq_none_iff.1 h) hb
  | some y => simp
/-- A word more. -/
theorem Bt.els_take (ws : List Nat) (off : Int) (j : Nat) (hj : j < ws.length) : Bt.els off (ws.take (j + 1)) = Bt.els off (ws.take j) ++ (Bt.of (ws.getD j 0)).map (fun b : Nat => off + 64 * j + (b : Int)) := by
  rw [List.take_succ_eq_append_getElem hj, Bt.els_append, List.length_take, Nat.min_eq_left (by omega)]
  simp [Bt.els, List.getD_eq_getElem?_getD, List.getElem?_eq_getElem hj]
theorem Bt.els_length : ∀ (ws : List Nat) (off : Int), (Bt.els off ws).length ≤ 64 * ws.length
  | [], off => by simp [Bt.els]
  | x :: ws, off => by
    have := Bt.els_length ws (off + 64)
    have h2 : (Bt.of x).length ≤ 64 := by unfold Bt.of; exact Nat.le_trans (List.length_filter_le _ _) (by simp)
    simp only [Bt.els, List.length_append, List.length_map, List.length_cons]
    omega
theorem Bt.map_head (x : Nat) (h0 : x ≠ 0) (hx : x < 18446744073709551616) (o : Int) : ((Bt.of x).map (fun b : Nat => o + (b : Int))).headD 0 = o + (Lib.ctz 64 x : Int) := by
  rw [(Bt.step x h0 hx).1]
  rfl
theorem sorted_last (l : List Nat) (hl : l.Pairwise (· < ·)) (m : Nat) (hm : m ∈ l) (h : ∀ b ∈ l, b ≤ m) : l.getLast? = some m := by
  induction l with
  | nil => cases hm
  | cons x l ih =>
    rw [List.pairwise_cons] at hl
    cases l with
    | nil =>
      have : m = x := by simpa using hm
      subst this; rfl
    | cons y l =>
      rw [List.getLast?_cons_cons]
      apply ih hl.2
      · rcases List.mem_cons.1 hm with e | e
        · have h1 := hl.1 y (by simp)
          have h2 := h y (by simp)
          omega
        · exact e
      · exact fun b hb => h b (List.mem_cons_of_mem _ hb)
theorem Bt.map_last (x : Nat) (h0 : x ≠ 0) (hx : x < 18446744073709551616) (o : Int) : ((Bt.of x).map (fun b : Nat => o + (b : Int))).getLastD 0 = o + ((Lib.bitLen x - 1 : Nat) : Int) := by
  obtain ⟨h1, h2, h3, h4⟩ := Bt.last x h0 hx
  rw [List.getLastD_eq_getLast?, List.getLast?_map, sorted_last _ (Bt.sorted x) _ h3 h4]
  rfl

theorem Dm.cell_at {w : World} {A : Option Addr} {c : Nat} {ws : List Nat} (h : Sl w 99 1 (.slice A ws.length c) ws.length (Dm.u64s ws)) (j : Nat) (hj : j < ws.length) : ∃ b o, A = some ⟨b, o, none⟩ ∧ w.cell? ⟨b, o + j, none⟩ = some (.int .u64 (ws.getD j 0 : Nat)) := by
  obtain ⟨b, o, c', cs, e, _⟩ := h.form (by omega)
  cases e
  exact ⟨b, o, rfl, Dm.cell_u64 h j hj⟩
/-- What holds between two words. -/
structure Dm.Mk (w wr : World) (off : Int) (sv : Value) (l : List Int) : Prop where
  res : wr.heap[w.heap.size]? = some (.cells #[.int .i64 0, .slice none 0 0, .int .i64 0, .int .i64 0, .int .i64 0] 62 (0, 0))
  d : wr.heap[w.heap.size + 1]? = some (.cells #[.int .i64 off, sv, .int .i64 (l.headD 0), .int .i64 (l.getLastD 0), .int .i64 l.length] 62 (0, 0))
  below : Below w.heap.size w wr

theorem Dm.Mk.step3 {w wr : World} {off : Int} {sv : Value} {l : List Int} (h : Dm.Mk w wr off sv l) (l2 : List Int) (a b c : Int) (ha : a = l2.headD 0) (hb : b = l2.getLastD 0) (hc : c = l2.length) :
    Dm.Mk w (((wr.setCell ⟨w.heap.size + 1, 2, none⟩ (.int .i64 a)).setCell ⟨w.heap.size + 1, 3, none⟩ (.int .i64 b)).setCell ⟨w.heap.size + 1, 4, none⟩ (.int .i64 c)).drew off sv l2 := by
  subst ha hb hc
  refine ⟨heap_drew (heap_far (heap_far (heap_far h.res (by simp) _) (by simp) _) (by simp) _), ?_, (below_set (below_set (below_set h.below (by simp) _) (by simp) _) (by simp) _).drew⟩
  exact heap_drew (heap_set (heap_set (heap_set h.d 2 _) 3 _) 4 _)
theorem Dm.Mk.step2 {w wr : World} {off : Int} {sv : Value} {l : List Int} (h : Dm.Mk w wr off sv l) (l2 : List Int) (b c : Int) (ha : l.headD 0 = l2.headD 0) (hb : b = l2.getLastD 0) (hc : c = l2.length) :
    Dm.Mk w ((wr.setCell ⟨w.heap.size + 1, 3, none⟩ (.int .i64 b)).setCell ⟨w.heap.size + 1, 4, none⟩ (.int .i64 c)).drew off sv l2 := by
  subst hb hc
  refine ⟨heap_drew (heap_far (heap_far h.res (by simp) _) (by simp) _), ?_, (below_set (below_set h.below (by simp) _) (by simp) _).drew⟩
  have := heap_drew (heap_set (heap_set h.d 3 (.int .i64 (l2.getLastD 0))) 4 (.int .i64 l2.length))
  rw [ha] at this
  exact this

set_option maxHeartbeats 1000000 in
theorem dom_made (off : Int) (sv : Value) (ws : List Nat) (w : World) (h : Sl w 99 1 sv ws.length (Dm.u64s ws)) (hlt : ∀ x ∈ ws, x < 18446744073709551616) (h1 : -2000000 ≤ off) (h2 : off + 64 * ws.length ≤ 2000000) (hT : Tab w) :
    Calls Tryd.prog 62 #[.int .i64 off, sv] w fun e w' => e = .returned (Dm.val off sv (Bt.els off ws)) ∧ Below w.heap.size w w' := by
  have HS := Lib.hid h
  have HT := Lib.hid hT
  have HL := Lib.hid hlt
  obtain ⟨A, c, rfl⟩ := h.len
  clear h hT hlt
  unfold Dm.val
  go_enter Tryd.func62, Tryd.ntmps62
  go_wp2
  have HI : Hid (Dm.Mk w ((w.alloc (.cells #[.int .i64 0, .slice none 0 0, .int .i64 0, .int .i64 0, .int .i64 0] 62)).alloc (.cells #[.int .i64 off, .slice A ws.length c, .int .i64 0, .int .i64 0, .int .i64 0] 62)) off (.slice A ws.length c) (Bt.els off (ws.take 0))) :=
    ⟨heap_alloc (heap_new _ _) _, by have := heap_new (w.alloc (.cells #[.int .i64 0, .slice none 0 0, .int .i64 0, .int .i64 0, .int .i64 0] 62)) (.cells #[.int .i64 off, .slice A ws.length c, .int .i64 0, .int .i64 0, .int .i64 0] 62); simpa [Bt.els] using this, below_alloc (below_alloc (Below.refl _ _) _) _⟩
  go_loopg [13] ws.length (fun k s13 wr => ∃ j : Nat, s13 = .int .i64 j ∧ j + k = ws.length ∧ Dm.Mk w wr off (.slice A ws.length c) (Bt.els off (ws.take j)))
  case atStart => exact ⟨0, rfl, by omega, HI.out⟩
  case round =>
    obtain ⟨j, rfl, hj, hinv⟩ := hrel
    have H := Lib.hid hinv
    clear hinv
    rcases Nat.eq_zero_or_pos gk with hk | hk
    · obtain rfl : j = ws.length := by omega
      rw [List.take_length] at H
      have r0 := cell_of H.out.res 0
      have r1 := cell_of H.out.res 1
      have r2 := cell_of H.out.res 2
      have r3 := cell_of H.out.res 3
      have r4 := cell_of H.out.res 4
      have f0 := frozen_of H.out.res 0
      have f1 := frozen_of H.out.res 1
      have f2 := frozen_of H.out.res 2
      have f3 := frozen_of H.out.res 3
      have f4 := frozen_of H.out.res 4
      have d0 := cell_of H.out.d 0
      have d1 := cell_of H.out.d 1
      have d2 := cell_of H.out.d 2
      have d3 := cell_of H.out.d 3
      have d4 := cell_of H.out.d 4
      have B := Lib.hid H.out.below
      clear H
      generalize e1 : (Bt.els off ws).headD 0 = lo at *
      generalize e2 : (Bt.els off ws).getLastD 0 = hi at *
      generalize e3 : (Bt.els off ws).length = sz at *
      have E1 := Lib.hid e1
      have E2 := Lib.hid e2
      have E3 := Lib.hid e3
      clear e1 e2 e3
      go_wp2_with fail
      refine bodyPost_ret (v := .agg #[.int .i64 off, .slice A ws.length c, .int .i64 lo, .int .i64 hi, .int .i64 sz]) (by simp [results, Tryd.results62, go_sem, r0, r1, r2, r3, r4]) rfl ⟨by rw [E1.out, E2.out, E3.out], ?_⟩
      exact below_set (below_set (below_set (below_set (below_set B.out (Nat.le_refl _) _) (Nat.le_refl _) _) (Nat.le_refl _) _) (Nat.le_refl _) _) (Nat.le_refl _) _
    · have hjn : j < ws.length := by omega
      have hstep := Bt.els_take ws off j hjn
      have hcell := Dm.cell_at (HS.out.call H.out.below) j hjn
      obtain ⟨b, o, rfl, hcell⟩ := hcell
      have hxl := HL.out (ws.getD j 0) (by rw [List.getD_eq_getElem?_getD, List.getElem?_eq_getElem hjn]; simp)
      have d2 := cell_of H.out.d 2
      have d3 := cell_of H.out.d 3
      have d4 := cell_of H.out.d 4
      have f2 := frozen_of H.out.d 2
      have f3 := frozen_of H.out.d 3
      have f4 := frozen_of H.out.d 4
      have TT := Lib.hid (HT.out.call H.out.below)
      have hsz : (Bt.els off (ws.take j)).length ≤ 4000000 := by
        have := Bt.els_length (ws.take j) off
        rw [List.length_take] at this
        omega
      generalize Bt.els off (ws.take j) = l at *
      generalize ws.getD j 0 = x at *
      have ST := Lib.hid hstep
      clear hstep
      rcases Nat.eq_zero_or_pos x with h0 | h0
      · subst h0
        clear d2 d3 d4 f2 f3 f4
        go_wp2_with fail
        go_roundg (gk - 1)
        case measure => omega
        case rel => exact ⟨j + 1, by go_num, by omega, by rw [ST.out]; simpa [Bt.zero] using H.out⟩
      · have h0' : x ≠ 0 := by omega
        have hbx := Bt.last x h0' hxl
        have hct := (Bt.step x h0' hxl).2
        obtain ⟨hb1, hb2, hb3, -⟩ := hbx
        have hb0 : ((x : Int) == 0) = false := by simp; omega
        have hpl : (Bt.of x).length ≤ 64 := by unfold Bt.of; exact Nat.le_trans (List.length_filter_le _ _) (by simp)
        have hne : (Bt.of x).map (fun b : Nat => off + 64 * j + (b : Int)) ≠ [] := by
          intro e
          rw [List.map_eq_nil_iff] at e
          rw [e] at hb3; cases hb3
        have M1 := Lib.hid (Bt.map_head x h0' hxl (off + 64 * j))
        have M2 := Lib.hid (Bt.map_last x h0' hxl (off + 64 * j))
        have NE := Lib.hid hne
        clear hb3 hne
        rcases Nat.eq_zero_or_pos l.length with hl | hl
        · obtain rfl : l = [] := List.length_eq_zero_iff.1 hl
          simp only [List.headD_nil, List.getLastD_nil, List.length_nil] at *
          have hw : wrap64 ((Bt.of x).length : Int) = ((Bt.of x).length : Int) := by unfold wrap64; omega
          go_wp2_with (first
            | (go_at_call 51; refine (tz64 x _ h0' hxl TT.out).mono ?_; rintro e w3 ⟨rfl, rfl⟩)
            | (go_at_call 76; refine (lz64 x _ hxl).mono ?_; rintro e w3 ⟨rfl, rfl⟩))
          go_region_law (first | (go_simp; go_at_call 77; refine (ones64 x _ hxl).mono ?_; rintro e w3 ⟨rfl, rfl⟩))
          all_goals
            go_wp2_with fail
            go_roundg (gk - 1)
            case measure => omega
            case rel =>
              refine ⟨j + 1, by go_num, by omega, H.out.step3 _ _ _ _ ?_ ?_ ?_⟩
              · rw [ST.out, List.nil_append, M1.out]
              · rw [ST.out, List.nil_append, M2.out]; omega
              · rw [ST.out, List.nil_append, List.length_map]
        · have hl0 : ((l.length : Int) == 0) = false := by rw [beq_eq_false_iff_ne]; omega
          have hln : l ≠ [] := fun e => by subst e; simp at hl
          have hw : wrap64 ((l.length : Int) + ((Bt.of x).length : Int)) = (l.length : Int) + ((Bt.of x).length : Int) := by unfold wrap64; omega
          have LN := Lib.hid hln
          clear hln
          generalize hlo : l.headD 0 = lo at *
          generalize l.getLastD 0 = hi at *
          have HLO := Lib.hid hlo
          clear hlo
          go_wp2_with (first
            | (go_at_call 76; refine (lz64 x _ hxl).mono ?_; rintro e w3 ⟨rfl, rfl⟩))
          go_region_law (first | (go_simp; go_at_call 77; refine (ones64 x _ hxl).mono ?_; rintro e w3 ⟨rfl, rfl⟩))
          all_goals
            go_wp2_with fail
            go_roundg (gk - 1)
            case measure => omega
            case rel =>
              refine ⟨j + 1, by go_num, by omega, H.out.step2 _ _ _ ?_ ?_ ?_⟩
              · rw [ST.out, headD_append, if_neg LN.out]
              · rw [ST.out, getLastD_append _ _ NE.out, M2.out]; omega
              · rw [ST.out, List.length_append, List.length_map]; simp
end Go.Proofs.YtgckohmppefibaaDoor
/- The contract of less: what is left of a domain when only some numbers stay. -/
namespace Go.Proofs.YtgckohmppefibaaDoor
open Go.RowKit
attribute [local go_sem high] go_max_int go_min_int
set_option linter.unusedSimpArgs false
set_option linter.unusedVariables false

/-- A cell of a slice is written. -/
theorem Sl.set {w : World} {e b o n c : Nat} {xs : List Value} (h : Sl w e 1 (.slice (some ⟨b, o, none⟩) n c) n xs) (i : Nat) (hi : i < n) (u : Value) : Sl (w.setCell ⟨b, o + i, none⟩ u) e 1 (.slice (some ⟨b, o, none⟩) n c) n (xs.set i u) := by
  obtain ⟨h0, ⟨h1, _⟩ | ⟨b', o', c', cs, h1, hc, h3, h4, h5, h6⟩⟩ := h
  · cases h1
  · cases h1
    refine ⟨by simpa using h0, .inr ⟨b, o, c, cs.setIfInBounds (o + i) u, rfl, heap_set hc _ _, h3, h4, by simpa using h5, fun j hj => ?_⟩⟩
    rw [Array.getElem?_setIfInBounds, List.getElem?_set]
    by_cases e : i = j
    · subst e
      rw [if_pos rfl, if_pos rfl, if_pos (by omega), if_pos (by omega)]
    · rw [if_neg (by omega), if_neg e]
      exact h6 j hj
theorem infoU64 : (Tryd.prog.info? 99).map (fun i => (i.zero, i.size, i.bytes)) = some (some (.int .u64 0), 1, 8) := by kernel_rfl
/-- A copy of words: in memory of its own. -/
def Dm.Cl (ws : List Nat) (w : World) (e : Ending) (w' : World) : Prop :=
  ∃ v', e = .returned v' ∧ Sl w' 99 1 v' ws.length (Dm.u64s ws) ∧ (∀ b, v'.ownBlock = some b → w.heap.size ≤ b) ∧ Below w.heap.size w w'
theorem dom_clone (sv : Value) (ws : List Nat) (w : World) (h : Sl w 99 1 sv ws.length (Dm.u64s ws)) (hn : ws.length ≤ 2000000) :
    Calls Tryd.prog 87 #[sv] w (Dm.Cl ws w) := by
  obtain ⟨A, c, rfl⟩ := h.len
  obtain ⟨h0, h1⟩ := h
  rcases h1 with ⟨e, hz⟩ | ⟨b, o, c', cs, e, hc, h3, h4, h5, h6⟩
  · have : ws = [] := List.length_eq_zero_iff.1 hz
    subst this
    obtain ⟨rfl, _, rfl⟩ : A = none ∧ True ∧ c = 0 := by simpa using e
    refine (Tryd.slices_Clone_nil 0 0 w).mono ?_
    rintro e w' ⟨rfl, rfl⟩
    exact ⟨_, rfl, Sl.nil _ _ _, (fun b hb => by cases hb), Below.refl _ _⟩
  · cases e
    obtain ⟨i0, hi, hz0, hz1, hz2⟩ := info_parts infoU64
    have hs : Sl w 99 1 (.slice (some ⟨b, o, none⟩) ws.length c) ws.length (Dm.u64s ws) := ⟨h0, .inr ⟨b, o, c, cs, rfl, hc, h3, h4, h5, h6⟩⟩
    refine (Tryd.slices_Clone i0 (.int .u64 0) 1 8 hi hz0 hz1 hz2 (by simp [Value.cells]) (by decide) Tryd.sizeOf99 b o ws.length c (Dm.u64s ws) w (by simp [Dm.u64s]) (by unfold maxLen; omega) (by omega) ?_ ?_).mono ?_
    · intro j u hu
      have hj : j < ws.length := by
        have := (List.getElem?_eq_some_iff.1 hu).1
        simpa [Dm.u64s] using this
      rw [hs.cell j (by omega)]
      exact hu
    · intro u hu
      obtain ⟨x, _, rfl⟩ := List.mem_map.1 hu
      rfl
    · rintro e w' ⟨v', rfl, hown, hne, hb⟩
      refine ⟨v', rfl, Sl.of_own hown, fun b hb => ?_, hb⟩
      obtain ⟨_, ⟨rfl, _⟩ | ⟨g, cap, cur, rfl, hg, _⟩⟩ := hown
      · exact absurd rfl hne
      · cases hb; exact hg

theorem Sl.lt_of {w w' : World} {e size b o n c : Nat} {xs ys : List Value} (_ : Sl w' e size (.slice (some ⟨b, o, none⟩) n c) n ys) (h : Sl w e size (.slice (some ⟨b, o, none⟩) n c) n xs) : b < w.heap.size := Sl.lt h rfl
/-- What became of a domain. -/
def Dm.chg (l l' : List Int) : Int := if l'.length = l.length then 0 else if l'.length = 0 then 4 else if l'.length = 1 then 3 else if l'.headD 0 ≠ l.headD 0 ∨ l'.getLastD 0 ≠ l.getLastD 0 then 2 else 1
/-- l' is left, and what became of it is told. -/
def Dm.wb : Value → Option Nat
  | .agg a => (a.getD 1 undef).ownBlock
  | _ => none
def Dm.Left (d : Value) (l l' : List Int) (w : World) (e : Ending) (w' : World) : Prop :=
  ∃ v', e = .returned (.tuple #[v', .int .i64 (Dm.chg l l')]) ∧ Dm.Rep w' v' l' ∧ Below w.heap.size w w' ∧ ∀ b, Dm.wb v' = some b → Dm.wb d = some b ∨ w.heap.size ≤ b
/-- What a function leaves of a word. -/
def Dm.Kp (off : Int) (ws : List Nat) (p : Int → Bool) (i y : Nat) : Prop :=
  y < 18446744073709551616 ∧ ∀ b : Nat, b < 64 → y.testBit b = ((ws.getD i 0).testBit b && p (off + 64 * i + b))
/-- The function value's contract: it gives each word a word by which just p's numbers stay. -/
def Dm.Gives (w : World) (off : Int) (ws : List Nat) (p : Int → Bool) (g c : Nat) : Prop :=
  ∀ W, Below w.heap.size w W → ∀ i : Nat, i < ws.length → Calls Tryd.prog g #[.int .i64 (off + 64 * i), .int .u64 (ws.getD i 0 : Nat), .pointer (some ⟨c, 0, none⟩)] W fun e w' =>
    ∃ k : Nat, e = .returned (.int .u64 (k : Int)) ∧ k < 18446744073709551616 ∧ (∀ b : Nat, b < 64 → off + 64 * i + b ∈ Bt.els off ws → k.testBit b = p (off + 64 * i + b)) ∧ Below W.heap.size W w'
/-- What holds between two words. -/
structure Dm.Le (w wr : World) (off : Int) (sv v' : Value) (lo hi : Int) (sz : Nat) (ws cur : List Nat) (p : Int → Bool) (j : Nat) : Prop where
  box : wr.heap[w.heap.size]? = some (.cells #[.int .i64 off, sv, .int .i64 lo, .int .i64 hi, .int .i64 sz] 62 (0, 0))
  res : wr.heap[w.heap.size + 1]? = some (.cells #[.int .i64 0, .slice none 0 0, .int .i64 0, .int .i64 0, .int .i64 0] 62 (0, 0))
  len : cur.length = ws.length
  sl : Sl wr 99 1 v' ws.length (Dm.u64s cur)
  own : ∀ b, v'.ownBlock = some b → w.heap.size + 2 ≤ b
  did : ∀ i, i < j → Dm.Kp off ws p i (cur.getD i 0)
  todo : ∀ i, j ≤ i → cur.getD i 0 = ws.getD i 0
  below : Below w.heap.size w wr
theorem Dm.left_new {w wr wf : World} {d : Value} {off : Int} {sv2 : Value} {cur : List Nat} {l l' : List Int} {ch lo2 hi2 : Int} {sz2 : Nat} (hr : Dm.RepX wr off sv2 cur l') (own : ∀ b, sv2.ownBlock = some b → w.heap.size + 2 ≤ b) (hb : Below w.heap.size w wr) (e1 : l'.headD 0 = lo2) (e2 : l'.getLastD 0 = hi2) (e3 : l'.length = sz2)
    (hf : Fr (fun k => k = w.heap.size + 1) wr wf) (hc : ch = Dm.chg l l') :
    Dm.Left d l l' w (.returned (.tuple #[.agg #[.int .i64 off, sv2, .int .i64 lo2, .int .i64 hi2, .int .i64 sz2], .int .i64 ch])) wf := by
  subst e1 e2 e3 hc
  exact ⟨_, rfl, ⟨off, sv2, cur, rfl, hr.kept hf (fun b hb e => by have := own b hb; omega)⟩, Fr.below hb hf (fun i e => by omega), fun b hb => Or.inr (Nat.le_trans (Nat.le_add_right _ 2) (own b hb))⟩
theorem Dm.kp_els {off : Int} {ws cur : List Nat} {p : Int → Bool} (hl : cur.length = ws.length) (h : ∀ i, i < ws.length → Dm.Kp off ws p i (cur.getD i 0)) : Bt.els off cur = (Bt.els off ws).filter p := by
  apply int_ext _ _ (Bt.els_sorted _ _) (List.Pairwise.filter _ (Bt.els_sorted _ _))
  intro v
  rw [List.mem_filter, Bt.els_mem, Bt.els_mem]
  constructor
  · rintro ⟨i, b, hi, hb, ht, rfl⟩
    rw [hl] at hi
    have := (h i hi).2 b hb
    rw [ht] at this
    have h2 := Bool.and_eq_true _ _ ▸ this.symm
    exact ⟨⟨i, b, hi, hb, h2.1, rfl⟩, h2.2⟩
  · rintro ⟨⟨i, b, hi, hb, ht, rfl⟩, hp⟩
    refine ⟨i, b, by omega, hb, ?_, rfl⟩
    rw [(h i hi).2 b hb, ht, hp]
    rfl

theorem Dm.Le.step {w wr w3 : World} {off : Int} {sv : Value} {b o c2 : Nat} {lo hi : Int} {sz : Nat} {ws cur : List Nat} {p : Int → Bool} {j x k : Nat} (h : Dm.Le w wr off sv (.slice (some ⟨b, o, none⟩) ws.length c2) lo hi sz ws cur p j) (hj : j < ws.length) (hb3 : Below wr.heap.size wr w3)
    (hx : ws.getD j 0 = x) (hxl : x < 18446744073709551616) (hk1 : k < 18446744073709551616) (hk : ∀ b : Nat, b < 64 → off + 64 * j + b ∈ Bt.els off ws → k.testBit b = p (off + 64 * j + b)) :
    Dm.Le w (w3.setCell ⟨b, o + j, none⟩ (.int .u64 ((x &&& k : Nat) : Int))) off sv (.slice (some ⟨b, o, none⟩) ws.length c2) lo hi sz ws (cur.set j (x &&& k)) p (j + 1) := by
  have hown := h.own b rfl
  refine ⟨heap_far (heap_call h.box hb3) (by simp; omega) _, heap_far (heap_call h.res hb3) (by simp; omega) _, by rw [List.length_set]; exact h.len, ?_, h.own, ?_, ?_, below_set (below_call h.below hb3) (by simp; omega) _⟩
  · have := (h.sl.call hb3).set j hj (.int .u64 ((x &&& k : Nat) : Int))
    unfold Dm.u64s at this ⊢
    rwa [← List.map_set] at this
  · intro i hi
    rw [List.getD_eq_getElem?_getD, List.getElem?_set]
    by_cases e : j = i
    · subst e
      rw [if_pos rfl, if_pos (by rw [h.len]; exact hj)]
      refine ⟨Nat.lt_of_le_of_lt Nat.and_le_left hxl, fun b hb => ?_⟩
      simp only [Option.getD_some]
      rw [Nat.testBit_and, hx]
      by_cases ht : x.testBit b = true
      · rw [ht, hk b hb]
        refine (Bt.els_mem _ _ _).2 ⟨j, b, hj, hb, by rw [hx]; exact ht, rfl⟩
      · have : x.testBit b = false := by simpa using ht
        rw [this]; rfl
    · rw [if_neg e, ← List.getD_eq_getElem?_getD]
      exact h.did i (by omega)
  · intro i hi
    rw [List.getD_eq_getElem?_getD, List.getElem?_set, if_neg (by omega), ← List.getD_eq_getElem?_getD]
    exact h.todo i (by omega)

set_option maxHeartbeats 1000000 in
theorem dom_less_loop (off : Int) (sv : Value) (lo hi : Int) (sz : Nat) (ws : List Nat) (p : Int → Bool) (g c : Nat) (l : List Int) (w : World) (eg : ∀ args w, (callFunc g args).run Tryd.prog w = .ok (.enter g args) w)
    (hx : Dm.RepX w off sv ws l) (hlo : lo = l.headD 0) (hhi : hi = l.getLastD 0) (hsz : sz = l.length) (hk : Dm.Gives w off ws p g c) (hT : Tab w) :
    Calls Tryd.prog 78 #[.agg #[.int .i64 off, sv, .int .i64 lo, .int .i64 hi, .int .i64 sz], .func (.func g) #[] #[.pointer (some ⟨c, 0, none⟩)]] w (Dm.Left (.agg #[.int .i64 off, sv, .int .i64 lo, .int .i64 hi, .int .i64 sz]) l (l.filter p) w) := by
  have HX := Lib.hid hx
  have HK := Lib.hid hk
  have HT := Lib.hid hT
  have E1 := Lib.hid hlo
  have E2 := Lib.hid hhi
  have E3 := Lib.hid hsz
  obtain ⟨A, c1, rfl⟩ := hx.sl.len
  have b1 := hx.lo
  have b2 := hx.hi
  clear hx hk hT hlo hhi hsz
  go_enter Tryd.func78, Tryd.ntmps78
  go_wp2_with fail
  refine (dom_clone (.slice A ws.length c1) ws _ (HX.out.sl.call (below_alloc (below_alloc (Below.refl _ _) _) _)) (by omega)).mono ?_
  rintro e w2 ⟨v', rfl, hs2, ho2, hb2⟩
  obtain ⟨A2, c2, rfl⟩ := hs2.len
  have HI : Hid (Dm.Le w w2 off (.slice A ws.length c1) (.slice A2 ws.length c2) lo hi sz ws ws p 0) :=
    ⟨heap_call (heap_alloc (heap_new _ _) _) hb2, heap_call (by have := heap_new (w.alloc (.cells #[.int .i64 off, .slice A ws.length c1, .int .i64 lo, .int .i64 hi, .int .i64 sz] 62)) (.cells #[.int .i64 0, .slice none 0 0, .int .i64 0, .int .i64 0, .int .i64 0] 62); simpa using this) hb2, rfl, hs2, (fun b hb => by have := ho2 b hb; simp at this; omega), (fun i hi => by omega), (fun i hi => rfl), below_call (below_alloc (below_alloc (Below.refl _ _) _) _) hb2⟩
  clear hs2 ho2 hb2
  go_wp2_with fail
  go_loopg [15] ws.length (fun k s15 wr => ∃ (j : Nat) (cur : List Nat), s15 = .int .i64 j ∧ j + k = ws.length ∧ Dm.Le w wr off (.slice A ws.length c1) (.slice A2 ws.length c2) lo hi sz ws cur p j)
  case atStart => exact ⟨0, ws, rfl, by omega, HI.out⟩
  case round =>
    obtain ⟨j, cur, rfl, hj, hinv⟩ := hrel
    have H := Lib.hid hinv
    clear hinv
    rcases Nat.eq_zero_or_pos gk with hk | hk
    · obtain rfl : j = ws.length := by omega
      have hcl := H.out.len
      have hkp : ∀ i, i < ws.length → Dm.Kp off ws p i (cur.getD i 0) := fun i hi => H.out.did i hi
      have hsl : Sl wr 99 1 (.slice A2 cur.length c2) cur.length (Dm.u64s cur) := by rw [hcl]; exact H.out.sl
      have hlt2 : ∀ x ∈ cur, x < 18446744073709551616 := fun x hx => by
        obtain ⟨i, hi, rfl⟩ := List.mem_iff_getElem.1 hx
        have := (hkp i (by omega)).1
        rwa [List.getD_eq_getElem?_getD, List.getElem?_eq_getElem hi] at this
      have hels := Dm.kp_els hcl hkp
      rw [← HX.out.els] at hels
      have hrep : Dm.RepX wr off (.slice A2 cur.length c2) cur (l.filter p) := ⟨hsl, hlt2, HX.out.mod, b1, by rw [hcl]; exact b2, hels.symm, fun u hu => HX.out.inr u (List.mem_filter.1 hu).1⟩
      obtain ⟨cur2, hrep, hcl2⟩ : ∃ cur2 : List Nat, Dm.RepX wr off (.slice A2 cur2.length c2) cur2 (l.filter p) ∧ cur2.length = ws.length := ⟨cur, hrep, hcl⟩
      rw [hcl2] at hrep
      have HR := Lib.hid hrep
      have HM := Lib.hid (dom_made off (.slice A2 cur.length c2) cur wr hsl hlt2 (by omega) (by rw [hcl]; omega) (HT.out.call H.out.below))
      rw [hels] at HM
      clear hkp hsl hlt2 hels hrep HI
      rw [hcl] at HM
      clear hcl hcl2
      have y0 := cell_of H.out.box 0
      go_wp2_with fail
      refine HM.out.mono ?_
      rintro e w4 ⟨rfl, hb4⟩
      unfold Dm.val
      have HB4 := Lib.hid hb4
      generalize e1 : (l.filter p).headD 0 = lo2 at *
      generalize e2 : (l.filter p).getLastD 0 = hi2 at *
      generalize e3 : (l.filter p).length = sz2 at *
      have F1 := Lib.hid e1
      have F2 := Lib.hid e2
      have F3 := Lib.hid e3
      clear e1 e2 e3 hb4
      have kb := heap_alloc (heap_call H.out.box HB4.out) (.cells #[.int .i64 off, .slice A2 ws.length c2, .int .i64 lo2, .int .i64 hi2, .int .i64 sz2] 62)
      have rb := heap_alloc (heap_call H.out.res HB4.out) (.cells #[.int .i64 off, .slice A2 ws.length c2, .int .i64 lo2, .int .i64 hi2, .int .i64 sz2] 62)
      have k0 := cell_of kb 0
      have k1 := cell_of kb 1
      have k2 := cell_of kb 2
      have k3 := cell_of kb 3
      have k4 := cell_of kb 4
      have r0 := cell_of rb 0
      have r1 := cell_of rb 1
      have r2 := cell_of rb 2
      have r3 := cell_of rb 3
      have r4 := cell_of rb 4
      have f0 := frozen_of rb 0
      have f1 := frozen_of rb 1
      have f2 := frozen_of rb 2
      have f3 := frozen_of rb 3
      have f4 := frozen_of rb 4
      have RB := Lib.hid rb
      clear kb rb
      by_cases q1 : sz2 = sz
      · have d1 : ((sz2 : Int) == (sz : Int)) = true := by rw [beq_iff_eq]; omega
        have Q1 := Lib.hid q1
        clear q1
        go_wp2_with fail
        have hll : l.filter p = l := List.filter_eq_self.2 (List.length_filter_eq_length_iff.1 (by rw [F3.out, ← E3.out]; exact Q1.out))
        refine bodyPost_ret (v := .tuple #[.agg #[.int .i64 off, .slice A ws.length c1, .int .i64 lo, .int .i64 hi, .int .i64 sz], .int .i64 0]) (by simp [results, Tryd.results78, go_sem, r0, r1, r2, r3, r4]) rfl ?_
        rw [hll]
        have hbf := (below_set (below_set (below_set (below_set (below_set (below_alloc (below_call H.out.below HB4.out) (.cells #[.int .i64 off, .slice A2 ws.length c2, .int .i64 lo2, .int .i64 hi2, .int .i64 sz2] 62)) (p := ⟨w.heap.size + 1, 0, none⟩) (Nat.le_succ _) (.int .i64 off)) (p := ⟨w.heap.size + 1, 1, none⟩) (Nat.le_succ _) (.slice A ws.length c1)) (p := ⟨w.heap.size + 1, 2, none⟩) (Nat.le_succ _) (.int .i64 lo)) (p := ⟨w.heap.size + 1, 3, none⟩) (Nat.le_succ _) (.int .i64 hi)) (p := ⟨w.heap.size + 1, 4, none⟩) (Nat.le_succ _) (.int .i64 sz))
        exact ⟨_, by rw [show Dm.chg l l = 0 from by unfold Dm.chg; rw [if_pos rfl]], ⟨off, .slice A ws.length c1, ws, by rw [E1.out, E2.out, E3.out]; rfl, HX.out.call hbf⟩, hbf, fun b hb => Or.inl hb⟩
      · have d1 : ((sz2 : Int) == (sz : Int)) = false := by rw [beq_eq_false_iff_ne]; omega
        by_cases q2 : sz2 = 0
        · have d2 : ((sz2 : Int) == 0) = true := by rw [beq_iff_eq]; omega
          have Q1 := Lib.hid q1
          have Q2 := Lib.hid q2
          clear q1 q2
          go_wp2_with fail
          have hll : l.filter p = [] := List.length_eq_zero_iff.1 (by rw [F3.out]; exact Q2.out)
          refine bodyPost_ret (v := .tuple #[.agg #[.int .i64 0, .slice none 0 0, .int .i64 0, .int .i64 0, .int .i64 0], .int .i64 4]) (by simp [results, Tryd.results78, go_sem, r0, r1, r2, r3, r4]) rfl ?_
          refine ⟨_, ?_, by rw [hll]; exact Dm.none_ _, below_set (below_set (below_set (below_set (below_set (below_alloc (below_call H.out.below HB4.out) _) (Nat.le_succ _) _) (Nat.le_succ _) _) (Nat.le_succ _) _) (Nat.le_succ _) _) (Nat.le_succ _) _, fun b hb => by cases hb⟩
          rw [show Dm.chg l (l.filter p) = 4 from by unfold Dm.chg; rw [F3.out, ← E3.out, if_neg Q1.out, if_pos Q2.out]]
        · have d2 : ((sz2 : Int) == 0) = false := by rw [beq_eq_false_iff_ne]; omega
          by_cases q3 : sz2 = 1
          · have d3 : ((sz2 : Int) == 1) = true := by rw [beq_iff_eq]; omega
            have Q1 := Lib.hid q1
            have Q2 := Lib.hid q2
            have Q3 := Lib.hid q3
            clear q1 q2 q3
            go_wp2_with fail
            refine bodyPost_ret (v := .tuple #[.agg #[.int .i64 off, .slice A2 ws.length c2, .int .i64 lo2, .int .i64 hi2, .int .i64 sz2], .int .i64 3]) (by simp [results, Tryd.results78, go_sem, r0, r1, r2, r3, r4]) rfl ?_
            refine Dm.left_new HR.out H.out.own H.out.below F1.out F2.out F3.out ?_ ?_
            · refine Fr.set (Fr.set (Fr.set (Fr.set (Fr.set ?_ ?_ _) ?_ _) ?_ _) ?_ _) ?_ _
              · exact (Fr.of_below HB4.out).alloc _
              all_goals exact fun _ => rfl
            · unfold Dm.chg
              rw [F1.out, F2.out, F3.out, ← E1.out, ← E2.out, ← E3.out]
              rw [if_neg Q1.out, if_neg Q2.out, if_pos Q3.out]
          · have d3 : ((sz2 : Int) == 1) = false := by rw [beq_eq_false_iff_ne]; omega
            have Q1 := Lib.hid q1
            have Q2 := Lib.hid q2
            have Q3 := Lib.hid q3
            clear q1 q2 q3
            by_cases q4 : lo2 = lo
            · subst q4
              by_cases q5 : hi2 = hi
              · subst q5
                go_wp2_with fail
                refine bodyPost_ret (v := .tuple #[.agg #[.int .i64 off, .slice A2 ws.length c2, .int .i64 lo2, .int .i64 hi2, .int .i64 sz2], .int .i64 1]) (by simp [results, Tryd.results78, go_sem, r0, r1, r2, r3, r4]) rfl ?_
                refine Dm.left_new HR.out H.out.own H.out.below F1.out F2.out F3.out ?_ ?_
                · refine Fr.set (Fr.set (Fr.set (Fr.set (Fr.set ?_ ?_ _) ?_ _) ?_ _) ?_ _) ?_ _
                  · exact (Fr.of_below HB4.out).alloc _
                  all_goals exact fun _ => rfl
                · unfold Dm.chg
                  rw [F1.out, F2.out, F3.out, ← E1.out, ← E2.out, ← E3.out]
                  rw [if_neg Q1.out, if_neg Q2.out, if_neg Q3.out, if_neg (by simp)]
              · have d5 : (hi2 == hi) = false := by rw [beq_eq_false_iff_ne]; exact q5
                have Q5 := Lib.hid q5
                clear q5
                go_wp2_with fail
                refine bodyPost_ret (v := .tuple #[.agg #[.int .i64 off, .slice A2 ws.length c2, .int .i64 lo2, .int .i64 hi2, .int .i64 sz2], .int .i64 2]) (by simp [results, Tryd.results78, go_sem, r0, r1, r2, r3, r4]) rfl ?_
                refine Dm.left_new HR.out H.out.own H.out.below F1.out F2.out F3.out ?_ ?_
                · refine Fr.set (Fr.set (Fr.set (Fr.set (Fr.set ?_ ?_ _) ?_ _) ?_ _) ?_ _) ?_ _
                  · exact (Fr.of_below HB4.out).alloc _
                  all_goals exact fun _ => rfl
                · unfold Dm.chg
                  rw [F1.out, F2.out, F3.out, ← E1.out, ← E2.out, ← E3.out]
                  rw [if_neg Q1.out, if_neg Q2.out, if_neg Q3.out, if_pos (Or.inr Q5.out)]
            · have d4 : (lo2 == lo) = false := by rw [beq_eq_false_iff_ne]; exact q4
              have Q4 := Lib.hid q4
              clear q4
              go_wp2_with fail
              refine bodyPost_ret (v := .tuple #[.agg #[.int .i64 off, .slice A2 ws.length c2, .int .i64 lo2, .int .i64 hi2, .int .i64 sz2], .int .i64 2]) (by simp [results, Tryd.results78, go_sem, r0, r1, r2, r3, r4]) rfl ?_
              refine Dm.left_new HR.out H.out.own H.out.below F1.out F2.out F3.out ?_ ?_
              · refine Fr.set (Fr.set (Fr.set (Fr.set (Fr.set ?_ ?_ _) ?_ _) ?_ _) ?_ _) ?_ _
                · exact (Fr.of_below HB4.out).alloc _
                all_goals exact fun _ => rfl
              · unfold Dm.chg
                rw [F1.out, F2.out, F3.out, ← E1.out, ← E2.out, ← E3.out]
                rw [if_neg Q1.out, if_neg Q2.out, if_neg Q3.out, if_pos (Or.inl Q4.out)]
    · have hjn : j < ws.length := by omega
      obtain ⟨b, o, e, hcell⟩ := Dm.cell_at (show Sl wr _ 1 (.slice A2 cur.length c2) cur.length (Dm.u64s cur) from by rw [H.out.len]; exact H.out.sl) j (by rw [H.out.len]; omega)
      subst e
      have ht := H.out.todo j (Nat.le_refl _)
      rw [ht] at hcell
      have hxl := HX.out.lt (ws.getD j 0) (by rw [List.getD_eq_getElem?_getD, List.getElem?_eq_getElem hjn]; simp)
      have x0 := cell_of H.out.box 0
      have hk2 := HK.out wr H.out.below j hjn
      generalize ex : ws.getD j 0 = x at *
      have EX := Lib.hid ex
      have HK2 := Lib.hid hk2
      clear ex hk2 ht HI
      go_wp2_with fail
      refine HK2.out.mono ?_
      rintro e w3 ⟨k, rfl, hk1, hk3, hb3⟩
      have HB3 := Lib.hid hb3
      have HS3 := Lib.hid (H.out.sl.call hb3)
      have g1 := (bcell hb3).1 _ (o + j) (HS3.out.lt_of H.out.sl)
      rw [hcell] at g1
      have g2 := HS3.out.frozen (o + j)
      have g3 : bits .and .u64 (x : Int) (k : Int) = ((x &&& k : Nat) : Int) := bits_and_u64_nat x k hxl hk1
      have K3 := Lib.hid hk3
      clear hk3 hb3
      go_wp2_with fail
      go_roundg (gk - 1)
      case measure => omega
      case rel => exact ⟨j + 1, cur.set j (x &&& k), by go_num, by omega, H.out.step hjn HB3.out EX.out hxl hk1 K3.out⟩
end Go.Proofs.YtgckohmppefibaaDoor
