import Derived.Test.YtgckohmppefibaaDoorDomE
import Derived.Laws.Bits64
import Derived.Laws.MakeOwn
/- The contracts of And and Minus. -/
namespace Go.Proofs.YtgckohmppefibaaDoor
open Go.RowKit
attribute [local go_sem high] go_max_int go_min_int
set_option linter.unusedSimpArgs false
set_option linter.unusedVariables false

/-- The result's cell written. -/
theorem Dm.left_put {w w2 wf : World} {d : Value} {B : Nat} {off : Int} {sv : Value} {ws : List Nat} {l l' : List Int} {lo hi : Int} {sz : Nat} (hx : Dm.RepX w2 off sv ws l') (e1 : l'.headD 0 = lo) (e2 : l'.getLastD 0 = hi) (e3 : l'.length = sz)
    (hf : Fr (fun k => k = B) w2 wf) (hb : Below w.heap.size w w2) (hn : ∀ b, sv.ownBlock = some b → (Dm.wb d = some b ∧ b < w.heap.size) ∨ B < b) (hB : w.heap.size ≤ B) :
    Dm.Left d l l' w (.returned (.tuple #[.agg #[.int .i64 off, sv, .int .i64 lo, .int .i64 hi, .int .i64 sz], .int .i64 (Dm.chg l l')])) wf := by
  subst e1 e2 e3
  exact ⟨_, rfl, ⟨off, sv, ws, rfl, hx.kept hf (fun b hb e => by rcases hn b hb with h | h <;> omega)⟩, Fr.below hb hf (fun i e => by omega), fun b hb => (hn b hb).imp (fun h => h.1) (fun h => by omega)⟩

set_option maxHeartbeats 400000 in
theorem dom_and_1 (v : Value) (m : List Int) (p : Int) (x : Nat) (c : Nat) (off lo hi : Int) (sv : Value) (sz : Nat) (w : World) (hv : v = .agg #[.int .i64 off, sv, .int .i64 lo, .int .i64 hi, .int .i64 sz])
    (hc : w.heap[c]? = some (.cells #[.int .i64 off, sv, .int .i64 lo, .int .i64 hi, .int .i64 sz] 62 (0, 0))) (h : Dm.Rep w v m) (hp : p % 64 = 0) (h1 : -2000000 ≤ p) (h2 : p ≤ 2000000) :
    Calls Tryd.prog 79 #[.int .i64 p, .int .u64 (x : Int), .pointer (some ⟨c, 0, none⟩)] w (Dm.Wd m p w) := by
  have c0 := cell_of hc 0
  have c1 := cell_of hc 1
  have c2 := cell_of hc 2
  have c3 := cell_of hc 3
  have c4 := cell_of hc 4
  subst hv
  have H := Lib.hid (dom_word _ m p w h hp h1 h2)
  clear h hc
  go_enter Tryd.func79, Tryd.ntmps79
  go_wp2_with fail
  refine H.out.mono ?_
  rintro e w2 ⟨y, rfl, hy⟩
  go_wp2_with fail
  go_ret
  exact ⟨y, rfl, hy⟩

theorem enters_and_1 : ∀ args w, (callFunc 79 args).run Tryd.prog w = .ok (.enter 79 args) w := enters_of Tryd.func79 (by kernel_rfl) rfl

set_option maxHeartbeats 1000000 in
theorem dom_and (d e : Value) (l m : List Int) (w : World) (hd : Dm.Rep w d l) (he : Dm.Rep w e m) (hT : Tab w) :
    Calls Tryd.prog 63 #[d, e] w (Dm.Left d l (l.filter fun u => decide (u ∈ m)) w) := by
  obtain ⟨off, sv, ws, rfl, hx⟩ := hd
  obtain ⟨off2, sv2, ws2, rfl, hx2⟩ := he
  have HE : Hid (Dm.Rep w (Dm.val off2 sv2 m) m) := ⟨off2, sv2, ws2, rfl, hx2⟩
  unfold Dm.val at *
  generalize e1 : l.headD 0 = lo at *
  generalize e2 : l.getLastD 0 = hi at *
  generalize e3 : l.length = sz at *
  generalize m.headD 0 = lo2 at *
  generalize m.getLastD 0 = hi2 at *
  generalize m.length = sz2 at *
  have HX := Lib.hid hx
  have HT := Lib.hid hT
  have hb := below_alloc (below_alloc (below_alloc (Below.refl _ w) (.cells #[.int .i64 off, sv, .int .i64 lo, .int .i64 hi, .int .i64 sz] 62)) (.cells #[.int .i64 off2, sv2, .int .i64 lo2, .int .i64 hi2, .int .i64 sz2] 62)) (.cells #[.int .i64 0, .slice none 0 0, .int .i64 0, .int .i64 0, .int .i64 0] 62)
  have hc := heap_alloc (heap_new (w.alloc (.cells #[.int .i64 off, sv, .int .i64 lo, .int .i64 hi, .int .i64 sz] 62)) (.cells #[.int .i64 off2, sv2, .int .i64 lo2, .int .i64 hi2, .int .i64 sz2] 62)) (.cells #[.int .i64 0, .slice none 0 0, .int .i64 0, .int .i64 0, .int .i64 0] 62)
  rw [show (w.alloc (.cells #[.int .i64 off, sv, .int .i64 lo, .int .i64 hi, .int .i64 sz] 62)).heap.size = w.heap.size + 1 from by simp] at hc
  have hr := heap_new ((w.alloc (.cells #[.int .i64 off, sv, .int .i64 lo, .int .i64 hi, .int .i64 sz] 62)).alloc (.cells #[.int .i64 off2, sv2, .int .i64 lo2, .int .i64 hi2, .int .i64 sz2] 62)) (.cells #[.int .i64 0, .slice none 0 0, .int .i64 0, .int .i64 0, .int .i64 0] 62)
  rw [show ((w.alloc (.cells #[.int .i64 off, sv, .int .i64 lo, .int .i64 hi, .int .i64 sz] 62)).alloc (.cells #[.int .i64 off2, sv2, .int .i64 lo2, .int .i64 hi2, .int .i64 sz2] 62)).heap.size = w.heap.size + 1 + 1 from by simp] at hr
  have hg : ∀ wl : World, Below w.heap.size w wl → wl.heap[w.heap.size + 1]? = some (.cells #[.int .i64 off2, sv2, .int .i64 lo2, .int .i64 hi2, .int .i64 sz2] 62 (0, 0)) → Dm.Gives wl off ws (fun u => decide (u ∈ m)) 79 (w.heap.size + 1) := by
    intro wl hbl hcl W hW i hi
    have k1 := HX.out.lo
    have k2 := HX.out.hi
    have k3 := HX.out.mod
    refine (dom_and_1 _ m (off + 64 * i) (ws.getD i 0) (w.heap.size + 1) off2 lo2 hi2 sv2 sz2 W rfl (heap_call hcl hW) ((HE.out.call hbl).call hW) (by omega) (by omega) (by omega)).mono ?_
    rintro e w' ⟨y, rfl, hy, hb, hbe⟩
    exact ⟨y, rfl, hy, fun b hb' _ => hb b hb', hbe⟩
  have HL := Lib.hid (dom_less_loop off sv lo hi sz ws (fun u => decide (u ∈ m)) 79 (w.heap.size + 1) l _ enters_and_1 (hx.call hb) e1.symm e2.symm e3.symm (hg _ hb hc) (hT.call hb))
  have HB := Lib.hid hb
  have HR := Lib.hid hr
  clear hx hx2 hT hg hb hc hr e1 e2 e3
  go_enter Tryd.func63, Tryd.ntmps63
  go_wp2_with fail
  refine HL.out.mono ?_
  rintro e w2 ⟨v', rfl, hrep, hb2, hw2⟩
  have hr2 := heap_call HR.out hb2
  obtain ⟨off3, sv3, ws3, rfl, hx3⟩ := hrep
  obtain ⟨A3, c3, rfl⟩ := hx3.sl.len
  unfold Dm.val
  generalize e1 : (l.filter fun u => decide (u ∈ m)).headD 0 = lo3 at *
  generalize e2 : (l.filter fun u => decide (u ∈ m)).getLastD 0 = hi3 at *
  generalize e3 : (l.filter fun u => decide (u ∈ m)).length = sz3 at *
  have E1 := Lib.hid e1
  have E2 := Lib.hid e2
  have E3 := Lib.hid e3
  clear e1 e2 e3
  have r0 := cell_of hr2 0
  have r1 := cell_of hr2 1
  have r2 := cell_of hr2 2
  have r3 := cell_of hr2 3
  have r4 := cell_of hr2 4
  have f0 := frozen_of hr2 0
  have f1 := frozen_of hr2 1
  have f2 := frozen_of hr2 2
  have f3 := frozen_of hr2 3
  have f4 := frozen_of hr2 4
  have HB2 := Lib.hid (below_call HB.out hb2)
  have HX3 := Lib.hid hx3
  clear hr2 hb2 hx3
  go_wp2_with fail
  refine bodyPost_ret (v := .tuple #[.agg #[.int .i64 off3, .slice A3 ws3.length c3, .int .i64 lo3, .int .i64 hi3, .int .i64 sz3], .int .i64 (Dm.chg l (l.filter fun u => decide (u ∈ m)))]) (by simp [results, Tryd.results63, go_sem, r0, r1, r2, r3, r4]) rfl ?_
  refine Dm.left_put (w2 := w2) (B := w.heap.size + 1 + 1) HX3.out E1.out E2.out E3.out ?_ HB2.out ?_ (by omega)
  · refine Fr.set (Fr.set (Fr.set (Fr.set (Fr.set (Fr.refl _ _) ?_ _) ?_ _) ?_ _) ?_ _) ?_ _
    all_goals exact fun _ => rfl
  · intro b hb
    rcases hw2 b hb with h | h
    · exact Or.inl ⟨h, Sl.lt HX.out.sl h⟩
    · exact Or.inr (by simp at h; omega)
end Go.Proofs.YtgckohmppefibaaDoor
/- The contract of Minus. -/
namespace Go.Proofs.YtgckohmppefibaaDoor
open Go.RowKit
attribute [local go_sem high] go_max_int go_min_int
set_option linter.unusedSimpArgs false
set_option linter.unusedVariables false

/-- A word turned over. -/
theorem Bt.flip (x b : Nat) (hx : x < 18446744073709551616) (hb : b < 64) : (18446744073709551615 - x).testBit b = !x.testBit b := by
  have := Nat.testBit_two_pow_sub_succ (x := x) (n := 64) hx b
  rw [show (2 : Nat) ^ 64 - (x + 1) = 18446744073709551615 - x from by omega] at this
  rw [this]
  simp [hb]
theorem Bt.flip_int (y : Nat) (hy : y < 18446744073709551616) : bits BinOp.xor IntKind.u64 IntKind.u64.max (y : Int) = ((18446744073709551615 - y : Nat) : Int) := by
  have e0 : IntKind.u64.max = ((18446744073709551615 : Nat) : Int) := by decide
  rw [e0, bits_xor_u64_nat 18446744073709551615 y (by decide) hy]
  congr 1
  apply Nat.eq_of_testBit_eq
  intro i
  rw [Nat.testBit_xor]
  by_cases hi : i < 64
  · rw [Bt.flip y i hy hi, show (18446744073709551615 : Nat) = 2 ^ 64 - 1 from rfl, Nat.testBit_two_pow_sub_one]
    simp [hi]
  · have h1 : (18446744073709551615 : Nat).testBit i = false := Nat.testBit_lt_two_pow (Nat.lt_of_lt_of_le (by decide : (18446744073709551615 : Nat) < 2 ^ 64) (Nat.pow_le_pow_right (by decide) (by omega)))
    have h2 : y.testBit i = false := Nat.testBit_lt_two_pow (Nat.lt_of_lt_of_le (show y < 2 ^ 64 from hy) (Nat.pow_le_pow_right (by decide) (by omega)))
    have h3 : (18446744073709551615 - y).testBit i = false := Nat.testBit_lt_two_pow (Nat.lt_of_lt_of_le (show 18446744073709551615 - y < 2 ^ 64 from by omega) (Nat.pow_le_pow_right (by decide) (by omega)))
    rw [h1, h2, h3]
    rfl
end Go.Proofs.YtgckohmppefibaaDoor
/- The contracts of above, and of the functions that Without, Only, AtLeast and AtMost hand on. -/
namespace Go.Proofs.YtgckohmppefibaaDoor
open Go.RowKit
attribute [local go_sem high] go_max_int go_min_int
set_option linter.unusedSimpArgs false
set_option linter.unusedVariables false

/-- A word's value: its bits say p. -/
def Dm.Kd (p : Int → Bool) (a : Int) (w : World) (e : Ending) (w' : World) : Prop :=
  ∃ x : Nat, e = .returned (.int .u64 (x : Int)) ∧ x < 18446744073709551616 ∧ (∀ b : Nat, b < 64 → x.testBit b = p (a + b)) ∧ Below w.heap.size w w'
theorem Bt.ones (b : Nat) (hb : b < 64) : (18446744073709551615 : Nat).testBit b = true := by
  rw [show (18446744073709551615 : Nat) = 2 ^ 64 - 1 from rfl, Nat.testBit_two_pow_sub_one]
  simp [hb]
theorem Bt.shl (x r : Nat) : IntKind.u64.wrap ((x : Int) * 2 ^ r) = ((2 ^ r * x % 2 ^ 64 : Nat) : Int) := by
  rw [IntKind.wrap_u64]
  rw [show ((x : Int) * 2 ^ r) = ((2 ^ r * x : Nat) : Int) from by simp [Int.mul_comm]]
  omega
theorem Bt.shl_bit (x r b : Nat) (hb : b < 64) : (2 ^ r * x % 2 ^ 64).testBit b = (decide (r ≤ b) && x.testBit (b - r)) := by
  rw [Nat.testBit_mod_two_pow, Nat.testBit_two_pow_mul]
  simp [hb]

theorem Bt.one (r b : Nat) (hr : r < 64) (hb : b < 64) : (2 ^ r * 1 % 2 ^ 64).testBit b = decide (b = r) := by
  rw [Bt.shl_bit _ _ _ hb]
  by_cases h : b = r
  · subst h; simp
  · rw [decide_eq_false h]
    by_cases h2 : r ≤ b
    · obtain ⟨i, hi⟩ : ∃ i, b - r = i + 1 := ⟨b - r - 1, by omega⟩
      rw [hi, Nat.testBit_succ]
      simp
    · simp [h2]
set_option maxHeartbeats 400000 in
theorem dom_without_1 (a v : Int) (x c : Nat) (w : World) (hc : w.heap[c]? = some (.cells #[.int .i64 v] 3 (0, 0))) (ha : a % 64 = 0) (h1 : -2000000 ≤ a) (h2 : a ≤ 2000000) (h3 : -9223372036854775808 ≤ v) (h4 : v ≤ 9223372036854775807) :
    Calls Tryd.prog 84 #[.int .i64 a, .int .u64 (x : Int), .pointer (some ⟨c, 0, none⟩)] w (Dm.Kd (fun u => !decide (u = v)) a w) := by
  have c0 := cell_of hc 0
  have H := Lib.hid (dom_place v w h3 h4)
  clear hc
  by_cases hp : a = v - v % 64
  · obtain ⟨r, hr⟩ : ∃ r : Nat, v = a + r := ⟨(v % 64).toNat, by omega⟩
    have hr64 : r < 64 := by omega
    have e2 : (a == v - v % 64) = true := by rw [beq_iff_eq]; exact hp
    have e1 : v - a = r := by omega
    have S := Lib.hid (Bt.shl 1 r)
    have HR := Lib.hid hr
    clear hp hr
    go_enter Tryd.func84, Tryd.ntmps84
    go_wp2_with fail
    refine H.out.mono ?_
    rintro e w2 ⟨rfl, rfl⟩
    go_wp2_with fail
    go_ret
    have hlt : 2 ^ r * 1 % 2 ^ 64 < 18446744073709551616 := Nat.mod_lt _ (by decide)
    refine ⟨18446744073709551615 - 2 ^ r * 1 % 2 ^ 64, ret_int (by rw [← Bt.flip_int _ hlt, ← S.out]; simp), by omega, fun b hb => ?_, Below.refl _ _⟩
    rw [Bt.flip _ _ hlt hb, Bt.one r b hr64 hb, HR.out]
    exact congrArg (!·) (decide_eq_decide.2 ⟨fun h => by omega, fun h => by omega⟩)
  · have e2 : (a == v - v % 64) = false := by rw [beq_eq_false_iff_ne]; exact hp
    go_enter Tryd.func84, Tryd.ntmps84
    go_wp2_with fail
    refine H.out.mono ?_
    rintro e w2 ⟨rfl, rfl⟩
    go_wp2_with fail
    go_ret
    refine ⟨18446744073709551615, rfl, by decide, fun b hb => ?_, Below.refl _ _⟩
    rw [Bt.ones b hb]
    have : ¬ a + (b : Int) = v := by omega
    simp [this]
end Go.Proofs.YtgckohmppefibaaDoor
/- The contracts of Without, Only, AtLeast and AtMost. -/
namespace Go.Proofs.YtgckohmppefibaaDoor
open Go.RowKit
attribute [local go_sem high] go_max_int go_min_int
set_option linter.unusedSimpArgs false
set_option linter.unusedVariables false

theorem enters_without_1 : ∀ args w, (callFunc 84 args).run Tryd.prog w = .ok (.enter 84 args) w := enters_of Tryd.func84 (by kernel_rfl) rfl
set_option maxHeartbeats 1000000 in
theorem dom_without (d : Value) (l : List Int) (v : Int) (w : World) (hd : Dm.Rep w d l) (hT : Tab w) (hv1 : -9223372036854775808 ≤ v) (hv2 : v ≤ 9223372036854775807) :
    Calls Tryd.prog 73 #[d, .int .i64 v] w (Dm.Left d l (l.filter fun u => !decide (u = v)) w) := by
  obtain ⟨off, sv, ws, rfl, hx⟩ := hd
  unfold Dm.val at *
  generalize e1 : l.headD 0 = lo at *
  generalize e2 : l.getLastD 0 = hi at *
  generalize e3 : l.length = sz at *
  have HX := Lib.hid hx
  have HT := Lib.hid hT
  have hb := below_alloc (below_alloc (below_alloc (Below.refl _ w) (.cells #[.int .i64 off, sv, .int .i64 lo, .int .i64 hi, .int .i64 sz] 62)) (.cells #[.int .i64 v] 3)) (.cells #[.int .i64 0, .slice none 0 0, .int .i64 0, .int .i64 0, .int .i64 0] 62)
  have hc := heap_alloc (heap_new (w.alloc (.cells #[.int .i64 off, sv, .int .i64 lo, .int .i64 hi, .int .i64 sz] 62)) (.cells #[.int .i64 v] 3)) (.cells #[.int .i64 0, .slice none 0 0, .int .i64 0, .int .i64 0, .int .i64 0] 62)
  rw [show (w.alloc (.cells #[.int .i64 off, sv, .int .i64 lo, .int .i64 hi, .int .i64 sz] 62)).heap.size = w.heap.size + 1 from by simp] at hc
  have hr := heap_new ((w.alloc (.cells #[.int .i64 off, sv, .int .i64 lo, .int .i64 hi, .int .i64 sz] 62)).alloc (.cells #[.int .i64 v] 3)) (.cells #[.int .i64 0, .slice none 0 0, .int .i64 0, .int .i64 0, .int .i64 0] 62)
  rw [show ((w.alloc (.cells #[.int .i64 off, sv, .int .i64 lo, .int .i64 hi, .int .i64 sz] 62)).alloc (.cells #[.int .i64 v] 3)).heap.size = w.heap.size + 1 + 1 from by simp] at hr
  have hg : ∀ wl : World, Below w.heap.size w wl → wl.heap[w.heap.size + 1]? = some (.cells #[.int .i64 v] 3 (0, 0)) → Dm.Gives wl off ws (fun u => !decide (u = v)) 84 (w.heap.size + 1) := by
    intro wl hbl hcl W hW i hi
    have k1 := HX.out.lo
    have k2 := HX.out.hi
    have k3 := HX.out.mod
    refine (dom_without_1 (off + 64 * i) v (ws.getD i 0) (w.heap.size + 1) W (heap_call hcl hW) (by omega) (by omega) (by omega) hv1 hv2).mono ?_
    rintro e w' ⟨y, rfl, hy, hb, hbe⟩
    exact ⟨y, rfl, hy, fun b hb' _ => hb b hb', hbe⟩
  have HL := Lib.hid (dom_less_loop off sv lo hi sz ws (fun u => !decide (u = v)) 84 (w.heap.size + 1) l _ enters_without_1 (hx.call hb) e1.symm e2.symm e3.symm (hg _ hb hc) (hT.call hb))
  have HB := Lib.hid hb
  have HR := Lib.hid hr
  clear hx hT hg hb hc hr e1 e2 e3
  go_enter Tryd.func73, Tryd.ntmps73
  go_wp2_with fail
  refine HL.out.mono ?_
  rintro e w2 ⟨v', rfl, hrep, hb2, hw2⟩
  have hr2 := heap_call HR.out hb2
  obtain ⟨off3, sv3, ws3, rfl, hx3⟩ := hrep
  obtain ⟨A3, c3, rfl⟩ := hx3.sl.len
  unfold Dm.val
  generalize e1 : (l.filter fun u => !decide (u = v)).headD 0 = lo3 at *
  generalize e2 : (l.filter fun u => !decide (u = v)).getLastD 0 = hi3 at *
  generalize e3 : (l.filter fun u => !decide (u = v)).length = sz3 at *
  have E1 := Lib.hid e1
  have E2 := Lib.hid e2
  have E3 := Lib.hid e3
  clear e1 e2 e3
  have r0 := cell_of hr2 0
  have r1 := cell_of hr2 1
  have r2 := cell_of hr2 2
  have r3 := cell_of hr2 3
  have r4 := cell_of hr2 4
  have f0 := frozen_of hr2 0
  have f1 := frozen_of hr2 1
  have f2 := frozen_of hr2 2
  have f3 := frozen_of hr2 3
  have f4 := frozen_of hr2 4
  have HB2 := Lib.hid (below_call HB.out hb2)
  have HX3 := Lib.hid hx3
  clear hr2 hb2 hx3
  go_wp2_with fail
  refine bodyPost_ret (v := .tuple #[.agg #[.int .i64 off3, .slice A3 ws3.length c3, .int .i64 lo3, .int .i64 hi3, .int .i64 sz3], .int .i64 (Dm.chg l (l.filter fun u => !decide (u = v)))]) (by simp [results, Tryd.results73, go_sem, r0, r1, r2, r3, r4]) rfl ?_
  refine Dm.left_put (w2 := w2) (B := w.heap.size + 1 + 1) HX3.out E1.out E2.out E3.out ?_ HB2.out ?_ (by omega)
  · refine Fr.set (Fr.set (Fr.set (Fr.set (Fr.set (Fr.refl _ _) ?_ _) ?_ _) ?_ _) ?_ _) ?_ _
    all_goals exact fun _ => rfl
  · intro b hb
    rcases hw2 b hb with h | h
    · exact Or.inl ⟨h, Sl.lt HX.out.sl h⟩
    · exact Or.inr (by simp at h; omega)

end Go.Proofs.YtgckohmppefibaaDoor
/- The contract of room; a number is set. -/
namespace Go.Proofs.YtgckohmppefibaaDoor
open Go.RowKit
attribute [local go_sem high] go_max_int go_min_int
set_option linter.unusedSimpArgs false
set_option linter.unusedVariables false

/-- Words of nothing. -/
def Dm.Rm (low high : Int) (w : World) (e : Ending) (w' : World) : Prop :=
  ∃ (b n : Nat), e = .returned (.agg #[.int .i64 (low - low % 64), .slice (some ⟨b, 0, none⟩) n n, .int .i64 0, .int .i64 0, .int .i64 0]) ∧ (n : Int) = (high - high % 64 - (low - low % 64)) / 64 + 1 ∧
    Sl w' 99 1 (.slice (some ⟨b, 0, none⟩) n n) n (Dm.u64s (List.replicate n 0)) ∧ w.heap.size ≤ b ∧ Below w.heap.size w w'
set_option maxHeartbeats 1000000 in
theorem dom_room (low high : Int) (w : World) (h1 : -1000000 ≤ low) (h2 : low ≤ high) (h3 : high ≤ 1000000) :
    Calls Tryd.prog 61 #[.int .i64 low, .int .i64 high] w (Dm.Rm low high w) := by
  obtain ⟨n, hn⟩ : ∃ n : Nat, (n : Int) = (high - high % 64 - (low - low % 64)) / 64 + 1 := ⟨((high - high % 64 - (low - low % 64)) / 64 + 1).toNat, by omega⟩
  have hmk : ∀ w : World, (Instr.makeSlice 60 (.int .i64 (n : Int)) (.int .i64 (n : Int))).run Tryd.prog w = .ok (.slice (some ⟨w.heap.size, 0, none⟩) n n) (w.alloc (.cells (madeCells #[.int .u64 0] n) 99)) := by
    intro w
    obtain ⟨i0, hi, hz0, hz1, hz2⟩ := info_parts infoU64
    have := run_makeSlice (P := Tryd.prog) w 60 99 i0 (.int .u64 0) Tryd.underlying60 hi hz0 .i64 .i64 (n : Int) (n : Int) (by omega) (by omega) (by rw [hz1]; omega) (by rw [hz2]; omega) (by omega)
    rw [this, hz1, Nat.mul_one]
    rfl
  have P1 := Lib.hid (fun w => dom_place low w (by omega) (by omega))
  have P2 := Lib.hid (fun w => dom_place high w (by omega) (by omega))
  have hnn := hn.symm
  have HN := Lib.hid hn
  clear hn
  go_enter Tryd.func61, Tryd.ntmps61
  go_wp2_with fail
  refine (P1.out _).mono ?_
  rintro e w1 ⟨rfl, rfl⟩
  go_wp2_with fail
  refine (P2.out _).mono ?_
  rintro e w1 ⟨rfl, rfl⟩
  go_wp2_with fail
  refine (P1.out _).mono ?_
  rintro e w1 ⟨rfl, rfl⟩
  go_wp2_with fail
  refine bodyPost_ret (v := .agg #[.int .i64 (low - low % 64), .slice (some ⟨w.heap.size + 1, 0, none⟩) n n, .int .i64 0, .int .i64 0, .int .i64 0]) (by simp [results, Tryd.results61, go_sem]) rfl ?_
  refine ⟨w.heap.size + 1, n, rfl, HN.out, ?_, by omega, below_alloc (below_alloc (Below.refl _ _) _) _⟩
  have hz := heap_new (w.alloc (.cells #[.int .i64 (low - low % 64), .slice (some ⟨w.heap.size + 1, 0, none⟩) n n, .int .i64 0, .int .i64 0, .int .i64 0] 62)) (.cells (madeCells #[.int .u64 0] n) 99)
  rw [show (w.alloc (.cells #[.int .i64 (low - low % 64), .slice (some ⟨w.heap.size + 1, 0, none⟩) n n, .int .i64 0, .int .i64 0, .int .i64 0] 62)).heap.size = w.heap.size + 1 from by simp] at hz
  refine ⟨by simp [Dm.u64s], .inr ⟨w.heap.size + 1, 0, n, _, rfl, hz, Nat.le_refl _, by unfold maxLen; omega, by rw [size_madeCells]; omega, fun j hj => ?_⟩⟩
  have := toList_madeCells_one (.int .u64 0) n
  rw [← Array.getElem?_toList, this, List.getElem?_replicate, if_pos (by omega)]
  unfold Dm.u64s
  rw [List.map_replicate, List.getElem?_replicate, if_pos (by omega)]
  rfl
end Go.Proofs.YtgckohmppefibaaDoor
/- A number is set in words. -/
namespace Go.Proofs.YtgckohmppefibaaDoor
open Go.RowKit
attribute [local go_sem high] go_max_int go_min_int
set_option linter.unusedSimpArgs false
set_option linter.unusedVariables false

/-- A bit more in a word. -/
theorem Bt.or_bit (x r b : Nat) (hr : r < 64) (hb : b < 64) : (x ||| 2 ^ r * 1 % 2 ^ 64).testBit b = (x.testBit b || decide (b = r)) := by
  rw [Nat.testBit_or, Bt.one r b hr hb]
theorem Bt.els_set (off : Int) (cur : List Nat) (i r : Nat) (hi : i < cur.length) (hr : r < 64) (u : Int) : u ∈ Bt.els off (cur.set i (cur.getD i 0 ||| 2 ^ r * 1 % 2 ^ 64)) ↔ u ∈ Bt.els off cur ∨ u = off + 64 * i + r := by
  rw [Bt.els_mem, Bt.els_mem]
  have hget : ∀ j, (cur.set i (cur.getD i 0 ||| 2 ^ r * 1 % 2 ^ 64)).getD j 0 = if i = j then cur.getD i 0 ||| 2 ^ r * 1 % 2 ^ 64 else cur.getD j 0 := fun j => by
    rw [List.getD_eq_getElem?_getD, List.getElem?_set]
    by_cases e : i = j
    · subst e
      rw [if_pos rfl, if_pos rfl, if_pos hi]
      rfl
    · rw [if_neg e, if_neg e, List.getD_eq_getElem?_getD]
  constructor
  · rintro ⟨j, b, hj, hb, ht, rfl⟩
    rw [List.length_set] at hj
    rw [hget] at ht
    by_cases e : i = j
    · subst e
      rw [if_pos rfl, Bt.or_bit _ _ _ hr hb] at ht
      rcases Bool.or_eq_true _ _ ▸ ht with h | h
      · exact Or.inl ⟨i, b, hj, hb, h, rfl⟩
      · right
        rw [of_decide_eq_true h]
    · rw [if_neg e] at ht
      exact Or.inl ⟨j, b, hj, hb, ht, rfl⟩
  · rintro (⟨j, b, hj, hb, ht, rfl⟩ | rfl)
    · refine ⟨j, b, by simpa using hj, hb, ?_, rfl⟩
      rw [hget]
      by_cases e : i = j
      · subst e
        rw [if_pos rfl, Bt.or_bit _ _ _ hr hb, ht]
        rfl
      · rw [if_neg e]; exact ht
    · refine ⟨i, r, by simpa using hi, hr, ?_, rfl⟩
      rw [hget, if_pos rfl, Bt.or_bit _ _ _ hr hr]
      simp
theorem Bt.els_zero (off : Int) (n : Nat) : Bt.els off (List.replicate n 0) = [] := by
  rw [List.eq_nil_iff_forall_not_mem]
  intro u hu
  obtain ⟨i, b, hi, hb, ht, _⟩ := (Bt.els_mem _ _ _).1 hu
  rw [List.getD_eq_getElem?_getD, List.getElem?_replicate] at ht
  split at ht <;> simp at ht
end Go.Proofs.YtgckohmppefibaaDoor
/- The contract of Range. -/
namespace Go.Proofs.YtgckohmppefibaaDoor
open Go.RowKit
attribute [local go_sem high] go_max_int go_min_int
set_option linter.unusedSimpArgs false
set_option linter.unusedVariables false

/-- What holds while a domain is filled. -/
structure Dm.Fl (w wr : World) (off : Int) (dB b n : Nat) (cur : List Nat) (S : Int → Prop) : Prop where
  res : wr.heap[w.heap.size]? = some (.cells #[.int .i64 0, .slice none 0 0, .int .i64 0, .int .i64 0, .int .i64 0] 62 (0, 0))
  d : wr.heap[dB]? = some (.cells #[.int .i64 off, .slice (some ⟨b, 0, none⟩) n n, .int .i64 0, .int .i64 0, .int .i64 0] 62 (0, 0))
  len : cur.length = n
  sl : Sl wr 99 1 (.slice (some ⟨b, 0, none⟩) n n) n (Dm.u64s cur)
  lt : ∀ x ∈ cur, x < 18446744073709551616
  has : ∀ u, u ∈ Bt.els off cur ↔ S u
  b1 : w.heap.size < b
  b2 : dB ≠ b
  b3 : w.heap.size < dB
  below : Below w.heap.size w wr
theorem Dm.Fl.step {w wr : World} {off : Int} {dB b n : Nat} {cur : List Nat} {S : Int → Prop} (h : Dm.Fl w wr off dB b n cur S) (i r : Nat) (hi : i < n) (hr : r < 64) (u : Int) (hu : u = off + 64 * i + r) :
    Dm.Fl w (wr.setCell ⟨b, i, none⟩ (.int .u64 ((cur.getD i 0 ||| 2 ^ r * 1 % 2 ^ 64 : Nat) : Int))) off dB b n (cur.set i (cur.getD i 0 ||| 2 ^ r * 1 % 2 ^ 64)) (fun z => S z ∨ z = u) := by
  have h1 := h.b1
  have h2 := h.b2
  refine ⟨heap_far h.res (by simp; omega) _, heap_far h.d (by simpa using h2) _, by rw [List.length_set]; exact h.len, ?_, ?_, ?_, h.b1, h.b2, h.b3, below_set h.below (by simp; omega) _⟩
  · have := h.sl.set i hi (.int .u64 ((cur.getD i 0 ||| 2 ^ r * 1 % 2 ^ 64 : Nat) : Int))
    rw [Nat.zero_add] at this
    unfold Dm.u64s at this ⊢
    rwa [← List.map_set] at this
  · intro x hx
    rcases List.mem_or_eq_of_mem_set hx with hx | hx
    · exact h.lt x hx
    · rw [hx]
      refine Nat.or_lt_two_pow (n := 64) ?_ (Nat.mod_lt _ (by decide))
      exact h.lt _ (by rw [List.getD_eq_getElem?_getD, List.getElem?_eq_getElem (by rw [h.len]; exact hi)]; simp)
  · intro z
    rw [Bt.els_set off cur i r (by rw [h.len]; exact hi) hr z, h.has, hu]
theorem Dm.Fl.drew_ {w wr : World} {off : Int} {dB b n : Nat} {cur : List Nat} {S T : Int → Prop} (h : Dm.Fl w wr off dB b n cur S) (ht : ∀ u, S u ↔ T u) : Dm.Fl w wr.drew off dB b n cur T :=
  ⟨heap_drew h.res, heap_drew h.d, h.len, h.sl.drew, h.lt, fun u => (h.has u).trans (ht u), h.b1, h.b2, h.b3, h.below.drew⟩

end Go.Proofs.YtgckohmppefibaaDoor
