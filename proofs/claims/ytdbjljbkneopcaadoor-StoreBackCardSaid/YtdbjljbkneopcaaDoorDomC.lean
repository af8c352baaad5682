/- The contract of Has. -/
import Derived.Test.YtdbjljbkneopcaaDoorDomB
import Derived.Deep.RegionHeld3
import Derived.BigQuiet
import Derived.Deep.QuietTactic
namespace Go.Proofs.YtdbjljbkneopcaaDoor
open Go.RowKit
set_option linter.unusedSimpArgs false
set_option linter.unusedVariables false

theorem shift_bit (x r : Nat) (hx : x < 18446744073709551616) : (bits BinOp.and IntKind.u64 ((x : Int) / 2 ^ r) 1 == 1) = x.testBit r := by
  have e : bits BinOp.and IntKind.u64 ((x : Int) / 2 ^ r) 1 = ((x / 2 ^ r &&& 1 : Nat) : Int) :=
    and64 (x / 2 ^ r) 1 (Nat.lt_of_le_of_lt (Nat.div_le_self _ _) hx) (by decide) _ (by simp) _ rfl
  rw [e, Nat.and_one_is_mod, Nat.testBit_eq_decide_div_mod_eq]
  have : x / 2 ^ r % 2 < 2 := Nat.mod_lt _ (by decide)
  generalize x / 2 ^ r % 2 = m at *
  have : m = 0 ∨ m = 1 := by omega
  rcases this with rfl | rfl <;> rfl

set_option maxHeartbeats 400000 in
theorem dom_has_out (v : Value) (l : List Int) (u : Int) (w : World) (h : Dm.Rep w v l) (hu : u < -1000000 ∨ 1000000 < u) :
    Calls Tryd.prog 20 #[v, .int .i64 u] w fun e w' => e = .returned (.bool false) ∧ Below w.heap.size w w' := by
  have hd : decide (-1000000 ≤ u ∧ u ≤ 1000000) = false := decide_eq_false (by omega)
  obtain ⟨off, sv, ws, rfl, hx⟩ := h
  unfold Dm.val
  clear hx
  go_enter Tryd.func20, Tryd.ntmps20
  go_wp2_with fail
  go_quiet ((first
    | (go_at_call 85; exact Calls.quiet_of_same ((dom_in _ _).mono fun _ _ h => ⟨by rw [h.1, hd], h.2.symm⟩))))
  go_wp2
  go_ret
  exact ⟨rfl, by repeat (first | exact Below.refl _ _ | refine below_drewN ?_ _ | refine below_alloc ?_ _)⟩

set_option maxHeartbeats 1000000 in
theorem dom_has_in (v : Value) (l : List Int) (p : Int) (r : Nat) (w : World) (h : Dm.Rep w v l) (hp : p % 64 = 0) (hr : r < 64) (h1 : -1000000 ≤ p + r) (h2 : p + r ≤ 1000000) :
    Calls Tryd.prog 20 #[v, .int .i64 (p + r)] w fun e w' => e = .returned (.bool (decide (p + r ∈ l))) ∧ Below w.heap.size w w' := by
  have hd : decide (-1000000 ≤ p + (r : Int) ∧ p + (r : Int) ≤ 1000000) = true := decide_eq_true (by omega)
  have e1 : p + (r : Int) - (p + r) % 64 = p := by omega
  have e2 : p + (r : Int) - p = r := by omega
  have e3 : IntKind.i64.wrap (r : Int) = (r : Int) := by rw [IntKind.wrap_i64]; omega
  have HV := Lib.hid h
  obtain ⟨off, sv, ws, rfl, hx⟩ := h
  have HD := Lib.hid hd
  have E1 := Lib.hid e1
  unfold Dm.val at *
  generalize l.headD 0 = lo at *
  generalize l.getLastD 0 = hi at *
  generalize l.length = sz at *
  clear hx hd e1
  go_enter Tryd.func20, Tryd.ntmps20
  go_wp2_with fail
  go_region_held3 (fun w' => w'.cell? ⟨w.heap.size, 0, none⟩ = some (.int .i64 off) ∧ w'.cell? ⟨w.heap.size, 1, none⟩ = some sv ∧ w'.cell? ⟨w.heap.size, 2, none⟩ = some (.int .i64 lo) ∧ w'.cell? ⟨w.heap.size, 3, none⟩ = some (.int .i64 hi) ∧ w'.cell? ⟨w.heap.size, 4, none⟩ = some (.int .i64 sz) ∧ Below w.heap.size w w')
    (first
      | exact ⟨by simp [go_sem], by simp [go_sem], by simp [go_sem], by simp [go_sem], by simp [go_sem], (below_alloc (Below.refl _ _) _).drew⟩
      | exact ⟨hs0, hs1, hs2, hs3, hs4, hs5⟩)
    (first
      | (go_at_call 85; refine (dom_in _ _).mono ?_; rintro e w' ⟨rfl, rfl⟩; rw [HD.out])
      | (go_at_call 95; refine (dom_place _ _ (by omega) (by omega)).mono ?_; rintro e w' ⟨rfl, rfl⟩; rw [E1.out])
      | (go_at_call 92; refine (dom_word _ l p _ (HV.out.call ((below_alloc (Below.refl _ _) _).drew)) hp (by omega) (by omega)).mono ?_; rintro e w' ⟨x, rfl, hx, hb, hbel⟩; have hs0 : w'.cell? ⟨w.heap.size, 0, none⟩ = some (.int .i64 off) := (by rw [(bcell hbel).1 _ _ (by simp)]; simp [go_sem]); have hs1 : w'.cell? ⟨w.heap.size, 1, none⟩ = some sv := (by rw [(bcell hbel).1 _ _ (by simp)]; simp [go_sem]); have hs2 : w'.cell? ⟨w.heap.size, 2, none⟩ = some (.int .i64 lo) := (by rw [(bcell hbel).1 _ _ (by simp)]; simp [go_sem]); have hs3 : w'.cell? ⟨w.heap.size, 3, none⟩ = some (.int .i64 hi) := (by rw [(bcell hbel).1 _ _ (by simp)]; simp [go_sem]); have hs4 : w'.cell? ⟨w.heap.size, 4, none⟩ = some (.int .i64 sz) := (by rw [(bcell hbel).1 _ _ (by simp)]; simp [go_sem]); have hs5 : Below w.heap.size w w' := (by refine Below.trans ?_ (hbel.mono (by simp)); exact (below_alloc (Below.refl _ _) _).drew); have HB := Lib.hid hb; clear hb hbel))
  go_wp2
  go_ret
  refine ⟨ret_bool ?_, hs5⟩
  rw [← HB.out r hr]
  exact shift_bit x r hx
theorem dom_has (v : Value) (l : List Int) (u : Int) (w : World) (h : Dm.Rep w v l) :
    Calls Tryd.prog 20 #[v, .int .i64 u] w fun e w' => e = .returned (.bool (decide (u ∈ l))) ∧ Below w.heap.size w w' := by
  by_cases hu : u < -1000000 ∨ 1000000 < u
  · have : u ∉ l := fun hm => by have := h.inr u hm; omega
    rw [decide_eq_false this]
    exact dom_has_out v l u w h hu
  · have e : u = (u - u % 64) + ((u % 64).toNat : Int) := by omega
    rw [e]
    exact dom_has_in v l (u - u % 64) (u % 64).toNat w h (by omega) (by omega) (by omega) (by omega)
end Go.Proofs.YtdbjljbkneopcaaDoor
