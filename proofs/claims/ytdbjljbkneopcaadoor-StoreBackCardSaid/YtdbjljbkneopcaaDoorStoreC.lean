/- is, Get of a store. -/
import Derived.Test.YtdbjljbkneopcaaDoorStoreB
namespace Go.Proofs.YtdbjljbkneopcaaDoor
open Go.RowKit
set_option linter.unusedSimpArgs false
set_option linter.unusedVariables false

/-- A pointer to a store of n variables, or nil. -/
def Su.Has (pv : Value) (n : Nat) (w : World) : Prop := ∀ w', Below w.heap.size w w' → Calls Tryd.prog 37 #[pv] w' fun e w2 => e = .returned (.int .i64 n) ∧ w' = w2
theorem Su.Mem.has {w : World} {S : Nat} {p : Su.Parts} {m : Su.M} (h : Su.Mem w S p m) : Su.Has (.pointer (some ⟨S, 0, none⟩)) m.cur.length w := fun w' hb => store_len S p m w' (h.call hb)
theorem Su.has_nil (w : World) : Su.Has (.pointer none) 0 w := fun w' _ => store_len_nil w'
theorem store_is (pv : Value) (n : Nat) (i : Int) (w : World) (h : Su.Has pv n w) (hn : n ≤ 1000000) : Calls Tryd.prog 101 #[pv, .int .i64 i] w fun e w' => e = .returned (.bool (decide (0 ≤ i ∧ i < n))) ∧ w = w' := by
  have H := Lib.hid (h w (Below.refl _ _))
  clear h
  by_cases h0 : 0 ≤ i
  · by_cases h1 : i < n
    · rw [decide_eq_true ⟨h0, h1⟩]
      have hd : decide (0 ≤ i) = true := decide_eq_true h0
      go_enter Tryd.func101, Tryd.ntmps101
      go_wp2_with fail
      refine H.out.mono ?_
      rintro e w2 ⟨rfl, rfl⟩
      go_wp2_with fail
      go_ret
      exact ⟨rfl, rfl⟩
    · rw [decide_eq_false (fun h => h1 h.2)]
      have h1' : (n : Int) ≤ i := by omega
      clear h1
      go_enter Tryd.func101, Tryd.ntmps101
      go_wp2_with fail
      refine H.out.mono ?_
      rintro e w2 ⟨rfl, rfl⟩
      go_wp2_with fail
      go_ret
      exact ⟨ret_bool (decide_eq_false (by omega)), rfl⟩
  · rw [decide_eq_false (fun h => h0 h.1)]
    have h0' : i < 0 := by omega
    clear h0
    go_enter Tryd.func101, Tryd.ntmps101
    go_wp2_with fail
    go_ret
    exact ⟨rfl, rfl⟩
/-- A domain is told. -/
def Dm.Gv (l : List Int) (w : World) (e : Ending) (w' : World) : Prop := ∃ v, e = .returned v ∧ Dm.Rep w' v l ∧ Below w.heap.size w w'
theorem store_get_out (pv : Value) (n : Nat) (i : Int) (w : World) (h : Su.Has pv n w) (hn : n ≤ 1000000) (hi : ¬ (0 ≤ i ∧ i < n)) : Calls Tryd.prog 38 #[pv, .int .i64 i] w (Dm.Gv [] w) := by
  have H := Lib.hid (fun o => store_is pv n i (w.alloc o) (fun w' hb => h w' (below_call (below_alloc (Below.refl _ _) o) hb)) hn)
  rw [decide_eq_false hi] at H
  clear h hi
  go_enter Tryd.func38, Tryd.ntmps38
  go_wp2_with fail
  refine (H.out _).mono ?_
  rintro e w2 ⟨rfl, rfl⟩
  go_wp2_with fail
  refine bodyPost_ret (v := .agg #[.int .i64 0, .slice none 0 0, .int .i64 0, .int .i64 0, .int .i64 0]) (by simp [results, Tryd.results38, go_sem]) rfl ?_
  exact ⟨_, rfl, Dm.none_ _, by repeat (first | exact Below.refl _ _ | refine below_set ?_ (by simp) _ | refine below_alloc ?_ _)⟩
set_option maxHeartbeats 1000000 in
theorem store_get_in (S : Nat) (p : Su.Parts) (m : Su.M) (i : Nat) (w : World) (h : Su.Mem w S p m) (hn : m.cur.length ≤ 1000000) (hi : i < m.cur.length) : Calls Tryd.prog 38 #[.pointer (some ⟨S, 0, none⟩), .int .i64 i] w (Dm.Gv (m.cur.getD i []) w) := by
  have H := Lib.hid (fun o => store_is _ m.cur.length i (w.alloc o) (fun w' hb => h.has w' (below_call (below_alloc (Below.refl _ _) o) hb)) hn)
  rw [decide_eq_true ⟨by omega, by omega⟩] at H
  have hb := below_alloc (Below.refl w.heap.size w) (.cells #[.int .i64 0, .slice none 0 0, .int .i64 0, .int .i64 0, .int .i64 0] 25)
  have h1 := h.call hb
  obtain ⟨A, c, hds⟩ := h.doms.sl.len
  have hD := h.doms
  rw [hds] at hD
  obtain ⟨b, o, off, As, mm, cs, lo, hh, n, rfl, hv, hn2, hr, c0, c1, c2, c3, c4⟩ := hD.at i hi
  have e0 := cell_of h1.box 0
  rw [hds, hD.len] at e0
  have hii : (i : Int) < (m.cur.length : Int) := by omega
  have HR := Lib.hid hr
  have r0 := heap_new w (.cells #[.int .i64 0, .slice none 0 0, .int .i64 0, .int .i64 0, .int .i64 0] 25)
  have HRB := Lib.hid r0
  have hbl : b < w.heap.size := h.doms.sl.lt (b := b) (by rw [hds]; rfl)
  rw [← (bcell hb).1 b _ hbl] at c0 c1 c2 c3 c4
  generalize m.cur.getD i [] = l at *
  generalize m.cur.length = nl at *
  clear h h1 hD hds hr hv hn2 hb r0 hbl
  rw [Nat.add_zero] at c0
  rw [← Nat.add_assoc] at c1 c2 c3 c4
  go_enter Tryd.func38, Tryd.ntmps38
  go_wp2_with fail
  refine (H.out _).mono ?_
  rintro e w2 ⟨rfl, rfl⟩
  go_wp2_with fail
  refine bodyPost_ret (v := .agg #[.int .i64 off, .slice As mm cs, .int .i64 lo, .int .i64 hh, .int .i64 n]) (by simp [results, Tryd.results38, go_sem]) rfl ?_
  exact ⟨_, rfl, HR.out.call (below_alloc (Below.refl _ _) _), below_alloc (Below.refl _ _) _⟩
/-- What is told of a variable. -/
def Su.get (cur : List (List Int)) (i : Int) : List Int := if 0 ≤ i ∧ i < cur.length then cur.getD i.toNat [] else []
theorem store_get (S : Nat) (p : Su.Parts) (m : Su.M) (i : Int) (w : World) (h : Su.Mem w S p m) (hn : m.cur.length ≤ 1000000) : Calls Tryd.prog 38 #[.pointer (some ⟨S, 0, none⟩), .int .i64 i] w (Dm.Gv (Su.get m.cur i) w) := by
  unfold Su.get
  by_cases hi : 0 ≤ i ∧ i < m.cur.length
  · rw [if_pos hi]
    obtain ⟨j, rfl⟩ : ∃ j : Nat, i = j := ⟨i.toNat, by omega⟩
    exact store_get_in S p m j w h hn (by omega)
  · rw [if_neg hi]
    exact store_get_out _ _ i w h.has hn hi
theorem store_get_nil (i : Int) (w : World) : Calls Tryd.prog 38 #[.pointer none, .int .i64 i] w (Dm.Gv [] w) := store_get_out _ 0 i w (Su.has_nil w) (by decide) (by omega)
end Go.Proofs.YtdbjljbkneopcaaDoor
