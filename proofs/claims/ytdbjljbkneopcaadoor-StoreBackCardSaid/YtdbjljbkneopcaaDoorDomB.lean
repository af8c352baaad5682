/- A domain as a value: what it reads as. The contracts of word and Has. -/
import Derived.Test.YtdbjljbkneopcaaDoorDomA
namespace Go.Proofs.YtdbjljbkneopcaaDoor
open Go.RowKit
set_option linter.unusedSimpArgs false
set_option linter.unusedVariables false

def Dm.u64s (ws : List Nat) : List Value := ws.map fun x : Nat => .int .u64 (x : Int)
/-- A domain's parts: words from off on; its numbers are l. -/
structure Dm.RepX (w : World) (off : Int) (sv : Value) (ws : List Nat) (l : List Int) : Prop where
  sl : Sl w 140 1 sv ws.length (Dm.u64s ws)
  lt : ∀ x ∈ ws, x < 18446744073709551616
  mod : off % 64 = 0
  lo : -1000000 ≤ off
  hi : off + 64 * ws.length ≤ 1000064
  els : l = Bt.els off ws
  inr : ∀ u ∈ l, -1000000 ≤ u ∧ u ≤ 1000000
def Dm.val (off : Int) (sv : Value) (l : List Int) : Value := .agg #[.int .i64 off, sv, .int .i64 (l.headD 0), .int .i64 (l.getLastD 0), .int .i64 l.length]
/-- A value that is the domain of just l. -/
def Dm.Rep (w : World) (v : Value) (l : List Int) : Prop := ∃ off sv ws, v = Dm.val off sv l ∧ Dm.RepX w off sv ws l
theorem Dm.RepX.kept {S : Nat → Prop} {w w' : World} {off : Int} {sv : Value} {ws : List Nat} {l : List Int} (h : Dm.RepX w off sv ws l) (hf : Fr S w w') (hn : ∀ b, sv.ownBlock = some b → ¬ S b) : Dm.RepX w' off sv ws l :=
  ⟨h.sl.kept hf hn, h.lt, h.mod, h.lo, h.hi, h.els, h.inr⟩
theorem Dm.RepX.call {w w' : World} {off : Int} {sv : Value} {ws : List Nat} {l : List Int} (h : Dm.RepX w off sv ws l) (hb : Below w.heap.size w w') : Dm.RepX w' off sv ws l :=
  ⟨h.sl.call hb, h.lt, h.mod, h.lo, h.hi, h.els, h.inr⟩
theorem Dm.Rep.call {w w' : World} {v : Value} {l : List Int} (h : Dm.Rep w v l) (hb : Below w.heap.size w w') : Dm.Rep w' v l := by
  obtain ⟨off, sv, ws, e, hx⟩ := h
  exact ⟨off, sv, ws, e, hx.call hb⟩
theorem Dm.RepX.sorted {w : World} {off : Int} {sv : Value} {ws : List Nat} {l : List Int} (h : Dm.RepX w off sv ws l) : l.Pairwise (· < ·) := by
  rw [h.els]; exact Bt.els_sorted _ _
theorem Dm.Rep.sorted {w : World} {v : Value} {l : List Int} (h : Dm.Rep w v l) : l.Pairwise (· < ·) := by
  obtain ⟨off, sv, ws, e, hx⟩ := h
  exact hx.sorted
theorem Dm.Rep.inr {w : World} {v : Value} {l : List Int} (h : Dm.Rep w v l) : ∀ u ∈ l, -1000000 ≤ u ∧ u ≤ 1000000 := by
  obtain ⟨off, sv, ws, e, hx⟩ := h
  exact hx.inr
/-- The empty domain. -/
theorem Dm.none_ (w : World) : Dm.Rep w (.agg #[.int .i64 0, .slice none 0 0, .int .i64 0, .int .i64 0, .int .i64 0]) [] :=
  ⟨0, .slice none 0 0, [], rfl, ⟨Sl.nil _ _ _, (fun x hx => by cases hx), by decide, by decide, by simp, rfl, (fun u hu => by cases hu)⟩⟩

/-- A word's value: its bits say which numbers are there. -/
def Dm.Wd (l : List Int) (p : Int) (w : World) (e : Ending) (w' : World) : Prop :=
  ∃ x : Nat, e = .returned (.int .u64 (x : Int)) ∧ x < 18446744073709551616 ∧ (∀ b : Nat, b < 64 → x.testBit b = decide (p + b ∈ l)) ∧ Below w.heap.size w w'
theorem Dm.word_none {w : World} {off : Int} {sv : Value} {ws : List Nat} {l : List Int} (h : Dm.RepX w off sv ws l) (p : Int) (hp : p % 64 = 0) (ho : p < off ∨ off + 64 * ws.length ≤ p) (b : Nat) (hb : b < 64) : (0 : Nat).testBit b = decide (p + b ∈ l) := by
  have : p + b ∉ l := fun hm => by
    rw [h.els] at hm
    have h1 := Bt.els_low _ _ _ hm
    have h2 := h.mod
    omega
  rw [decide_eq_false this, Nat.zero_testBit]
theorem Dm.word_some {w : World} {off : Int} {sv : Value} {ws : List Nat} {l : List Int} (h : Dm.RepX w off sv ws l) (i : Nat) (hi : i < ws.length) (b : Nat) (hb : b < 64) : (ws.getD i 0).testBit b = decide (off + 64 * i + b ∈ l) := by
  have := Bt.els_at ws off (off + 64 * i + b) i hi (by omega) (by omega)
  rw [show (off + 64 * i + b - (off + 64 * i)).toNat = b from by omega] at this
  rw [h.els]
  by_cases e : (ws.getD i 0).testBit b = true
  · rw [e, decide_eq_true (this.2 e)]
  · rw [decide_eq_false (fun hh => e (this.1 hh))]
    simpa using e
theorem Dm.cell_u64 {w : World} {b o c : Nat} {ws : List Nat} (h : Sl w 140 1 (.slice (some ⟨b, o, none⟩) ws.length c) ws.length (Dm.u64s ws)) (i : Nat) (hi : i < ws.length) : w.cell? ⟨b, o + i, none⟩ = some (.int .u64 (ws.getD i 0 : Nat)) := by
  rw [h.cell i (by omega)]
  unfold Dm.u64s
  rw [List.getElem?_map, List.getElem?_eq_getElem hi]
  simp [List.getD_eq_getElem?_getD, List.getElem?_eq_getElem hi]

set_option maxHeartbeats 400000 in
theorem dom_word (v : Value) (l : List Int) (p : Int) (w : World) (h : Dm.Rep w v l) (hp : p % 64 = 0) (h1 : -2000000 ≤ p) (h2 : p ≤ 2000000) :
    Calls Tryd.prog 92 #[v, .int .i64 p] w (Dm.Wd l p w) := by
  obtain ⟨off, sv, ws, rfl, hx⟩ := h
  obtain ⟨A, c, rfl⟩ := hx.sl.len
  have HX := Lib.hid hx
  have ho := hx.lo
  have hh := hx.hi
  have hm := hx.mod
  unfold Dm.val
  generalize l.headD 0 = lo at *
  generalize l.getLastD 0 = hi at *
  generalize l.length = sz at *
  rcases Int.lt_or_le p off with hlt | hge
  · have W0 := Lib.hid (Dm.word_none hx p hp (Or.inl hlt))
    clear hx
    generalize ws.length = n at *
    go_enter Tryd.func92, Tryd.ntmps92
    go_wp2
    go_ret
    exact ⟨0, rfl, by decide, W0.out, below_alloc (Below.refl _ _) _⟩
  · obtain ⟨i, hi⟩ : ∃ i : Nat, p = off + 64 * i := ⟨((p - off) / 64).toNat, by omega⟩
    subst hi
    by_cases hn : ws.length ≤ i
    · have W0 := Lib.hid (Dm.word_none hx (off + 64 * i) hp (Or.inr (by omega)))
      clear hx
      generalize ws.length = n at *
      go_enter Tryd.func92, Tryd.ntmps92
      go_wp2
      go_ret
      exact ⟨0, rfl, by decide, W0.out, below_alloc (Below.refl _ _) _⟩
    · have hin : i < ws.length := by omega
      obtain ⟨b, o, c', cs, e, hc, _⟩ := hx.sl.form (by omega)
      cases e
      have W0 := Lib.hid (Dm.word_some hx i hin)
      have HC := hx.sl.call (below_alloc (Below.refl _ _) (.cells #[.int .i64 off, .slice (some ⟨b, o, none⟩) ws.length c, .int .i64 lo, .int .i64 hi, .int .i64 sz] 25))
      have hcell := Dm.cell_u64 HC i hin
      have hxl := hx.lt (ws.getD i 0) (by rw [List.getD_eq_getElem?_getD, List.getElem?_eq_getElem hin]; simp)
      clear hx HC hc
      have e1 : (off + 64 * (i : Int) - off) / 64 = (i : Int) := by omega
      generalize ws.getD i 0 = x at *
      generalize ws.length = n at *
      go_enter Tryd.func92, Tryd.ntmps92
      go_wp2
      go_ret
      exact ⟨x, rfl, hxl, W0.out, below_alloc (Below.refl _ _) _⟩
end Go.Proofs.YtdbjljbkneopcaaDoor
