/- Slices of domains, as values: read, and one of them written. -/
import Derived.Test.YtdbjljbkneopcaaDoorStoreM
import Derived.Test.YtdbjljbkneopcaaDoorDomT
namespace Go.Proofs.YtdbjljbkneopcaaDoor
open Go.RowKit
set_option linter.unusedSimpArgs false
set_option linter.unusedVariables false

theorem flat_length {α : Type} (f : α → List Value) (k : Nat) : ∀ l : List α, (∀ x ∈ l, (f x).length = k) → (l.flatMap f).length = l.length * k
  | [], _ => by simp
  | x :: r, h => by
    rw [List.flatMap_cons, List.length_append, h x List.mem_cons_self, flat_length f k r (fun y hy => h y (List.mem_cons_of_mem _ hy)), List.length_cons, Nat.add_mul, Nat.one_mul, Nat.add_comm]
/-- Cell q of element i. -/
theorem flat_get {α : Type} (f : α → List Value) (k : Nat) (q : Nat) (hq : q < k) : ∀ (l : List α) (i : Nat) (x : α), (∀ y ∈ l, (f y).length = k) → l[i]? = some x → (l.flatMap f)[i * k + q]? = (f x)[q]?
  | [], i, x, _, h => by simp at h
  | y :: r, 0, x, hk, h => by
    have : y = x := by simpa using h
    subst this
    rw [Nat.zero_mul, Nat.zero_add, List.flatMap_cons, List.getElem?_append_left (by rw [hk y List.mem_cons_self]; exact hq)]
  | y :: r, i + 1, x, hk, h => by
    have h' : r[i]? = some x := by simpa using h
    rw [List.flatMap_cons, List.getElem?_append_right (by rw [hk y List.mem_cons_self, Nat.add_mul]; omega), hk y List.mem_cons_self, show (i + 1) * k + q - k = i * k + q from by rw [Nat.add_mul]; omega]
    exact flat_get f k q hq r i x (fun z hz => hk z (List.mem_cons_of_mem _ hz)) h'
/-- A cell of a slice of whatever elements is written. -/
theorem Sl.setk {w : World} {e k b o n c : Nat} {xs : List Value} (h : Sl w e k (.slice (some ⟨b, o, none⟩) n c) n xs) (i : Nat) (hi : i < n * k) (u : Value) : Sl (w.setCell ⟨b, o + i, none⟩ u) e k (.slice (some ⟨b, o, none⟩) n c) n (xs.set i u) := by
  obtain ⟨h0, ⟨h1, _⟩ | ⟨b', o', c', cs, h1, hc, h3, h4, h5, h6⟩⟩ := h
  · cases h1
  · cases h1
    have hcc : n * k ≤ c * k := Nat.mul_le_mul_right k h3
    refine ⟨by rw [List.length_set]; exact h0, .inr ⟨b, o, c, cs.setIfInBounds (o + i) u, rfl, heap_set hc (o + i) u, h3, h4, by simpa using h5, fun j hj => ?_⟩⟩
    rw [Array.getElem?_setIfInBounds, List.getElem?_set]
    by_cases e : i = j
    · subst e
      rw [if_pos rfl, if_pos (by omega), if_pos rfl, if_pos (by rw [h0]; exact hi)]
    · rw [if_neg (by omega), if_neg e, h6 j hj]
/-- A domain's five cells. -/
def Dm.cells : Value → List Value
  | .agg a => a.toList
  | _ => []
structure Dl (w : World) (sv : Value) (vs : List Value) (ls : List (List Int)) : Prop where
  sl : Sl w 25 5 sv vs.length (vs.flatMap Dm.cells)
  len : vs.length = ls.length
  rep : ∀ i, i < ls.length → Dm.Rep w (vs.getD i undef) (ls.getD i [])
theorem Dm.Rep.cells5 {w : World} {v : Value} {l : List Int} (h : Dm.Rep w v l) : (Dm.cells v).length = 5 := by
  obtain ⟨off, sv, ws, rfl, hx⟩ := h
  rfl
theorem Dl.five {w : World} {sv : Value} {vs : List Value} {ls : List (List Int)} (h : Dl w sv vs ls) : ∀ v ∈ vs, (Dm.cells v).length = 5 := fun v hv => by
  obtain ⟨i, hi, rfl⟩ := List.getElem_of_mem hv
  have := h.rep i (by rw [← h.len]; exact hi)
  rw [List.getD_eq_getElem?_getD, List.getElem?_eq_getElem hi] at this
  exact this.cells5
theorem Dl.call {w w' : World} {sv : Value} {vs : List Value} {ls : List (List Int)} (h : Dl w sv vs ls) (hb : Below w.heap.size w w') : Dl w' sv vs ls := ⟨h.sl.call hb, h.len, fun i hi => (h.rep i hi).call hb⟩
/-- Element i, written out, and its cells. -/
theorem Dl.at {w : World} {A : Option Addr} {c : Nat} {vs : List Value} {ls : List (List Int)} (h : Dl w (.slice A vs.length c) vs ls) (i : Nat) (hi : i < ls.length) :
    ∃ (b o : Nat) (off : Int) (As : Option Addr) (m cs : Nat) (lo hi : Int) (n : Nat), A = some ⟨b, o, none⟩ ∧ vs.getD i undef = .agg #[.int .i64 off, .slice As m cs, .int .i64 lo, .int .i64 hi, .int .i64 n] ∧ n = (ls.getD i []).length ∧ Dm.Rep w (.agg #[.int .i64 off, .slice As m cs, .int .i64 lo, .int .i64 hi, .int .i64 n]) (ls.getD i []) ∧
      w.cell? ⟨b, o + (i * 5 + 0), none⟩ = some (.int .i64 off) ∧ w.cell? ⟨b, o + (i * 5 + 1), none⟩ = some (.slice As m cs) ∧ w.cell? ⟨b, o + (i * 5 + 2), none⟩ = some (.int .i64 lo) ∧ w.cell? ⟨b, o + (i * 5 + 3), none⟩ = some (.int .i64 hi) ∧ w.cell? ⟨b, o + (i * 5 + 4), none⟩ = some (.int .i64 n) := by
  have hr := h.rep i hi
  have hiv : i < vs.length := by rw [h.len]; exact hi
  obtain ⟨b, o, c', cs, e, _⟩ := h.sl.form (by omega)
  cases e
  have hr' := hr
  obtain ⟨off, sv, ws, ev, hx⟩ := hr
  obtain ⟨As, cs', rfl⟩ := hx.sl.len
  have hget : vs[i]? = some (Dm.val off (.slice As ws.length cs') (ls.getD i [])) := by
    rw [List.getD_eq_getElem?_getD, List.getElem?_eq_getElem hiv] at ev
    rw [List.getElem?_eq_getElem hiv]
    exact congrArg some ev
  rw [ev] at hr'
  refine ⟨b, o, off, As, ws.length, cs', _, _, _, rfl, ev, rfl, hr', ?_, ?_, ?_, ?_, ?_⟩
  all_goals
    rw [h.sl.cell _ (by omega), flat_get Dm.cells 5 _ (by decide) vs i _ h.five hget]
    rfl
theorem flat_set5 {α : Type} (f : α → List Value) (v : α) (a0 a1 a2 a3 a4 : Value) (hv : f v = [a0, a1, a2, a3, a4]) : ∀ (l : List α) (i : Nat), (∀ y ∈ l, (f y).length = 5) → i < l.length →
    ((((((l.flatMap f).set (i * 5 + 0) a0).set (i * 5 + 1) a1).set (i * 5 + 2) a2).set (i * 5 + 3) a3).set (i * 5 + 4) a4) = (l.set i v).flatMap f
  | [], i, _, hi => by cases hi
  | y :: r, 0, hk, _ => by
    have h5 := hk y List.mem_cons_self
    rw [List.set_cons_zero, List.flatMap_cons, List.flatMap_cons, hv]
    match hf : f y, h5 with
    | [y0, y1, y2, y3, y4], _ => rfl
  | y :: r, i + 1, hk, hi => by
    have h5 := hk y List.mem_cons_self
    have ih := flat_set5 f v a0 a1 a2 a3 a4 hv r i (fun z hz => hk z (List.mem_cons_of_mem _ hz)) (by simpa using hi)
    have hs : ∀ (X : List Value) (q : Nat) (a : Value), (f y ++ X).set ((i + 1) * 5 + q) a = f y ++ X.set (i * 5 + q) a := fun X q a => by
      rw [List.set_append_right _ _ (by rw [h5, Nat.add_mul]; omega), h5, show (i + 1) * 5 + q - 5 = i * 5 + q from by rw [Nat.add_mul]; omega]
    rw [List.set_cons_succ, List.flatMap_cons, List.flatMap_cons, hs, hs, hs, hs, hs, ih]
/-- One of the domains is another one. -/
theorem Dl.set {w : World} {b o c : Nat} {vs : List Value} {ls : List (List Int)} (h : Dl w (.slice (some ⟨b, o, none⟩) vs.length c) vs ls) (i : Nat) (hi : i < ls.length) (off : Int) (As : Option Addr) (m cs : Nat) (lo hh : Int) (n : Nat) (l : List Int)
    (hr : Dm.Rep w (.agg #[.int .i64 off, .slice As m cs, .int .i64 lo, .int .i64 hh, .int .i64 n]) l) (hn : ∀ j, j < vs.length → Dm.wb (vs.getD j undef) ≠ some b) (hv : (Value.slice As m cs).ownBlock ≠ some b) :
    Dl (((((w.setCell ⟨b, o + (i * 5 + 0), none⟩ (.int .i64 off)).setCell ⟨b, o + (i * 5 + 1), none⟩ (.slice As m cs)).setCell ⟨b, o + (i * 5 + 2), none⟩ (.int .i64 lo)).setCell ⟨b, o + (i * 5 + 3), none⟩ (.int .i64 hh)).setCell ⟨b, o + (i * 5 + 4), none⟩ (.int .i64 n))
      (.slice (some ⟨b, o, none⟩) vs.length c) (vs.set i (.agg #[.int .i64 off, .slice As m cs, .int .i64 lo, .int .i64 hh, .int .i64 n])) (ls.set i l) := by
  have hiv : i < vs.length := by rw [h.len]; exact hi
  have h5 := (((((h.sl.setk (i * 5 + 0) (by omega) (.int .i64 off)).setk (i * 5 + 1) (by omega) (.slice As m cs)).setk (i * 5 + 2) (by omega) (.int .i64 lo)).setk (i * 5 + 3) (by omega) (.int .i64 hh)).setk (i * 5 + 4) (by omega) (.int .i64 n))
  rw [flat_set5 Dm.cells (.agg #[.int .i64 off, .slice As m cs, .int .i64 lo, .int .i64 hh, .int .i64 n]) _ _ _ _ _ rfl vs i h.five hiv] at h5
  have FR : Fr (fun k => k = b) w (((((w.setCell ⟨b, o + (i * 5 + 0), none⟩ (.int .i64 off)).setCell ⟨b, o + (i * 5 + 1), none⟩ (.slice As m cs)).setCell ⟨b, o + (i * 5 + 2), none⟩ (.int .i64 lo)).setCell ⟨b, o + (i * 5 + 3), none⟩ (.int .i64 hh)).setCell ⟨b, o + (i * 5 + 4), none⟩ (.int .i64 n)) := by
    refine Fr.set (Fr.set (Fr.set (Fr.set (Fr.set (Fr.refl _ _) ?_ _) ?_ _) ?_ _) ?_ _) ?_ _
    all_goals exact fun _ => rfl
  have kept : ∀ {v : Value} {l : List Int}, Dm.Rep w v l → Dm.wb v ≠ some b → Dm.Rep _ v l := fun {v l} hr hne => by
    obtain ⟨off', sv', ws', rfl, hx⟩ := hr
    exact ⟨off', sv', ws', rfl, hx.kept FR (fun b' hb' e => hne (by rw [← e]; exact hb'))⟩
  refine ⟨by rw [List.length_set]; exact h5, by rw [List.length_set, List.length_set]; exact h.len, fun j hj => ?_⟩
  rw [List.length_set] at hj
  rw [List.getD_eq_getElem?_getD, List.getD_eq_getElem?_getD, List.getElem?_set, List.getElem?_set]
  by_cases e : i = j
  · subst e
    rw [if_pos rfl, if_pos rfl, if_pos hiv, if_pos hi]
    exact kept hr hv
  · rw [if_neg e, if_neg e]
    have h1 := h.rep j hj
    rw [List.getD_eq_getElem?_getD, List.getD_eq_getElem?_getD] at h1
    have h2 := hn j (by rw [h.len]; exact hj)
    rw [List.getD_eq_getElem?_getD] at h2
    exact kept h1 h2
end Go.Proofs.YtdbjljbkneopcaaDoor
