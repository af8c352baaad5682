import Derived.Test.YtgckohmppefibaaDoorProg
import Derived.WalkKit
import Derived.KernelRfl
import Derived.Lib.Hide
import Derived.WalkSpells
import Derived.Deep.QuietTactic
import Derived.BigQuiet
import Derived.StillTailTactics
import Derived.ArgAppend
import Derived.Deep.AppendLies
import Derived.Laws.IdiomCopy
/- Small words that all walks of this seat use. -/
namespace Go.Proofs.YtgckohmppefibaaDoor
open Go.RowKit
set_option linter.unusedSimpArgs false
set_option linter.unusedVariables false

theorem ret_int {k : IntKind} {a b : Int} (h : a = b) : Ending.returned (.int k a) = .returned (.int k b) := by rw [h]
theorem ret_bool {a b : Bool} (h : a = b) : Ending.returned (.bool a) = .returned (.bool b) := by rw [h]
theorem below_drewN {B : Nat} {a w : World} (h : Below B a w) (n : Nat) : Below B a (w.drewN n) := ⟨h.os, h.tape, h.output, h.size, h.block⟩
theorem below_alloc {w0 W : World} (h : Below w0.heap.size w0 W) (o : Obj) : Below w0.heap.size w0 (W.alloc o) := h.alloc h.size o
theorem below_call {w0 W w' : World} (h : Below w0.heap.size w0 W) (hb : Below W.heap.size W w') : Below w0.heap.size w0 w' := h.trans (hb.mono h.size)
theorem below_set {w0 W : World} (h : Below w0.heap.size w0 W) {p : Addr} (hp : w0.heap.size ≤ p.block) (u : Value) : Below w0.heap.size w0 (W.setCell p u) := h.setCell hp u
/-- Go's max and min of two whole numbers, as Lean's own. -/
theorem go_max_int (ats : Array TypeId) (ty : TypeId) (k : IntKind) (x y : Int) : Builtin.max_ ats ty #[.int k x, .int k y] = pure (.int k (max x y)) := by
  simp only [Builtin.max_, List.foldlM_cons, List.foldlM_nil, Builtin.max2, gt_iff_lt]
  have e : max x y = if x < y then y else x := by split <;> omega
  rw [e]; split <;> rfl
theorem go_min_int (ats : Array TypeId) (ty : TypeId) (k : IntKind) (x y : Int) : Builtin.min_ ats ty #[.int k x, .int k y] = pure (.int k (min x y)) := by
  simp only [Builtin.min_, List.foldlM_cons, List.foldlM_nil, Builtin.min2]
  have e : min x y = if y < x then y else x := by split <;> omega
  rw [e]; split <;> rfl
theorem bcell {W w1 : World} (hb : Below W.heap.size W w1) : (∀ b o, b < W.heap.size → w1.cell? ⟨b, o, none⟩ = W.cell? ⟨b, o, none⟩) ∧ (∀ b o, b < W.heap.size → w1.frozen? ⟨b, o, none⟩ = W.frozen? ⟨b, o, none⟩) :=
  ⟨fun b o h => hb.cell (p := ⟨b, o, none⟩) h, fun b o h => hb.frozen (p := ⟨b, o, none⟩) h⟩
end Go.Proofs.YtgckohmppefibaaDoor
/- Words on blocks: what a block reads behind an alloc, a draw, a store, a call. -/
namespace Go.Proofs.YtgckohmppefibaaDoor
open Go.RowKit
attribute [local go_sem high] go_max_int go_min_int
set_option linter.unusedSimpArgs false
set_option linter.unusedVariables false

theorem heap_new (w : World) (o : Obj) : (w.alloc o).heap[w.heap.size]? = some o := by
  show (w.heap.push o)[w.heap.size]? = some o
  simp
theorem heap_lt {w : World} {b : Nat} {o : Obj} (h : w.heap[b]? = some o) : b < w.heap.size := by
  rcases Nat.lt_or_ge b w.heap.size with g | g
  · exact g
  · rw [Array.getElem?_eq_none g] at h; cases h
theorem heap_alloc {w : World} {b : Nat} {o : Obj} (h : w.heap[b]? = some o) (p : Obj) : (w.alloc p).heap[b]? = some o := by
  have := heap_lt h
  show (w.heap.push p)[b]? = some o
  rw [Array.getElem?_push, if_neg (by omega)]
  exact h
theorem heap_drew {w : World} {b : Nat} {o : Obj} (h : w.heap[b]? = some o) : w.drew.heap[b]? = some o := h
theorem heap_drewN {w : World} {b : Nat} {o : Obj} (h : w.heap[b]? = some o) (n : Nat) : (w.drewN n).heap[b]? = some o := h
theorem heap_call {w w' : World} {b : Nat} {o : Obj} (h : w.heap[b]? = some o) (hb : Below w.heap.size w w') : w'.heap[b]? = some o := (hb.block b (heap_lt h)).trans h
theorem heap_far {w : World} {b : Nat} {o : Obj} (h : w.heap[b]? = some o) {p : Addr} (hne : b ≠ p.block) (u : Value) : (w.setCell p u).heap[b]? = some o := by
  rw [Below.heap_setCell _ _ _ _ hne]; exact h
theorem heap_set {w : World} {b : Nat} {cs : Array Value} {t : TypeId} {fr : Nat × Nat} (h : w.heap[b]? = some (.cells cs t fr)) (i : Nat) (u : Value) :
    (w.setCell ⟨b, i, none⟩ u).heap[b]? = some (.cells (cs.setIfInBounds i u) t fr) := by
  simp only [World.setCell, Array.getElem?_modify, if_true]
  rw [h]
  rfl
theorem cell_of {w : World} {b : Nat} {cs : Array Value} {t : TypeId} {fr : Nat × Nat} (h : w.heap[b]? = some (.cells cs t fr)) (i : Nat) : w.cell? ⟨b, i, none⟩ = cs[i]? := by
  simp only [World.cell?, h]
  rfl
theorem frozen_of {w : World} {b : Nat} {cs : Array Value} {t : TypeId} (h : w.heap[b]? = some (.cells cs t (0, 0))) (i : Nat) : w.frozen? ⟨b, i, none⟩ = false := by
  simp only [World.frozen?, h]
  simp
end Go.Proofs.YtgckohmppefibaaDoor
/- Words on slices that may begin inside their block: what they read, and what append makes of them. -/
namespace Go.Proofs.YtgckohmppefibaaDoor
open Go.RowKit
attribute [local go_sem high] go_max_int go_min_int
set_option linter.unusedSimpArgs false
set_option linter.unusedVariables false

/-- Only blocks of S may have been written; new ones may have been made. -/
structure Fr (S : Nat → Prop) (w w' : World) : Prop where
  os : w'.os = w.os
  tape : w'.tape = w.tape
  output : w'.output = w.output
  size : w.heap.size ≤ w'.heap.size
  block : ∀ k, k < w.heap.size → ¬ S k → w'.heap[k]? = w.heap[k]?
theorem Fr.refl (S : Nat → Prop) (w : World) : Fr S w w := ⟨rfl, rfl, rfl, Nat.le_refl _, fun _ _ _ => rfl⟩
theorem Fr.trans {S : Nat → Prop} {a b c : World} (h : Fr S a b) (k : Fr S b c) : Fr S a c :=
  ⟨k.os.trans h.os, k.tape.trans h.tape, k.output.trans h.output, Nat.le_trans h.size k.size, fun i hi hn => (k.block i (Nat.lt_of_lt_of_le hi h.size) hn).trans (h.block i hi hn)⟩
/-- What is written behind a first step: blocks of S, or such as that step made. -/
theorem Fr.trans2 {S T : Nat → Prop} {a b c : World} (h : Fr S a b) (k : Fr T b c) (ht : ∀ i, i < a.heap.size → T i → S i) : Fr S a c :=
  ⟨k.os.trans h.os, k.tape.trans h.tape, k.output.trans h.output, Nat.le_trans h.size k.size, fun i hi hn => (k.block i (Nat.lt_of_lt_of_le hi h.size) (fun t => hn (ht i hi t))).trans (h.block i hi hn)⟩
theorem Fr.mono {S T : Nat → Prop} {a b : World} (h : Fr S a b) (ht : ∀ i, i < a.heap.size → S i → T i) : Fr T a b :=
  ⟨h.os, h.tape, h.output, h.size, fun i hi hn => h.block i hi (fun s => hn (ht i hi s))⟩
theorem Fr.of_below {S : Nat → Prop} {a b : World} (h : Below a.heap.size a b) : Fr S a b := ⟨h.os, h.tape, h.output, h.size, fun i hi _ => h.block i hi⟩
theorem Fr.of_grown {a b : World} {row : Option Nat} (h : a.grownBy b row) : Fr (fun k => some k = row) a b := ⟨h.os, h.tape, h.output, h.size, fun i hi hn => h.block i hi hn⟩
theorem Fr.alloc {S : Nat → Prop} {a b : World} (h : Fr S a b) (o : Obj) : Fr S a (b.alloc o) := h.trans (Fr.of_below (below_alloc (Below.refl _ _) o))
theorem Fr.drew {S : Nat → Prop} {a b : World} (h : Fr S a b) : Fr S a b.drew := ⟨h.os, h.tape, h.output, h.size, h.block⟩
theorem Fr.drewN {S : Nat → Prop} {a b : World} (h : Fr S a b) (n : Nat) : Fr S a (b.drewN n) := ⟨h.os, h.tape, h.output, h.size, h.block⟩
theorem Fr.set {S : Nat → Prop} {a b : World} (h : Fr S a b) {p : Addr} (hp : p.block < a.heap.size → S p.block) (u : Value) : Fr S a (b.setCell p u) :=
  ⟨h.os, h.tape, h.output, by simpa [World.setCell] using h.size, fun i hi hn => by
    rw [Below.heap_setCell _ _ _ _ (fun e => hn (by subst e; exact hp hi))]
    exact h.block i hi hn⟩
/-- Where all that may be written lies from the first world's end on, what was there is as it was. -/
theorem Fr.below {S : Nat → Prop} {a b c : World} (h : Below a.heap.size a b) (k : Fr S b c) (hs : ∀ i, S i → a.heap.size ≤ i) : Below a.heap.size a c :=
  h.trans ⟨k.os, k.tape, k.output, k.size, fun i hi => k.block i (Nat.lt_of_lt_of_le hi h.size) (fun s => by have := hs i s; omega)⟩
theorem Fr.heap {S : Nat → Prop} {a b : World} (h : Fr S a b) {k : Nat} {o : Obj} (hk : a.heap[k]? = some o) (hn : ¬ S k) : b.heap[k]? = some o := (h.block k (heap_lt hk) hn).trans hk

/-- A slice's value reads xs: n elements of size cells each; it may begin inside its block. -/
def Sl (w : World) (e size : Nat) (v : Value) (n : Nat) (xs : List Value) : Prop :=
  xs.length = n * size ∧ ((v = .slice none 0 0 ∧ n = 0) ∨
    ∃ b o c cs, v = .slice (some ⟨b, o, none⟩) n c ∧ w.heap[b]? = some (.cells cs e (0, 0)) ∧ n ≤ c ∧ c ≤ maxLen ∧ o + c * size ≤ cs.size ∧ ∀ j, j < n * size → cs[o + j]? = xs[j]?)

theorem Sl.nil (w : World) (e size : Nat) : Sl w e size (.slice none 0 0) 0 [] := ⟨by simp, .inl ⟨rfl, rfl⟩⟩
theorem Sl.len {w : World} {e size : Nat} {v : Value} {n : Nat} {xs : List Value} (h : Sl w e size v n xs) : ∃ A c, v = .slice A n c := by
  obtain ⟨_, ⟨rfl, rfl⟩ | ⟨b, o, c, cs, rfl, _⟩⟩ := h
  · exact ⟨_, _, rfl⟩
  · exact ⟨_, _, rfl⟩
theorem Sl.form {w : World} {e size : Nat} {v : Value} {n : Nat} {xs : List Value} (h : Sl w e size v n xs) (hn : 0 < n) :
    ∃ b o c cs, v = .slice (some ⟨b, o, none⟩) n c ∧ w.heap[b]? = some (.cells cs e (0, 0)) ∧ n ≤ c ∧ c ≤ maxLen ∧ o + c * size ≤ cs.size ∧ ∀ j, j < n * size → cs[o + j]? = xs[j]? := by
  obtain ⟨_, ⟨rfl, rfl⟩ | h⟩ := h
  · omega
  · exact h
theorem Sl.lt {w : World} {e size : Nat} {v : Value} {n : Nat} {xs : List Value} (h : Sl w e size v n xs) {b : Nat} (hb : v.ownBlock = some b) : b < w.heap.size := by
  obtain ⟨_, ⟨rfl, rfl⟩ | ⟨b', o, c, cs, rfl, hc, _⟩⟩ := h
  · cases hb
  · cases hb; exact heap_lt hc
theorem Sl.kept {S : Nat → Prop} {w w' : World} {e size : Nat} {v : Value} {n : Nat} {xs : List Value} (h : Sl w e size v n xs) (hf : Fr S w w') (hn : ∀ b, v.ownBlock = some b → ¬ S b) : Sl w' e size v n xs := by
  obtain ⟨h0, ⟨rfl, rfl⟩ | ⟨b, o, c, cs, rfl, hc, h1⟩⟩ := h
  · exact ⟨h0, .inl ⟨rfl, rfl⟩⟩
  · exact ⟨h0, .inr ⟨b, o, c, cs, rfl, hf.heap hc (hn b rfl), h1⟩⟩
theorem Sl.call {w w' : World} {e size : Nat} {v : Value} {n : Nat} {xs : List Value} (h : Sl w e size v n xs) (hf : Below w.heap.size w w') : Sl w' e size v n xs :=
  h.kept (S := fun _ => False) (Fr.of_below hf) (fun _ _ => id)
theorem Sl.alloc {w : World} {e size : Nat} {v : Value} {n : Nat} {xs : List Value} (h : Sl w e size v n xs) (o : Obj) : Sl (w.alloc o) e size v n xs := h.call (below_alloc (Below.refl _ _) o)
theorem Sl.drew {w : World} {e size : Nat} {v : Value} {n : Nat} {xs : List Value} (h : Sl w e size v n xs) : Sl w.drew e size v n xs := h
theorem Sl.drewN {w : World} {e size : Nat} {v : Value} {n : Nat} {xs : List Value} (h : Sl w e size v n xs) (k : Nat) : Sl (w.drewN k) e size v n xs := h
theorem Sl.cell {w : World} {e size : Nat} {b o n c : Nat} {xs : List Value} (h : Sl w e size (.slice (some ⟨b, o, none⟩) n c) n xs) (j : Nat) (hj : j < n * size) : w.cell? ⟨b, o + j, none⟩ = xs[j]? := by
  obtain ⟨_, ⟨h1, _⟩ | ⟨b', o', c', cs, h1, hc, _, _, _, h2⟩⟩ := h
  · cases h1
  · cases h1
    rw [cell_of hc, h2 j hj]
theorem Sl.frozen {w : World} {e size : Nat} {b o n c : Nat} {xs : List Value} (h : Sl w e size (.slice (some ⟨b, o, none⟩) n c) n xs) (j : Nat) : w.frozen? ⟨b, j, none⟩ = false := by
  obtain ⟨_, ⟨h1, _⟩ | ⟨b', o', c', cs, h1, hc, _⟩⟩ := h
  · cases h1
  · cases h1; exact frozen_of hc j
/-- Without its first element (of one cell). -/
theorem Sl.tail {w : World} {e : Nat} {b o n c : Nat} {x : Value} {xs : List Value} (h : Sl w e 1 (.slice (some ⟨b, o, none⟩) (n + 1) c) (n + 1) (x :: xs)) (o' : Nat) (ho : o' = if c = 1 then o else o + 1) : Sl w e 1 (.slice (some ⟨b, o', none⟩) n (c - 1)) n xs := by
  obtain ⟨h0, ⟨h1, _⟩ | ⟨b', o'', c', cs, h1, hc, h3, h4, h5, h2⟩⟩ := h
  · cases h1
  · cases h1
    refine ⟨by simpa using h0, .inr ⟨b, o', c - 1, cs, rfl, hc, by omega, by omega, ?_, ?_⟩⟩
    · subst ho; split <;> omega
    · intro j hj
      have := h2 (j + 1) (by omega)
      rw [show o' + j = o + (j + 1) from by subst ho; split <;> omega, this]
      rfl

theorem heap_setCells (b : Nat) : ∀ (vs : List Value) (o : Nat) (w : World) (cs : Array Value) (t : TypeId) (fr : Nat × Nat), w.heap[b]? = some (.cells cs t fr) → o + vs.length ≤ cs.size →
    ∃ cs', (w.setCells b o vs).heap[b]? = some (.cells cs' t fr) ∧ cs'.size = cs.size ∧ (∀ j, j < o → cs'[j]? = cs[j]?) ∧ ∀ j, j < vs.length → cs'[o + j]? = vs[j]?
  | [], o, w, cs, t, fr, h, _ => ⟨cs, h, rfl, fun _ _ => rfl, fun j hj => by simp at hj⟩
  | v :: r, o, w, cs, t, fr, h, hl => by
    simp only [List.length_cons] at hl
    obtain ⟨cs', h1, h2, h3, h4⟩ := heap_setCells b r (o + 1) (w.setCell ⟨b, o, none⟩ v) (cs.setIfInBounds o v) t fr (heap_set h o v) (by simp; omega)
    refine ⟨cs', h1, by simpa using h2, ?_, ?_⟩
    · intro j hj
      rw [h3 j (by omega), Array.getElem?_setIfInBounds]
      rw [if_neg (by omega)]
    · intro j hj
      cases j with
      | zero =>
        rw [Nat.add_zero, h3 o (by omega), Array.getElem?_setIfInBounds]
        simp; omega
      | succ j =>
        rw [show o + (j + 1) = o + 1 + j from by omega, h4 j (by simp at hj; omega)]
        rfl
theorem Fr.setCells (b : Nat) : ∀ (vs : List Value) (o : Nat) (w : World), Fr (fun k => k = b) w (w.setCells b o vs)
  | [], _, w => Fr.refl _ w
  | v :: r, o, w => (Fr.set (S := fun k => k = b) (Fr.refl _ w) (p := ⟨b, o, none⟩) (fun _ => rfl) v).trans2 (Fr.setCells b r (o + 1) _) (fun _ _ h => h)

theorem Sl.of_own {w : World} {base e size : Nat} {v : Value} {n : Nat} {xs : List Value} (h : w.ownsRow base e size v n xs) : Sl w e size v n xs := by
  obtain ⟨h0, ⟨rfl, rfl⟩ | ⟨g, cap, cur, rfl, _, hg, h1, h2, h3, h4⟩⟩ := h
  · exact ⟨h0, .inl ⟨rfl, rfl⟩⟩
  · refine ⟨h0, .inr ⟨g, 0, cap, cur, rfl, hg, h1, h2, by omega, fun j hj => ?_⟩⟩
    rw [← h4, Nat.zero_add, List.getElem?_take, if_pos hj]
    simp

section
variable {P : Program}
/-- append of some elements that lie in another place: as long as there is room in place, else in a new block. -/
theorem run_append_sl (w : World) (t ty : TypeId) (e : TypeId) (i : TypeInfo) (z : Value) (size bytes : Nat) (ht : P.underlying t = some (.slice e)) (hi : P.info? e = some i) (hz : i.zero = some z)
    (hsize : i.size = size) (hby : i.bytes = bytes) (hzs : z.cells.size = size) (hsz : 0 < size)
    (v : Value) (n : Nat) (xs : List Value) (hown : Sl w e size v n xs)
    (ad : Addr) (m c : Nat) (news : List Value) (hl : news.length = m * size) (hnews : ∀ j u, news[j]? = some u → w.cell? (ad.add j) = some u) (h1 : ∀ u ∈ news, u.oneCell' = true)
    (hm : 0 < m) (h63 : n + m ≤ maxLen) (hbytes : (n + m) * bytes ≤ 140737488355328) :
    ∃ b o c' w', (Builtin.append_ #[t, t] ty #[v, .slice (some ad) m c]).run P w = .ok (.slice (some ⟨b, o, none⟩) (n + m) c') w' ∧ Sl w' e size (.slice (some ⟨b, o, none⟩) (n + m) c') (n + m) (xs ++ news) ∧
      Fr (fun k => v.ownBlock = some k) w w' ∧ (v.ownBlock = some b ∨ (b = w.heap.size ∧ w.heap.size < w'.heap.size)) := by
  have grown : ∀ {v' : Value} {w' : World} {row : Option Nat}, w'.ownsRow w.heap.size e size v' (n + m) (xs ++ news) → w.grownBy w' none → ∃ b c', v' = .slice (some ⟨b, 0, none⟩) (n + m) c' ∧ w.heap.size ≤ b ∧ b < w'.heap.size := by
    intro v' w' _ h _
    obtain ⟨g, cap, rfl, hb, hlt⟩ := h.form (by omega)
    exact ⟨g, cap, rfl, hb, hlt⟩
  obtain ⟨h0, ⟨rfl, rfl⟩ | ⟨b, o, cp, cs, rfl, hc, hnc, hcm, hfit, hrd⟩⟩ := hown
  · obtain rfl : xs = [] := by cases xs with | nil => rfl | cons => simp at h0
    obtain ⟨g, cap, w', hr, h2, h3, h4, h5⟩ := run_append_lies (P := P) w t ty w.heap.size e i z size bytes ht hi hz hsize hby hzs hsz (.slice none 0 0) 0 [] (World.ownsRow_nil w _ e size) ad m c news hl hnews h1 hm h63 hbytes (Nat.le_refl _) w.heap.size rfl
    have hg : g = w.heap.size := by rcases h4 with h4 | h4; · cases h4
                                    · exact h4
    exact ⟨g, 0, cap, w', hr, Sl.of_own h2, (Fr.of_grown h3).mono (fun k _ hk => hk.symm), .inr ⟨hg, by omega⟩⟩
  · by_cases hroom : n + m ≤ cp
    · have hle : n * size + news.length ≤ cp * size := by rw [hl, ← Nat.add_mul]; exact Nat.mul_le_mul_right _ hroom
      have hr := run_append_room_cells (P := P) w t ty e i ht hi b o n cp ad m c news (by rw [hsize]; exact hl) hnews h1 hroom
        (fun j hj => by rw [hsize, cell_of hc]; simp; omega) (fun j _ => frozen_of hc _)
      rw [hsize] at hr
      obtain ⟨cs', k1, k2, k3, k4⟩ := heap_setCells b news (o + n * size) w cs e (0, 0) hc (by omega)
      refine ⟨b, o, cp, _, hr, ⟨by rw [List.length_append, h0, hl, Nat.add_mul], .inr ⟨b, o, cp, cs', rfl, k1, hroom, hcm, by omega, ?_⟩⟩, (Fr.setCells b news _ w).mono (fun k _ hk => by rw [hk]; rfl), .inl rfl⟩
      intro j hj
      rw [Nat.add_mul] at hj
      rcases Nat.lt_or_ge j (n * size) with hjl | hjl
      · rw [k3 _ (by omega), hrd j hjl, List.getElem?_append_left (by omega)]
      · rw [List.getElem?_append_right (by omega), show o + j = o + n * size + (j - n * size) from by omega, k4 _ (by omega), h0]
    · obtain ⟨v', w', hr, h2, h3⟩ := run_append_arg_grows (P := P) w t ty e i z size bytes ht hi hz hsize hby hzs hsz ⟨b, o, none⟩ n cp xs h0
        (fun j u hu => by
          have hj : j < n * size := by rw [← h0]; exact (List.getElem?_eq_some_iff.1 hu).1
          rw [show (⟨b, o, none⟩ : Addr).add j = ⟨b, o + j, none⟩ from by unfold Addr.add; split <;> simp_all, cell_of hc, hrd j hj, hu])
        ad m c news hl hnews (by omega) h63 hbytes
      obtain ⟨g, cap, rfl, hb, hlt⟩ := h2.form (by omega)
      have hgs : g = w.heap.size := by
        have := run_append_grow (P := P) w t ty e i z ht hi hz ⟨b, o, none⟩ n cp xs (by rw [hsize]; exact h0)
          (fun j u hu => by
            have hj : j < n * size := by rw [← h0]; exact (List.getElem?_eq_some_iff.1 hu).1
            rw [show (⟨b, o, none⟩ : Addr).add j = ⟨b, o + j, none⟩ from by unfold Addr.add; split <;> simp_all, cell_of hc, hrd j hj, hu])
          ad m c news (by rw [hsize]; exact hl) hnews (by omega) (by simp only [maxLen] at h63; omega) (by rw [hby]; exact growslice_fits (by omega) hbytes)
        rw [this] at hr
        injection hr with e1 _
        injection e1 with e2 _ _
        injection e2 with e3
        injection e3 with e4 _ _
        exact e4.symm
      exact ⟨g, 0, cap, w', hr, Sl.of_own h2, (Fr.of_grown h3).mono (fun k _ hk => by cases hk), .inr ⟨hgs, by omega⟩⟩

theorem wp_append_sl (w : World) {o : Oper} {a : Act} {K : Act → World → Prop} {Q : Exit → Act → World → Prop} (s x : Operand) (t : TypeId)
    (ho : o.op = .call { callee := .builtin .append, args := #[s, x], argTypes := #[t, t] })
    (e : TypeId) (i : TypeInfo) (z : Value) (size bytes : Nat) (ht : P.underlying t = some (.slice e)) (hi : P.info? e = some i) (hz : i.zero = some z)
    (hsize : i.size = size) (hby : i.bytes = bytes) (hzs : z.cells.size = size) (hsz : 0 < size)
    (v : Value) (n : Nat) (xs : List Value) (hs : a.eval s = v) (hown : Sl w e size v n xs)
    (ad : Addr) (m c : Nat) (news : List Value) (hx : a.eval x = .slice (some ad) m c) (hl : news.length = m * size) (hnews : ∀ j u, news[j]? = some u → w.cell? (ad.add j) = some u) (h1 : ∀ u ∈ news, u.oneCell' = true)
    (hm : 0 < m) (h63 : n + m ≤ maxLen) (hbytes : (n + m) * bytes ≤ 140737488355328) (H : Nat) (hH : w.heap.size = H)
    (h : ∀ b f c' w', Sl w' e size (.slice (some ⟨b, f, none⟩) (n + m) c') (n + m) (xs ++ news) → Fr (fun k => v.ownBlock = some k) w w' → (v.ownBlock = some b ∨ (b = H ∧ H < w'.heap.size)) → K (a.put o.dst (.slice (some ⟨b, f, none⟩) (n + m) c')) w') : o.wp P a w K Q := by
  subst hH
  obtain ⟨b, f, c', w', hr, h2, h3, h4⟩ := run_append_sl (P := P) w t o.type e i z size bytes ht hi hz hsize hby hzs hsz v n xs hown ad m c news hl hnews h1 hm h63 hbytes
  unfold Oper.wp execOp
  simp only [ho, resolve, invoke, builtin, Sem.run_bind, Sem.run_pure, Result.andThen_ok, List.map_toArray, List.map_cons, List.map_nil, hs, hx, hr]
  exact h b f c' w' h2 h3 h4
theorem wpList_append_sl (w : World) {ops : Array Oper} {rest : List Oper} {o : Oper} {a : Act} {Q : Exit → Act → World → Prop} (hgd : o.guard = none) (s x : Operand) (t : TypeId)
    (ho : o.op = .call { callee := .builtin .append, args := #[s, x], argTypes := #[t, t] })
    (e : TypeId) (i : TypeInfo) (z : Value) (size bytes : Nat) (ht : P.underlying t = some (.slice e)) (hi : P.info? e = some i) (hz : i.zero = some z)
    (hsize : i.size = size) (hby : i.bytes = bytes) (hzs : z.cells.size = size) (hsz : 0 < size)
    (v : Value) (n : Nat) (xs : List Value) (hs : a.eval s = v) (hown : Sl w e size v n xs)
    (ad : Addr) (m c : Nat) (news : List Value) (hx : a.eval x = .slice (some ad) m c) (hl : news.length = m * size) (hnews : ∀ j u, news[j]? = some u → w.cell? (ad.add j) = some u) (h1 : ∀ u ∈ news, u.oneCell' = true)
    (hm : 0 < m) (h63 : n + m ≤ maxLen) (hbytes : (n + m) * bytes ≤ 140737488355328) (H : Nat) (hH : w.heap.size = H)
    (h : ∀ b f c' w', Sl w' e size (.slice (some ⟨b, f, none⟩) (n + m) c') (n + m) (xs ++ news) → Fr (fun k => v.ownBlock = some k) w w' → (v.ownBlock = some b ∨ (b = H ∧ H < w'.heap.size)) → wpList P ops Q rest (a.put o.dst (.slice (some ⟨b, f, none⟩) (n + m) c')) w') : wpList P ops Q (o :: rest) a w :=
  wpList_plain hgd fun _ hK => wp_append_sl w s x t ho e i z size bytes ht hi hz hsize hby hzs hsz v n xs hs hown ad m c news hx hl hnews h1 hm h63 hbytes H hH fun b f c' w' h2 h3 h4 => hK _ _ (h b f c' w' h2 h3 h4)
end
end Go.Proofs.YtgckohmppefibaaDoor
