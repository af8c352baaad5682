/- A store's model: domains, what was saved, level by level. -/
import Derived.Test.YtdbjljbkneopcaaDoorRefA
namespace Go.Proofs.YtdbjljbkneopcaaDoor
open Go
set_option linter.unusedSimpArgs false
set_option linter.unusedVariables false

/-- What was saved is laid back, the last first. -/
def Su.undo (es : List (Nat × List Int)) (cur : List (List Int)) : List (List Int) := es.foldr (fun e c => c.set e.1 e.2) cur
theorem Su.undo_nil (cur : List (List Int)) : Su.undo [] cur = cur := rfl
/-- The order of the fold: the last one is laid back first. -/
theorem Su.undo_snoc (es : List (Nat × List Int)) (e : Nat × List Int) (cur : List (List Int)) : Su.undo (es ++ [e]) cur = Su.undo es (cur.set e.1 e.2) := by
  unfold Su.undo; rw [List.foldr_append]; rfl
theorem Su.undo_append (a b : List (Nat × List Int)) (cur : List (List Int)) : Su.undo (a ++ b) cur = Su.undo a (Su.undo b cur) := by
  unfold Su.undo; rw [List.foldr_append]
theorem Su.undo_length (es : List (Nat × List Int)) (cur : List (List Int)) : (Su.undo es cur).length = cur.length := by
  induction es with
  | nil => rfl
  | cons e r ih => show ((Su.undo r cur).set e.1 e.2).length = _; rw [List.length_set, ih]
/-- A number that is saved already may be anything. -/
theorem Su.undo_set (es : List (Nat × List Int)) (i : Nat) (x : List Int) : ∀ cur : List (List Int), (∃ e ∈ es, e.1 = i) → Su.undo es (cur.set i x) = Su.undo es cur := by
  induction es with
  | nil => rintro cur ⟨e, he, _⟩; cases he
  | cons e r ih =>
    rintro cur ⟨f, hf, rfl⟩
    show (Su.undo r (cur.set f.1 x)).set e.1 e.2 = (Su.undo r cur).set e.1 e.2
    by_cases h : ∃ g ∈ r, g.1 = f.1
    · rw [ih cur h]
    · have hfe : f = e := by
        rcases List.mem_cons.1 hf with h1 | h1
        · exact h1
        · exact absurd ⟨f, h1, rfl⟩ h
      subst hfe
      refine List.ext_getElem? fun j => ?_
      have hl1 : (Su.undo r (cur.set f.1 x)).length = cur.length := by rw [Su.undo_length, List.length_set]
      have hl2 := Su.undo_length r cur
      rw [List.getElem?_set, List.getElem?_set, hl1, hl2]
      by_cases hj : f.1 = j
      · rw [if_pos hj, if_pos hj]
      · rw [if_neg hj, if_neg hj]
        clear ih hf h hl1 hl2
        induction r generalizing j with
        | nil => show (cur.set f.1 x)[j]? = cur[j]?; rw [List.getElem?_set, if_neg hj]
        | cons g r ih =>
          show ((Su.undo r (cur.set f.1 x)).set g.1 g.2)[j]? = ((Su.undo r cur).set g.1 g.2)[j]?
          rw [List.getElem?_set, List.getElem?_set, Su.undo_length, Su.undo_length, List.length_set, ih j hj]
/-- A store: the domains; those of the levels below; what was saved; where each level begins; when each was saved last; the time; what became of them. -/
structure Su.M where
  cur : List (List Int)
  levels : List (List (List Int))
  trail : List (Nat × List Int)
  marks : List Nat
  stamps : List Int
  time : Int
  events : List (Int × Int)
structure Su.Ok (m : Su.M) : Prop where
  len : m.stamps.length = m.cur.length
  lens : m.marks.length = m.levels.length
  mono : m.marks.Pairwise (· ≤ ·)
  le : ∀ k ∈ m.marks, k ≤ m.trail.length
  back : ∀ (k p : Nat) (l : List (List Int)), m.marks[k]? = some p → m.levels[k]? = some l → Su.undo (m.trail.drop p) m.cur = l
  old : ∀ t ∈ m.stamps, t ≤ m.time
  has : ∀ (i p : Nat), m.stamps[i]? = some m.time → m.marks.getLast? = some p → ∃ e ∈ m.trail.drop p, e.1 = i
/-- A level more. -/
def Su.push (m : Su.M) : Su.M := { m with levels := m.levels ++ [m.cur], marks := m.marks ++ [m.trail.length], time := m.time + 1 }
theorem Su.push_ok (m : Su.M) (h : Su.Ok m) : Su.Ok (Su.push m) := by
  refine ⟨h.len, by simp [Su.push, h.lens], ?_, ?_, ?_, ?_, ?_⟩
  · show (m.marks ++ [m.trail.length]).Pairwise (· ≤ ·)
    rw [List.pairwise_append]
    exact ⟨h.mono, List.pairwise_singleton _ _, fun a ha b hb => by rw [List.mem_singleton.1 hb]; exact h.le a ha⟩
  · intro k hk
    rcases List.mem_append.1 hk with hk | hk
    · exact h.le k hk
    · rw [List.mem_singleton.1 hk]; exact Nat.le_refl _
  · intro k p l hp hl
    have hp' : (m.marks ++ [m.trail.length])[k]? = some p := hp
    have hl' : (m.levels ++ [m.cur])[k]? = some l := hl
    rcases Nat.lt_or_ge k m.marks.length with hk | hk
    · rw [List.getElem?_append_left hk] at hp'
      rw [List.getElem?_append_left (by rw [← h.lens]; exact hk)] at hl'
      exact h.back k p l hp' hl'
    · rw [List.getElem?_append_right hk] at hp'
      rw [List.getElem?_append_right (by rw [← h.lens]; exact hk), ← h.lens] at hl'
      have hk0 : k - m.marks.length = 0 := by
        have := (List.getElem?_eq_some_iff.1 hp').1
        simp at this; omega
      rw [hk0] at hp' hl'
      simp at hp' hl'
      subst hp' hl'
      show Su.undo (m.trail.drop m.trail.length) m.cur = m.cur
      rw [List.drop_of_length_le (Nat.le_refl _)]; rfl
  · intro t ht
    have := h.old t ht
    show t ≤ m.time + 1
    omega
  · intro i p hi _
    exfalso
    have := h.old _ (List.mem_of_getElem? hi)
    have h2 : (m.time + 1 : Int) ≤ m.time := this
    omega
/-- A domain is another one. -/
def Su.narrow (m : Su.M) (i : Nat) (x : List Int) (ch : Int) : Su.M :=
  { m with cur := m.cur.set i x, trail := if m.stamps[i]? = some m.time then m.trail else m.trail ++ [(i, m.cur.getD i [])], stamps := m.stamps.set i m.time, events := m.events ++ [((i : Int), ch)] }
theorem Su.drop_le {es : List (Nat × List Int)} {p q : Nat} (h : p ≤ q) {e : Nat × List Int} (he : e ∈ es.drop q) : e ∈ es.drop p := by
  have : es.drop q = (es.drop p).drop (q - p) := by rw [List.drop_drop, show p + (q - p) = q from by omega]
  rw [this] at he
  exact List.mem_of_mem_drop he
theorem Su.last_ge (m : Su.M) (h : Su.Ok m) (p q : Nat) (hp : p ∈ m.marks) (hq : m.marks.getLast? = some q) : p ≤ q := by
  obtain ⟨ys, hys⟩ := List.getLast?_eq_some_iff.1 hq
  have hm := h.mono
  rw [hys] at hp hm
  rw [List.pairwise_append] at hm
  rcases List.mem_append.1 hp with h1 | h1
  · exact hm.2.2 p h1 q (List.mem_singleton.2 rfl)
  · rw [List.mem_singleton.1 h1]; exact Nat.le_refl _
theorem Su.narrow_ok (m : Su.M) (h : Su.Ok m) (i : Nat) (x : List Int) (ch : Int) (hi : i < m.cur.length) : Su.Ok (Su.narrow m i x ch) := by
  have hset : (m.cur.set i x).set i (m.cur.getD i []) = m.cur := by
    rw [List.set_set, List.getD_eq_getElem?_getD, List.getElem?_eq_getElem hi]
    exact List.set_getElem_self hi
  have hlen : m.trail.length ≤ (Su.narrow m i x ch).trail.length := by
    show m.trail.length ≤ (if m.stamps[i]? = some m.time then m.trail else m.trail ++ [(i, m.cur.getD i [])]).length
    split
    · exact Nat.le_refl _
    · rw [List.length_append]; omega
  refine ⟨by show (m.stamps.set i m.time).length = (m.cur.set i x).length; rw [List.length_set, List.length_set]; exact h.len, h.lens, h.mono, fun k hk => Nat.le_trans (h.le k hk) hlen, ?_, ?_, ?_⟩
  · intro k p l hp hl
    have hpm : p ∈ m.marks := List.mem_of_getElem? hp
    rw [← h.back k p l hp hl]
    show Su.undo ((if m.stamps[i]? = some m.time then m.trail else m.trail ++ [(i, m.cur.getD i [])]).drop p) (m.cur.set i x) = _
    split
    · rename_i hs
      obtain ⟨q, hq⟩ : ∃ q, m.marks.getLast? = some q := by
        cases hz : m.marks.getLast? with
        | some q => exact ⟨q, rfl⟩
        | none => rw [List.getLast?_eq_none_iff] at hz; rw [hz] at hpm; cases hpm
      obtain ⟨e, he, hei⟩ := h.has i q hs hq
      exact Su.undo_set _ i x _ ⟨e, Su.drop_le (Su.last_ge m h p q hpm hq) he, hei⟩
    · rw [List.drop_append_of_le_length (h.le p hpm), Su.undo_snoc, hset]
  · intro t ht
    rcases List.mem_or_eq_of_mem_set ht with ht | ht
    · exact h.old t ht
    · rw [ht]; exact Int.le_refl _
  · intro j p hj hp
    have hpm : p ∈ m.marks := List.mem_of_getLast? hp
    show ∃ e ∈ (if m.stamps[i]? = some m.time then m.trail else m.trail ++ [(i, m.cur.getD i [])]).drop p, e.1 = j
    by_cases hji : i = j
    · subst hji
      split
      · rename_i hs; exact h.has i p hs hp
      · rw [List.drop_append_of_le_length (h.le p hpm)]
        exact ⟨_, List.mem_append_right _ (List.mem_singleton.2 rfl), rfl⟩
    · have hj' : m.stamps[j]? = some m.time := by
        have : (m.stamps.set i m.time)[j]? = some m.time := hj
        rwa [List.getElem?_set, if_neg hji] at this
      obtain ⟨e, he, hej⟩ := h.has j p hj' hp
      split
      · exact ⟨e, he, hej⟩
      · rw [List.drop_append_of_le_length (h.le p hpm)]
        exact ⟨e, List.mem_append_left _ he, hej⟩
/-- Back to a level below. -/
def Su.back (m : Su.M) (lv : Nat) : Su.M :=
  { m with cur := Su.undo (m.trail.drop (m.marks.getD lv 0)) m.cur, levels := m.levels.take lv, trail := m.trail.take (m.marks.getD lv 0), marks := m.marks.take lv, time := m.time + 1, events := [] }
theorem Su.back_ok (m : Su.M) (h : Su.Ok m) (lv : Nat) (hl : lv < m.marks.length) : Su.Ok (Su.back m lv) ∧ m.levels[lv]? = some (Su.back m lv).cur := by
  obtain ⟨q, hq⟩ : ∃ q, m.marks[lv]? = some q := ⟨_, List.getElem?_eq_getElem hl⟩
  have hd : m.marks.getD lv 0 = q := by rw [List.getD_eq_getElem?_getD, hq]; rfl
  have hqm : q ∈ m.marks := List.mem_of_getElem? hq
  have hqt := h.le q hqm
  obtain ⟨l, hll⟩ : ∃ l, m.levels[lv]? = some l := ⟨_, List.getElem?_eq_getElem (by rw [← h.lens]; exact hl)⟩
  have hb := h.back lv q l hq hll
  refine ⟨⟨?_, ?_, ?_, ?_, ?_, ?_, ?_⟩, ?_⟩
  · show m.stamps.length = (Su.undo (m.trail.drop (m.marks.getD lv 0)) m.cur).length
    rw [Su.undo_length]; exact h.len
  · show (m.marks.take lv).length = (m.levels.take lv).length
    rw [List.length_take, List.length_take, h.lens]
  · exact h.mono.sublist (List.take_sublist lv m.marks)
  · intro k hk
    show k ≤ (m.trail.take (m.marks.getD lv 0)).length
    rw [hd, List.length_take, Nat.min_eq_left hqt]
    have hk' : k ∈ m.marks.take lv := hk
    obtain ⟨j, hj, rfl⟩ := List.getElem_of_mem hk'
    rw [List.length_take] at hj
    rw [List.getElem_take]
    have := List.pairwise_iff_getElem.1 h.mono j lv (by omega) hl (by omega)
    rw [List.getElem?_eq_getElem hl] at hq
    have hq' : m.marks[lv] = q := Option.some.inj hq
    omega
  · intro k p l' hp hl'
    have hp' : (m.marks.take lv)[k]? = some p := hp
    have hlk' : (m.levels.take lv)[k]? = some l' := hl'
    rw [List.getElem?_take] at hp' hlk'
    split at hp'
    · rename_i hk
      rw [if_pos hk] at hlk'
      have hpq : p ≤ q := by
        have h1 := List.getElem?_eq_some_iff.1 hp'
        have h2 := List.getElem?_eq_some_iff.1 hq
        obtain ⟨a1, a2⟩ := h1
        obtain ⟨b1, b2⟩ := h2
        have := List.pairwise_iff_getElem.1 h.mono k lv a1 b1 hk
        omega
      rw [← h.back k p l' hp' hlk']
      show Su.undo ((m.trail.take (m.marks.getD lv 0)).drop p) (Su.undo (m.trail.drop (m.marks.getD lv 0)) m.cur) = Su.undo (m.trail.drop p) m.cur
      rw [hd, ← Su.undo_append]
      congr 1
      have e : m.trail.drop p = ((m.trail.take q) ++ (m.trail.drop q)).drop p := by rw [List.take_append_drop]
      rw [e, List.drop_append_of_le_length (by rw [List.length_take]; omega)]
    · cases hp'
  · intro t ht
    have := h.old t ht
    show t ≤ m.time + 1
    omega
  · intro i p hi _
    exfalso
    have h2 : (m.time + 1 : Int) ≤ m.time := h.old _ (List.mem_of_getElem? hi)
    omega
  · show _ = some (Su.undo (m.trail.drop (m.marks.getD lv 0)) m.cur)
    rw [hd, hb, hll]
/-- A new one. -/
def Su.new (l : List (List Int)) : Su.M := { cur := l, levels := [], trail := [], marks := [], stamps := List.replicate l.length 0, time := 0, events := [] }
theorem Su.new_ok (l : List (List Int)) : Su.Ok (Su.new l) := by
  refine ⟨?_, rfl, List.Pairwise.nil, ?_, ?_, ?_, ?_⟩
  · show (List.replicate l.length (0 : Int)).length = l.length
    rw [List.length_replicate]
  · intro k hk; cases hk
  · intro k p l' hp
    have : ([] : List Nat)[k]? = some p := hp
    simp at this
  · intro t ht
    have : t ∈ List.replicate l.length (0 : Int) := ht
    rw [(List.mem_replicate.1 this).2]
    exact Int.le_refl _
  · intro i p _ hp
    have : ([] : List Nat).getLast? = some p := hp
    simp at this
end Go.Proofs.YtdbjljbkneopcaaDoor
