import Derived.Test.YtgckohmppefibaaDoorNgE
import Derived.Test.YtgckohmppefibaaDoorShelf
import Derived.Below
import Derived.Laws.AppendOwn
/- Chapter 24: the sort of the library at literals, by their order. -/
namespace Go.Proofs.YtgckohmppefibaaDoor
open Go Go.Shelf Go.RowKit Go.Lib Go.Sort
set_option linter.unusedVariables false
set_option linter.unusedSimpArgs false
theorem Ng.lt_iff (x y : Int × Int) : ltOf Ng.cf x y = decide (x.1 < y.1 ∨ x.1 = y.1 ∧ x.2 < y.2) := by
  unfold ltOf Ng.cf Ng.or Ng.cmp
  rw [Bool.eq_iff_iff, decide_eq_true_eq, decide_eq_true_eq]
  repeat' split
  all_goals omega
theorem Ng.swo : SWO (ltOf Ng.cf) where
  irrefl x := by rw [Ng.lt_iff, decide_eq_false_iff_not]; omega
  trans x y z h1 h2 := by rw [Ng.lt_iff, decide_eq_true_eq] at *; omega
  ntrans x y z h1 h2 := by rw [Ng.lt_iff, decide_eq_false_iff_not] at *; omega
theorem Ng.tot (x y : Int × Int) (h1 : ltOf Ng.cf x y = false) (h2 : ltOf Ng.cf y x = false) : x = y := by
  rw [Ng.lt_iff, decide_eq_false_iff_not] at h1 h2
  exact Prod.ext (by omega) (by omega)
/-- Literals in order. -/
def Ng.sorted (d : Array (Int × Int)) : Array (Int × Int) := (d.toList.mergeSort fun x y => !(ltOf Ng.cf) y x).toArray
theorem Ng.sorted_size (d : Array (Int × Int)) : (Ng.sorted d).size = d.size := by simp [Ng.sorted]
theorem ng_sort (blk cap : Nat) (d : Array (Int × Int)) (w : World) (hH : HoldsK Ng.enc 2 w blk 0 d) (hblk : blk < w.heap.size) (hsz : d.size ≤ 1000000) :
    Calls Tryd.prog 65 #[.slice (some ⟨blk, 0, none⟩) d.size cap, .func (.func 66) #[] #[]] w fun e w' => e = .returned (.tuple #[]) ∧ ∃ n os, w' = sortWorldK Ng.enc 2 w blk 0 n (Ng.sorted d) os := by
  have eg : ∀ args w, (callFunc 66 args).run Tryd.prog w = .ok (.enter 66 args) w := enters_of Tryd.func66 (by kernel_rfl) rfl
  have hcmp : CmpLays Tryd.prog 66 #[] Ng.enc 2 Ng.cf blk 0 d.size w := fun m os dk _ x y => (ng_order x y _).mono fun e w' h => h
  exact AnyQ.slices_SortFunc_total Tryd.sortLit 2 Tryd.isAgg29 Tryd.sizeOf29 Ng.enc (fun _ => rfl) Ng.enc_one Ng.cf Ng.swo 66 #[] blk 0 cap d w eg hcmp hH hblk (by omega) Ng.tot
end Go.Proofs.YtgckohmppefibaaDoor
/- Chapter 24: an owned row of literals, sorted and compacted: still owned. -/
namespace Go.Proofs.YtgckohmppefibaaDoor
open Go Go.Shelf Go.RowKit Go.Lib Go.Sort
set_option linter.unusedVariables false
set_option linter.unusedSimpArgs false
/-- The cells of literals. -/
def Ng.Fl (L : List (Int × Int)) (cs : List Value) : Prop := cs.length = L.length * 2 ∧ ∀ j (h : j < L.length), cs[j * 2]? = some (.int .i64 L[j].1) ∧ cs[j * 2 + 1]? = some (.int .i64 L[j].2)
theorem Ng.flat_at (L : List (Int × Int)) (j : Nat) (h : j < L.length) : (flatK Ng.enc 2 L.toArray)[j * 2]! = .int .i64 L[j].1 ∧ (flatK Ng.enc 2 L.toArray)[j * 2 + 1]! = .int .i64 L[j].2 := by
  have e : L.toArray[j]! = L[j] := by simp [h]
  rw [get_flatK _ _ _ _ (by simp; omega), get_flatK _ _ _ _ (by simp; omega), show j * 2 / 2 = j from by omega, show (j * 2 + 1) / 2 = j from by omega, show j * 2 % 2 = 0 from by omega, show (j * 2 + 1) % 2 = 1 from by omega, e]
  exact ⟨rfl, rfl⟩
theorem Ng.holds_own {w : World} {g : Nat} {cur : Array Value} {e : TypeId} {L : List (Int × Int)} {cs : List Value} (hb : w.heap[g]? = some (.cells cur e (0, 0))) (ht : cur.toList.take (L.length * 2) = cs) (hf : Ng.Fl L cs) : HoldsK Ng.enc 2 w g 0 L.toArray := by
  intro j hj
  have hj2 : j < L.length * 2 := by simpa using hj
  refine ⟨?_, by simp [World.frozen?, hb]⟩
  have h1 : cur.toList[j]? = cs[j]? := by rw [← ht, List.getElem?_take_of_lt hj2]
  simp only [World.cell?, hb, Nat.zero_add]
  simp only [Option.isSome_none, Bool.false_eq_true, if_false]
  rw [← Array.getElem?_toList, h1]
  have h2 := hf.2 (j / 2) (by omega)
  have h3 := Ng.flat_at L (j / 2) (by omega)
  have h4 : j % 2 = 0 ∨ j % 2 = 1 := by omega
  rcases h4 with h4 | h4
  · have e5 : j / 2 * 2 = j := by omega
    rw [e5] at h2 h3
    rw [h2.1, id, h3.1]
  · have e5 : j / 2 * 2 + 1 = j := by omega
    rw [e5] at h2 h3
    rw [h2.2, id, h3.2]
theorem Ng.heap_put {w : World} {g n : Nat} {os : Array Obj} {cur : Array Value} {e : TypeId} {fr : Nat × Nat} (F : Array Value) (hb : w.heap[g]? = some (.cells cur e fr)) :
    (grow (putRow id (Sort.ahead w n) g 0 F) os).heap[g]? = some (.cells (putCells id 0 F cur) e fr) := by
  have hg : g < w.heap.size := (Array.getElem?_eq_some_iff.1 hb).1
  rw [heap_grow_old _ _ (by simpa using hg)]
  simp [putRow, mapBlock, Sort.ahead, Array.getElem?_modify, hb, onCells]
theorem Ng.grown_put {w : World} {g n : Nat} {os : Array Obj} (F : Array Value) : w.grownBy (grow (putRow id (Sort.ahead w n) g 0 F) os) (some g) := by
  refine ⟨rfl, rfl, rfl, by simp, fun k hk hne => ?_⟩
  rw [heap_grow_old _ _ (by simpa using hk)]
  have : g ≠ k := fun e => hne (by rw [e])
  simp [putRow, mapBlock, Sort.ahead, Array.getElem?_modify, this]
theorem Ng.put_size (F cur : Array Value) : (putCells id 0 F cur).size = cur.size := by simp [putCells]
theorem Ng.put_get (F cur : Array Value) (t : Nat) (h1 : t < cur.size) (h2 : t < F.size) : (putCells id 0 F cur).toList[t]? = some F[t]! := by
  rw [Array.getElem?_toList]
  simp [putCells, h1, h2]
/-- Sorted, then compacted. -/
def Ng.made (L : List (Int × Int)) : List (Int × Int) := compactUpTo (Ng.sorted L.toArray) (Ng.sorted L.toArray).size
theorem Ng.made_le (L : List (Int × Int)) : (Ng.made L).length ≤ L.length := by
  unfold Ng.made compactUpTo
  rw [List.length_map]
  refine Nat.le_trans (List.length_filter_le _ _) ?_
  rw [List.length_range, Ng.sorted_size]; simp
theorem Ng.made_nil : Ng.made [] = [] := List.eq_nil_of_length_eq_zero (Nat.le_zero.1 (Ng.made_le []))
theorem Ng.own_after {w1 w2 w3 : World} {base g cap : Nat} {L : List (Int × Int)} {cur : Array Value} {e : TypeId} {n q : Nat} {os : Array Obj} {F : Array Value} (hbase : base ≤ g) (hb : w1.heap[g]? = some (.cells cur e (0, 0))) (h1 : L.length ≤ cap) (h2 : cap ≤ maxLen) (h3 : cur.size = cap * 2)
    (hw2 : w2 = sortWorldK Ng.enc 2 w1 g 0 n (Ng.sorted L.toArray) os) (hw3 : w3 = putRow id (Sort.ahead w2 q) g 0 F) (hF : F.size = L.length * 2)
    (hFv : ∀ j, j < (Ng.made L).length → F[j * 2]! = .int .i64 (Ng.made L)[j]!.1 ∧ F[j * 2 + 1]! = .int .i64 (Ng.made L)[j]!.2) :
    ∃ cs, w3.ownsRow base e 2 (.slice (some ⟨g, 0, none⟩) (Ng.made L).length cap) (Ng.made L).length cs ∧ Ng.Fl (Ng.made L) cs := by
  have hle := Ng.made_le L
  have b2 : w2.heap[g]? = some (.cells (putCells id 0 (flatK Ng.enc 2 (Ng.sorted L.toArray)) cur) e (0, 0)) := by rw [hw2]; exact Ng.heap_put _ hb
  have b3 : w3.heap[g]? = some (.cells (putCells id 0 F (putCells id 0 (flatK Ng.enc 2 (Ng.sorted L.toArray)) cur)) e (0, 0)) := by
    have h := Ng.heap_put (n := q) (os := #[]) F b2
    rw [grow_empty] at h
    rw [hw3]; exact h
  generalize hc2 : putCells id 0 (flatK Ng.enc 2 (Ng.sorted L.toArray)) cur = c2 at b2 b3
  have hs2 : c2.size = cap * 2 := by rw [← hc2, Ng.put_size, h3]
  have hs3 : (putCells id 0 F c2).size = cap * 2 := by rw [Ng.put_size, hs2]
  have hl3 : (putCells id 0 F c2).toList.length = cap * 2 := by rw [Array.length_toList]; exact hs3
  refine ⟨(putCells id 0 F c2).toList.take ((Ng.made L).length * 2), ⟨by rw [List.length_take, hl3]; omega, .inr ⟨g, cap, _, rfl, hbase, b3, by omega, h2, hs3, rfl⟩⟩, by rw [List.length_take, hl3]; omega, fun j hj => ?_⟩
  have hv := hFv j hj
  have e3 : (Ng.made L)[j]! = (Ng.made L)[j] := by simp [hj]
  rw [e3] at hv
  rw [List.getElem?_take_of_lt (by omega), List.getElem?_take_of_lt (by omega), Ng.put_get F c2 _ (by omega) (by omega), Ng.put_get F c2 _ (by omega) (by omega), hv.1, hv.2]
  exact ⟨rfl, rfl⟩
theorem Ng.grown_after {w1 w2 w3 : World} {g : Nat} {d : Array (Int × Int)} {n q : Nat} {os : Array Obj} {F : Array Value} (hg : g < w1.heap.size) (hw2 : w2 = sortWorldK Ng.enc 2 w1 g 0 n d os) (hw3 : w3 = putRow id (Sort.ahead w2 q) g 0 F) : w1.grownBy w3 (some g) := by
  have h2 : w1.grownBy w2 (some g) := by rw [hw2]; exact Ng.grown_put _
  have h3 : w2.grownBy w3 (some g) := by
    have h := Ng.grown_put (w := w2) (g := g) (n := q) (os := #[]) F
    rw [grow_empty] at h
    rw [hw3]; exact h
  obtain ⟨a1, a2, a3, a4, a5⟩ := h2
  obtain ⟨b1, b2, b3, b4, b5⟩ := h3
  exact ⟨b1.trans a1, b2.trans a2, b3.trans a3, Nat.le_trans a4 b4, fun k hk hne => (b5 k (by omega) hne).trans (a5 k hk hne)⟩
theorem Ng.holds_after {w1 w2 : World} {g n : Nat} {os : Array Obj} {L : List (Int × Int)} (hg : g < w1.heap.size) (hH : HoldsK Ng.enc 2 w1 g 0 L.toArray) (hw2 : w2 = sortWorldK Ng.enc 2 w1 g 0 n (Ng.sorted L.toArray) os) : HoldsK Ng.enc 2 w2 g 0 (Ng.sorted L.toArray) := by
  rw [hw2]
  unfold sortWorldK
  refine holdsK_grow Ng.enc 2 _ os g 0 _ (by simpa [putRowK, putRow, mapBlock, Sort.ahead] using hg) ?_
  exact holdsK_putRowK Ng.enc 2 _ g 0 L.toArray _ (holdsK_ahead Ng.enc 2 w1 n g 0 _ hH) (Ng.sorted_size _)
end Go.Proofs.YtgckohmppefibaaDoor
/- Chapter 24, the plain law: sorted and compacted is the same as put in order one by one. -/
namespace Go.Proofs.YtgckohmppefibaaDoor
open Go Go.Lib Go.Sort
set_option linter.unusedVariables false
set_option linter.unusedSimpArgs false
def Ng.lt (x y : Int × Int) : Prop := x.1 < y.1 ∨ x.1 = y.1 ∧ x.2 < y.2
theorem Ng.lt_irr (x : Int × Int) : ¬ Ng.lt x x := by unfold Ng.lt; omega
theorem Ng.lt_trans {x y z : Int × Int} (h1 : Ng.lt x y) (h2 : Ng.lt y z) : Ng.lt x z := by unfold Ng.lt at *; omega
theorem Ng.lt_tri (x y : Int × Int) : Ng.lt x y ∨ x = y ∨ Ng.lt y x := by
  unfold Ng.lt
  by_cases h : x = y
  · exact .inr (.inl h)
  · have : ¬ (x.1 = y.1 ∧ x.2 = y.2) := fun h2 => h (Prod.ext h2.1 h2.2)
    omega
/-- In order, each once. -/
def Ng.Ord (l : List (Int × Int)) : Prop := l.Pairwise Ng.lt
theorem Ng.ord_eq : ∀ (a b : List (Int × Int)), Ng.Ord a → Ng.Ord b → (∀ x, x ∈ a ↔ x ∈ b) → a = b
  | [], [], _, _, _ => rfl
  | [], y :: b, _, _, h => by have := (h y).2 List.mem_cons_self; cases this
  | x :: a, [], _, _, h => by have := (h x).1 List.mem_cons_self; cases this
  | x :: a, y :: b, ha, hb, h => by
    obtain ⟨ha1, ha2⟩ := List.pairwise_cons.1 ha
    obtain ⟨hb1, hb2⟩ := List.pairwise_cons.1 hb
    have hxy : x = y := by
      have h1 := (h x).1 List.mem_cons_self
      have h2 := (h y).2 List.mem_cons_self
      cases h1 with
      | head => rfl
      | tail _ h1 =>
        cases h2 with
        | head => rfl
        | tail _ h2 => exact absurd (Ng.lt_trans (ha1 y h2) (hb1 x h1)) (Ng.lt_irr x)
    subst hxy
    rw [Ng.ord_eq a b ha2 hb2 fun z => ⟨fun hz => by
      have h1 := (h z).1 (List.mem_cons_of_mem _ hz)
      cases h1 with
      | head => exact absurd (ha1 _ hz) (Ng.lt_irr _)
      | tail _ h1 => exact h1, fun hz => by
      have h1 := (h z).2 (List.mem_cons_of_mem _ hz)
      cases h1 with
      | head => exact absurd (hb1 _ hz) (Ng.lt_irr _)
      | tail _ h1 => exact h1⟩]
/-- Put one in. -/
def Ng.ins (x : Int × Int) : List (Int × Int) → List (Int × Int)
  | [] => [x]
  | y :: l => if Ng.cf x y < 0 then x :: y :: l else y :: Ng.ins x l
def Ng.put (l : List (Int × Int)) (x : Int × Int) : List (Int × Int) := if x ∈ l then l else Ng.ins x l
def Ng.mk (L : List (Int × Int)) : List (Int × Int) := L.foldl Ng.put []
theorem Ng.cf_lt (x y : Int × Int) : Ng.cf x y < 0 ↔ Ng.lt x y := by
  have h := Ng.lt_iff x y
  unfold ltOf at h
  rw [Bool.eq_iff_iff, decide_eq_true_eq, decide_eq_true_eq] at h
  exact h
theorem Ng.mem_ins (x z : Int × Int) : ∀ l, z ∈ Ng.ins x l ↔ z = x ∨ z ∈ l
  | [] => by simp [Ng.ins]
  | y :: l => by
    unfold Ng.ins
    split
    · simp
    · rw [List.mem_cons, Ng.mem_ins x z l, List.mem_cons]
      constructor
      · rintro (h | h | h)
        · exact .inr (.inl h)
        · exact .inl h
        · exact .inr (.inr h)
      · rintro (h | h | h)
        · exact .inr (.inl h)
        · exact .inl h
        · exact .inr (.inr h)
theorem Ng.ord_ins (x : Int × Int) : ∀ l, Ng.Ord l → x ∉ l → Ng.Ord (Ng.ins x l)
  | [], _, _ => List.pairwise_singleton _ _
  | y :: l, h, hx => by
    obtain ⟨h1, h2⟩ := List.pairwise_cons.1 h
    unfold Ng.ins
    split
    · rename_i hc
      have hlt := (Ng.cf_lt x y).1 hc
      exact List.pairwise_cons.2 ⟨fun z hz => by
        cases hz with
        | head => exact hlt
        | tail _ hz => exact Ng.lt_trans hlt (h1 z hz), h⟩
    · rename_i hc
      have hyx : Ng.lt y x := by
        rcases Ng.lt_tri x y with h3 | h3 | h3
        · exact absurd ((Ng.cf_lt x y).2 h3) hc
        · exact absurd (by rw [h3]; exact List.mem_cons_self) hx
        · exact h3
      exact List.pairwise_cons.2 ⟨fun z hz => by
        rcases (Ng.mem_ins x z l).1 hz with h3 | h3
        · rw [h3]; exact hyx
        · exact h1 z h3, Ng.ord_ins x l h2 fun h3 => hx (List.mem_cons_of_mem _ h3)⟩
theorem Ng.ord_put (l : List (Int × Int)) (x : Int × Int) (h : Ng.Ord l) : Ng.Ord (Ng.put l x) := by
  unfold Ng.put
  split
  · exact h
  · rename_i hx
    exact Ng.ord_ins x l h hx
theorem Ng.mem_put (l : List (Int × Int)) (x z : Int × Int) : z ∈ Ng.put l x ↔ z = x ∨ z ∈ l := by
  unfold Ng.put
  split
  · rename_i hx
    exact ⟨.inr, fun h => h.elim (fun e => e ▸ hx) id⟩
  · exact Ng.mem_ins x z l
theorem Ng.mk_from (L : List (Int × Int)) : ∀ acc, Ng.Ord acc → Ng.Ord (L.foldl Ng.put acc) ∧ ∀ z, z ∈ L.foldl Ng.put acc ↔ z ∈ L ∨ z ∈ acc := by
  induction L with
  | nil => intro acc h; exact ⟨h, fun z => by simp⟩
  | cons x L ih =>
    intro acc h
    obtain ⟨h1, h2⟩ := ih (Ng.put acc x) (Ng.ord_put acc x h)
    refine ⟨h1, fun z => ?_⟩
    rw [List.foldl_cons, h2, Ng.mem_put, List.mem_cons]
    constructor
    · rintro (h | h | h)
      · exact .inl (.inr h)
      · exact .inl (.inl h)
      · exact .inr h
    · rintro ((h | h) | h)
      · exact .inr (.inl h)
      · exact .inl h
      · exact .inr (.inr h)
theorem Ng.ord_mk (L : List (Int × Int)) : Ng.Ord (Ng.mk L) := (Ng.mk_from L [] List.Pairwise.nil).1
theorem Ng.mem_mk (L : List (Int × Int)) (z : Int × Int) : z ∈ Ng.mk L ↔ z ∈ L := by
  have h := (Ng.mk_from L [] List.Pairwise.nil).2 z
  unfold Ng.mk
  rw [h]; simp
/-- Not above. -/
def Ng.le (x y : Int × Int) : Bool := !(ltOf Ng.cf y x)
theorem Ng.le_iff (x y : Int × Int) : Ng.le x y = true ↔ Ng.lt x y ∨ x = y := by
  unfold Ng.le
  rw [Ng.lt_iff, Bool.not_eq_true', decide_eq_false_iff_not]
  show ¬ Ng.lt y x ↔ _
  have h := Ng.lt_tri x y
  constructor
  · intro h3
    rcases h with h | h | h
    · exact .inl h
    · exact .inr h
    · exact absurd h h3
  · rintro (h3 | h3)
    · exact fun h4 => Ng.lt_irr x (Ng.lt_trans h3 h4)
    · subst h3
      exact Ng.lt_irr x
theorem Ng.sorted_le (L : List (Int × Int)) : (L.mergeSort Ng.le).Pairwise fun x y => Ng.le x y = true := by
  apply List.pairwise_mergeSort
  · intro a b c h1 h2
    rw [Ng.le_iff] at *
    rcases h1 with h1 | rfl
    · rcases h2 with h2 | rfl
      · exact .inl (Ng.lt_trans h1 h2)
      · exact .inl h1
    · exact h2
  · intro a b
    rw [Bool.or_eq_true, Ng.le_iff, Ng.le_iff]
    rcases Ng.lt_tri a b with h | h | h
    · exact .inl (.inl h)
    · exact .inl (.inr h)
    · exact .inr (.inl h)
theorem Ng.le_at (L : List (Int × Int)) (i j : Nat) (h : i < j) (hj : j < (Ng.sorted L.toArray).size) : Ng.lt (Ng.sorted L.toArray)[i]! (Ng.sorted L.toArray)[j]! ∨ (Ng.sorted L.toArray)[i]! = (Ng.sorted L.toArray)[j]! := by
  rw [← Ng.le_iff]
  have hl := Ng.sorted_le L
  rw [List.pairwise_iff_getElem] at hl
  have hj2 : j < (L.mergeSort Ng.le).length := hj
  have h1 := hl i j (by omega) hj2 h
  rw [getElem!_pos _ i (by omega), getElem!_pos _ j hj]
  exact h1
theorem Ng.ord_made (L : List (Int × Int)) : Ng.Ord (Ng.made L) := by
  unfold Ng.made compactUpTo Ng.Ord
  rw [List.pairwise_map]
  refine List.Pairwise.imp_of_mem ?_ (List.Pairwise.filter _ (List.pairwise_lt_range))
  intro i j hi hj hij
  rw [List.mem_filter, List.mem_range] at hi hj
  have hk := hj.2
  unfold keeps at hk
  rw [decide_eq_true_eq] at hk
  have hne : (Ng.sorted L.toArray)[j]! ≠ (Ng.sorted L.toArray)[j - 1]! := by
    rcases hk with h | h
    · omega
    · exact h
  have h1 : Ng.lt (Ng.sorted L.toArray)[j - 1]! (Ng.sorted L.toArray)[j]! := by
    rcases Ng.le_at L (j - 1) j (by omega) hj.1 with h | h
    · exact h
    · exact absurd h.symm hne
  by_cases e : i = j - 1
  · rw [e]; exact h1
  · rcases Ng.le_at L i (j - 1) (by omega) (by omega) with h | h
    · exact Ng.lt_trans h h1
    · rw [h]; exact h1
theorem Ng.kept (d : Array (Int × Int)) : ∀ (j : Nat), j < d.size → ∃ i, i ≤ j ∧ keeps d i = true ∧ d[i]! = d[j]!
  | 0, h => ⟨0, Nat.le_refl _, by simp [keeps], rfl⟩
  | j + 1, h => by
    by_cases e : d[j + 1]! = d[j]!
    · obtain ⟨i, h1, h2, h3⟩ := Ng.kept d j (by omega)
      exact ⟨i, by omega, h2, by rw [h3, e]⟩
    · exact ⟨j + 1, Nat.le_refl _, by unfold keeps; rw [decide_eq_true_eq]; exact .inr e, rfl⟩
theorem Ng.mem_made (L : List (Int × Int)) (z : Int × Int) : z ∈ Ng.made L ↔ z ∈ L := by
  have hp : z ∈ L.mergeSort Ng.le ↔ z ∈ L := (List.mergeSort_perm L Ng.le).mem_iff
  rw [← hp]
  unfold Ng.made compactUpTo
  rw [List.mem_map]
  constructor
  · rintro ⟨i, hi, rfl⟩
    rw [List.mem_filter, List.mem_range] at hi
    rw [getElem!_pos _ i hi.1]
    exact List.getElem_mem (l := L.mergeSort Ng.le) hi.1
  · intro hz
    obtain ⟨j, hj, rfl⟩ := List.getElem_of_mem hz
    obtain ⟨i, h1, h2, h3⟩ := Ng.kept (Ng.sorted L.toArray) j hj
    refine ⟨i, List.mem_filter.2 ⟨List.mem_range.2 (Nat.lt_of_le_of_lt h1 hj), h2⟩, ?_⟩
    rw [h3, getElem!_pos _ j hj]
    rfl
/-- What the code makes is what the document makes. -/
theorem Ng.made_mk (L : List (Int × Int)) : Ng.made L = Ng.mk L := Ng.ord_eq _ _ (Ng.ord_made L) (Ng.ord_mk L) fun z => by rw [Ng.mem_made, Ng.mem_mk]
end Go.Proofs.YtgckohmppefibaaDoor
