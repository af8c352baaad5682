/- The contract of (*Queue).Push. -/
import Derived.Test.YtdbjljbkneopcaaQueueQ
import Derived.Deep.RegionLaw
import Derived.Deep.DeepCutAuto
import Derived.Deep.CutBlock
namespace Go.Proofs.Ytdbjljbkneopcaa
open Go.RowKit
set_option linter.unusedSimpArgs false
set_option linter.unusedVariables false

theorem infoInt : (Try.prog.info? 3).map (fun i => (i.zero, i.size, i.bytes)) = some (some (.int .i64 0), 1, 8) := by kernel_rfl
/-- Then the queue holds l, in memory that it had or that is new; nothing else is written. -/
def Qu.Then (w : World) (g n : Nat) (S : Nat → Prop) (l : List (Int × Int)) (w' : World) : Prop :=
  ∃ T, Qu.At w' g n l T ∧ Fr S w w' ∧ ∀ k, T k → S k ∨ w.heap.size ≤ k
def Qu.Gives (w : World) (g n : Nat) (S : Nat → Prop) (l : List (Int × Int)) (r : Value) (e : Ending) (w' : World) : Prop := e = .returned r ∧ Qu.Then w g n S l w'

theorem Qu.then_same {w : World} {g n : Nat} {l : List (Int × Int)} {S : Nat → Prop} (h : Qu.At w g n l S) : Qu.Then w g n S l w := ⟨S, h, Fr.refl _ _, fun k hk => Or.inl hk⟩

set_option maxHeartbeats 400000 in
theorem queue_push_no {g n : Nat} {l : List (Int × Int)} {S : Nat → Prop} (id bucket : Int) (w : World) (hn : n ≤ 1000000) (h : Qu.At w g n l S) (hr : ¬ (0 ≤ id ∧ id < n) ∨ id ∈ l.map Prod.fst) :
    Calls Try.prog 11 #[.pointer (some ⟨g, 0, none⟩), .int .i64 id, .int .i64 bucket] w fun e w' => e = .returned (.bool false) ∧ w = w' := by
  obtain ⟨ib, vs, ins, h⟩ := h
  have hc := cell_of h.blk 0
  have his := queue_is g id w _ n n hn hc
  have HIS := Lib.hid his
  clear his
  by_cases hr2 : 0 ≤ id ∧ id < n
  · have HR := Lib.hid hr2
    obtain ⟨i, rfl⟩ := Int.eq_ofNat_of_zero_le hr2.1
    have hv := h.has i (by omega)
    rw [decide_eq_true (hr.resolve_left (fun x => x hr2))] at hv
    have hi := (cell_of h.inb i).trans hv
    have q1 : (0 : Int) ≤ (i : Int) := by omega
    have q2 : (i : Int) < (n : Int) := hr2.2
    clear hv h hr hr2
    go_enter Try.func11, Try.ntmps11
    go_wp2_with (go_at_call 30; refine HIS.out.mono ?_; rintro e w1 ⟨rfl, rfl⟩; rw [decide_eq_true HR.out])
    go_ret
    exact ⟨rfl, rfl⟩
  · have HR := Lib.hid hr2
    clear h hr hr2
    go_enter Try.func11, Try.ntmps11
    go_wp2_with (go_at_call 30; refine HIS.out.mono ?_; rintro e w1 ⟨rfl, rfl⟩; rw [decide_eq_false HR.out])
    go_ret
    exact ⟨rfl, rfl⟩

theorem Qu.own_ne {w : World} {g n : Nat} {l : List (Int × Int)} {S : Nat → Prop} {ib : Nat} {vs : Nat → Value} {ins : Array Value} (h : Qu.AtX w g n l S ib vs ins) (b : Nat) (hb : b < 4) (k : Nat) (hk : (vs b).ownBlock = some k) : k ≠ g ∧ k ≠ ib := by
  obtain ⟨_, ⟨e, _⟩ | ⟨b', o, c, cs, e, hc, _⟩⟩ := h.rows b hb
  · rw [e] at hk; cases hk
  · rw [e] at hk
    obtain rfl : b' = k := by injection hk
    constructor
    · rintro rfl
      have := h.blk
      rw [hc] at this
      injection this with this
      injection this with _ this _
      cases this
    · rintro rfl
      have := h.inb
      rw [hc] at this
      injection this with this
      injection this with _ this _
      cases this
theorem Qu.g_ne {w : World} {g n : Nat} {l : List (Int × Int)} {S : Nat → Prop} {ib : Nat} {vs : Nat → Value} {ins : Array Value} (h : Qu.AtX w g n l S ib vs ins) : g ≠ ib := by
  rintro rfl
  have := h.blk
  rw [h.inb] at this
  injection this with this
  injection this with _ this _
  cases this

/-- What Push leaves, out of what it writes: the mark, the row, the row's value. -/
theorem Qu.pushed {w w1 w2 w3 : World} {g n : Nat} {l : List (Int × Int)} {S : Nat → Prop} {ib : Nat} {vs : Nat → Value} {ins : Array Value} (h : Qu.AtX w g n l S ib vs ins)
    (b i : Nat) (hb : b < 4) (hi : i < n) (hm : (i : Int) ∉ l.map Prod.fst) (nb f c : Nat)
    (hs : Sl w2 3 1 (.slice (some ⟨nb, f, none⟩) ((Qu.ids b l).length + 1) c) ((Qu.ids b l).length + 1) ((Qu.ids b l).map (Value.int .i64) ++ [.int .i64 i]))
    (h1 : Fr (fun k => k = ib) w w1) (h1b : w1.heap[ib]? = some (.cells (ins.setIfInBounds i (.bool true)) 4 (0, 0)))
    (h2 : Fr (fun k => (vs b).ownBlock = some k) w1 w2) (h2b : (vs b).ownBlock = some nb ∨ (w.heap.size ≤ nb ∧ nb < w2.heap.size))
    (h3 : Fr (fun k => k = g) w2 w3) (h3b : w3.heap[g]? = some (.cells (#[.slice (some ⟨ib, 0, none⟩) n n, vs 0, vs 1, vs 2, vs 3].setIfInBounds (1 + b) (.slice (some ⟨nb, f, none⟩) ((Qu.ids b l).length + 1) c)) 59 (0, 0))) :
    Qu.Then w g n S (l ++ [((i : Int), (b : Int))]) w3 := by
  have hgi := Qu.g_ne h
  have hlt := h.lt
  have hsz := Nat.le_trans h1.size (Nat.le_trans h2.size h3.size)
  have hnb : nb ≠ g ∧ nb ≠ ib := by
    rcases h2b with e | e
    · exact Qu.own_ne h b hb nb e
    · have := hlt g h.sg; have := hlt ib h.si; omega
  refine ⟨fun k => S k ∨ (w.heap.size ≤ k ∧ k < w3.heap.size), ⟨ib, fun x => if x = b then .slice (some ⟨nb, f, none⟩) ((Qu.ids b l).length + 1) c else vs x, ins.setIfInBounds i (.bool true), ⟨?_, ?_, ?_, ?_, ?_, ?_, Or.inl h.sg, Or.inl h.si, ?_, ?_, ?_, ?_⟩⟩, ?_, ?_⟩
  · rw [h3b]
    have hc : b = 0 ∨ b = 1 ∨ b = 2 ∨ b = 3 := by omega
    rcases hc with rfl | rfl | rfl | rfl <;> rfl
  · exact h3.heap (h2.heap h1b (fun e => (Qu.own_ne h b hb ib e).2 rfl)) (fun e => hgi e.symm)
  · simpa using h.insz
  · intro j hj
    rw [Array.getElem?_setIfInBounds]
    split
    · rename_i e
      subst e
      rw [if_pos (by rw [h.insz]; exact hi)]
      simp
    · rename_i e
      rw [h.has j hj]
      have : ((j : Int) = (i : Int)) = False := by simp; omega
      simp [this]
  · intro x hx
    show Sl w3 3 1 (if x = b then _ else vs x) _ _
    by_cases e : x = b
    · subst e
      rw [if_pos rfl]
      have e2 : Qu.ids (x : Int) (l ++ [((i : Int), (x : Int))]) = Qu.ids x l ++ [(i : Int)] := by rw [Qu.ids_app, Qu.ids_cons, if_pos rfl]; rfl
      rw [e2, List.length_append, List.map_append]
      refine hs.kept h3 (fun k hk => ?_)
      obtain rfl : nb = k := by injection hk
      exact hnb.1
    · rw [if_neg e]
      have e2 : Qu.ids (x : Int) (l ++ [((i : Int), (b : Int))]) = Qu.ids x l := by
        rw [Qu.ids_app, Qu.ids_cons, if_neg (by simp; omega)]
        exact List.append_nil _
      rw [e2]
      refine ((h.rows x hx).kept h1 (fun k hk e3 => (Qu.own_ne h x hx k hk).2 e3)).kept h2 (fun k hk e3 => h.apart x b hx hb e k hk e3) |>.kept h3 (fun k hk e3 => (Qu.own_ne h x hx k hk).1 e3)
  · intro x hx k hk
    by_cases e : x = b
    · simp only [if_pos e] at hk
      obtain rfl : nb = k := by injection hk
      rcases h2b with e2 | e2
      · exact Or.inl (h.own b hb _ e2)
      · exact Or.inr ⟨e2.1, Nat.lt_of_lt_of_le e2.2 h3.size⟩
    · simp only [if_neg e] at hk
      exact Or.inl (h.own x hx k hk)
  · intro k hk
    rcases hk with hk | hk
    · exact Nat.lt_of_lt_of_le (hlt k hk) hsz
    · exact hk.2
  · intro x y hx hy hxy k hk1 hk2
    have hnew : ∀ z, z < 4 → z ≠ b → ∀ k, (vs z).ownBlock = some k → k ≠ nb := by
      intro z hz hzb k hk e
      subst e
      rcases h2b with e2 | e2
      · exact h.apart z b hz hb hzb k hk e2
      · have := hlt _ (h.own z hz k hk); omega
    by_cases ex : x = b
    · have ey : y ≠ b := by omega
      simp only [if_pos ex] at hk1
      simp only [if_neg ey] at hk2
      obtain rfl : nb = k := by injection hk1
      exact hnew y hy ey nb hk2 rfl
    · simp only [if_neg ex] at hk1
      by_cases ey : y = b
      · simp only [if_pos ey] at hk2
        obtain rfl : nb = k := by injection hk2
        exact hnew x hx ex nb hk1 rfl
      · simp only [if_neg ey] at hk2
        exact h.apart x y hx hy hxy k hk1 hk2
  · rw [List.map_append, List.nodup_append]
    refine ⟨h.nodup, by simp, ?_⟩
    intro a ha z hz
    simp at hz
    subst hz
    rintro rfl
    exact hm ha
  · intro x hx
    rcases List.mem_append.1 hx with hx | hx
    · exact h.range x hx
    · rw [List.mem_singleton] at hx
      subst hx
      simp; omega
  · exact ⟨h3.os.trans (h2.os.trans h1.os), h3.tape.trans (h2.tape.trans h1.tape), h3.output.trans (h2.output.trans h1.output), hsz, fun k hk hn =>
      (h3.block k (Nat.lt_of_lt_of_le hk (Nat.le_trans h1.size h2.size)) (fun e => hn (e ▸ h.sg))).trans ((h2.block k (Nat.lt_of_lt_of_le hk h1.size) (fun e => hn (h.own b hb k e))).trans (h1.block k hk (fun e => hn (e ▸ h.si))))⟩
  · intro k hk
    rcases hk with hk | hk
    · exact Or.inl hk
    · exact Or.inr hk.1

set_option maxHeartbeats 1000000 in
theorem queue_push_0 {g n : Nat} {l : List (Int × Int)} {S : Nat → Prop} (id : Nat) (bucket : Int) (w : World) (hn : n ≤ 1000000) (hl : l.length ≤ 1000000) (h : Qu.At w g n l S) (hr : id < n) (hm : (id : Int) ∉ l.map Prod.fst) (hbk : max 0 (min bucket 3) = 0) :
    Calls Try.prog 11 #[.pointer (some ⟨g, 0, none⟩), .int .i64 id, .int .i64 bucket] w (Qu.Gives w g n S (l ++ [((id : Int), 0)]) (.bool true)) := by
  obtain ⟨i0, hi0, hz0, hz1, hz2⟩ := info_parts infoInt
  obtain ⟨ib, vs, ins, h⟩ := h
  have hle := Qu.ids_le 0 l
  obtain ⟨A, c, hvs, hf⟩ := h.forms
  have his := queue_is g id w _ n n hn (cell_of h.blk 0)
  rw [decide_eq_true (show 0 ≤ (id : Int) ∧ (id : Int) < n by omega)] at his
  have HIS := Lib.hid his
  have hv := h.has id hr
  rw [decide_eq_false hm] at hv
  have hi := (cell_of h.inb id).trans hv
  have hfi := frozen_of h.inb id
  have q1 : (0 : Int) ≤ (id : Int) := by omega
  have q2 : (id : Int) < (n : Int) := by omega
  have hrow := h.rows 0 (by omega)
  rw [hvs 0 (by omega)] at hrow
  rw [show ((0 : Nat) : Int) = 0 from rfl] at hrow
  have hgi := Qu.g_ne h
  have hgi2 : ib ≠ g := fun e => hgi e.symm
  have H := Lib.hid h
  have HF := Lib.hid hf
  have HV := Lib.hid (show vs 0 = .slice (A 0) (Qu.ids 0 l).length (c 0) from hvs 0 (by omega))
  have HM := Lib.hid hm
  have HV0 := Lib.hid hv
  have Hsz := Lib.hid h.insz
  have e0 := cell_of HF.out 0
  clear his hv h hf hvs hm
  go_enter Try.func11, Try.ntmps11
  go_upto_region 5 with (go_at_call 30; refine HIS.out.mono ?_; rintro e w1 ⟨rfl, rfl⟩)
  have HF1 := Lib.hid (heap_far HF.out (p := ⟨ib, id, none⟩) hgi (.bool true))
  have HB1 := Lib.hid (heap_far H.out.blk (p := ⟨ib, id, none⟩) hgi (.bool true))
  have HI1 := Lib.hid (heap_set H.out.inb id (.bool true))
  have FR1 := Lib.hid (Fr.set (S := fun k => k = ib) (Fr.refl _ w) (p := ⟨ib, id, none⟩) (fun _ => rfl) (.bool true))
  have hrow1 := hrow.kept FR1.out (fun k hk => by rw [← HV.out] at hk; exact (Qu.own_ne H.out 0 (by omega) k hk).2)
  have Hsz1 := Lib.hid (show (w.setCell ⟨ib, id, none⟩ (.bool true)).heap.size = w.heap.size by simp [World.setCell])
  generalize w.setCell ⟨ib, id, none⟩ (.bool true) = w1 at *
  clear e0 hi hfi hrow
  have e0 := cell_of HF1.out 1
  have e0a : ∀ o : Obj, (w1.alloc o).cell? ⟨g, 1, none⟩ = some (.slice (A 0) (Qu.ids 0 l).length (c 0)) := fun o => cell_of (heap_alloc HF1.out o) 1
  go_region_law (first
    | (refine step_append_sl _ rfl _ _ 38 rfl 3 i0 (.int .i64 0) 1 8 Try.underlying38 hi0 hz0 hz1 hz2 rfl (by decide) _ _ _ rfl (by first | exact Sl.drew (Sl.alloc hrow1 _) | exact Sl.alloc hrow1 _) ⟨w1.heap.size, 0, none⟩ 1 1 [.int .i64 id] rfl rfl (by first | exact World.news_of_block (heap_drew (heap_new w1 (.cells #[.int .i64 id] 3))) | exact World.news_of_block (heap_new w1 (.cells #[.int .i64 id] 3))) (by intro u hu; simp at hu; subst hu; rfl) (by decide) (by unfold maxLen; omega) (by omega) _ rfl ?_; intro b2 f2 c2 w2 hs2 hf2 hb2; have HF2 := hf2.heap (by first | exact heap_drew (heap_alloc HF1.out _) | exact heap_alloc HF1.out _) (fun k => (Qu.own_ne H.out 0 (by omega) _ (by rw [HV.out]; exact k)).1 rfl); have s0 := cell_of HF2 1; have s1 := frozen_of HF2 1))
  all_goals
    go_wp2
    go_ret
    have hf3 : Fr (fun k => (vs 0).ownBlock = some k) w1 w2 := ((Fr.of_below (below_alloc (Below.refl _ _) (.cells #[.int .i64 id] 3))).drew).trans2 hf2 (fun k _ e => by rw [HV.out]; exact e)
    have HB2 := hf3.heap HB1.out (fun k => (Qu.own_ne H.out 0 (by omega) _ k).1 rfl)
    refine ⟨rfl, Qu.pushed (w1 := w1) (w2 := w2) H.out 0 id (by omega) hr HM.out b2 f2 c2 hs2 FR1.out HI1.out hf3 ?_ (Fr.set (S := fun k => k = g) (Fr.refl _ w2) (p := ⟨g, 1, none⟩) (fun _ => rfl) _) (heap_set HB2 1 _)⟩
    rcases hb2 with e | e
    · left; rw [HV.out]; exact e
    · right
      have e1 := e.1
      have e2 := e.2
      have := Hsz1.out
      simp at e1 e2
      omega

set_option maxHeartbeats 1000000 in
theorem queue_push_1 {g n : Nat} {l : List (Int × Int)} {S : Nat → Prop} (id : Nat) (bucket : Int) (w : World) (hn : n ≤ 1000000) (hl : l.length ≤ 1000000) (h : Qu.At w g n l S) (hr : id < n) (hm : (id : Int) ∉ l.map Prod.fst) (hbk : max 0 (min bucket 3) = 1) :
    Calls Try.prog 11 #[.pointer (some ⟨g, 0, none⟩), .int .i64 id, .int .i64 bucket] w (Qu.Gives w g n S (l ++ [((id : Int), 1)]) (.bool true)) := by
  obtain ⟨i0, hi0, hz0, hz1, hz2⟩ := info_parts infoInt
  obtain ⟨ib, vs, ins, h⟩ := h
  have hle := Qu.ids_le 1 l
  obtain ⟨A, c, hvs, hf⟩ := h.forms
  have his := queue_is g id w _ n n hn (cell_of h.blk 0)
  rw [decide_eq_true (show 0 ≤ (id : Int) ∧ (id : Int) < n by omega)] at his
  have HIS := Lib.hid his
  have hv := h.has id hr
  rw [decide_eq_false hm] at hv
  have hi := (cell_of h.inb id).trans hv
  have hfi := frozen_of h.inb id
  have q1 : (0 : Int) ≤ (id : Int) := by omega
  have q2 : (id : Int) < (n : Int) := by omega
  have hrow := h.rows 1 (by omega)
  rw [hvs 1 (by omega)] at hrow
  rw [show ((1 : Nat) : Int) = 1 from rfl] at hrow
  have hgi := Qu.g_ne h
  have hgi2 : ib ≠ g := fun e => hgi e.symm
  have H := Lib.hid h
  have HF := Lib.hid hf
  have HV := Lib.hid (show vs 1 = .slice (A 1) (Qu.ids 1 l).length (c 1) from hvs 1 (by omega))
  have HM := Lib.hid hm
  have HV0 := Lib.hid hv
  have Hsz := Lib.hid h.insz
  have e0 := cell_of HF.out 0
  clear his hv h hf hvs hm
  go_enter Try.func11, Try.ntmps11
  go_upto_region 5 with (go_at_call 30; refine HIS.out.mono ?_; rintro e w1 ⟨rfl, rfl⟩)
  have HF1 := Lib.hid (heap_far HF.out (p := ⟨ib, id, none⟩) hgi (.bool true))
  have HB1 := Lib.hid (heap_far H.out.blk (p := ⟨ib, id, none⟩) hgi (.bool true))
  have HI1 := Lib.hid (heap_set H.out.inb id (.bool true))
  have FR1 := Lib.hid (Fr.set (S := fun k => k = ib) (Fr.refl _ w) (p := ⟨ib, id, none⟩) (fun _ => rfl) (.bool true))
  have hrow1 := hrow.kept FR1.out (fun k hk => by rw [← HV.out] at hk; exact (Qu.own_ne H.out 1 (by omega) k hk).2)
  have Hsz1 := Lib.hid (show (w.setCell ⟨ib, id, none⟩ (.bool true)).heap.size = w.heap.size by simp [World.setCell])
  generalize w.setCell ⟨ib, id, none⟩ (.bool true) = w1 at *
  clear e0 hi hfi hrow
  have e0 := cell_of HF1.out 2
  have e0a : ∀ o : Obj, (w1.alloc o).cell? ⟨g, 2, none⟩ = some (.slice (A 1) (Qu.ids 1 l).length (c 1)) := fun o => cell_of (heap_alloc HF1.out o) 2
  go_region_law (first
    | (refine step_append_sl _ rfl _ _ 38 rfl 3 i0 (.int .i64 0) 1 8 Try.underlying38 hi0 hz0 hz1 hz2 rfl (by decide) _ _ _ rfl (by first | exact Sl.drew (Sl.alloc hrow1 _) | exact Sl.alloc hrow1 _) ⟨w1.heap.size, 0, none⟩ 1 1 [.int .i64 id] rfl rfl (by first | exact World.news_of_block (heap_drew (heap_new w1 (.cells #[.int .i64 id] 3))) | exact World.news_of_block (heap_new w1 (.cells #[.int .i64 id] 3))) (by intro u hu; simp at hu; subst hu; rfl) (by decide) (by unfold maxLen; omega) (by omega) _ rfl ?_; intro b2 f2 c2 w2 hs2 hf2 hb2; have HF2 := hf2.heap (by first | exact heap_drew (heap_alloc HF1.out _) | exact heap_alloc HF1.out _) (fun k => (Qu.own_ne H.out 1 (by omega) _ (by rw [HV.out]; exact k)).1 rfl); have s0 := cell_of HF2 2; have s1 := frozen_of HF2 2))
  all_goals
    go_wp2
    go_ret
    have hf3 : Fr (fun k => (vs 1).ownBlock = some k) w1 w2 := ((Fr.of_below (below_alloc (Below.refl _ _) (.cells #[.int .i64 id] 3))).drew).trans2 hf2 (fun k _ e => by rw [HV.out]; exact e)
    have HB2 := hf3.heap HB1.out (fun k => (Qu.own_ne H.out 1 (by omega) _ k).1 rfl)
    refine ⟨rfl, Qu.pushed (w1 := w1) (w2 := w2) H.out 1 id (by omega) hr HM.out b2 f2 c2 hs2 FR1.out HI1.out hf3 ?_ (Fr.set (S := fun k => k = g) (Fr.refl _ w2) (p := ⟨g, 2, none⟩) (fun _ => rfl) _) (heap_set HB2 2 _)⟩
    rcases hb2 with e | e
    · left; rw [HV.out]; exact e
    · right
      have e1 := e.1
      have e2 := e.2
      have := Hsz1.out
      simp at e1 e2
      omega

set_option maxHeartbeats 1000000 in
theorem queue_push_2 {g n : Nat} {l : List (Int × Int)} {S : Nat → Prop} (id : Nat) (bucket : Int) (w : World) (hn : n ≤ 1000000) (hl : l.length ≤ 1000000) (h : Qu.At w g n l S) (hr : id < n) (hm : (id : Int) ∉ l.map Prod.fst) (hbk : max 0 (min bucket 3) = 2) :
    Calls Try.prog 11 #[.pointer (some ⟨g, 0, none⟩), .int .i64 id, .int .i64 bucket] w (Qu.Gives w g n S (l ++ [((id : Int), 2)]) (.bool true)) := by
  obtain ⟨i0, hi0, hz0, hz1, hz2⟩ := info_parts infoInt
  obtain ⟨ib, vs, ins, h⟩ := h
  have hle := Qu.ids_le 2 l
  obtain ⟨A, c, hvs, hf⟩ := h.forms
  have his := queue_is g id w _ n n hn (cell_of h.blk 0)
  rw [decide_eq_true (show 0 ≤ (id : Int) ∧ (id : Int) < n by omega)] at his
  have HIS := Lib.hid his
  have hv := h.has id hr
  rw [decide_eq_false hm] at hv
  have hi := (cell_of h.inb id).trans hv
  have hfi := frozen_of h.inb id
  have q1 : (0 : Int) ≤ (id : Int) := by omega
  have q2 : (id : Int) < (n : Int) := by omega
  have hrow := h.rows 2 (by omega)
  rw [hvs 2 (by omega)] at hrow
  rw [show ((2 : Nat) : Int) = 2 from rfl] at hrow
  have hgi := Qu.g_ne h
  have hgi2 : ib ≠ g := fun e => hgi e.symm
  have H := Lib.hid h
  have HF := Lib.hid hf
  have HV := Lib.hid (show vs 2 = .slice (A 2) (Qu.ids 2 l).length (c 2) from hvs 2 (by omega))
  have HM := Lib.hid hm
  have HV0 := Lib.hid hv
  have Hsz := Lib.hid h.insz
  have e0 := cell_of HF.out 0
  clear his hv h hf hvs hm
  go_enter Try.func11, Try.ntmps11
  go_upto_region 5 with (go_at_call 30; refine HIS.out.mono ?_; rintro e w1 ⟨rfl, rfl⟩)
  have HF1 := Lib.hid (heap_far HF.out (p := ⟨ib, id, none⟩) hgi (.bool true))
  have HB1 := Lib.hid (heap_far H.out.blk (p := ⟨ib, id, none⟩) hgi (.bool true))
  have HI1 := Lib.hid (heap_set H.out.inb id (.bool true))
  have FR1 := Lib.hid (Fr.set (S := fun k => k = ib) (Fr.refl _ w) (p := ⟨ib, id, none⟩) (fun _ => rfl) (.bool true))
  have hrow1 := hrow.kept FR1.out (fun k hk => by rw [← HV.out] at hk; exact (Qu.own_ne H.out 2 (by omega) k hk).2)
  have Hsz1 := Lib.hid (show (w.setCell ⟨ib, id, none⟩ (.bool true)).heap.size = w.heap.size by simp [World.setCell])
  generalize w.setCell ⟨ib, id, none⟩ (.bool true) = w1 at *
  clear e0 hi hfi hrow
  have e0 := cell_of HF1.out 3
  have e0a : ∀ o : Obj, (w1.alloc o).cell? ⟨g, 3, none⟩ = some (.slice (A 2) (Qu.ids 2 l).length (c 2)) := fun o => cell_of (heap_alloc HF1.out o) 3
  go_region_law (first
    | (refine step_append_sl _ rfl _ _ 38 rfl 3 i0 (.int .i64 0) 1 8 Try.underlying38 hi0 hz0 hz1 hz2 rfl (by decide) _ _ _ rfl (by first | exact Sl.drew (Sl.alloc hrow1 _) | exact Sl.alloc hrow1 _) ⟨w1.heap.size, 0, none⟩ 1 1 [.int .i64 id] rfl rfl (by first | exact World.news_of_block (heap_drew (heap_new w1 (.cells #[.int .i64 id] 3))) | exact World.news_of_block (heap_new w1 (.cells #[.int .i64 id] 3))) (by intro u hu; simp at hu; subst hu; rfl) (by decide) (by unfold maxLen; omega) (by omega) _ rfl ?_; intro b2 f2 c2 w2 hs2 hf2 hb2; have HF2 := hf2.heap (by first | exact heap_drew (heap_alloc HF1.out _) | exact heap_alloc HF1.out _) (fun k => (Qu.own_ne H.out 2 (by omega) _ (by rw [HV.out]; exact k)).1 rfl); have s0 := cell_of HF2 3; have s1 := frozen_of HF2 3))
  all_goals
    go_wp2
    go_ret
    have hf3 : Fr (fun k => (vs 2).ownBlock = some k) w1 w2 := ((Fr.of_below (below_alloc (Below.refl _ _) (.cells #[.int .i64 id] 3))).drew).trans2 hf2 (fun k _ e => by rw [HV.out]; exact e)
    have HB2 := hf3.heap HB1.out (fun k => (Qu.own_ne H.out 2 (by omega) _ k).1 rfl)
    refine ⟨rfl, Qu.pushed (w1 := w1) (w2 := w2) H.out 2 id (by omega) hr HM.out b2 f2 c2 hs2 FR1.out HI1.out hf3 ?_ (Fr.set (S := fun k => k = g) (Fr.refl _ w2) (p := ⟨g, 3, none⟩) (fun _ => rfl) _) (heap_set HB2 3 _)⟩
    rcases hb2 with e | e
    · left; rw [HV.out]; exact e
    · right
      have e1 := e.1
      have e2 := e.2
      have := Hsz1.out
      simp at e1 e2
      omega

set_option maxHeartbeats 1000000 in
theorem queue_push_3 {g n : Nat} {l : List (Int × Int)} {S : Nat → Prop} (id : Nat) (bucket : Int) (w : World) (hn : n ≤ 1000000) (hl : l.length ≤ 1000000) (h : Qu.At w g n l S) (hr : id < n) (hm : (id : Int) ∉ l.map Prod.fst) (hbk : max 0 (min bucket 3) = 3) :
    Calls Try.prog 11 #[.pointer (some ⟨g, 0, none⟩), .int .i64 id, .int .i64 bucket] w (Qu.Gives w g n S (l ++ [((id : Int), 3)]) (.bool true)) := by
  obtain ⟨i0, hi0, hz0, hz1, hz2⟩ := info_parts infoInt
  obtain ⟨ib, vs, ins, h⟩ := h
  have hle := Qu.ids_le 3 l
  obtain ⟨A, c, hvs, hf⟩ := h.forms
  have his := queue_is g id w _ n n hn (cell_of h.blk 0)
  rw [decide_eq_true (show 0 ≤ (id : Int) ∧ (id : Int) < n by omega)] at his
  have HIS := Lib.hid his
  have hv := h.has id hr
  rw [decide_eq_false hm] at hv
  have hi := (cell_of h.inb id).trans hv
  have hfi := frozen_of h.inb id
  have q1 : (0 : Int) ≤ (id : Int) := by omega
  have q2 : (id : Int) < (n : Int) := by omega
  have hrow := h.rows 3 (by omega)
  rw [hvs 3 (by omega)] at hrow
  rw [show ((3 : Nat) : Int) = 3 from rfl] at hrow
  have hgi := Qu.g_ne h
  have hgi2 : ib ≠ g := fun e => hgi e.symm
  have H := Lib.hid h
  have HF := Lib.hid hf
  have HV := Lib.hid (show vs 3 = .slice (A 3) (Qu.ids 3 l).length (c 3) from hvs 3 (by omega))
  have HM := Lib.hid hm
  have HV0 := Lib.hid hv
  have Hsz := Lib.hid h.insz
  have e0 := cell_of HF.out 0
  clear his hv h hf hvs hm
  go_enter Try.func11, Try.ntmps11
  go_upto_region 5 with (go_at_call 30; refine HIS.out.mono ?_; rintro e w1 ⟨rfl, rfl⟩)
  have HF1 := Lib.hid (heap_far HF.out (p := ⟨ib, id, none⟩) hgi (.bool true))
  have HB1 := Lib.hid (heap_far H.out.blk (p := ⟨ib, id, none⟩) hgi (.bool true))
  have HI1 := Lib.hid (heap_set H.out.inb id (.bool true))
  have FR1 := Lib.hid (Fr.set (S := fun k => k = ib) (Fr.refl _ w) (p := ⟨ib, id, none⟩) (fun _ => rfl) (.bool true))
  have hrow1 := hrow.kept FR1.out (fun k hk => by rw [← HV.out] at hk; exact (Qu.own_ne H.out 3 (by omega) k hk).2)
  have Hsz1 := Lib.hid (show (w.setCell ⟨ib, id, none⟩ (.bool true)).heap.size = w.heap.size by simp [World.setCell])
  generalize w.setCell ⟨ib, id, none⟩ (.bool true) = w1 at *
  clear e0 hi hfi hrow
  have e0 := cell_of HF1.out 4
  have e0a : ∀ o : Obj, (w1.alloc o).cell? ⟨g, 4, none⟩ = some (.slice (A 3) (Qu.ids 3 l).length (c 3)) := fun o => cell_of (heap_alloc HF1.out o) 4
  go_region_law (first
    | (refine step_append_sl _ rfl _ _ 38 rfl 3 i0 (.int .i64 0) 1 8 Try.underlying38 hi0 hz0 hz1 hz2 rfl (by decide) _ _ _ rfl (by first | exact Sl.drew (Sl.alloc hrow1 _) | exact Sl.alloc hrow1 _) ⟨w1.heap.size, 0, none⟩ 1 1 [.int .i64 id] rfl rfl (by first | exact World.news_of_block (heap_drew (heap_new w1 (.cells #[.int .i64 id] 3))) | exact World.news_of_block (heap_new w1 (.cells #[.int .i64 id] 3))) (by intro u hu; simp at hu; subst hu; rfl) (by decide) (by unfold maxLen; omega) (by omega) _ rfl ?_; intro b2 f2 c2 w2 hs2 hf2 hb2; have HF2 := hf2.heap (by first | exact heap_drew (heap_alloc HF1.out _) | exact heap_alloc HF1.out _) (fun k => (Qu.own_ne H.out 3 (by omega) _ (by rw [HV.out]; exact k)).1 rfl); have s0 := cell_of HF2 4; have s1 := frozen_of HF2 4))
  all_goals
    go_wp2
    go_ret
    have hf3 : Fr (fun k => (vs 3).ownBlock = some k) w1 w2 := ((Fr.of_below (below_alloc (Below.refl _ _) (.cells #[.int .i64 id] 3))).drew).trans2 hf2 (fun k _ e => by rw [HV.out]; exact e)
    have HB2 := hf3.heap HB1.out (fun k => (Qu.own_ne H.out 3 (by omega) _ k).1 rfl)
    refine ⟨rfl, Qu.pushed (w1 := w1) (w2 := w2) H.out 3 id (by omega) hr HM.out b2 f2 c2 hs2 FR1.out HI1.out hf3 ?_ (Fr.set (S := fun k => k = g) (Fr.refl _ w2) (p := ⟨g, 4, none⟩) (fun _ => rfl) _) (heap_set HB2 4 _)⟩
    rcases hb2 with e | e
    · left; rw [HV.out]; exact e
    · right
      have e1 := e.1
      have e2 := e.2
      have := Hsz1.out
      simp at e1 e2
      omega

theorem queue_push {g n : Nat} {l : List (Int × Int)} {S : Nat → Prop} (id bucket : Int) (w : World) (hn : n ≤ 1000000) (hl : l.length ≤ 1000000) (h : Qu.At w g n l S) (hr : 0 ≤ id ∧ id < n) (hm : id ∉ l.map Prod.fst) :
    Calls Try.prog 11 #[.pointer (some ⟨g, 0, none⟩), .int .i64 id, .int .i64 bucket] w (Qu.Gives w g n S (l ++ [(id, max 0 (min bucket 3))]) (.bool true)) := by
  obtain ⟨i, rfl⟩ := Int.eq_ofNat_of_zero_le hr.1
  have hc : max 0 (min bucket 3) = 0 ∨ max 0 (min bucket 3) = 1 ∨ max 0 (min bucket 3) = 2 ∨ max 0 (min bucket 3) = 3 := by omega
  rcases hc with e | e | e | e <;> rw [e]
  · exact queue_push_0 i bucket w hn hl h (by omega) hm e
  · exact queue_push_1 i bucket w hn hl h (by omega) hm e
  · exact queue_push_2 i bucket w hn hl h (by omega) hm e
  · exact queue_push_3 i bucket w hn hl h (by omega) hm e
end Go.Proofs.Ytdbjljbkneopcaa
