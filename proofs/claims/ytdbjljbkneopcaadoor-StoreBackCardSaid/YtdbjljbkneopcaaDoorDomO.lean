/- The contracts of Next and Prev. -/
import Derived.Test.YtdbjljbkneopcaaDoorDomN
namespace Go.Proofs.YtdbjljbkneopcaaDoor
open Go.RowKit
set_option linter.unusedSimpArgs false
set_option linter.unusedVariables false

/-- What is next, if anything. -/
def Dm.Op (o : Option Int) (w : World) (e : Ending) (w' : World) : Prop := e = .returned (.tuple #[.int .i64 (o.getD 0), .bool o.isSome]) ∧ Below w.heap.size w w'
/-- No number of a word. -/
theorem Dm.gap (l : List Int) (p : Int) (h : ∀ b : Nat, b < 64 → (0 : Nat).testBit b = decide (p + b ∈ l)) (u : Int) (h1 : p ≤ u) (h2 : u < p + 64) : u ∉ l := fun hm => by
  have := h (u - p).toNat (by omega)
  rw [Nat.zero_testBit, show p + ((u - p).toNat : Int) = u from by omega, decide_eq_true hm] at this
  cases this
structure Dm.Nx (w wr : World) (box : Array Value) : Prop where
  box : wr.heap[w.heap.size]? = some (.cells box 25 (0, 0))
  below : Below w.heap.size w wr
theorem Dm.Nx.call {w wr w' : World} {box : Array Value} (h : Dm.Nx w wr box) (hb : Below wr.heap.size wr w') : Dm.Nx w w' box := ⟨heap_call h.box hb, below_call h.below hb⟩
theorem Dm.Nx.drew {w wr : World} {box : Array Value} (h : Dm.Nx w wr box) : Dm.Nx w wr.drew box := ⟨heap_drew h.box, h.below.drew⟩
theorem dom_next_end (d : Value) (l : List Int) (v : Int) (w : World) (hd : Dm.Rep w d l) (hv : l = [] ∨ l.getLastD 0 ≤ v) :
    Calls Tryd.prog 43 #[d, .int .i64 v] w (Dm.Op none w) := by
  obtain ⟨off, sv, ws, rfl, hx⟩ := hd
  unfold Dm.val
  have h1 : ((l.length : Int) == 0) = true ∨ ((l.length : Int) == 0) = false ∧ l.getLastD 0 ≤ v := by
    rcases hv with h | h
    · subst h; exact Or.inl rfl
    · cases e : ((l.length : Int) == 0)
      · exact Or.inr ⟨rfl, h⟩
      · exact Or.inl rfl
  clear hx hv
  generalize l.headD 0 = lo at *
  generalize l.getLastD 0 = hi at *
  generalize (l.length : Int) = sz at *
  rcases h1 with h1 | ⟨h1, h2⟩
  · go_enter Tryd.func43, Tryd.ntmps43
    go_wp2_with fail
    go_ret2
    exact ⟨rfl, below_alloc (Below.refl _ _) _⟩
  · go_enter Tryd.func43, Tryd.ntmps43
    go_wp2_with fail
    go_ret2
    exact ⟨rfl, below_alloc (Below.refl _ _) _⟩
theorem dom_next_first (d : Value) (l : List Int) (v : Int) (w : World) (hd : Dm.Rep w d l) (hn : l ≠ []) (hl : v < l.headD 0) (hle : l.headD 0 ≤ l.getLastD 0) :
    Calls Tryd.prog 43 #[d, .int .i64 v] w (Dm.Op (some (l.headD 0)) w) := by
  obtain ⟨off, sv, ws, rfl, hx⟩ := hd
  unfold Dm.val
  have h1 : ((l.length : Int) == 0) = false := beq_eq_false_iff_ne.2 (by have := List.length_pos_iff.2 hn; omega)
  clear hx hn
  generalize l.headD 0 = lo at *
  generalize l.getLastD 0 = hi at *
  generalize (l.length : Int) = sz at *
  have h2 : v < hi := by omega
  go_enter Tryd.func43, Tryd.ntmps43
  go_wp2_with fail
  go_ret2
  exact ⟨rfl, below_alloc (Below.refl _ _) _⟩
set_option maxHeartbeats 2000000 in
set_option maxRecDepth 100000 in
theorem dom_next_go (d : Value) (l : List Int) (v : Int) (w : World) (hd : Dm.Rep w d l) (hn : l ≠ []) (hl : l.headD 0 ≤ v) (hv : v < l.getLastD 0) :
    Calls Tryd.prog 43 #[d, .int .i64 v] w (Dm.Op (Rf.next l v) w) := by
  have HN := Lib.hid (Rf.next_some l hd.sorted v)
  have HD := Lib.hid hd
  have hr1 := hd.inr _ (Rf.head_mem l hn)
  have hr2 := hd.inr _ (Rf.last_mem l hn)
  have HM := Lib.hid (Rf.last_mem l hn)
  have HL := Lib.hid (Rf.le_last l hd.sorted)
  obtain ⟨off, sv, ws, rfl, hx⟩ := hd
  unfold Dm.val at *
  have h1 : ((l.length : Int) == 0) = false := beq_eq_false_iff_ne.2 (by have := List.length_pos_iff.2 hn; omega)
  clear hx hn
  generalize l.headD 0 = lo at *
  generalize l.getLastD 0 = hi at *
  generalize l.length = sz at *
  have HI : Hid (Dm.Nx w (w.alloc (.cells #[.int .i64 off, sv, .int .i64 lo, .int .i64 hi, .int .i64 sz] 25)) #[.int .i64 off, sv, .int .i64 lo, .int .i64 hi, .int .i64 sz]) := ⟨heap_new _ _, below_alloc (Below.refl _ _) _⟩
  go_enter Tryd.func43, Tryd.ntmps43
  go_wp2_with fail
  go_loopg [1] (hi - v).toNat (fun k s1 wr => ∃ (x : Int), s1 = .int .i64 x ∧ v < x ∧ x ≤ hi ∧ (hi - x).toNat < k ∧ Hid (∀ u ∈ l, v < u → x ≤ u) ∧ Dm.Nx w wr #[.int .i64 off, sv, .int .i64 lo, .int .i64 hi, .int .i64 sz])
  case atStart => exact ⟨v + 1, rfl, by omega, by omega, by omega, Lib.hid (fun u _ h => by omega), HI.out⟩
  case round =>
    obtain ⟨x, rfl, hvx, hxh, hk, hlow, hinv⟩ := hrel
    have H := Lib.hid hinv
    have c0 := cell_of hinv.box 0
    have c1 := cell_of hinv.box 1
    have c2 := cell_of hinv.box 2
    have c3 := cell_of hinv.box 3
    have c4 := cell_of hinv.box 4
    have HH := Lib.hid (dom_has _ l x wr (HD.out.call hinv.below))
    clear hinv
    by_cases hm : x ∈ l
    · rw [decide_eq_true hm] at HH
      have HP := Lib.hid (HN.out x hm hvx (fun u hu h => hlow.out u hu h))
      clear hm
      go_wp2_with fail
      refine HH.out.mono ?_
      rintro e w2 ⟨rfl, hb⟩
      go_wp2_with fail
      go_ret2
      rw [HP.out]
      exact ⟨rfl, below_call H.out.below hb⟩
    · rw [decide_eq_false hm] at HH
      have HNM := Lib.hid hm
      clear hm
      go_wp2_with fail
      refine HH.out.mono ?_
      rintro e w2 ⟨rfl, hb⟩
      have H2 := Lib.hid (H.out.call hb)
      have g0 := cell_of H2.out.box 0
      have g1 := cell_of H2.out.box 1
      have g2 := cell_of H2.out.box 2
      have g3 := cell_of H2.out.box 3
      have g4 := cell_of H2.out.box 4
      have HW := Lib.hid (fun w3 (hb3 : Below w2.heap.size w2 w3) => dom_word _ l (x - x % 64) w3 (HD.out.call (below_call H2.out.below hb3)) (by omega) (by omega) (by omega))
      clear c0 c1 c2 c3 c4 hb
      go_wp2_with fail
      go_region_held3 (fun w' => w'.cell? ⟨w.heap.size, 0, none⟩ = some (.int .i64 off) ∧ w'.cell? ⟨w.heap.size, 1, none⟩ = some sv ∧ w'.cell? ⟨w.heap.size, 2, none⟩ = some (.int .i64 lo) ∧ w'.cell? ⟨w.heap.size, 3, none⟩ = some (.int .i64 hi) ∧ w'.cell? ⟨w.heap.size, 4, none⟩ = some (.int .i64 sz) ∧ Hid (Below w2.heap.size w2 w'))
        (first
          | exact ⟨by simp [go_sem, g0], by simp [go_sem, g1], by simp [go_sem, g2], by simp [go_sem, g3], by simp [go_sem, g4], Lib.hid (Below.refl _ _).drew⟩
          | exact ⟨hs0, hs1, hs2, hs3, hs4, hs5⟩)
        (first
          | (go_at_call 95; refine (dom_place _ _ (by omega) (by omega)).mono ?_; rintro e w' ⟨rfl, rfl⟩)
          | (go_at_call 92; refine (HW.out _ (Below.refl _ _).drew).mono ?_; rintro e w' ⟨y, rfl, hy, hb, hbel⟩; have hbb := heap_call (heap_drew H2.out.box) hbel; have hs0 : w'.cell? ⟨w.heap.size, 0, none⟩ = some (.int .i64 off) := cell_of hbb 0; have hs1 : w'.cell? ⟨w.heap.size, 1, none⟩ = some sv := cell_of hbb 1; have hs2 : w'.cell? ⟨w.heap.size, 2, none⟩ = some (.int .i64 lo) := cell_of hbb 2; have hs3 : w'.cell? ⟨w.heap.size, 3, none⟩ = some (.int .i64 hi) := cell_of hbb 3; have hs4 : w'.cell? ⟨w.heap.size, 4, none⟩ = some (.int .i64 sz) := cell_of hbb 4; have hs5 : Hid (Below w2.heap.size w2 w') := Lib.hid ((Below.refl w2.heap.size w2).drew.trans hbel); have HB := Lib.hid hb; clear hb hbel hbb))
      have H5 := Lib.hid (H2.out.call hs5.out)
      by_cases hy0 : y = 0
      · subst hy0
        have hgap := Dm.gap l (x - x % 64) HB.out
        have G := Lib.hid hgap
        have hxhi : x - x % 64 + 64 ≤ hi := by
          rcases Int.lt_or_le hi (x - x % 64 + 64) with h | h
          · exact absurd HM.out (hgap hi (by omega) h)
          · exact h
        have hlow2 : ∀ u ∈ l, v < u → x - x % 64 + 64 ≤ u := fun u hu h => by
          have h2 := hlow.out u hu h
          rcases Int.lt_or_le u (x - x % 64 + 64) with h3 | h3
          · exact absurd hu (hgap u (by omega) h3)
          · exact h3
        have HL2 := Lib.hid hlow2
        clear hgap hlow2
        go_wp2_with fail
        refine (dom_place _ _ (by omega) (by omega)).mono ?_
        rintro e w4 ⟨rfl, rfl⟩
        go_wp2_with fail
        go_roundg (gk - 1)
        case measure => omega
        case rel => exact ⟨x - x % 64 + 64, by go_num, by omega, hxhi, by omega, HL2, H5.out⟩
      · have hb0 : ((y : Int) == 0) = false := beq_eq_false_iff_ne.2 (by omega)
        have hne : x < hi := by
          rcases Int.lt_or_le x hi with h | h
          · exact h
          · have : x = hi := by omega
            rw [this] at HNM
            exact absurd HM.out HNM.out
        have hlow2 : ∀ u ∈ l, v < u → x + 1 ≤ u := fun u hu h => by
          have h2 := hlow.out u hu h
          rcases Int.lt_or_le x u with h3 | h3
          · omega
          · have : u = x := by omega
            rw [this] at hu
            exact absurd hu HNM.out
        have HL2 := Lib.hid hlow2
        clear hlow2
        go_wp2_with fail
        go_roundg (gk - 1)
        case measure => omega
        case rel => exact ⟨x + 1, by go_num, by omega, by omega, by omega, HL2, H5.out⟩
end Go.Proofs.YtdbjljbkneopcaaDoor
