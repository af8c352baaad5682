/- The contract of the document's Pop, and of its Push where it is refused. -/
import Derived.Test.YtdbjljbkneopcaaQueueR
namespace Go.Proofs.Ytdbjljbkneopcaa
open Go.RowKit
set_option linter.unusedSimpArgs false
set_option linter.unusedVariables false

def Qu.bk (l : List (Int × Int)) (i : Nat) : Int := (l.getD i (0, 0)).2
theorem Qu.bk_eq (l : List (Int × Int)) (i : Nat) (h : i < l.length) : Qu.bk l i = l[i].2 := by
  unfold Qu.bk
  rw [List.getD_eq_getElem?_getD, List.getElem?_eq_getElem h]
  rfl
def Qu.Lead (l : List (Int × Int)) (j : Nat) (s : Int) : Prop := (j = 0 ∧ s = -1) ∨ ∃ a : Nat, s = a ∧ a < j ∧ (∀ k, k < j → Qu.bk l a ≤ Qu.bk l k) ∧ ∀ k, k < a → Qu.bk l a < Qu.bk l k
theorem Qu.lead_at {l : List (Int × Int)} {a : Nat} (h : Qu.Lead l l.length a) : Qu.IsAt l a := by
  rcases h with ⟨h1, h2⟩ | ⟨a', h1, h2, h3, h4⟩
  · omega
  · obtain rfl : a = a' := by omega
    refine ⟨h2, fun j hj => ?_, fun j hj => ?_⟩
    · rw [← Qu.bk_eq l a h2, ← Qu.bk_eq l j hj]; exact h3 j hj
    · rw [← Qu.bk_eq l a h2, ← Qu.bk_eq l j (by omega)]; exact h4 j hj
theorem Qu.lead_new {l : List (Int × Int)} {j a : Nat} (h : Qu.Lead l j a) (hlt : Qu.bk l j < Qu.bk l a) : Qu.Lead l (j + 1) j := by
  rcases h with ⟨h1, h2⟩ | ⟨a', h1, h2, h3, h4⟩
  · omega
  · obtain rfl : a = a' := by omega
    refine Or.inr ⟨j, rfl, by omega, fun k hk => ?_, fun k hk => ?_⟩
    · rcases Nat.lt_or_ge k j with g | g
      · have := h3 k g; omega
      · obtain rfl : k = j := by omega
        omega
    · have := h3 k hk; omega
theorem Qu.lead_old {l : List (Int × Int)} {j a : Nat} (h : Qu.Lead l j a) (hge : ¬ Qu.bk l j < Qu.bk l a) : Qu.Lead l (j + 1) a := by
  rcases h with ⟨h1, h2⟩ | ⟨a', h1, h2, h3, h4⟩
  · omega
  · obtain rfl : a = a' := by omega
    refine Or.inr ⟨a, rfl, by omega, fun k hk => ?_, h4⟩
    rcases Nat.lt_or_ge k j with g | g
    · exact h3 k g
    · obtain rfl : k = j := by omega
      omega
def Qu.skip (l : List (Int × Int)) (a j : Nat) : List (Int × Int) := if a < j then (l.take j).eraseIdx a else l.take j
theorem Qu.skip_at (l : List (Int × Int)) (a : Nat) (h : a < l.length) : Qu.skip l a (a + 1) = Qu.skip l a a := by
  unfold Qu.skip
  rw [if_pos (by omega), if_neg (by omega), Qu.take_snoc l a h, List.eraseIdx_append_of_length_le (by simp; omega)]
  simp [Nat.min_eq_left (Nat.le_of_lt h)]
theorem Qu.skip_step (l : List (Int × Int)) (a j : Nat) (h : j < l.length) (hne : j ≠ a) : Qu.skip l a (j + 1) = Qu.skip l a j ++ [l[j]] := by
  unfold Qu.skip
  rcases Nat.lt_or_ge a j with g | g
  · rw [if_pos (by omega), if_pos g, Qu.take_snoc l j h, List.eraseIdx_append_of_lt_length (by simp; omega)]
  · rw [if_neg (by omega), if_neg (by omega), Qu.take_snoc l j h]
theorem Qu.skip_end (l : List (Int × Int)) (a : Nat) (h : a < l.length) : Qu.skip l a l.length = l.eraseIdx a := by
  unfold Qu.skip; rw [if_pos h, List.take_length]
theorem Qu.skip_len (l : List (Int × Int)) (a j : Nat) (hj : j ≤ l.length) : (Qu.skip l a j).length ≤ j := by
  unfold Qu.skip
  split
  · have := List.length_eraseIdx_le (l.take j) a
    simp at this ⊢; omega
  · simp; omega

set_option maxHeartbeats 400000 in
theorem ref_pop_none (v : Value) (w : World) (hs : Qu.Ref w v []) :
    Calls Try.prog 16 #[v] w fun e w' => e = .returned (.tuple #[v, .int .i64 0, .bool false]) ∧ w = w' := by
  obtain ⟨A, c, rfl⟩ := hs.len
  clear hs
  go_enter Try.func16, Try.ntmps16
  go_wp2
  go_loop [5, 6] (fun s5 s6 => s5 = .int .i64 (-1) ∧ s6 = .int .i64 0) (fun _ _ => 0)
  case atStart => exact ⟨rfl, rfl⟩
  case round =>
    obtain ⟨rfl, rfl⟩ := hrel
    go_wp2
    go_ret3
    exact ⟨rfl, rfl⟩

set_option maxHeartbeats 800000 in
theorem ref_pop_some (v : Value) (l : List (Int × Int)) (a : Nat) (ha : Qu.IsAt l a) (w : World) (hs : Qu.Ref w v l) (hl : l.length ≤ 1000000) :
    Calls Try.prog 16 #[v] w (Qu.Made w (fun v' => .tuple #[v', .int .i64 (l.getD a (0, 0)).1, .bool true]) (l.eraseIdx a)) := by
  obtain ⟨i0, hi, hz0, hz1, hz2⟩ := info_parts infoOne
  have hpos : 0 < l.length := by obtain ⟨h, _⟩ := ha; omega
  have huniq : ∀ b : Nat, Qu.Lead l l.length b → b = a := by
    intro b hb
    obtain ⟨h1, h2, h3⟩ := Qu.lead_at hb
    obtain ⟨k1, k2, k3⟩ := ha
    rcases Nat.lt_trichotomy a b with g | g | g
    · have := h3 a g; have := k2 b h1; omega
    · exact g.symm
    · have := k3 b g; have := h2 a k1; omega
  have HU := Lib.hid huniq
  obtain ⟨b, o, c, cs, rfl, _⟩ := hs.form hpos
  have HS := Lib.hid hs
  have HA := Lib.hid ha
  clear hs ha huniq
  go_enter Try.func16, Try.ntmps16
  go_wp2
  go_loopw [5, 6] (fun s5 s6 wr => ∃ (j : Nat) (s : Int), j ≤ l.length ∧ s6 = .int .i64 j ∧ s5 = .int .i64 s ∧ Hid (Qu.Lead l j s) ∧ Hid (∃ n, wr = w.drewN n)) (fun _ s6 _ => l.length - (intOf s6).toNat)
  case atStart => exact ⟨0, -1, by omega, rfl, rfl, Or.inl ⟨rfl, rfl⟩, ⟨0, rfl⟩⟩
  case round =>
    obtain ⟨j, s, hj, rfl, rfl, hL, hn⟩ := hrel
    obtain ⟨nd, rfl⟩ := hn.out
    rcases Nat.lt_or_ge j l.length with hlt | hge
    · rcases hL.out with ⟨hj0, hs0⟩ | ⟨a', hs1, ha', h3, h4⟩
      · subst hj0
        subst hs0
        have hL1 : Qu.Lead l 1 ((0 : Nat) : Int) := Or.inr ⟨0, rfl, by omega, (fun k hk => by rw [show k = 0 from by omega]; exact Int.le_refl _), (fun k hk => by omega)⟩
        have HL1 := Lib.hid hL1
        clear hL1
        go_wp2_with fail
        go_quiet (fail)
        go_wp2_with fail
        go_roundw
        case rel => exact ⟨1, 0, by omega, rfl, rfl, HL1.out, ⟨_, rfl⟩⟩
        case measure => simp [intOf]; omega
      · subst hs1
        have hal : a' < l.length := by omega
        obtain ⟨g1, g2⟩ := Qu.ref_cells HS.out j hlt
        obtain ⟨g3, g4⟩ := Qu.ref_cells HS.out a' hal
        rw [← Qu.bk_eq l j hlt] at g2
        rw [← Qu.bk_eq l a' hal] at g4
        clear g1 g3 h3 h4
        have q1 : (0 : Int) ≤ (j : Int) := by omega
        have q2 : (j : Int) < (l.length : Int) := by omega
        have q3 : (0 : Int) ≤ (a' : Int) := by omega
        have q4 : (a' : Int) < (l.length : Int) := by omega
        by_cases hb : Qu.bk l j < Qu.bk l a'
        · have HL2 := Lib.hid (Qu.lead_new hL.out hb)
          go_wp2_with fail
          go_quiet (fail)
          go_wp2_with fail
          go_roundw
          case rel => exact ⟨j + 1, j, by omega, by go_num, rfl, HL2.out, ⟨_, rfl⟩⟩
          case measure => simp [intOf]; omega
        · have HL2 := Lib.hid (Qu.lead_old hL.out hb)
          go_wp2_with fail
          go_quiet (fail)
          go_wp2_with fail
          go_roundw
          case rel => exact ⟨j + 1, a', by omega, by go_num, rfl, HL2.out, ⟨_, rfl⟩⟩
          case measure => simp [intOf]; omega
    · obtain rfl : j = l.length := by omega
      rcases hL.out with ⟨hj0, hs0⟩ | ⟨a', hs1, ha', h3, h4⟩
      · omega
      · obtain rfl : a' = a := HU.out a' (by rw [← hs1]; exact hL.out)
        subst hs1
        clear h3 h4
        go_wp2_with fail
        go_loopw [7, 8] (fun s7 s8 wr => ∃ q : Nat, q ≤ l.length ∧ s8 = .int .i64 q ∧ Hid (Sl wr 61 2 s7 (Qu.skip l a' q).length (Qu.flat (Qu.skip l a' q))) ∧ Hid (∀ k, s7.ownBlock = some k → w.heap.size ≤ k) ∧ Hid (Below w.heap.size w wr)) (fun _ s8 _ => l.length - (intOf s8).toNat)
        case atStart => exact ⟨0, by omega, rfl, by rw [show Qu.skip l a' 0 = [] from by unfold Qu.skip; rw [if_neg (by omega)]; rfl]; exact Sl.nil _ _ _, own_nil _, (below_drewN (Below.refl _ _) _)⟩
        case round =>
          obtain ⟨q, hq, rfl, hout, hown, hB⟩ := hrel
          have HS2 := Lib.hid (Sl.call HS.out hB.out)
          rcases Nat.lt_or_ge q l.length with hlt | hge
          · obtain ⟨g1, g2⟩ := Qu.ref_cells HS2.out q hlt
            by_cases hqa : q = a'
            · have hneb : ((q : Int) != (a' : Int)) = false := by simp; omega
              have HE := Lib.hid hqa
              clear hqa
              go_wp2_with fail
              go_roundw
              case rel => exact ⟨q + 1, by omega, by go_num, by rw [HE.out, Qu.skip_at l a' ha', ← HE.out]; exact (by rw [HE.out] at hout ⊢; exact hout.out), hown, hB⟩
              case measure => simp [intOf]; omega
            · have hneb : ((q : Int) != (a' : Int)) = true := by simp; omega
              have HE := Lib.hid hqa
              have hsl := Qu.skip_len l a' q hq
              clear hqa
              go_wp2_with (first
                | (at_builtin; refine wpList_append_sl _ rfl _ _ 35 rfl 61 i0 (.agg #[.int .i64 0, .int .i64 0]) 2 16 Try.underlying35 hi hz0 hz1 hz2 rfl (by decide) _ _ _ rfl (Sl.alloc hout.out _) ⟨wr.heap.size, 0, none⟩ 1 1 [.int .i64 l[q].1, .int .i64 l[q].2] rfl rfl (World.news_of_block (heap_new wr (.cells #[.int .i64 l[q].1, .int .i64 l[q].2] 61))) (by intro u hu; simp at hu; rcases hu with rfl | rfl <;> rfl) (by decide) (by unfold maxLen; omega) (by omega) _ rfl ?_; intro b2 f2 c2 w2 hs2 hf2 hb2))
              go_roundw
              case rel =>
                refine ⟨q + 1, by omega, by go_num, ?_, own_ge hown.out (by have := hB.out.size; simp; omega) hb2, Fr.below (below_alloc hB.out _) hf2 hown.out⟩
                show Sl _ _ _ _ _ _
                rw [Qu.skip_step l a' q hlt HE.out, List.length_append, Qu.flat_snoc]
                exact hs2
              case measure => simp [intOf]; omega
          · obtain rfl : q = l.length := by omega
            obtain ⟨g1, g2⟩ := Qu.ref_cells HS2.out a' ha'
            have q3 : (0 : Int) ≤ (a' : Int) := by omega
            have q4 : (a' : Int) < (l.length : Int) := by omega
            go_wp2_with fail
            go_quiet (fail)
            go_wp2_with fail
            go_ret3
            refine ⟨_, ?_, ?_, below_drewN hB.out _, hown.out⟩
            · rw [List.getD_eq_getElem?_getD, List.getElem?_eq_getElem ha']; rfl
            · show Sl _ _ _ _ _ _
              have := hout.out
              rw [Qu.skip_end l a' ha'] at this
              exact this
end Go.Proofs.Ytdbjljbkneopcaa
