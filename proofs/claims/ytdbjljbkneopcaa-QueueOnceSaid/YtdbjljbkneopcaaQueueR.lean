/- The contracts of the document's answer for layer 4: Has, Push, Pop. -/
import Derived.Test.YtdbjljbkneopcaaQueueM
namespace Go.Proofs.Ytdbjljbkneopcaa
open Go.RowKit
set_option linter.unusedSimpArgs false
set_option linter.unusedVariables false

abbrev Qu.Ref (w : World) (v : Value) (l : List (Int × Int)) : Prop := Sl w 61 2 v l.length (Qu.flat l)

set_option maxHeartbeats 400000 in
theorem ref_has (v : Value) (l : List (Int × Int)) (id : Int) (w : World) (hs : Qu.Ref w v l) (hl : l.length ≤ 1000000) :
    Calls Try.prog 19 #[v, .int .i64 id] w fun e w' => e = .returned (.bool (decide (id ∈ l.map Prod.fst))) ∧ w = w' := by
  obtain ⟨A, c, rfl⟩ := hs.len
  have HS := Lib.hid hs
  clear hs
  go_enter Try.func19, Try.ntmps19
  go_wp2
  go_loop [5] (fun s5 => ∃ j : Nat, j ≤ l.length ∧ s5 = .int .i64 j ∧ Hid (∀ x ∈ l.take j, x.1 ≠ id)) (fun s5 => l.length - (intOf s5).toNat)
  case atStart => exact ⟨0, by omega, rfl, by simp [Hid]⟩
  case round =>
    obtain ⟨j, hj, rfl, hno⟩ := hrel
    rcases Nat.lt_or_ge j l.length with hlt | hge
    · obtain ⟨b, o, c', cs, hv, _⟩ := HS.out.form (by omega)
      cases hv
      have f := Qu.flat_at l j hlt
      have h1 := HS.out.cell (j * 2) (by omega)
      rw [f.1] at h1
      clear f
      go_wp2_with fail
      · go_ret
        refine ⟨ret_bool ?_, rfl⟩
        have hb := ‹(_ == _) = true›
        rw [beq_iff_eq] at hb
        have : id ∈ l.map Prod.fst := List.mem_map.2 ⟨l[j], List.getElem_mem _, hb⟩
        simp only [this, decide_true]
      · have hb := ‹(_ == _) = false›
        rw [beq_eq_false_iff_ne] at hb
        go_round
        case rel =>
          refine ⟨j + 1, by omega, by go_num, ?_⟩
          intro x hx
          rw [Qu.take_snoc l j hlt] at hx
          rcases List.mem_append.1 hx with hx | hx
          · exact hno.out x hx
          · rw [List.mem_singleton] at hx; rw [hx]; exact hb
        case measure => simp [intOf]; omega
    · go_wp2_with fail
      go_ret
      refine ⟨ret_bool ?_, rfl⟩
      have : id ∉ l.map Prod.fst := by
        intro h
        obtain ⟨x, hx, rfl⟩ := List.mem_map.1 h
        exact hno.out x (by rw [List.take_of_length_le hge]; exact hx) rfl
      simp only [this, decide_false]

theorem Qu.ref_cells {w : World} {b o c : Nat} {l : List (Int × Int)} (h : Qu.Ref w (.slice (some ⟨b, o, none⟩) l.length c) l) (j : Nat) (hj : j < l.length) :
    w.cell? ⟨b, o + j * 2, none⟩ = some (.int .i64 l[j].1) ∧ w.cell? ⟨b, o + j * 2 + 1, none⟩ = some (.int .i64 l[j].2) := by
  have f := Qu.flat_at l j hj
  rw [Nat.add_assoc, h.cell (j * 2) (by omega), h.cell (j * 2 + 1) (by omega)]
  exact f
theorem own_nil (B : Nat) : ∀ k, (Value.slice none 0 0).ownBlock = some k → B ≤ k := fun k hk => by cases hk

theorem infoOne : (Try.prog.info? 61).map (fun i => (i.zero, i.size, i.bytes)) = some (some (.agg #[.int .i64 0, .int .i64 0]), 2, 16) := by kernel_rfl

def Qu.clamp (b : Int) : Int := if b < 0 then 0 else if 3 < b then 3 else b
/-- The list then, in new memory. -/
def Qu.Made (w : World) (r : Value → Value) (l : List (Int × Int)) (e : Ending) (w' : World) : Prop :=
  ∃ v', e = .returned (r v') ∧ Qu.Ref w' v' l ∧ Below w.heap.size w w' ∧ ∀ b, v'.ownBlock = some b → w.heap.size ≤ b

theorem own_ge {B : Nat} {v : Value} {b f m c : Nat} {H H' : Nat} (hv : ∀ k, v.ownBlock = some k → B ≤ k) (hB : B ≤ H) (h : v.ownBlock = some b ∨ (b = H ∧ H < H')) :
    ∀ k, (Value.slice (some ⟨b, f, none⟩) m c).ownBlock = some k → B ≤ k := by
  intro k hk
  obtain rfl : b = k := by injection hk
  rcases h with h | h
  · exact hv _ h
  · omega

set_option maxHeartbeats 800000 in
theorem ref_push_yes (v : Value) (l : List (Int × Int)) (n id bucket cl : Int) (w : World) (hs : Qu.Ref w v l) (hl : l.length ≤ 1000000) (h1 : 0 ≤ id) (h2 : id < n) (hid : id ∉ l.map Prod.fst)
    (hcl : (bucket < 0 ∧ cl = 0) ∨ (0 ≤ bucket ∧ bucket ≤ 3 ∧ cl = bucket) ∨ (3 < bucket ∧ cl = 3)) :
    Calls Try.prog 18 #[v, .int .i64 n, .int .i64 id, .int .i64 bucket] w (Qu.Made w (fun v' => .tuple #[v', .bool true]) (l ++ [(id, cl)])) := by
  obtain ⟨i0, hi, hz0, hz1, hz2⟩ := info_parts infoOne
  obtain ⟨A, c, rfl⟩ := hs.len
  have HS := Lib.hid hs
  have hh := ref_has _ l id w hs hl
  rw [decide_eq_false hid] at hh
  have HH := Lib.hid hh
  clear hs hh hid
  rcases hcl with ⟨hc1, rfl⟩ | ⟨hc1, hc2, rfl⟩ | ⟨hc1, rfl⟩
  · go_enter Try.func18, Try.ntmps18
    go_wp2_with (go_at_call 19; refine HH.out.mono ?_; rintro e w1 ⟨rfl, rfl⟩)
    go_loopw [11, 12] (fun s11 s12 wr => ∃ j : Nat, j ≤ l.length ∧ s12 = .int .i64 j ∧ Hid (Sl wr 61 2 s11 j (Qu.flat (l.take j))) ∧ Hid (∀ k, s11.ownBlock = some k → w.heap.size ≤ k) ∧ Hid (Below w.heap.size w wr)) (fun _ s12 _ => l.length - (intOf s12).toNat)
    case atStart => exact ⟨0, by omega, rfl, Sl.nil _ _ _, own_nil _, Below.refl _ _⟩
    case round =>
      obtain ⟨j, hj, rfl, hout, hown, hB⟩ := hrel
      have HS2 := Lib.hid (Sl.call HS.out hB.out)
      rcases Nat.lt_or_ge j l.length with hlt | hge
      · obtain ⟨b, o, c', cs, hv, _⟩ := HS.out.form (by omega)
        cases hv
        obtain ⟨g1, g2⟩ := Qu.ref_cells HS2.out j hlt
        go_wp2_with (first
          | (at_builtin; refine wpList_append_sl _ rfl _ _ 35 rfl 61 i0 (.agg #[.int .i64 0, .int .i64 0]) 2 16 Try.underlying35 hi hz0 hz1 hz2 rfl (by decide) _ _ _ rfl (Sl.alloc hout.out _) ⟨wr.heap.size, 0, none⟩ 1 1 [.int .i64 l[j].1, .int .i64 l[j].2] rfl rfl (World.news_of_block (heap_new wr (.cells #[.int .i64 l[j].1, .int .i64 l[j].2] 61))) (by intro u hu; simp at hu; rcases hu with rfl | rfl <;> rfl) (by decide) (by unfold maxLen; omega) (by omega) _ rfl ?_; intro b2 f2 c2 w2 hs2 hf2 hb2))
        go_roundw
        case rel =>
          refine ⟨j + 1, by omega, by go_num, ?_, own_ge hown.out (by have := hB.out.size; simp; omega) hb2, Fr.below (below_alloc hB.out _) hf2 hown.out⟩
          show Sl _ _ _ _ _ _
          rw [Qu.take_snoc l j hlt, Qu.flat_snoc]
          exact hs2
        case measure => simp [intOf]; omega
      · obtain rfl : j = l.length := by omega
        go_wp2_with (first
          | (at_builtin; refine wpList_append_sl _ rfl _ _ 35 rfl 61 i0 (.agg #[.int .i64 0, .int .i64 0]) 2 16 Try.underlying35 hi hz0 hz1 hz2 rfl (by decide) _ _ _ rfl (Sl.alloc hout.out _) ⟨wr.heap.size, 0, none⟩ 1 1 [.int .i64 id, .int .i64 0] rfl rfl (World.news_of_block (heap_new wr (.cells #[.int .i64 id, .int .i64 0] 61))) (by intro u hu; simp at hu; rcases hu with rfl | rfl <;> rfl) (by decide) (by unfold maxLen; omega) (by omega) _ rfl ?_; intro b2 f2 c2 w2 hs2 hf2 hb2))
        go_ret2
        refine ⟨_, rfl, ?_, Fr.below (below_alloc hB.out _) hf2 hown.out, own_ge hown.out (by have := hB.out.size; simp; omega) hb2⟩
        rw [List.take_length] at hs2
        show Sl _ _ _ _ _ _
        rw [List.length_append, Qu.flat_snoc]
        exact hs2
  · go_enter Try.func18, Try.ntmps18
    go_wp2_with (go_at_call 19; refine HH.out.mono ?_; rintro e w1 ⟨rfl, rfl⟩)
    go_loopw [11, 12] (fun s11 s12 wr => ∃ j : Nat, j ≤ l.length ∧ s12 = .int .i64 j ∧ Hid (Sl wr 61 2 s11 j (Qu.flat (l.take j))) ∧ Hid (∀ k, s11.ownBlock = some k → w.heap.size ≤ k) ∧ Hid (Below w.heap.size w wr)) (fun _ s12 _ => l.length - (intOf s12).toNat)
    case atStart => exact ⟨0, by omega, rfl, Sl.nil _ _ _, own_nil _, Below.refl _ _⟩
    case round =>
      obtain ⟨j, hj, rfl, hout, hown, hB⟩ := hrel
      have HS2 := Lib.hid (Sl.call HS.out hB.out)
      rcases Nat.lt_or_ge j l.length with hlt | hge
      · obtain ⟨b, o, c', cs, hv, _⟩ := HS.out.form (by omega)
        cases hv
        obtain ⟨g1, g2⟩ := Qu.ref_cells HS2.out j hlt
        go_wp2_with (first
          | (at_builtin; refine wpList_append_sl _ rfl _ _ 35 rfl 61 i0 (.agg #[.int .i64 0, .int .i64 0]) 2 16 Try.underlying35 hi hz0 hz1 hz2 rfl (by decide) _ _ _ rfl (Sl.alloc hout.out _) ⟨wr.heap.size, 0, none⟩ 1 1 [.int .i64 l[j].1, .int .i64 l[j].2] rfl rfl (World.news_of_block (heap_new wr (.cells #[.int .i64 l[j].1, .int .i64 l[j].2] 61))) (by intro u hu; simp at hu; rcases hu with rfl | rfl <;> rfl) (by decide) (by unfold maxLen; omega) (by omega) _ rfl ?_; intro b2 f2 c2 w2 hs2 hf2 hb2))
        go_roundw
        case rel =>
          refine ⟨j + 1, by omega, by go_num, ?_, own_ge hown.out (by have := hB.out.size; simp; omega) hb2, Fr.below (below_alloc hB.out _) hf2 hown.out⟩
          show Sl _ _ _ _ _ _
          rw [Qu.take_snoc l j hlt, Qu.flat_snoc]
          exact hs2
        case measure => simp [intOf]; omega
      · obtain rfl : j = l.length := by omega
        go_wp2_with (first
          | (at_builtin; refine wpList_append_sl _ rfl _ _ 35 rfl 61 i0 (.agg #[.int .i64 0, .int .i64 0]) 2 16 Try.underlying35 hi hz0 hz1 hz2 rfl (by decide) _ _ _ rfl (Sl.alloc hout.out _) ⟨wr.heap.size, 0, none⟩ 1 1 [.int .i64 id, .int .i64 cl] rfl rfl (World.news_of_block (heap_new wr (.cells #[.int .i64 id, .int .i64 cl] 61))) (by intro u hu; simp at hu; rcases hu with rfl | rfl <;> rfl) (by decide) (by unfold maxLen; omega) (by omega) _ rfl ?_; intro b2 f2 c2 w2 hs2 hf2 hb2))
        go_ret2
        refine ⟨_, rfl, ?_, Fr.below (below_alloc hB.out _) hf2 hown.out, own_ge hown.out (by have := hB.out.size; simp; omega) hb2⟩
        rw [List.take_length] at hs2
        show Sl _ _ _ _ _ _
        rw [List.length_append, Qu.flat_snoc]
        exact hs2
  · go_enter Try.func18, Try.ntmps18
    go_wp2_with (go_at_call 19; refine HH.out.mono ?_; rintro e w1 ⟨rfl, rfl⟩)
    go_loopw [11, 12] (fun s11 s12 wr => ∃ j : Nat, j ≤ l.length ∧ s12 = .int .i64 j ∧ Hid (Sl wr 61 2 s11 j (Qu.flat (l.take j))) ∧ Hid (∀ k, s11.ownBlock = some k → w.heap.size ≤ k) ∧ Hid (Below w.heap.size w wr)) (fun _ s12 _ => l.length - (intOf s12).toNat)
    case atStart => exact ⟨0, by omega, rfl, Sl.nil _ _ _, own_nil _, Below.refl _ _⟩
    case round =>
      obtain ⟨j, hj, rfl, hout, hown, hB⟩ := hrel
      have HS2 := Lib.hid (Sl.call HS.out hB.out)
      rcases Nat.lt_or_ge j l.length with hlt | hge
      · obtain ⟨b, o, c', cs, hv, _⟩ := HS.out.form (by omega)
        cases hv
        obtain ⟨g1, g2⟩ := Qu.ref_cells HS2.out j hlt
        go_wp2_with (first
          | (at_builtin; refine wpList_append_sl _ rfl _ _ 35 rfl 61 i0 (.agg #[.int .i64 0, .int .i64 0]) 2 16 Try.underlying35 hi hz0 hz1 hz2 rfl (by decide) _ _ _ rfl (Sl.alloc hout.out _) ⟨wr.heap.size, 0, none⟩ 1 1 [.int .i64 l[j].1, .int .i64 l[j].2] rfl rfl (World.news_of_block (heap_new wr (.cells #[.int .i64 l[j].1, .int .i64 l[j].2] 61))) (by intro u hu; simp at hu; rcases hu with rfl | rfl <;> rfl) (by decide) (by unfold maxLen; omega) (by omega) _ rfl ?_; intro b2 f2 c2 w2 hs2 hf2 hb2))
        go_roundw
        case rel =>
          refine ⟨j + 1, by omega, by go_num, ?_, own_ge hown.out (by have := hB.out.size; simp; omega) hb2, Fr.below (below_alloc hB.out _) hf2 hown.out⟩
          show Sl _ _ _ _ _ _
          rw [Qu.take_snoc l j hlt, Qu.flat_snoc]
          exact hs2
        case measure => simp [intOf]; omega
      · obtain rfl : j = l.length := by omega
        go_wp2_with (first
          | (at_builtin; refine wpList_append_sl _ rfl _ _ 35 rfl 61 i0 (.agg #[.int .i64 0, .int .i64 0]) 2 16 Try.underlying35 hi hz0 hz1 hz2 rfl (by decide) _ _ _ rfl (Sl.alloc hout.out _) ⟨wr.heap.size, 0, none⟩ 1 1 [.int .i64 id, .int .i64 3] rfl rfl (World.news_of_block (heap_new wr (.cells #[.int .i64 id, .int .i64 3] 61))) (by intro u hu; simp at hu; rcases hu with rfl | rfl <;> rfl) (by decide) (by unfold maxLen; omega) (by omega) _ rfl ?_; intro b2 f2 c2 w2 hs2 hf2 hb2))
        go_ret2
        refine ⟨_, rfl, ?_, Fr.below (below_alloc hB.out _) hf2 hown.out, own_ge hown.out (by have := hB.out.size; simp; omega) hb2⟩
        rw [List.take_length] at hs2
        show Sl _ _ _ _ _ _
        rw [List.length_append, Qu.flat_snoc]
        exact hs2
end Go.Proofs.Ytdbjljbkneopcaa
