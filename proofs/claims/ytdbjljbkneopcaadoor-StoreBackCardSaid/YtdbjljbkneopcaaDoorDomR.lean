/- near walked: the numbers of which a law's domain is made. -/
import Derived.Test.YtdbjljbkneopcaaDoorDomQ
namespace Go.Proofs.YtdbjljbkneopcaaDoor
open Go.RowKit
set_option linter.unusedSimpArgs false
set_option linter.unusedVariables false

theorem Sl.cut {w : World} {e c n k : Nat} {A : Option Addr} {xs : List Value} (h : Sl w e 1 (.slice A n c) n xs) (hk : k ≤ n) : Sl w e 1 (.slice A k c) k (xs.take k) := by
  obtain ⟨h0, ⟨h1, h2⟩ | ⟨b, o, c', cs, h1, hc, h3, h4, h5, h6⟩⟩ := h
  · subst h2
    obtain rfl : k = 0 := by omega
    injection h1 with a1 a2 a3
    subst a1 a3
    exact ⟨by simp, .inl ⟨rfl, rfl⟩⟩
  · injection h1 with a1 a2 a3
    subst a1 a3
    refine ⟨by rw [List.length_take, h0]; omega, .inr ⟨b, o, c, cs, rfl, hc, by omega, h4, h5, fun j hj => ?_⟩⟩
    rw [h6 j (by omega), List.getElem?_take, if_pos (by omega)]
theorem Iv.cut {w : World} {c k : Nat} {A : Option Addr} {l : List Int} (h : Sl w 3 1 (.slice A l.length c) l.length (Iv l)) (hk : k ≤ l.length) : Sl w 3 1 (.slice A k c) (l.take k).length (Iv (l.take k)) := by
  have := h.cut hk
  have e : (l.take k).length = k := by rw [List.length_take]; omega
  rw [e]
  unfold Iv at this ⊢
  rwa [List.map_take]
def Rf.near (l : List Int) : List Int := (l.take 40).map fun v => v.tmod 3000
theorem tmod3000 (v : Int) : -2999 ≤ v.tmod 3000 ∧ v.tmod 3000 ≤ 2999 := by
  rcases Int.lt_or_le v 0 with h | h
  · have := Int.neg_tmod (-v) 3000
    rw [Int.neg_neg] at this
    rw [this, Int.tmod_eq_emod_of_nonneg (by omega)]
    omega
  · rw [Int.tmod_eq_emod_of_nonneg h]; omega
theorem Rf.near_step (l : List Int) (j : Nat) (hj : j < (l.take 40).length) : ((l.take 40).take (j + 1)).map (fun v => v.tmod 3000) = ((l.take 40).take j).map (fun v => v.tmod 3000) ++ [((l.take 40).getD j 0).tmod 3000] := by
  rw [take_succ_getD _ j hj, List.map_append]; rfl
theorem Rf.near_length (l : List Int) : (Rf.near l).length ≤ 40 := by unfold Rf.near; rw [List.length_map]; exact List.length_take_le _ _
theorem Rf.near_in (l : List Int) (v : Int) (h : v ∈ Rf.near l) : -2999 ≤ v ∧ v ≤ 2999 := by
  unfold Rf.near at h
  obtain ⟨x, _, rfl⟩ := List.mem_map.1 h
  exact tmod3000 x
/-- A list of its own. -/
def Rf.Own (l : List Int) (w : World) (e : Ending) (w' : World) : Prop := ∃ so, e = .returned so ∧ Rf.Ke w w' so l
set_option maxHeartbeats 1000000 in
theorem near_nil (w : World) : Calls Tryd.prog 16 #[.slice none 0 0] w (Rf.Own (Rf.near []) w) := by
  go_enter Tryd.func16, Tryd.ntmps16
  go_wp2_with fail
  go_loopg [3, 12] 0 (fun k s3 s12 wr => s3 = .slice none 0 0 ∧ s12 = .int .i64 0 ∧ Hid (wr = w))
  case atStart => exact ⟨rfl, rfl, Lib.hid rfl⟩
  case round =>
    obtain ⟨rfl, rfl, hw⟩ := hrel
    obtain rfl := hw.out
    go_wp2_with fail
    go_ret
    exact ⟨_, rfl, Ow.nil _ _, Below.refl _ _⟩
set_option maxHeartbeats 1000000 in
theorem near_none (a : Addr) (c : Nat) (w : World) : Calls Tryd.prog 16 #[.slice (some a) 0 c] w (Rf.Own (Rf.near []) w) := by
  go_enter Tryd.func16, Tryd.ntmps16
  go_wp2_with fail
  go_loopg [3, 12] 0 (fun k s3 s12 wr => s3 = .slice none 0 0 ∧ s12 = .int .i64 0 ∧ Hid (wr = w))
  case atStart => exact ⟨rfl, rfl, Lib.hid rfl⟩
  case round =>
    obtain ⟨rfl, rfl, hw⟩ := hrel
    obtain rfl := hw.out
    go_wp2_with fail
    go_ret
    exact ⟨_, rfl, Ow.nil _ _, Below.refl _ _⟩
set_option maxHeartbeats 1000000 in
set_option maxRecDepth 100000 in
theorem near_some (b o c : Nat) (l : List Int) (w : World) (h : Rd w (.slice (some ⟨b, o, none⟩) l.length c) l) :
    Calls Tryd.prog 16 #[.slice (some ⟨b, o, none⟩) l.length c] w (Rf.Own (Rf.near l) w) := by
  have hbig := h.big
  have hcc : l.length ≤ c := (h.cap _ _ _ rfl).1
  have HC := Lib.hid h
  have HI : Hid (Rf.Ke w w (.slice none 0 0) (((l.take 40).take 0).map fun v => v.tmod 3000)) := ⟨Ow.nil _ _, Below.refl _ _⟩
  have e1 : l.take (min l.length 40) = l.take 40 := by
    rw [List.take_eq_take_iff]; omega
  have e2 : (l.take 40).length = min l.length 40 := by rw [List.length_take]; omega
  have HT := Lib.hid e2
  have hk1 : min (l.length : Int) 40 = ((min l.length 40 : Nat) : Int) := by omega
  have hk2 : min l.length 40 ≤ l.length := by omega
  have hk3 : min l.length 40 ≤ 40 := by omega
  clear h e1 e2
  generalize hm : min l.length 40 = m at *
  have HM := Lib.hid hm
  clear hm
  obtain ⟨q, hq⟩ : ∃ q, q = l.take 40 := ⟨_, rfl⟩
  have HN := Lib.hid (show Rf.near l = q.map fun v => v.tmod 3000 from by rw [hq]; rfl)
  have NS := Lib.hid (Rf.near_step l)
  rw [HN.out]
  rw [← hq] at HI HT NS
  have HQ := Lib.hid hq
  clear hq
  go_enter Tryd.func16, Tryd.ntmps16
  go_wp2_with fail
  go_loopg [3, 12] m (fun k s3 s12 wr => ∃ j : Nat, s12 = .int .i64 j ∧ k + j = m ∧ Rf.Ke w wr s3 ((q.take j).map fun v => v.tmod 3000))
  case atStart => exact ⟨0, rfl, by omega, HI.out⟩
  case round =>
    obtain ⟨j, rfl, hj, hinv⟩ := hrel
    have H := Lib.hid hinv
    clear hinv
    rcases Nat.lt_or_ge j m with hk | hk
    · have hjl : j < q.length := by rw [HT.out]; exact hk
      have hcell : wr.cell? ⟨b, o + j, none⟩ = some (.int .i64 (q.getD j 0)) := by
        have := HC.out.later H.out.below j (by omega)
        rw [this, HQ.out, List.getD_eq_getElem?_getD, List.getD_eq_getElem?_getD, List.getElem?_take, if_pos (by omega)]
      have ST := Lib.hid (NS.out j hjl)
      have hlen : ((q.take j).map fun v => v.tmod 3000).length < 17000000000000 := by rw [List.length_map, List.length_take]; omega
      generalize ((q.take j).map fun v => v.tmod 3000) = acc at *
      have t3 := tmod3000 (q.getD j 0)
      generalize q.getD j 0 = u at *
      go_wp2_with (at_builtin; refine wpList_append_int wr rfl _ _ rfl w.heap.size _ _ rfl (by exact H.out.own) H.out.below.size _ rfl (by exact hlen) ?_; intro s2 w2 happ)
      go_roundg (gk - 1)
      case measure => omega
      case rel => exact ⟨j + 1, by go_num, by omega, by rw [ST.out]; exact H.out.app happ⟩
    · have hjm : j = m := by omega
      subst hjm
      have e : q.take j = q := List.take_of_length_le (by rw [HT.out]; omega)
      rw [e] at H
      clear e
      go_wp2_with fail
      go_ret
      exact ⟨_, rfl, H.out⟩
theorem law2_near_rd (sv : Value) (l : List Int) (w : World) (h : Rd w sv l) : Calls Tryd.prog 16 #[sv] w (Rf.Own (Rf.near l) w) := by
  by_cases h0 : 0 < l.length
  · obtain ⟨b, o, c, rfl, _⟩ := h.form h0
    exact near_some b o c l w h
  · obtain rfl : l = [] := List.length_eq_zero_iff.1 (by omega)
    obtain ⟨A, c, rfl⟩ := h.len
    cases A with
    | none =>
      obtain ⟨_, rfl⟩ := (h.cap _ _ _ rfl).2 rfl
      exact near_nil w
    | some a => exact near_none a c w
theorem law2_near (sv : Value) (l : List Int) (w : World) (h : Sl w 3 1 sv l.length (Iv l)) : Calls Tryd.prog 16 #[sv] w (Rf.Own (Rf.near l) w) := law2_near_rd sv l w h.rd
end Go.Proofs.YtdbjljbkneopcaaDoor
