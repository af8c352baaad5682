/- The reference's Has, Next, Prev, Range, Change walked. -/
import Derived.Test.YtdbjljbkneopcaaDoorOwn
import Derived.Test.YtdbjljbkneopcaaDoorDomP
namespace Go.Proofs.YtdbjljbkneopcaaDoor
open Go.RowKit
set_option linter.unusedSimpArgs false
set_option linter.unusedVariables false

theorem mem_take_succ (l : List Int) (j : Nat) (hj : j < l.length) (u : Int) : u ∈ l.take (j + 1) ↔ u ∈ l.take j ∨ u = l.getD j 0 := by
  rw [List.take_succ_eq_append_getElem hj, List.mem_append, List.mem_singleton, List.getD_eq_getElem?_getD, List.getElem?_eq_getElem hj]
  rfl
theorem take_succ_getD (l : List Int) (j : Nat) (hj : j < l.length) : l.take (j + 1) = l.take j ++ [l.getD j 0] := by
  rw [List.take_succ_eq_append_getElem hj, List.getD_eq_getElem?_getD, List.getElem?_eq_getElem hj]
  rfl
theorem Iv.at {w : World} {A : Option Addr} {c : Nat} {l : List Int} (h : Sl w 3 1 (.slice A l.length c) l.length (Iv l)) (j : Nat) (hj : j < l.length) : ∃ b o, A = some ⟨b, o, none⟩ ∧ w.cell? ⟨b, o + j, none⟩ = some (.int .i64 (l.getD j 0)) := by
  obtain ⟨b, o, c', cs, e, _⟩ := h.form (by omega)
  cases e
  exact ⟨b, o, rfl, Iv.cell h j hj⟩
set_option maxHeartbeats 1000000 in
theorem ref_has (sv : Value) (l : List Int) (v : Int) (w : World) (h : Sl w 3 1 sv l.length (Iv l)) :
    Calls Tryd.prog 97 #[sv, .int .i64 v] w fun e w' => e = .returned (.bool (decide (v ∈ l))) ∧ w = w' := by
  obtain ⟨A, c, rfl⟩ := h.len
  have hbig := h.big
  have HS := Lib.hid h
  have HL := Lib.hid (rfl : l.length = l.length)
  generalize hm : l.length = m at *
  have HM := Lib.hid hm
  clear hm h
  go_enter Tryd.func97, Tryd.ntmps97
  go_wp2_with fail
  go_loopg [5] m (fun k s5 wr => ∃ j : Nat, s5 = .int .i64 j ∧ k + j = m ∧ Hid (v ∉ l.take j) ∧ Hid (wr = w))
  case atStart => exact ⟨0, rfl, by omega, Lib.hid (by simp), Lib.hid rfl⟩
  case round =>
    obtain ⟨j, rfl, hj, hno, hw⟩ := hrel
    obtain rfl := hw.out
    rcases Nat.lt_or_ge j m with hk | hk
    · have hjl : j < l.length := by rw [HM.out]; exact hk
      obtain ⟨b, o, rfl, hcell⟩ := Iv.at (c := c) (A := A) (by rw [HM.out]; exact HS.out) j hjl
      have TK := Lib.hid (mem_take_succ l j hjl v)
      by_cases hv : l.getD j 0 = v
      · have hin : decide (v ∈ l) = true := decide_eq_true (by rw [← hv, List.getD_eq_getElem?_getD, List.getElem?_eq_getElem hjl]; simp)
        have hb : (l.getD j 0 == v) = true := beq_iff_eq.2 hv
        have HV := Lib.hid hin
        clear hv hin
        generalize l.getD j 0 = x at *
        go_wp2_with fail
        go_ret
        exact ⟨ret_bool HV.out.symm, rfl⟩
      · have hb : (l.getD j 0 == v) = false := beq_eq_false_iff_ne.2 hv
        have NE := Lib.hid hv
        clear hv
        generalize l.getD j 0 = x at *
        go_wp2_with fail
        go_roundg (gk - 1)
        case measure => omega
        case rel => exact ⟨j + 1, by go_num, by omega, Lib.hid (fun h => (TK.out.1 h).elim hno.out (fun e => NE.out e.symm)), Lib.hid rfl⟩
    · have hjm : j = m := by omega
      subst hjm
      have hin : decide (v ∈ l) = false := decide_eq_false (by have := hno.out; rwa [List.take_of_length_le (by rw [HM.out]; omega)] at this)
      have HV := Lib.hid hin
      clear hin
      go_wp2_with fail
      go_ret
      exact ⟨ret_bool HV.out.symm, rfl⟩

/-- A search's answer. -/
def Rf.Opq (o : Option Int) (w : World) (e : Ending) (w' : World) : Prop := e = .returned (.tuple #[.int .i64 (o.getD 0), .bool o.isSome]) ∧ w = w'
theorem Rf.next_take (l : List Int) (v : Int) (j : Nat) (hj : j < l.length) (hno : ∀ u ∈ l.take j, ¬ v < u) (hv : v < l.getD j 0) : Rf.next l v = some (l.getD j 0) := by
  unfold Rf.next
  have e : l.getD j 0 = l[j] := by rw [List.getD_eq_getElem?_getD, List.getElem?_eq_getElem hj]; rfl
  rw [e] at hv ⊢
  have e2 : l.take j ++ l[j] :: l.drop (j + 1) = l := by rw [← List.drop_eq_getElem_cons hj, List.take_append_drop]
  have e3 : l.find? (fun u => decide (v < u)) = (l.take j ++ l[j] :: l.drop (j + 1)).find? (fun u => decide (v < u)) := by rw [e2]
  rw [e3, List.find?_append, List.find?_eq_none.2 (by intro u hu; simpa using hno u hu), Option.none_or, List.find?_cons, decide_eq_true hv]
theorem Rf.next_no (l : List Int) (v : Int) (hno : ∀ u ∈ l, ¬ v < u) : Rf.next l v = none := by
  unfold Rf.next
  exact List.find?_eq_none.2 (by intro u hu; simpa using hno u hu)
set_option maxHeartbeats 1000000 in
theorem ref_next (sv : Value) (l : List Int) (v : Int) (w : World) (h : Sl w 3 1 sv l.length (Iv l)) :
    Calls Tryd.prog 98 #[sv, .int .i64 v] w (Rf.Opq (Rf.next l v) w) := by
  obtain ⟨A, c, rfl⟩ := h.len
  have hbig := h.big
  have HS := Lib.hid h
  generalize hm : l.length = m at *
  have HM := Lib.hid hm
  clear hm h
  go_enter Tryd.func98, Tryd.ntmps98
  go_wp2_with fail
  go_loopg [6] m (fun k s5 wr => ∃ j : Nat, s5 = .int .i64 j ∧ k + j = m ∧ Hid (∀ u ∈ l.take j, ¬ v < u) ∧ Hid (wr = w))
  case atStart => exact ⟨0, rfl, by omega, Lib.hid (by simp), Lib.hid rfl⟩
  case round =>
    obtain ⟨j, rfl, hj, hno, hw⟩ := hrel
    obtain rfl := hw.out
    rcases Nat.lt_or_ge j m with hk | hk
    · have hjl : j < l.length := by rw [HM.out]; exact hk
      obtain ⟨b, o, rfl, hcell⟩ := Iv.at (c := c) (A := A) (by rw [HM.out]; exact HS.out) j hjl
      have TK := Lib.hid (mem_take_succ l j hjl)
      have NX := Lib.hid (Rf.next_take l v j hjl hno.out)
      generalize l.getD j 0 = x at *
      by_cases hv : v < x
      · have N2 := Lib.hid (NX.out hv)
        go_wp2_with fail
        go_ret2
        rw [N2.out]
        exact ⟨rfl, rfl⟩
      · go_wp2_with fail
        go_roundg (gk - 1)
        case measure => omega
        case rel => exact ⟨j + 1, by go_num, by omega, Lib.hid (fun u hu => ((TK.out u).1 hu).elim (hno.out u) (fun e => by rw [e]; exact hv)), Lib.hid rfl⟩
    · have hjm : j = m := by omega
      subst hjm
      have hin := Lib.hid (Rf.next_no l v (by have := hno.out; rwa [List.take_of_length_le (by rw [HM.out]; omega)] at this))
      go_wp2_with fail
      go_ret2
      rw [hin.out]
      exact ⟨rfl, rfl⟩
theorem Rf.prev_drop (l : List Int) (v : Int) (j : Nat) (hj : j < l.length) (hno : ∀ u ∈ l.drop (j + 1), ¬ u < v) (hv : l.getD j 0 < v) : Rf.prev l v = some (l.getD j 0) := by
  unfold Rf.prev
  have e : l.getD j 0 = l[j] := by rw [List.getD_eq_getElem?_getD, List.getElem?_eq_getElem hj]; rfl
  have e2 : l.reverse = (l.drop (j + 1)).reverse ++ l[j] :: (l.take j).reverse := by
    conv => lhs; rw [← List.take_append_drop j l, List.drop_eq_getElem_cons hj]
    simp
  rw [e2, List.find?_append, List.find?_eq_none.2 (by intro u hu; simpa using hno u (List.mem_reverse.1 hu)), Option.none_or, List.find?_cons, e]
  rw [e] at hv
  rw [decide_eq_true hv]
theorem Rf.prev_no (l : List Int) (v : Int) (hno : ∀ u ∈ l, ¬ u < v) : Rf.prev l v = none := by
  unfold Rf.prev
  exact List.find?_eq_none.2 (by intro u hu; simpa using hno u (List.mem_reverse.1 hu))
theorem mem_drop_succ (l : List Int) (j : Nat) (hj : j < l.length) (u : Int) : u ∈ l.drop j ↔ u = l.getD j 0 ∨ u ∈ l.drop (j + 1) := by
  rw [List.drop_eq_getElem_cons hj, List.mem_cons, List.getD_eq_getElem?_getD, List.getElem?_eq_getElem hj]
  rfl
set_option maxHeartbeats 1000000 in
theorem ref_prev (sv : Value) (l : List Int) (v : Int) (w : World) (h : Sl w 3 1 sv l.length (Iv l)) :
    Calls Tryd.prog 99 #[sv, .int .i64 v] w (Rf.Opq (Rf.prev l v) w) := by
  obtain ⟨A, c, rfl⟩ := h.len
  have hbig := h.big
  have HS := Lib.hid h
  generalize hm : l.length = m at *
  have HM := Lib.hid hm
  clear hm h
  go_enter Tryd.func99, Tryd.ntmps99
  go_wp2_with fail
  go_loopg [6] m (fun k s5 wr => s5 = .int .i64 ((k : Int) - 1) ∧ k ≤ m ∧ Hid (∀ u ∈ l.drop k, ¬ u < v) ∧ Hid (wr = w))
  case atStart => exact ⟨rfl, by omega, Lib.hid (by rw [← HM.out]; simp), Lib.hid rfl⟩
  case round =>
    obtain ⟨rfl, hj, hno, hw⟩ := hrel
    obtain rfl := hw.out
    rcases Nat.eq_zero_or_pos gk with hk | hk
    · subst hk
      have hin := Lib.hid (Rf.prev_no l v (by have := hno.out; rwa [List.drop_zero] at this))
      go_wp2_with fail
      go_ret2
      rw [hin.out]
      exact ⟨rfl, rfl⟩
    · obtain ⟨j, rfl⟩ : ∃ j, gk = j + 1 := ⟨gk - 1, by omega⟩
      have hjl : j < l.length := by rw [HM.out]; omega
      obtain ⟨b, o, rfl, hcell⟩ := Iv.at (c := c) (A := A) (by rw [HM.out]; exact HS.out) j hjl
      have e1 : ((j + 1 : Nat) : Int) - 1 = (j : Int) := by omega
      rw [e1] at *
      have TK := Lib.hid (mem_drop_succ l j hjl)
      have NX := Lib.hid (Rf.prev_drop l v j hjl hno.out)
      generalize l.getD j 0 = x at *
      by_cases hv : x < v
      · have N2 := Lib.hid (NX.out hv)
        go_wp2_with fail
        go_ret2
        rw [N2.out]
        exact ⟨rfl, rfl⟩
      · go_wp2_with fail
        go_roundg j
        case measure => omega
        case rel => exact ⟨by go_num, by omega, Lib.hid (fun u hu => ((TK.out u).1 hu).elim (fun e => by rw [e]; exact hv) (hno.out u)), Lib.hid rfl⟩
end Go.Proofs.YtdbjljbkneopcaaDoor
