/- The reference's Range, Change, Keep walked. -/
import Derived.Test.YtdbjljbkneopcaaDoorRefB
namespace Go.Proofs.YtdbjljbkneopcaaDoor
open Go.RowKit
set_option linter.unusedSimpArgs false
set_option linter.unusedVariables false

set_option maxHeartbeats 1000000 in
theorem ref_range (low high : Int) (w : World) (h1 : -9223372036854775808 ≤ low) (h2 : low ≤ 9223372036854775807) (h3 : -9223372036854775808 ≤ high) (h4 : high ≤ 9223372036854775807) :
    Calls Tryd.prog 27 #[.int .i64 low, .int .i64 high] w fun e w' => e = .returned (.int .i64 (Rf.range low high)) ∧ w = w' := by
  obtain ⟨r, hr⟩ : ∃ r, r = Rf.range low high := ⟨_, rfl⟩
  have HR := Lib.hid hr
  rw [← hr]
  clear hr
  go_enter Tryd.func27, Tryd.ntmps27
  go_wp2_with fail
  all_goals
    go_ret
    refine ⟨ret_int ?_, rfl⟩
    rw [HR.out]
    unfold Rf.range
    try simp only [Bool.or_eq_true, decide_eq_true_eq, Bool.or_eq_false_iff, decide_eq_false_iff_not, Bool.not_eq_true] at *
    split <;> first | rfl | (exfalso; omega) | (split <;> first | rfl | (exfalso; omega) | (split <;> first | rfl | (exfalso; omega)))

/-- A number is told. -/
def Rf.Tells (x : Int) (w : World) (e : Ending) (w' : World) : Prop := e = .returned (.int .i64 x) ∧ Below w.heap.size w w'
theorem Iv.first {w : World} {A : Option Addr} {c : Nat} {l : List Int} (h : Sl w 3 1 (.slice A l.length c) l.length (Iv l)) (hn : 0 < l.length) : ∃ b o, A = some ⟨b, o, none⟩ ∧ w.cell? ⟨b, o, none⟩ = some (.int .i64 (l.headD 0)) ∧ w.cell? ⟨b, o + (l.length - 1), none⟩ = some (.int .i64 (l.getLastD 0)) := by
  obtain ⟨b, o, rfl, h0⟩ := Iv.at h 0 hn
  refine ⟨b, o, rfl, ?_, ?_⟩
  · cases l with
    | nil => cases hn
    | cons x r => exact h0
  · have := Iv.cell h (l.length - 1) (by omega)
    rw [this]
    congr 2
    rw [List.getLastD_eq_getLast?, List.getLast?_eq_getElem?, List.getD_eq_getElem?_getD]
set_option maxHeartbeats 1000000 in
theorem ref_change (sl so : Value) (l out : List Int) (w : World) (hl : Sl w 3 1 sl l.length (Iv l)) (ho : Sl w 3 1 so out.length (Iv out)) (hle : out.length ≤ l.length) :
    Calls Tryd.prog 127 #[sl, so] w (Rf.Tells (Dm.chg l out) w) := by
  obtain ⟨A, c, rfl⟩ := hl.len
  obtain ⟨B, d, rfl⟩ := ho.len
  have b1 := hl.big
  have b2 := ho.big
  obtain ⟨r, hr⟩ : ∃ r, r = Dm.chg l out := ⟨_, rfl⟩
  have HR := Lib.hid hr
  rw [← hr]
  clear hr
  by_cases e1 : out.length = l.length
  · have hb : ((out.length : Int) == (l.length : Int)) = true := beq_iff_eq.2 (by omega)
    have E := Lib.hid (show Dm.chg l out = 0 from by unfold Dm.chg; rw [if_pos e1])
    clear e1 hl ho
    go_enter Tryd.func127, Tryd.ntmps127
    go_wp2_with fail
    go_ret
    exact ⟨ret_int (by rw [HR.out, E.out]), Below.refl _ _⟩
  have hb : ((out.length : Int) == (l.length : Int)) = false := beq_eq_false_iff_ne.2 (by omega)
  by_cases e2 : out.length = 0
  · have hb2 : ((out.length : Int) == 0) = true := beq_iff_eq.2 (by omega)
    have E := Lib.hid (show Dm.chg l out = 4 from by unfold Dm.chg; rw [if_neg e1, if_pos e2])
    clear e1 e2 hl ho
    generalize out.length = no at *
    generalize l.length = nl at *
    go_enter Tryd.func127, Tryd.ntmps127
    go_wp2_with fail
    go_ret
    exact ⟨ret_int (by rw [HR.out, E.out]), Below.refl _ _⟩
  have hb2 : ((out.length : Int) == 0) = false := beq_eq_false_iff_ne.2 (by omega)
  by_cases e3 : out.length = 1
  · have hb3 : ((out.length : Int) == 1) = true := beq_iff_eq.2 (by omega)
    have E := Lib.hid (show Dm.chg l out = 3 from by unfold Dm.chg; rw [if_neg e1, if_neg e2, if_pos e3])
    clear e1 e2 e3 hl ho
    generalize out.length = no at *
    generalize l.length = nl at *
    go_enter Tryd.func127, Tryd.ntmps127
    go_wp2_with fail
    go_ret
    exact ⟨ret_int (by rw [HR.out, E.out]), Below.refl _ _⟩
  have hb3 : ((out.length : Int) == 1) = false := beq_eq_false_iff_ne.2 (by omega)
  have E := Lib.hid (show Dm.chg l out = if out.headD 0 ≠ l.headD 0 ∨ out.getLastD 0 ≠ l.getLastD 0 then 2 else 1 from by unfold Dm.chg; rw [if_neg e1, if_neg e2, if_neg e3])
  obtain ⟨bl, ol, rfl, c1, c2⟩ := Iv.first hl (by omega)
  obtain ⟨bo, oo, rfl, c3, c4⟩ := Iv.first ho (by omega)
  have p1 : (l.length : Int) - 1 = ((l.length - 1 : Nat) : Int) := by omega
  have p2 : (out.length : Int) - 1 = ((out.length - 1 : Nat) : Int) := by omega
  have p3 : IntKind.i64.wrap ((l.length : Int) - 1) = ((l.length - 1 : Nat) : Int) := by rw [IntKind.wrap_i64]; omega
  have p4 : IntKind.i64.wrap ((out.length : Int) - 1) = ((out.length - 1 : Nat) : Int) := by rw [IntKind.wrap_i64]; omega
  have q1 : (0 : Int) < (l.length : Int) := by omega
  have q2 : (0 : Int) < (out.length : Int) := by omega
  have q3 : ((l.length - 1 : Nat) : Int) < (l.length : Int) := by omega
  have q4 : ((out.length - 1 : Nat) : Int) < (out.length : Int) := by omega
  have q5 : 0 < l.length := by omega
  have q6 : 0 < out.length := by omega
  have q7 : l.length - 1 < l.length := by omega
  have q8 : out.length - 1 < out.length := by omega
  clear hl ho e1 e2 e3
  generalize l.headD 0 = x1 at *
  generalize l.getLastD 0 = x2 at *
  generalize out.headD 0 = x3 at *
  generalize out.getLastD 0 = x4 at *
  generalize l.length = nl at *
  generalize out.length = no at *
  generalize nl - 1 = nl1 at *
  generalize no - 1 = no1 at *
  by_cases g1 : x3 = x1
  · subst g1
    have gb : (x3 != x3) = false := by simp
    by_cases g2 : x4 = x2
    · subst g2
      have gc : (x4 != x4) = false := by simp
      go_enter Tryd.func127, Tryd.ntmps127
      go_wp2_with fail
      go_quiet (fail)
      go_wp2_with fail
      go_ret
      exact ⟨ret_int (by rw [HR.out, E.out]; simp), by repeat (first | exact Below.refl _ _ | refine below_drewN ?_ _)⟩
    · have gc : (x4 != x2) = true := bne_iff_ne.2 g2
      go_enter Tryd.func127, Tryd.ntmps127
      go_wp2_with fail
      go_quiet (fail)
      go_wp2_with fail
      go_ret
      exact ⟨ret_int (by rw [HR.out, E.out, if_pos (Or.inr g2)]), by repeat (first | exact Below.refl _ _ | refine below_drewN ?_ _)⟩
  · have gb : (x3 != x1) = true := bne_iff_ne.2 g1
    go_enter Tryd.func127, Tryd.ntmps127
    go_wp2_with fail
    go_quiet (fail)
    go_wp2_with fail
    go_ret
    exact ⟨ret_int (by rw [HR.out, E.out, if_pos (Or.inl g1)]), by repeat (first | exact Below.refl _ _ | refine below_drewN ?_ _)⟩

/-- Which numbers stay, by what is done. -/
def Rf.stays (what : Nat) (v : Int) (m : List Int) (u : Int) : Bool :=
  match what with
  | 0 => !decide (u = v)
  | 1 => decide (u = v)
  | 2 => decide (v ≤ u)
  | 3 => decide (u ≤ v)
  | 4 => decide (u ∈ m)
  | _ => !decide (u ∈ m)
/-- What is left, in a slice of its own, and what became of it. -/
def Rf.Kp (B : Nat) (l out : List Int) (w : World) (e : Ending) (w' : World) : Prop := ∃ so, e = .returned (.tuple #[so, .int .i64 (Dm.chg l out)]) ∧ Ow w' B so out ∧ Below w.heap.size w w'
theorem Rf.filter_take (l : List Int) (p : Int → Bool) (j : Nat) (hj : j < l.length) : (l.take (j + 1)).filter p = (l.take j).filter p ++ if p (l.getD j 0) = true then [l.getD j 0] else [] := by
  rw [take_succ_getD l j hj, List.filter_append, List.filter_cons, List.filter_nil]
structure Rf.Ke (w wr : World) (s : Value) (acc : List Int) : Prop where
  own : Ow wr w.heap.size s acc
  below : Below w.heap.size w wr
set_option maxHeartbeats 1000000 in
set_option maxRecDepth 100000 in
theorem ref_keep0 (sl sm : Value) (l m : List Int) (v : Int) (w : World) (hl : Sl w 3 1 sl l.length (Iv l)) (hm : Sl w 3 1 sm m.length (Iv m)) (hn : l.length < 17000000000000) :
    Calls Tryd.prog 102 #[sl, .int .i64 0, .int .i64 v, sm] w (Rf.Kp w.heap.size l (l.filter (Rf.stays 0 v m)) w) := by
  obtain ⟨A, c, rfl⟩ := hl.len
  have HS := Lib.hid hl
  have HMS := Lib.hid hm
  have HI : Hid (Rf.Ke w w (.slice none 0 0) ((l.take 0).filter (Rf.stays 0 v m))) := ⟨Ow.nil _ _, Below.refl _ _⟩
  generalize hk : l.length = n at *
  have HN := Lib.hid hk
  clear hk hl hm
  go_enter Tryd.func102, Tryd.ntmps102
  go_wp2_with fail
  go_loopg [10, 11] n (fun k s10 s11 wr => ∃ j : Nat, s11 = .int .i64 j ∧ k + j = n ∧ Rf.Ke w wr s10 ((l.take j).filter (Rf.stays 0 v m)))
  case atStart => exact ⟨0, rfl, by omega, HI.out⟩
  case round =>
    obtain ⟨j, rfl, hj, hinv⟩ := hrel
    have H := Lib.hid hinv
    clear hinv
    rcases Nat.lt_or_ge j n with hk | hk
    · have hjl : j < l.length := by rw [HN.out]; exact hk
      obtain ⟨b, o, rfl, hcell⟩ := Iv.at (c := c) (A := A) (by rw [HN.out]; exact HS.out.kept (S := fun _ => False) (Fr.of_below H.out.below) (fun _ _ => id)) j hjl
      have FT := Lib.hid (Rf.filter_take l (Rf.stays 0 v m) j hjl)
      have hlen : ((l.take j).filter (Rf.stays 0 v m)).length ≤ j := Nat.le_trans (List.length_filter_le _ _) (List.length_take_le _ _)
      generalize (l.take j).filter (Rf.stays 0 v m) = acc at *
      generalize l.getD j 0 = u at *
      have hlt : acc.length < 17000000000000 := by omega
      have HH := Lib.hid (ref_has sm m u wr (HMS.out.kept (S := fun _ => False) (Fr.of_below H.out.below) (fun _ _ => id)))
      generalize decide (u ∈ m) = hh at *
      by_cases hp : u ≠ v
      · have ST : Hid (Rf.stays 0 v m u = true) := Lib.hid (by show (!decide (u = v)) = true; rw [decide_eq_false hp]; rfl)
        have hb : (u != v) = true := bne_iff_ne.2 hp
        clear hp
        go_wp2_with fail
        refine HH.out.mono ?_
        rintro e w2 ⟨rfl, rfl⟩
        go_wp2_with (at_builtin; refine wpList_append_int wr rfl _ _ rfl w.heap.size _ _ rfl (by exact H.out.own) H.out.below.size _ rfl (by exact hlt) ?_; intro s2 w2 happ)
        go_roundg (gk - 1)
        case measure => omega
        case rel => exact ⟨j + 1, by go_num, by omega, by rw [FT.out, if_pos ST.out]; exact happ.1, happ.below H.out.own H.out.below⟩
      · have ST : Hid (¬ Rf.stays 0 v m u = true) := Lib.hid (by show ¬ (!decide (u = v)) = true; rw [decide_eq_true (Classical.not_not.1 hp)]; simp)
        have hb : (u != v) = false := by simpa using hp
        clear hp
        go_wp2_with fail
        refine HH.out.mono ?_
        rintro e w2 ⟨rfl, rfl⟩
        go_wp2_with fail
        go_roundg (gk - 1)
        case measure => omega
        case rel => exact ⟨j + 1, by go_num, by omega, by rw [FT.out, if_neg ST.out, List.append_nil]; exact H.out.own, H.out.below⟩
    · have hjm : j = n := by omega
      subst hjm
      have e : l.take j = l := List.take_of_length_le (by rw [HN.out]; omega)
      rw [e] at H
      have HC := Lib.hid (ref_change (.slice A j c) _ l (l.filter (Rf.stays 0 v m)) wr (by rw [HN.out]; exact HS.out.kept (S := fun _ => False) (Fr.of_below H.out.below) (fun _ _ => id)) H.out.own.sl (List.length_filter_le _ _))
      clear e
      go_wp2_with fail
      refine HC.out.mono ?_
      rintro e w2 ⟨rfl, hb⟩
      go_wp2_with fail
      go_ret2
      exact ⟨_, rfl, H.out.own.call hb, below_call H.out.below hb⟩
set_option maxHeartbeats 1000000 in
set_option maxRecDepth 100000 in
theorem ref_keep1 (sl sm : Value) (l m : List Int) (v : Int) (w : World) (hl : Sl w 3 1 sl l.length (Iv l)) (hm : Sl w 3 1 sm m.length (Iv m)) (hn : l.length < 17000000000000) :
    Calls Tryd.prog 102 #[sl, .int .i64 1, .int .i64 v, sm] w (Rf.Kp w.heap.size l (l.filter (Rf.stays 1 v m)) w) := by
  obtain ⟨A, c, rfl⟩ := hl.len
  have HS := Lib.hid hl
  have HMS := Lib.hid hm
  have HI : Hid (Rf.Ke w w (.slice none 0 0) ((l.take 0).filter (Rf.stays 1 v m))) := ⟨Ow.nil _ _, Below.refl _ _⟩
  generalize hk : l.length = n at *
  have HN := Lib.hid hk
  clear hk hl hm
  go_enter Tryd.func102, Tryd.ntmps102
  go_wp2_with fail
  go_loopg [10, 11] n (fun k s10 s11 wr => ∃ j : Nat, s11 = .int .i64 j ∧ k + j = n ∧ Rf.Ke w wr s10 ((l.take j).filter (Rf.stays 1 v m)))
  case atStart => exact ⟨0, rfl, by omega, HI.out⟩
  case round =>
    obtain ⟨j, rfl, hj, hinv⟩ := hrel
    have H := Lib.hid hinv
    clear hinv
    rcases Nat.lt_or_ge j n with hk | hk
    · have hjl : j < l.length := by rw [HN.out]; exact hk
      obtain ⟨b, o, rfl, hcell⟩ := Iv.at (c := c) (A := A) (by rw [HN.out]; exact HS.out.kept (S := fun _ => False) (Fr.of_below H.out.below) (fun _ _ => id)) j hjl
      have FT := Lib.hid (Rf.filter_take l (Rf.stays 1 v m) j hjl)
      have hlen : ((l.take j).filter (Rf.stays 1 v m)).length ≤ j := Nat.le_trans (List.length_filter_le _ _) (List.length_take_le _ _)
      generalize (l.take j).filter (Rf.stays 1 v m) = acc at *
      generalize l.getD j 0 = u at *
      have hlt : acc.length < 17000000000000 := by omega
      have HH := Lib.hid (ref_has sm m u wr (HMS.out.kept (S := fun _ => False) (Fr.of_below H.out.below) (fun _ _ => id)))
      generalize decide (u ∈ m) = hh at *
      by_cases hp : u = v
      · have ST : Hid (Rf.stays 1 v m u = true) := Lib.hid (decide_eq_true hp)
        have hb : (u == v) = true := beq_iff_eq.2 hp
        clear hp
        go_wp2_with fail
        refine HH.out.mono ?_
        rintro e w2 ⟨rfl, rfl⟩
        go_wp2_with (at_builtin; refine wpList_append_int wr rfl _ _ rfl w.heap.size _ _ rfl (by exact H.out.own) H.out.below.size _ rfl (by exact hlt) ?_; intro s2 w2 happ)
        go_roundg (gk - 1)
        case measure => omega
        case rel => exact ⟨j + 1, by go_num, by omega, by rw [FT.out, if_pos ST.out]; exact happ.1, happ.below H.out.own H.out.below⟩
      · have ST : Hid (¬ Rf.stays 1 v m u = true) := Lib.hid (by show ¬ decide (u = v) = true; rw [decide_eq_false hp]; simp)
        have hb : (u == v) = false := beq_eq_false_iff_ne.2 hp
        clear hp
        go_wp2_with fail
        refine HH.out.mono ?_
        rintro e w2 ⟨rfl, rfl⟩
        go_wp2_with fail
        go_roundg (gk - 1)
        case measure => omega
        case rel => exact ⟨j + 1, by go_num, by omega, by rw [FT.out, if_neg ST.out, List.append_nil]; exact H.out.own, H.out.below⟩
    · have hjm : j = n := by omega
      subst hjm
      have e : l.take j = l := List.take_of_length_le (by rw [HN.out]; omega)
      rw [e] at H
      have HC := Lib.hid (ref_change (.slice A j c) _ l (l.filter (Rf.stays 1 v m)) wr (by rw [HN.out]; exact HS.out.kept (S := fun _ => False) (Fr.of_below H.out.below) (fun _ _ => id)) H.out.own.sl (List.length_filter_le _ _))
      clear e
      go_wp2_with fail
      refine HC.out.mono ?_
      rintro e w2 ⟨rfl, hb⟩
      go_wp2_with fail
      go_ret2
      exact ⟨_, rfl, H.out.own.call hb, below_call H.out.below hb⟩
set_option maxHeartbeats 1000000 in
set_option maxRecDepth 100000 in
theorem ref_keep2 (sl sm : Value) (l m : List Int) (v : Int) (w : World) (hl : Sl w 3 1 sl l.length (Iv l)) (hm : Sl w 3 1 sm m.length (Iv m)) (hn : l.length < 17000000000000) :
    Calls Tryd.prog 102 #[sl, .int .i64 2, .int .i64 v, sm] w (Rf.Kp w.heap.size l (l.filter (Rf.stays 2 v m)) w) := by
  obtain ⟨A, c, rfl⟩ := hl.len
  have HS := Lib.hid hl
  have HMS := Lib.hid hm
  have HI : Hid (Rf.Ke w w (.slice none 0 0) ((l.take 0).filter (Rf.stays 2 v m))) := ⟨Ow.nil _ _, Below.refl _ _⟩
  generalize hk : l.length = n at *
  have HN := Lib.hid hk
  clear hk hl hm
  go_enter Tryd.func102, Tryd.ntmps102
  go_wp2_with fail
  go_loopg [10, 11] n (fun k s10 s11 wr => ∃ j : Nat, s11 = .int .i64 j ∧ k + j = n ∧ Rf.Ke w wr s10 ((l.take j).filter (Rf.stays 2 v m)))
  case atStart => exact ⟨0, rfl, by omega, HI.out⟩
  case round =>
    obtain ⟨j, rfl, hj, hinv⟩ := hrel
    have H := Lib.hid hinv
    clear hinv
    rcases Nat.lt_or_ge j n with hk | hk
    · have hjl : j < l.length := by rw [HN.out]; exact hk
      obtain ⟨b, o, rfl, hcell⟩ := Iv.at (c := c) (A := A) (by rw [HN.out]; exact HS.out.kept (S := fun _ => False) (Fr.of_below H.out.below) (fun _ _ => id)) j hjl
      have FT := Lib.hid (Rf.filter_take l (Rf.stays 2 v m) j hjl)
      have hlen : ((l.take j).filter (Rf.stays 2 v m)).length ≤ j := Nat.le_trans (List.length_filter_le _ _) (List.length_take_le _ _)
      generalize (l.take j).filter (Rf.stays 2 v m) = acc at *
      generalize l.getD j 0 = u at *
      have hlt : acc.length < 17000000000000 := by omega
      have HH := Lib.hid (ref_has sm m u wr (HMS.out.kept (S := fun _ => False) (Fr.of_below H.out.below) (fun _ _ => id)))
      generalize decide (u ∈ m) = hh at *
      by_cases hp : v ≤ u
      · have ST : Hid (Rf.stays 2 v m u = true) := Lib.hid (decide_eq_true hp)
        have hb : v ≤ u := hp
        clear hp
        go_wp2_with fail
        refine HH.out.mono ?_
        rintro e w2 ⟨rfl, rfl⟩
        go_wp2_with (at_builtin; refine wpList_append_int wr rfl _ _ rfl w.heap.size _ _ rfl (by exact H.out.own) H.out.below.size _ rfl (by exact hlt) ?_; intro s2 w2 happ)
        go_roundg (gk - 1)
        case measure => omega
        case rel => exact ⟨j + 1, by go_num, by omega, by rw [FT.out, if_pos ST.out]; exact happ.1, happ.below H.out.own H.out.below⟩
      · have ST : Hid (¬ Rf.stays 2 v m u = true) := Lib.hid (by show ¬ decide (v ≤ u) = true; rw [decide_eq_false hp]; simp)
        have hb : u < v := by omega
        clear hp
        go_wp2_with fail
        refine HH.out.mono ?_
        rintro e w2 ⟨rfl, rfl⟩
        go_wp2_with fail
        go_roundg (gk - 1)
        case measure => omega
        case rel => exact ⟨j + 1, by go_num, by omega, by rw [FT.out, if_neg ST.out, List.append_nil]; exact H.out.own, H.out.below⟩
    · have hjm : j = n := by omega
      subst hjm
      have e : l.take j = l := List.take_of_length_le (by rw [HN.out]; omega)
      rw [e] at H
      have HC := Lib.hid (ref_change (.slice A j c) _ l (l.filter (Rf.stays 2 v m)) wr (by rw [HN.out]; exact HS.out.kept (S := fun _ => False) (Fr.of_below H.out.below) (fun _ _ => id)) H.out.own.sl (List.length_filter_le _ _))
      clear e
      go_wp2_with fail
      refine HC.out.mono ?_
      rintro e w2 ⟨rfl, hb⟩
      go_wp2_with fail
      go_ret2
      exact ⟨_, rfl, H.out.own.call hb, below_call H.out.below hb⟩
set_option maxHeartbeats 1000000 in
set_option maxRecDepth 100000 in
theorem ref_keep3 (sl sm : Value) (l m : List Int) (v : Int) (w : World) (hl : Sl w 3 1 sl l.length (Iv l)) (hm : Sl w 3 1 sm m.length (Iv m)) (hn : l.length < 17000000000000) :
    Calls Tryd.prog 102 #[sl, .int .i64 3, .int .i64 v, sm] w (Rf.Kp w.heap.size l (l.filter (Rf.stays 3 v m)) w) := by
  obtain ⟨A, c, rfl⟩ := hl.len
  have HS := Lib.hid hl
  have HMS := Lib.hid hm
  have HI : Hid (Rf.Ke w w (.slice none 0 0) ((l.take 0).filter (Rf.stays 3 v m))) := ⟨Ow.nil _ _, Below.refl _ _⟩
  generalize hk : l.length = n at *
  have HN := Lib.hid hk
  clear hk hl hm
  go_enter Tryd.func102, Tryd.ntmps102
  go_wp2_with fail
  go_loopg [10, 11] n (fun k s10 s11 wr => ∃ j : Nat, s11 = .int .i64 j ∧ k + j = n ∧ Rf.Ke w wr s10 ((l.take j).filter (Rf.stays 3 v m)))
  case atStart => exact ⟨0, rfl, by omega, HI.out⟩
  case round =>
    obtain ⟨j, rfl, hj, hinv⟩ := hrel
    have H := Lib.hid hinv
    clear hinv
    rcases Nat.lt_or_ge j n with hk | hk
    · have hjl : j < l.length := by rw [HN.out]; exact hk
      obtain ⟨b, o, rfl, hcell⟩ := Iv.at (c := c) (A := A) (by rw [HN.out]; exact HS.out.kept (S := fun _ => False) (Fr.of_below H.out.below) (fun _ _ => id)) j hjl
      have FT := Lib.hid (Rf.filter_take l (Rf.stays 3 v m) j hjl)
      have hlen : ((l.take j).filter (Rf.stays 3 v m)).length ≤ j := Nat.le_trans (List.length_filter_le _ _) (List.length_take_le _ _)
      generalize (l.take j).filter (Rf.stays 3 v m) = acc at *
      generalize l.getD j 0 = u at *
      have hlt : acc.length < 17000000000000 := by omega
      have HH := Lib.hid (ref_has sm m u wr (HMS.out.kept (S := fun _ => False) (Fr.of_below H.out.below) (fun _ _ => id)))
      generalize decide (u ∈ m) = hh at *
      by_cases hp : u ≤ v
      · have ST : Hid (Rf.stays 3 v m u = true) := Lib.hid (decide_eq_true hp)
        have hb : u ≤ v := hp
        clear hp
        go_wp2_with fail
        refine HH.out.mono ?_
        rintro e w2 ⟨rfl, rfl⟩
        go_wp2_with (at_builtin; refine wpList_append_int wr rfl _ _ rfl w.heap.size _ _ rfl (by exact H.out.own) H.out.below.size _ rfl (by exact hlt) ?_; intro s2 w2 happ)
        go_roundg (gk - 1)
        case measure => omega
        case rel => exact ⟨j + 1, by go_num, by omega, by rw [FT.out, if_pos ST.out]; exact happ.1, happ.below H.out.own H.out.below⟩
      · have ST : Hid (¬ Rf.stays 3 v m u = true) := Lib.hid (by show ¬ decide (u ≤ v) = true; rw [decide_eq_false hp]; simp)
        have hb : v < u := by omega
        clear hp
        go_wp2_with fail
        refine HH.out.mono ?_
        rintro e w2 ⟨rfl, rfl⟩
        go_wp2_with fail
        go_roundg (gk - 1)
        case measure => omega
        case rel => exact ⟨j + 1, by go_num, by omega, by rw [FT.out, if_neg ST.out, List.append_nil]; exact H.out.own, H.out.below⟩
    · have hjm : j = n := by omega
      subst hjm
      have e : l.take j = l := List.take_of_length_le (by rw [HN.out]; omega)
      rw [e] at H
      have HC := Lib.hid (ref_change (.slice A j c) _ l (l.filter (Rf.stays 3 v m)) wr (by rw [HN.out]; exact HS.out.kept (S := fun _ => False) (Fr.of_below H.out.below) (fun _ _ => id)) H.out.own.sl (List.length_filter_le _ _))
      clear e
      go_wp2_with fail
      refine HC.out.mono ?_
      rintro e w2 ⟨rfl, hb⟩
      go_wp2_with fail
      go_ret2
      exact ⟨_, rfl, H.out.own.call hb, below_call H.out.below hb⟩
set_option maxHeartbeats 1000000 in
set_option maxRecDepth 100000 in
theorem ref_keep4 (sl sm : Value) (l m : List Int) (v : Int) (w : World) (hl : Sl w 3 1 sl l.length (Iv l)) (hm : Sl w 3 1 sm m.length (Iv m)) (hn : l.length < 17000000000000) :
    Calls Tryd.prog 102 #[sl, .int .i64 4, .int .i64 v, sm] w (Rf.Kp w.heap.size l (l.filter (Rf.stays 4 v m)) w) := by
  obtain ⟨A, c, rfl⟩ := hl.len
  have HS := Lib.hid hl
  have HMS := Lib.hid hm
  have HI : Hid (Rf.Ke w w (.slice none 0 0) ((l.take 0).filter (Rf.stays 4 v m))) := ⟨Ow.nil _ _, Below.refl _ _⟩
  generalize hk : l.length = n at *
  have HN := Lib.hid hk
  clear hk hl hm
  go_enter Tryd.func102, Tryd.ntmps102
  go_wp2_with fail
  go_loopg [10, 11] n (fun k s10 s11 wr => ∃ j : Nat, s11 = .int .i64 j ∧ k + j = n ∧ Rf.Ke w wr s10 ((l.take j).filter (Rf.stays 4 v m)))
  case atStart => exact ⟨0, rfl, by omega, HI.out⟩
  case round =>
    obtain ⟨j, rfl, hj, hinv⟩ := hrel
    have H := Lib.hid hinv
    clear hinv
    rcases Nat.lt_or_ge j n with hk | hk
    · have hjl : j < l.length := by rw [HN.out]; exact hk
      obtain ⟨b, o, rfl, hcell⟩ := Iv.at (c := c) (A := A) (by rw [HN.out]; exact HS.out.kept (S := fun _ => False) (Fr.of_below H.out.below) (fun _ _ => id)) j hjl
      have FT := Lib.hid (Rf.filter_take l (Rf.stays 4 v m) j hjl)
      have hlen : ((l.take j).filter (Rf.stays 4 v m)).length ≤ j := Nat.le_trans (List.length_filter_le _ _) (List.length_take_le _ _)
      generalize (l.take j).filter (Rf.stays 4 v m) = acc at *
      generalize l.getD j 0 = u at *
      have hlt : acc.length < 17000000000000 := by omega
      have HH := Lib.hid (ref_has sm m u wr (HMS.out.kept (S := fun _ => False) (Fr.of_below H.out.below) (fun _ _ => id)))
      by_cases hp : u ∈ m
      · have ST : Hid (Rf.stays 4 v m u = true) := Lib.hid (decide_eq_true hp)
        rw [decide_eq_true hp] at HH
        clear hp
        go_wp2_with fail
        refine HH.out.mono ?_
        rintro e w2 ⟨rfl, rfl⟩
        go_wp2_with (at_builtin; refine wpList_append_int wr rfl _ _ rfl w.heap.size _ _ rfl (by exact H.out.own) H.out.below.size _ rfl (by exact hlt) ?_; intro s2 w2 happ)
        go_roundg (gk - 1)
        case measure => omega
        case rel => exact ⟨j + 1, by go_num, by omega, by rw [FT.out, if_pos ST.out]; exact happ.1, happ.below H.out.own H.out.below⟩
      · have ST : Hid (¬ Rf.stays 4 v m u = true) := Lib.hid (by show ¬ decide (u ∈ m) = true; rw [decide_eq_false hp]; simp)
        rw [decide_eq_false hp] at HH
        clear hp
        go_wp2_with fail
        refine HH.out.mono ?_
        rintro e w2 ⟨rfl, rfl⟩
        go_wp2_with fail
        go_roundg (gk - 1)
        case measure => omega
        case rel => exact ⟨j + 1, by go_num, by omega, by rw [FT.out, if_neg ST.out, List.append_nil]; exact H.out.own, H.out.below⟩
    · have hjm : j = n := by omega
      subst hjm
      have e : l.take j = l := List.take_of_length_le (by rw [HN.out]; omega)
      rw [e] at H
      have HC := Lib.hid (ref_change (.slice A j c) _ l (l.filter (Rf.stays 4 v m)) wr (by rw [HN.out]; exact HS.out.kept (S := fun _ => False) (Fr.of_below H.out.below) (fun _ _ => id)) H.out.own.sl (List.length_filter_le _ _))
      clear e
      go_wp2_with fail
      refine HC.out.mono ?_
      rintro e w2 ⟨rfl, hb⟩
      go_wp2_with fail
      go_ret2
      exact ⟨_, rfl, H.out.own.call hb, below_call H.out.below hb⟩
set_option maxHeartbeats 1000000 in
set_option maxRecDepth 100000 in
theorem ref_keep5 (sl sm : Value) (l m : List Int) (v : Int) (w : World) (hl : Sl w 3 1 sl l.length (Iv l)) (hm : Sl w 3 1 sm m.length (Iv m)) (hn : l.length < 17000000000000) :
    Calls Tryd.prog 102 #[sl, .int .i64 5, .int .i64 v, sm] w (Rf.Kp w.heap.size l (l.filter (Rf.stays 5 v m)) w) := by
  obtain ⟨A, c, rfl⟩ := hl.len
  have HS := Lib.hid hl
  have HMS := Lib.hid hm
  have HI : Hid (Rf.Ke w w (.slice none 0 0) ((l.take 0).filter (Rf.stays 5 v m))) := ⟨Ow.nil _ _, Below.refl _ _⟩
  generalize hk : l.length = n at *
  have HN := Lib.hid hk
  clear hk hl hm
  go_enter Tryd.func102, Tryd.ntmps102
  go_wp2_with fail
  go_loopg [10, 11] n (fun k s10 s11 wr => ∃ j : Nat, s11 = .int .i64 j ∧ k + j = n ∧ Rf.Ke w wr s10 ((l.take j).filter (Rf.stays 5 v m)))
  case atStart => exact ⟨0, rfl, by omega, HI.out⟩
  case round =>
    obtain ⟨j, rfl, hj, hinv⟩ := hrel
    have H := Lib.hid hinv
    clear hinv
    rcases Nat.lt_or_ge j n with hk | hk
    · have hjl : j < l.length := by rw [HN.out]; exact hk
      obtain ⟨b, o, rfl, hcell⟩ := Iv.at (c := c) (A := A) (by rw [HN.out]; exact HS.out.kept (S := fun _ => False) (Fr.of_below H.out.below) (fun _ _ => id)) j hjl
      have FT := Lib.hid (Rf.filter_take l (Rf.stays 5 v m) j hjl)
      have hlen : ((l.take j).filter (Rf.stays 5 v m)).length ≤ j := Nat.le_trans (List.length_filter_le _ _) (List.length_take_le _ _)
      generalize (l.take j).filter (Rf.stays 5 v m) = acc at *
      generalize l.getD j 0 = u at *
      have hlt : acc.length < 17000000000000 := by omega
      have HH := Lib.hid (ref_has sm m u wr (HMS.out.kept (S := fun _ => False) (Fr.of_below H.out.below) (fun _ _ => id)))
      by_cases hp : u ∉ m
      · have ST : Hid (Rf.stays 5 v m u = true) := Lib.hid (by show (!decide (u ∈ m)) = true; rw [decide_eq_false hp]; rfl)
        rw [decide_eq_false hp] at HH
        clear hp
        go_wp2_with fail
        refine HH.out.mono ?_
        rintro e w2 ⟨rfl, rfl⟩
        go_wp2_with (at_builtin; refine wpList_append_int wr rfl _ _ rfl w.heap.size _ _ rfl (by exact H.out.own) H.out.below.size _ rfl (by exact hlt) ?_; intro s2 w2 happ)
        go_roundg (gk - 1)
        case measure => omega
        case rel => exact ⟨j + 1, by go_num, by omega, by rw [FT.out, if_pos ST.out]; exact happ.1, happ.below H.out.own H.out.below⟩
      · have ST : Hid (¬ Rf.stays 5 v m u = true) := Lib.hid (by show ¬ (!decide (u ∈ m)) = true; rw [decide_eq_true (Classical.not_not.1 hp)]; simp)
        rw [decide_eq_true (Classical.not_not.1 hp)] at HH
        clear hp
        go_wp2_with fail
        refine HH.out.mono ?_
        rintro e w2 ⟨rfl, rfl⟩
        go_wp2_with fail
        go_roundg (gk - 1)
        case measure => omega
        case rel => exact ⟨j + 1, by go_num, by omega, by rw [FT.out, if_neg ST.out, List.append_nil]; exact H.out.own, H.out.below⟩
    · have hjm : j = n := by omega
      subst hjm
      have e : l.take j = l := List.take_of_length_le (by rw [HN.out]; omega)
      rw [e] at H
      have HC := Lib.hid (ref_change (.slice A j c) _ l (l.filter (Rf.stays 5 v m)) wr (by rw [HN.out]; exact HS.out.kept (S := fun _ => False) (Fr.of_below H.out.below) (fun _ _ => id)) H.out.own.sl (List.length_filter_le _ _))
      clear e
      go_wp2_with fail
      refine HC.out.mono ?_
      rintro e w2 ⟨rfl, hb⟩
      go_wp2_with fail
      go_ret2
      exact ⟨_, rfl, H.out.own.call hb, below_call H.out.below hb⟩
end Go.Proofs.YtdbjljbkneopcaaDoor
