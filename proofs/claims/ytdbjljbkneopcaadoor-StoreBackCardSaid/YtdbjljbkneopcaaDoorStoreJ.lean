/- lists (law) of chapter 03. -/
import Derived.Test.YtdbjljbkneopcaaDoorStoreI
namespace Go.Proofs.YtdbjljbkneopcaaDoor
open Go.RowKit
set_option linter.unusedSimpArgs false
set_option linter.unusedVariables false

theorem getD_snoc {α : Type} (l : List α) (x d : α) (i : Nat) (hi : i < (l ++ [x]).length) : (l ++ [x]).getD i d = if i < l.length then l.getD i d else x := by
  rw [List.getD_eq_getElem?_getD, List.getD_eq_getElem?_getD]
  rw [List.length_append, List.length_singleton] at hi
  split
  · rename_i h; rw [List.getElem?_append_left h]
  · rename_i h
    obtain rfl : i = l.length := by omega
    rw [List.getElem?_append_right (Nat.le_refl _), Nat.sub_self]
    rfl
theorem Dl.app {w w' : World} {sv : Value} {vs : List Value} {ls : List (List Int)} {v : Value} {l : List Int} {sv' : Value} (h : Dl w sv vs ls) (hr : Dm.Rep w v l) (ha : App 25 5 w sv vs.length (vs.flatMap Dm.cells) (Dm.cells v) sv' w') : Dl w' sv' (vs ++ [v]) (ls ++ [l]) := by
  have kept : ∀ {v : Value} {l : List Int}, Dm.Rep w v l → Dm.Rep w' v l := fun hr => hr.keep ha.fr (fun b hb hk => (hr.typed hb).ne (h.sl.typed hk) (by decide) rfl)
  refine ⟨?_, by rw [List.length_append, List.length_append, h.len]; rfl, fun i hi => ?_⟩
  · rw [List.flatMap_append, List.length_append]
    have := ha.sl
    simpa using this
  · rw [getD_snoc _ _ _ _ hi, getD_snoc _ _ _ _ (by rw [List.length_append, List.length_singleton, h.len]; simpa using hi), h.len]
    split
    · rename_i h1; exact kept (h.rep i h1)
    · exact kept hr
/-- A slice of slices of numbers, all in blocks from B on. -/
structure Lo (B : Nat) (w : World) (sv : Value) (us : List Value) (L : List (List Int)) : Prop where
  sl : Sl w 22 1 sv us.length us
  own : ∀ b, sv.ownBlock = some b → B ≤ b
  len : us.length = L.length
  rep : ∀ i, i < L.length → Ow w B (us.getD i undef) (L.getD i [])
theorem Lo.nil (B : Nat) (w : World) : Lo B w (.slice none 0 0) [] [] := ⟨Sl.nil _ _ _, (fun b h => by cases h), rfl, (fun i h => by cases h)⟩
theorem Lo.call {B : Nat} {w w' : World} {sv : Value} {us : List Value} {L : List (List Int)} (h : Lo B w sv us L) (hb : Below w.heap.size w w') : Lo B w' sv us L := ⟨h.sl.call hb, h.own, h.len, fun i hi => (h.rep i hi).call hb⟩
theorem Lo.app {B : Nat} {w w' : World} {sv : Value} {us : List Value} {L : List (List Int)} {v : Value} {l : List Int} {sv' : Value} (h : Lo B w sv us L) (hB : B ≤ w.heap.size) (hr : Ow w B v l) (ha : App 22 1 w sv us.length us [v] sv' w') : Lo B w' sv' (us ++ [v]) (L ++ [l]) := by
  have kept : ∀ {v : Value} {l : List Int}, Ow w B v l → Ow w' B v l := fun hr => ⟨hr.sl.kept ha.fr (fun b hb hk => (hr.sl.typed hb).ne (h.sl.typed hk) (by decide) rfl), hr.own⟩
  refine ⟨by rw [List.length_append]; exact ha.sl, fun b hb => (ha.own b hb).elim (h.own b) (fun e => Nat.le_trans hB e), by rw [List.length_append, List.length_append, h.len]; rfl, fun i hi => ?_⟩
  rw [getD_snoc _ _ _ _ hi, getD_snoc _ _ _ _ (by rw [List.length_append, List.length_singleton, h.len]; simpa using hi), h.len]
  split
  · rename_i h1; exact kept (h.rep i h1)
  · exact kept hr
theorem Lo.keep {B : Nat} {S : Nat → Prop} {w w' : World} {sv : Value} {us : List Value} {L : List (List Int)} (h : Lo B w sv us L) (hf : Fr S w w') (hS : ∀ b, S b → ∃ T, Ty w b T ∧ T ≠ 3 ∧ T ≠ 22) : Lo B w' sv us L :=
  ⟨h.sl.kept hf (fun b hb hk => by obtain ⟨T, h1, _, h3⟩ := hS b hk; exact (h.sl.typed hb).ne h1 (fun e => h3 e.symm) rfl), h.own, h.len, fun i hi => ⟨(h.rep i hi).sl.kept hf (fun b hb hk => by obtain ⟨T, h1, h2, _⟩ := hS b hk; exact ((h.rep i hi).sl.typed hb).ne h1 (fun e => h2 e.symm) rfl), (h.rep i hi).own⟩⟩
theorem Dl.keepT {S : Nat → Prop} {w w' : World} {sv : Value} {vs : List Value} {ls : List (List Int)} (h : Dl w sv vs ls) (hf : Fr S w w') (hS : ∀ b, S b → ∃ T, Ty w b T ∧ T ≠ 25 ∧ T ≠ 140) : Dl w' sv vs ls :=
  h.keep hf (fun b hb hk => by obtain ⟨T, h1, h2, _⟩ := hS b hk; exact (h.sl.typed hb).ne h1 (fun e => h2 e.symm) rfl) (fun b hb hk => by obtain ⟨T, h1, _, h3⟩ := hS b hk; exact hb.ne h1 (fun e => h3 e.symm) rfl)
theorem Ow.keepT {B : Nat} {S : Nat → Prop} {w w' : World} {sv : Value} {l : List Int} (h : Ow w B sv l) (hf : Fr S w w') (hS : ∀ b, S b → ∃ T, Ty w b T ∧ T ≠ 3) : Ow w' B sv l :=
  ⟨h.sl.kept hf (fun b hb hk => by obtain ⟨T, h1, h2⟩ := hS b hk; exact (h.sl.typed hb).ne h1 (fun e => h2 e.symm) rfl), h.own⟩
theorem Lo.rr {B : Nat} {w : World} {sv sa : Value} {us vs : List Value} {L L2 : List (List Int)} (h : Lo B w sv us L) (hd : Dl w sa vs L2) : Rr (fun b => B ≤ b ∧ sa.ownBlock ≠ some b ∧ b < w.heap.size) w sv L :=
  Rr.of_sl (by rw [← h.len]; exact h.sl) (fun b hb => ⟨h.own b hb, fun e => (h.sl.typed hb).ne (hd.sl.typed e) (by decide) rfl, h.sl.lt hb⟩) (fun j hj => ⟨(h.rep j hj).sl.rd, fun b hb => ⟨(h.rep j hj).own b hb, fun e => ((h.rep j hj).sl.typed hb).ne (hd.sl.typed e) (by decide) rfl, (h.rep j hj).sl.lt hb⟩⟩)
/-- What lists gives. -/
def Rf.Two (L : List (List Int)) (w : World) (e : Ending) (w' : World) : Prop :=
  ∃ sa sb vs, e = .returned (.tuple #[sa, sb]) ∧ Dl w' sa vs L ∧ (vs.length = 0 → sa = .slice none 0 0) ∧ (∀ b, sa.ownBlock = some b → w.heap.size ≤ b) ∧ Rr (fun b => w.heap.size ≤ b ∧ sa.ownBlock ≠ some b ∧ b < w'.heap.size) w' sb L ∧ Below w.heap.size w w'
def Rf.smalls (L : List (List Int)) : List (List Int) := (L.take 6).map Rf.small
theorem take_map_succ {α β : Type} (f : α → β) (d : α) (l : List α) (j : Nat) (hj : j < l.length) : (l.take (j + 1)).map f = (l.take j).map f ++ [f (l.getD j d)] := by
  rw [List.take_succ_eq_append_getElem hj, List.map_append, List.getD_eq_getElem?_getD, List.getElem?_eq_getElem hj]
  rfl
theorem infoInts : (Tryd.prog.info? 22).map (fun i => (i.zero, i.size, i.bytes)) = some (some (.slice none 0 0), 1, 24) := by kernel_rfl
theorem tmod12 (v : Int) : -11 ≤ v.tmod 12 ∧ v.tmod 12 ≤ 11 := by
  rcases Int.lt_or_le v 0 with h | h
  · have := Int.neg_tmod (-v) 12
    rw [Int.neg_neg] at this
    rw [this, Int.tmod_eq_emod_of_nonneg (by omega)]
    omega
  · rw [Int.tmod_eq_emod_of_nonneg h]; omega
theorem Rf.code_near (y : List Int) (hn : y ≠ []) (h : ∀ u ∈ y, -11 ≤ u ∧ u ≤ 11) : Rf.code y = 0 := by
  have h1 := h _ (Rf.lo_is y hn).1
  have h2 := h _ (Rf.hi_is y hn).1
  exact ((Rf.code_in y hn (fun u hu => by have := h u hu; omega)).2 (by omega)).1
theorem Rf.small_in (l : List Int) : ∀ u ∈ Rf.small l, -11 ≤ u ∧ u ≤ 11 := fun u hu => by
  obtain ⟨x, _, rfl⟩ := List.mem_map.1 (Rf.of_mem hu)
  exact tmod12 x
/-- Small numbers are a domain's. -/
theorem Rf.of_small (l : List Int) : Rf.of (Rf.small l) = Rf.small l := by
  by_cases hn : Rf.small l = []
  · rw [hn]; rfl
  · unfold Rf.of
    rw [if_pos (Rf.code_near _ hn (Rf.small_in l))]
    exact (Rf.sort_eq _ _ (Rf.of_sorted _) (fun _ => Iff.rfl)).symm
theorem Rf.small_len (l : List Int) : (Rf.small l).length ≤ 8 := by
  refine Nat.le_trans (Rf.of_length _) ?_
  rw [List.length_map]
  exact List.length_take_le _ _
/-- While the lists are told. -/
structure Rf.Li (w wr : World) (s4 s5 : Value) (M : List (List Int)) : Prop where
  dl : ∃ vs us, Dl wr s4 vs M ∧ (vs.length = 0 → s4 = .slice none 0 0) ∧ Lo w.heap.size wr s5 us M
  own : ∀ b, s4.ownBlock = some b → w.heap.size ≤ b
  below : Below w.heap.size w wr
set_option maxHeartbeats 4000000 in
set_option maxRecDepth 100000 in
theorem law3_lists_some (P : Nat → Prop) (b o c : Nat) (L : List (List Int)) (w : World) (h : Rr P w (.slice (some ⟨b, o, none⟩) L.length c) L) (hT : Tab w) : Calls Tryd.prog 30 #[.slice (some ⟨b, o, none⟩) L.length c] w (Rf.Two (Rf.smalls L) w) := by
  have hbig := h.big
  have hcc : L.length ≤ c := (h.cap _ _ _ rfl).1
  have HC := Lib.hid h
  have HT := Lib.hid hT
  have HI : Hid (Rf.Li w w (.slice none 0 0) (.slice none 0 0) ((L.take 0).map Rf.small)) := Lib.hid ⟨⟨[], [], ⟨Sl.nil _ _ _, rfl, (fun i hi => by cases hi)⟩, fun _ => rfl, Lo.nil _ _⟩, (fun b h => by cases h), Below.refl _ _⟩
  have hk1 : min (L.length : Int) 6 = ((min L.length 6 : Nat) : Int) := by omega
  have hk2 : min L.length 6 ≤ L.length := by omega
  have hk3 : min L.length 6 ≤ 6 := by omega
  have hk4 : min L.length 6 ≤ c := by omega
  have hk5 : ((min L.length 6 : Nat) : Int) ≤ (c : Int) := by omega
  have HE := Lib.hid (show L.take (min L.length 6) = L.take 6 by rw [List.take_eq_take_iff]; omega)
  have NS := Lib.hid (take_map_succ Rf.small [] L)
  clear h hT
  generalize hm : min L.length 6 = m at *
  have HM := Lib.hid hm
  clear hm
  go_enter Tryd.func30, Tryd.ntmps30
  go_wp2_with fail
  go_loopg [4, 5, 17] m (fun k s4 s5 s17 wr => ∃ j : Nat, s17 = .int .i64 j ∧ k + j = m ∧ Rf.Li w wr s4 s5 ((L.take j).map Rf.small))
  case atStart => exact ⟨0, rfl, by omega, HI.out⟩
  case round =>
    obtain ⟨j, rfl, hj, hinv⟩ := hrel
    have H := Lib.hid hinv
    clear hinv
    rcases Nat.lt_or_ge j m with hk | hk
    · obtain ⟨b', o', v, e, hcell, hrd, _⟩ := HC.out.at H.out.below j (by omega)
      cases e
      have ST := Lib.hid (NS.out j (by omega))
      have CS := Lib.hid (ref_small v (L.getD j []) wr hrd)
      have OS := Lib.hid (Rf.of_small (L.getD j []))
      generalize Rf.small (L.getD j []) = x at *
      have hxl : Hid (((L.take j).map Rf.small).length = j) := Lib.hid (by rw [List.length_map, List.length_take]; omega)
      generalize (L.take j).map Rf.small = M at *
      clear hrd
      go_wp2_with fail
      refine CS.out.mono ?_
      rintro e w2 ⟨so, rfl, hke⟩
      have HK := Lib.hid hke
      have CO := Lib.hid (dom_of so x w2 hke.own.sl ((HT.out.call H.out.below).call hke.below))
      clear hke hcell
      go_wp2_with fail
      refine CO.out.mono ?_
      rintro e w3 ⟨dv, rfl, hrep, hb, hwb⟩
      rw [OS.out] at hrep
      have HR := Lib.hid hrep
      obtain ⟨off, sv, ws, rfl, hx⟩ := hrep
      obtain ⟨As, cs, rfl⟩ := hx.sl.len
      unfold Dm.val at *
      generalize x.headD 0 = lo at *
      generalize x.getLastD 0 = hi at *
      generalize hxn : x.length = xn at *
      generalize ws.length = mm at *
      have B3 := Lib.hid (below_call (below_call H.out.below HK.out.below) hb)
      have B3r := Lib.hid (below_call (w0 := wr) HK.out.below hb)
      obtain ⟨Ao, co, rfl⟩ := HK.out.own.sl.len
      have HK3 := Lib.hid (HK.out.own.call hb)
      obtain ⟨⟨vs, us, hdl, hnil, hlo⟩, hown, hbel⟩ := H.out
      have HDL := Lib.hid hdl
      have HNIL := Lib.hid hnil
      have HLO := Lib.hid hlo
      have HOWN := Lib.hid hown
      have hvl : Hid (vs.length = j) := Lib.hid (by rw [hdl.len]; exact hxl.out)
      have hul : Hid (us.length = j) := Lib.hid (by rw [hlo.len]; exact hxl.out)
      have HL1 := Lib.hid (fun o => (HLO.out.call B3r.out).call (below_alloc (Below.refl _ _) o))
      have HD1 := Lib.hid (fun o => (HDL.out.call B3r.out).call (below_alloc (Below.refl _ _) o))
      have BEL := Lib.hid hbel
      clear hx hb hwb hxn hdl hnil hlo hown hbel
      go_wp2_with (first
        | (at_builtin; refine wpList_append_el _ rfl _ _ 49 25 5 56 (.agg #[.int .i64 0, .slice none 0 0, .int .i64 0, .int .i64 0, .int .i64 0]) _ rfl Tryd.underlying49 infoDom rfl (by decide) rfl (by intro u hu; simp at hu; rcases hu with rfl | rfl | rfl | rfl | rfl <;> rfl) u4 j (vs.flatMap Dm.cells) rfl (by rw [← hvl.out]; exact (HDL.out.sl.call B3r.out).alloc _) _ rfl (by simp) (by omega) (by decide) ?_; intro s4 w4 ha; have HA := Lib.hid ha; have HL4 := Lib.hid ((HL1.out _).keep ha.fr (fun b hb => ⟨_, (HD1.out _).sl.typed hb, by decide, by decide⟩)); clear ha)
        | (at_builtin; refine wpList_append_el _ rfl _ _ 39 22 1 24 (.slice none 0 0) _ rfl Tryd.underlying39 infoInts rfl (by decide) rfl (by intro u hu; simp at hu; subst hu; rfl) u5 j us rfl (by rw [← hul.out]; exact HL4.out.sl) _ rfl (by rfl) (by omega) (by decide) ?_; intro s5 w5 ha; have HA2 := Lib.hid ha; clear ha))
      have hD4 := (HD1.out _).app (HR.out.call (below_alloc (Below.refl _ _) _)) (by rw [hvl.out]; exact HA.out)
      have hD5 := hD4.keepT HA2.out.fr (fun b hb => ⟨_, HL4.out.sl.typed hb, by decide, by decide⟩)
      have hB4 := HA.out.below (below_call B3.out (below_alloc (Below.refl _ _) _)) HOWN.out
      have hL5 := HL4.out.app hB4.size (Ow.mono ((HK3.out.call (below_alloc (Below.refl _ _) _)).keepT HA.out.fr (fun b hb => ⟨_, (HD1.out _).sl.typed hb, by decide⟩)) BEL.out.size) (by rw [hul.out]; exact HA2.out)
      have hB5 := HA2.out.below hB4 HLO.out.own
      have F : Rf.Li w w5 s4 s5 (M ++ [x]) := ⟨⟨_, _, hD5, (fun e => by simp at e), hL5⟩, (fun b hb => (HA.out.own b hb).elim (HOWN.out b) (fun e => Nat.le_trans (below_call B3.out (below_alloc (Below.refl _ _) _)).size e)), hB5⟩
      have HF := Lib.hid F
      clear F hD4 hD5 hB4 hL5 hB5
      go_roundg (gk - 1)
      case measure => omega
      case rel => exact ⟨j + 1, by go_num, by omega, by rw [ST.out]; exact HF.out⟩
    · obtain rfl : j = m := by omega
      go_wp2_with fail
      go_ret2
      obtain ⟨⟨vs, us, hdl, hnil, hlo⟩, hown, hbel⟩ := H.out
      rw [HE.out] at hdl hlo
      exact ⟨_, _, vs, rfl, hdl, hnil, hown, hlo.rr hdl, hbel⟩
set_option maxRecDepth 100000 in
theorem law3_lists_no (A : Option Addr) (c : Nat) (hA : A = none → c = 0) (w : World) : Calls Tryd.prog 30 #[.slice A 0 c] w (Rf.Two [] w) := by
  have F : Hid (Rf.Two [] w (.returned (.tuple #[.slice none 0 0, .slice none 0 0])) w) := Lib.hid ⟨_, _, [], rfl, ⟨Sl.nil _ _ _, rfl, (fun i hi => by cases hi)⟩, fun _ => rfl, (fun b h => by cases h), (Lo.nil w.heap.size w).rr (vs := []) (L2 := []) ⟨Sl.nil _ _ _, rfl, (fun i hi => by cases hi)⟩, Below.refl _ _⟩
  cases A with
  | none =>
    obtain rfl := hA rfl
    go_enter Tryd.func30, Tryd.ntmps30
    go_wp2_with fail
    go_loopg [4, 5, 17] 0 (fun k s4 s5 s17 wr => s17 = .int .i64 0 ∧ s4 = .slice none 0 0 ∧ s5 = .slice none 0 0 ∧ Hid (wr = w))
    case atStart => exact ⟨rfl, rfl, rfl, Lib.hid rfl⟩
    case round =>
      obtain ⟨rfl, rfl, rfl, hw⟩ := hrel
      obtain rfl := hw.out
      go_wp2_with fail
      go_ret2
      exact F.out
  | some a =>
    go_enter Tryd.func30, Tryd.ntmps30
    go_wp2_with fail
    go_loopg [4, 5, 17] 0 (fun k s4 s5 s17 wr => s17 = .int .i64 0 ∧ s4 = .slice none 0 0 ∧ s5 = .slice none 0 0 ∧ Hid (wr = w))
    case atStart => exact ⟨rfl, rfl, rfl, Lib.hid rfl⟩
    case round =>
      obtain ⟨rfl, rfl, rfl, hw⟩ := hrel
      obtain rfl := hw.out
      go_wp2_with fail
      go_ret2
      exact F.out
theorem law3_lists (P : Nat → Prop) (sv : Value) (L : List (List Int)) (w : World) (h : Rr P w sv L) (hT : Tab w) : Calls Tryd.prog 30 #[sv] w (Rf.Two (Rf.smalls L) w) := by
  by_cases h0 : 0 < L.length
  · obtain ⟨b, o, c, rfl, _⟩ := h.form h0
    exact law3_lists_some P b o c L w h hT
  · obtain rfl : L = [] := List.length_eq_zero_iff.1 (by omega)
    obtain ⟨A, c, rfl⟩ := h.len
    exact law3_lists_no A c (fun e => ((h.cap _ _ _ rfl).2 e).2) w
end Go.Proofs.YtdbjljbkneopcaaDoor
