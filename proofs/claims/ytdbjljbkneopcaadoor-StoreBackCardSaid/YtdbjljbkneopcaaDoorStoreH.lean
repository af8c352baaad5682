/- New of a store. -/
import Derived.Test.YtdbjljbkneopcaaDoorStoreG
import Derived.Laws.MakeOwn
import Derived.WalkSpells
namespace Go.Proofs.YtdbjljbkneopcaaDoor
open Go.RowKit
set_option linter.unusedSimpArgs false
set_option linter.unusedVariables false

theorem infoDom : (Tryd.prog.info? 25).map (fun i => (i.zero, i.size, i.bytes)) = some (some (.agg #[.int .i64 0, .slice none 0 0, .int .i64 0, .int .i64 0, .int .i64 0]), 5, 56) := by kernel_rfl
/-- A copy of domains: in memory of its own. -/
def Dl.Cl (vs : List Value) (ls : List (List Int)) (w : World) (e : Ending) (w' : World) : Prop :=
  ∃ v', e = .returned v' ∧ Dl w' v' vs ls ∧ (∀ b, v'.ownBlock = some b → w.heap.size ≤ b) ∧ Below w.heap.size w w'
set_option maxRecDepth 100000 in
theorem doms_clone_nil (w : World) : Calls Tryd.prog 100 #[.slice none 0 0] w (Dl.Cl [] [] w) := by
  have hq := fun (w : World) (a : Option Addr) (n c : Nat) => Lib.run_eql_slice_nil (P := Tryd.prog) w 49 25 a n c 0 0 Tryd.underlying49
  go_enter Tryd.func100, Tryd.ntmps100
  go_wp2_with fail
  go_ret
  exact ⟨_, rfl, ⟨Sl.nil _ _ _, rfl, fun i hi => (by cases hi)⟩, (fun b h => (by cases h)), Below.refl _ _⟩
set_option maxRecDepth 100000 in
theorem doms_clone (sv : Value) (vs : List Value) (ls : List (List Int)) (w : World) (h : Dl w sv vs ls) (h0 : 0 < vs.length) (hn : vs.length ≤ 1000000) :
    Calls Tryd.prog 100 #[sv] w (Dl.Cl vs ls w) := by
  obtain ⟨i0, hi0, hz0, hz1, hz2⟩ := info_parts infoDom
  obtain ⟨b, o, c, cs, rfl, hc, hnc, hcm, hsz, hcl⟩ := h.sl.form h0
  have H := Lib.hid h
  have hl5 := h.sl.1
  have hnews : Hid (∀ (j : Nat) (u : Value), (vs.flatMap Dm.cells)[j]? = some u → (w.alloc (.cells #[] 25)).cell? ((⟨b, o, none⟩ : Addr).add j) = some u) := Lib.hid fun j u hu => by
    have hj : j < vs.length * 5 := by rw [← hl5]; exact (List.getElem?_eq_some_iff.1 hu).1
    rw [show ((⟨b, o, none⟩ : Addr).add j) = ⟨b, o + j, none⟩ from by unfold Addr.add; split <;> simp_all]
    rw [(h.sl.alloc _).cell j hj]
    exact hu
  have hone : Hid (∀ u ∈ vs.flatMap Dm.cells, u.oneCell' = true) := Lib.hid fun u hu => by
    obtain ⟨v, hv, hu⟩ := List.mem_flatMap.1 hu
    obtain ⟨i, hi, rfl⟩ := List.getElem_of_mem hv
    obtain ⟨off, sv, ws, ev, hx⟩ := h.rep i (by rw [← h.len]; exact hi)
    obtain ⟨As, cs', rfl⟩ := hx.sl.len
    rw [List.getD_eq_getElem?_getD, List.getElem?_eq_getElem hi] at ev
    have ev' : vs[i] = Dm.val off (.slice As ws.length cs') (ls.getD i []) := ev
    rw [ev'] at hu
    have : u ∈ [Value.int .i64 off, .slice As ws.length cs', .int .i64 ((ls.getD i []).headD 0), .int .i64 ((ls.getD i []).getLastD 0), .int .i64 (ls.getD i []).length] := hu
    simp at this
    rcases this with rfl | rfl | rfl | rfl | rfl <;> rfl
  have HE : Hid (Sl (w.alloc (.cells #[] 25)) 25 5 (.slice (some ⟨w.heap.size, 0, none⟩) 0 0) 0 []) :=
    Lib.hid ⟨rfl, .inr ⟨w.heap.size, 0, 0, #[], rfl, heap_new w _, Nat.le_refl _, Nat.zero_le _, Nat.zero_le _, fun j hj => by omega⟩⟩
  have HL5 := Lib.hid hl5
  clear h hc hcl hl5 hsz
  generalize hm : vs.length = n at *
  have HM := Lib.hid hm
  clear hm
  have hq := fun (w : World) (a : Option Addr) (n c : Nat) => Lib.run_eql_slice_nil (P := Tryd.prog) w 49 25 a n c 0 0 Tryd.underlying49
  go_enter Tryd.func100, Tryd.ntmps100
  go_wp2_with (at_builtin; refine wpList_append_sl _ rfl _ _ 49 rfl 25 i0 (.agg #[.int .i64 0, .slice none 0 0, .int .i64 0, .int .i64 0, .int .i64 0]) 5 56 Tryd.underlying49 hi0 hz0 hz1 hz2 rfl (by decide) (.slice (some ⟨w.heap.size, 0, none⟩) 0 0) 0 [] rfl HE.out ⟨b, o, none⟩ n c (vs.flatMap Dm.cells) rfl HL5.out hnews.out hone.out h0 (by unfold maxLen; omega) (by omega) _ rfl ?_; intro b2 f2 c2 w2 hs2 hf2 hb2)
  go_ret
  rw [Nat.zero_add, List.nil_append] at hs2
  have hb := Fr.below (below_alloc (Below.refl _ w) (.cells #[] 25)) hf2 (fun i e => by cases e; exact Nat.le_refl _)
  refine ⟨_, rfl, ⟨by rw [HM.out]; exact hs2, H.out.len, fun i hi => (H.out.rep i hi).call hb⟩, fun b' hb' => ?_, hb⟩
  cases hb'
  rcases hb2 with e | e
  · cases e; exact Nat.le_refl _
  · have := e.1; simp at this; show w.heap.size ≤ b2; omega
/-- A store is made, in memory of its own. -/
def Su.Made (ls : List (List Int)) (w : World) (e : Ending) (w' : World) : Prop :=
  ∃ S p, e = .returned (.pointer (some ⟨S, 0, none⟩)) ∧ Su.Mem w' S p (Su.new ls) ∧ Below w.heap.size w w' ∧ ∀ k, p.fp S k → w.heap.size ≤ k
theorem Su.made {w w' : World} {S bs n : Nat} {ds : Value} {vs : List Value} {ls : List (List Int)} (hd : Dl w' ds vs ls) (hn : ls.length = n) (hn2 : n ≤ 1000000) (hs : w'.heap[bs]? = some (.cells (madeCells #[.int .i64 0] n) 3 (0, 0)))
    (hS : w'.heap[S]? = some (.cells #[ds, .slice (some ⟨bs, 0, none⟩) n n, .slice none 0 0, .slice none 0 0, .int .i64 0, .slice none 0 0] 151 (0, 0))) (hb : Below w.heap.size w w')
    (h1 : w.heap.size ≤ S) (h2 : w.heap.size ≤ bs) (h3 : ∀ b, ds.ownBlock = some b → w.heap.size ≤ b) : Su.Made ls w (.returned (.pointer (some ⟨S, 0, none⟩))) w' := by
  refine ⟨S, { ds := ds, ss := .slice (some ⟨bs, 0, none⟩) n n, ts := .slice none 0 0, ms := .slice none 0 0, es := .slice none 0 0, vs := vs, tv := [] }, rfl, ⟨hS, hd, ?_, Sl.nil _ _ _, rfl, fun i hi => (by cases hi), fun e he => (by cases he), Sl.nil _ _ _, Sl.nil _ _ _, fun b _ e => (by cases e)⟩, hb, fun k hk => ?_⟩
  · show Sl w' 3 1 (.slice (some ⟨bs, 0, none⟩) n n) (List.replicate ls.length (0 : Int)).length (Iv (List.replicate ls.length (0 : Int)))
    rw [List.length_replicate, hn]
    refine ⟨by simp [Iv], .inr ⟨bs, 0, n, _, rfl, hs, Nat.le_refl _, by unfold maxLen; omega, by rw [size_madeCells]; simp, fun j hj => ?_⟩⟩
    have := toList_madeCells_one (.int .i64 0) n
    rw [Nat.zero_add, ← Array.getElem?_toList, this, List.getElem?_replicate, if_pos (by omega)]
    unfold Iv
    rw [List.map_replicate, List.getElem?_replicate, if_pos (by omega)]
  · rcases hk with e | e | e | e | e | e
    · omega
    · exact h3 k e
    · cases e; exact h2
    · cases e
    · cases e
    · cases e
set_option maxHeartbeats 2000000 in
theorem store_new (sv : Value) (vs : List Value) (ls : List (List Int)) (w : World) (h : Dl w sv vs ls) (hn : ls.length ≤ 1000000) (h0 : vs.length = 0 → sv = .slice none 0 0) :
    Calls Tryd.prog 31 #[sv] w (Su.Made ls w) := by
  have CL : Hid (∀ w', Below w.heap.size w w' → Calls Tryd.prog 100 #[sv] w' (Dl.Cl vs ls w')) := Lib.hid fun w' hb => by
    rcases Nat.eq_zero_or_pos vs.length with e | e
    · rw [h0 e]
      have e1 : vs = [] := List.length_eq_zero_iff.1 e
      have e2 : ls = [] := List.length_eq_zero_iff.1 (by rw [← h.len]; exact e)
      rw [e1, e2]
      exact doms_clone_nil w'
    · exact doms_clone sv vs ls w' (h.call hb) e (by rw [h.len]; exact hn)
  obtain ⟨A, c, rfl⟩ := h.sl.len
  have hlen := h.len
  rw [hlen] at CL ⊢
  clear h h0 hlen
  generalize hnn : ls.length = n at *
  have HN := Lib.hid hnn
  have hmk : ∀ w : World, (Instr.makeSlice 22 (.int .i64 (n : Int)) (.int .i64 (n : Int))).run Tryd.prog w = .ok (.slice (some ⟨w.heap.size, 0, none⟩) n n) (w.alloc (.cells (madeCells #[.int .i64 0] n) 3)) := by
    intro w
    obtain ⟨i0, hi, hz0, hz1, hz2⟩ := info_parts infoInt
    have := run_makeSlice (P := Tryd.prog) w 22 3 i0 (.int .i64 0) Tryd.underlying22 hi hz0 .i64 .i64 (n : Int) (n : Int) (by omega) (by omega) (by rw [hz1]; omega) (by rw [hz2]; omega) (by omega)
    rw [this, hz1, Nat.mul_one]
    rfl
  clear hnn
  go_enter Tryd.func31, Tryd.ntmps31
  go_wp2_with fail
  go_region_with (go_at_call 100; refine (CL.out _ (by repeat (first | with_reducible exact Below.refl _ _ | with_reducible refine below_alloc ?_ _ | with_reducible refine Below.drew ?_))).mono ?_; rintro e w' ⟨v', rfl, hd, hown, hb⟩; obtain ⟨A', c', rfl⟩ := hd.sl.len; have HD := Lib.hid hd; have HO := Lib.hid hown; have HB := Lib.hid hb; have HM := Lib.hid hd.len; clear hd hown hb)
  all_goals
    go_wp2_with fail
    go_ret
    have hsz := HB.out.size
    simp at hsz
    rw [HM.out, HN.out]
    have HD2 := HD.out
    rw [HM.out, HN.out] at HD2
    have HO2 := HO.out
    rw [HM.out, HN.out] at HO2
    first
      | exact Su.made (S := w'.heap.size + 1) (bs := w'.heap.size) (HD2.call (below_alloc (below_alloc (Below.refl _ _) _) _)) HN.out hn (heap_alloc (heap_new w' _) _) (by have h1 := heap_new (w'.alloc (.cells (madeCells #[.int .i64 0] n) 3)) (.cells #[.slice A' n c', .slice (some ⟨w'.heap.size, 0, none⟩) n n, .slice none 0 0, .slice none 0 0, .int .i64 0, .slice none 0 0] 151); simpa using h1)
          (below_alloc (below_alloc (below_call (w0 := w) (Below.refl _ _).drew HB.out) _) _) (by omega) (by omega) (fun b hb => HO2 b hb)
      | exact Su.made (S := w'.heap.size) (bs := w.heap.size) (HD2.call (below_alloc (Below.refl _ _) _)) HN.out hn (heap_alloc (by have h1 := heap_call (heap_new w.drew (.cells (madeCells #[.int .i64 0] n) 3)) HB.out; simpa using h1) _) (heap_new w' _)
          (below_alloc (below_call (w0 := w) (below_alloc (Below.refl _ _).drew _) HB.out) _) (by omega) (Nat.le_refl _) (fun b hb => by have h1 := HO2 b hb; simp at h1; omega)
end Go.Proofs.YtdbjljbkneopcaaDoor
