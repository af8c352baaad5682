/- The contracts of And and Minus. -/
import Derived.Test.YtdbjljbkneopcaaDoorDomE
namespace Go.Proofs.YtdbjljbkneopcaaDoor
open Go.RowKit
set_option linter.unusedSimpArgs false
set_option linter.unusedVariables false

/-- The result's cell written. -/
theorem Dm.left_put {w w2 wf : World} {d : Value} {B : Nat} {off : Int} {sv : Value} {ws : List Nat} {l l' : List Int} {lo hi : Int} {sz : Nat} (hx : Dm.RepX w2 off sv ws l') (e1 : l'.headD 0 = lo) (e2 : l'.getLastD 0 = hi) (e3 : l'.length = sz)
    (hf : Fr (fun k => k = B) w2 wf) (hb : Below w.heap.size w w2) (hn : ∀ b, sv.ownBlock = some b → (Dm.wb d = some b ∧ b < w.heap.size) ∨ B < b) (hB : w.heap.size ≤ B) :
    Dm.Left d l l' w (.returned (.tuple #[.agg #[.int .i64 off, sv, .int .i64 lo, .int .i64 hi, .int .i64 sz], .int .i64 (Dm.chg l l')])) wf := by
  subst e1 e2 e3
  exact ⟨_, rfl, ⟨off, sv, ws, rfl, hx.kept hf (fun b hb e => by rcases hn b hb with h | h <;> omega)⟩, Fr.below hb hf (fun i e => by omega), fun b hb => (hn b hb).imp (fun h => h.1) (fun h => by omega)⟩

set_option maxHeartbeats 400000 in
theorem dom_and_1 (v : Value) (m : List Int) (p : Int) (x : Nat) (c : Nat) (off lo hi : Int) (sv : Value) (sz : Nat) (w : World) (hv : v = .agg #[.int .i64 off, sv, .int .i64 lo, .int .i64 hi, .int .i64 sz])
    (hc : w.heap[c]? = some (.cells #[.int .i64 off, sv, .int .i64 lo, .int .i64 hi, .int .i64 sz] 25 (0, 0))) (h : Dm.Rep w v m) (hp : p % 64 = 0) (h1 : -2000000 ≤ p) (h2 : p ≤ 2000000) :
    Calls Tryd.prog 91 #[.int .i64 p, .int .u64 (x : Int), .pointer (some ⟨c, 0, none⟩)] w (Dm.Wd m p w) := by
  have c0 := cell_of hc 0
  have c1 := cell_of hc 1
  have c2 := cell_of hc 2
  have c3 := cell_of hc 3
  have c4 := cell_of hc 4
  subst hv
  have H := Lib.hid (dom_word _ m p w h hp h1 h2)
  clear h hc
  go_enter Tryd.func91, Tryd.ntmps91
  go_wp2_with fail
  refine H.out.mono ?_
  rintro e w2 ⟨y, rfl, hy⟩
  go_wp2_with fail
  go_ret
  exact ⟨y, rfl, hy⟩

theorem enters_and_1 : ∀ args w, (callFunc 91 args).run Tryd.prog w = .ok (.enter 91 args) w := enters_of Tryd.func91 (by kernel_rfl) rfl

set_option maxHeartbeats 1000000 in
theorem dom_and (d e : Value) (l m : List Int) (w : World) (hd : Dm.Rep w d l) (he : Dm.Rep w e m) (hT : Tab w) :
    Calls Tryd.prog 17 #[d, e] w (Dm.Left d l (l.filter fun u => decide (u ∈ m)) w) := by
  obtain ⟨off, sv, ws, rfl, hx⟩ := hd
  obtain ⟨off2, sv2, ws2, rfl, hx2⟩ := he
  have HE : Hid (Dm.Rep w (Dm.val off2 sv2 m) m) := ⟨off2, sv2, ws2, rfl, hx2⟩
  unfold Dm.val at *
  generalize e1 : l.headD 0 = lo at *
  generalize e2 : l.getLastD 0 = hi at *
  generalize e3 : l.length = sz at *
  generalize m.headD 0 = lo2 at *
  generalize m.getLastD 0 = hi2 at *
  generalize m.length = sz2 at *
  have HX := Lib.hid hx
  have HT := Lib.hid hT
  have hb := below_alloc (below_alloc (below_alloc (Below.refl _ w) (.cells #[.int .i64 off, sv, .int .i64 lo, .int .i64 hi, .int .i64 sz] 25)) (.cells #[.int .i64 off2, sv2, .int .i64 lo2, .int .i64 hi2, .int .i64 sz2] 25)) (.cells #[.int .i64 0, .slice none 0 0, .int .i64 0, .int .i64 0, .int .i64 0] 25)
  have hc := heap_alloc (heap_new (w.alloc (.cells #[.int .i64 off, sv, .int .i64 lo, .int .i64 hi, .int .i64 sz] 25)) (.cells #[.int .i64 off2, sv2, .int .i64 lo2, .int .i64 hi2, .int .i64 sz2] 25)) (.cells #[.int .i64 0, .slice none 0 0, .int .i64 0, .int .i64 0, .int .i64 0] 25)
  rw [show (w.alloc (.cells #[.int .i64 off, sv, .int .i64 lo, .int .i64 hi, .int .i64 sz] 25)).heap.size = w.heap.size + 1 from by simp] at hc
  have hr := heap_new ((w.alloc (.cells #[.int .i64 off, sv, .int .i64 lo, .int .i64 hi, .int .i64 sz] 25)).alloc (.cells #[.int .i64 off2, sv2, .int .i64 lo2, .int .i64 hi2, .int .i64 sz2] 25)) (.cells #[.int .i64 0, .slice none 0 0, .int .i64 0, .int .i64 0, .int .i64 0] 25)
  rw [show ((w.alloc (.cells #[.int .i64 off, sv, .int .i64 lo, .int .i64 hi, .int .i64 sz] 25)).alloc (.cells #[.int .i64 off2, sv2, .int .i64 lo2, .int .i64 hi2, .int .i64 sz2] 25)).heap.size = w.heap.size + 1 + 1 from by simp] at hr
  have hg : ∀ wl : World, Below w.heap.size w wl → wl.heap[w.heap.size + 1]? = some (.cells #[.int .i64 off2, sv2, .int .i64 lo2, .int .i64 hi2, .int .i64 sz2] 25 (0, 0)) → Dm.Gives wl off ws (fun u => decide (u ∈ m)) 91 (w.heap.size + 1) := by
    intro wl hbl hcl W hW i hi
    have k1 := HX.out.lo
    have k2 := HX.out.hi
    have k3 := HX.out.mod
    refine (dom_and_1 _ m (off + 64 * i) (ws.getD i 0) (w.heap.size + 1) off2 lo2 hi2 sv2 sz2 W rfl (heap_call hcl hW) ((HE.out.call hbl).call hW) (by omega) (by omega) (by omega)).mono ?_
    rintro e w' ⟨y, rfl, hy, hb, hbe⟩
    exact ⟨y, rfl, hy, fun b hb' _ => hb b hb', hbe⟩
  have HL := Lib.hid (dom_less_loop off sv lo hi sz ws (fun u => decide (u ∈ m)) 91 (w.heap.size + 1) l _ enters_and_1 (hx.call hb) e1.symm e2.symm e3.symm (hg _ hb hc) (hT.call hb))
  have HB := Lib.hid hb
  have HR := Lib.hid hr
  clear hx hx2 hT hg hb hc hr e1 e2 e3
  go_enter Tryd.func17, Tryd.ntmps17
  go_wp2_with fail
  refine HL.out.mono ?_
  rintro e w2 ⟨v', rfl, hrep, hb2, hw2⟩
  have hr2 := heap_call HR.out hb2
  obtain ⟨off3, sv3, ws3, rfl, hx3⟩ := hrep
  obtain ⟨A3, c3, rfl⟩ := hx3.sl.len
  unfold Dm.val
  generalize e1 : (l.filter fun u => decide (u ∈ m)).headD 0 = lo3 at *
  generalize e2 : (l.filter fun u => decide (u ∈ m)).getLastD 0 = hi3 at *
  generalize e3 : (l.filter fun u => decide (u ∈ m)).length = sz3 at *
  have E1 := Lib.hid e1
  have E2 := Lib.hid e2
  have E3 := Lib.hid e3
  clear e1 e2 e3
  have r0 := cell_of hr2 0
  have r1 := cell_of hr2 1
  have r2 := cell_of hr2 2
  have r3 := cell_of hr2 3
  have r4 := cell_of hr2 4
  have f0 := frozen_of hr2 0
  have f1 := frozen_of hr2 1
  have f2 := frozen_of hr2 2
  have f3 := frozen_of hr2 3
  have f4 := frozen_of hr2 4
  have HB2 := Lib.hid (below_call HB.out hb2)
  have HX3 := Lib.hid hx3
  clear hr2 hb2 hx3
  go_wp2_with fail
  refine bodyPost_ret (v := .tuple #[.agg #[.int .i64 off3, .slice A3 ws3.length c3, .int .i64 lo3, .int .i64 hi3, .int .i64 sz3], .int .i64 (Dm.chg l (l.filter fun u => decide (u ∈ m)))]) (by simp [results, Tryd.results17, go_sem, r0, r1, r2, r3, r4]) rfl ?_
  refine Dm.left_put (w2 := w2) (B := w.heap.size + 1 + 1) HX3.out E1.out E2.out E3.out ?_ HB2.out ?_ (by omega)
  · refine Fr.set (Fr.set (Fr.set (Fr.set (Fr.set (Fr.refl _ _) ?_ _) ?_ _) ?_ _) ?_ _) ?_ _
    all_goals exact fun _ => rfl
  · intro b hb
    rcases hw2 b hb with h | h
    · exact Or.inl ⟨h, Sl.lt HX.out.sl h⟩
    · exact Or.inr (by simp at h; omega)
end Go.Proofs.YtdbjljbkneopcaaDoor
