/- The contract of List: the numbers, in a slice of its own. -/
import Derived.Test.YtdbjljbkneopcaaDoorDomM
namespace Go.Proofs.YtdbjljbkneopcaaDoor
open Go.RowKit
set_option linter.unusedSimpArgs false
set_option linter.unusedVariables false

theorem infoInt : (Tryd.prog.info? 3).map (fun i => (i.zero, i.size, i.bytes)) = some (some (.int .i64 0), 1, 8) := by kernel_rfl
/-- A slice of numbers, in blocks from B on. -/
structure Ow (w : World) (B : Nat) (sv : Value) (l : List Int) : Prop where
  sl : Sl w 3 1 sv l.length (Iv l)
  own : ∀ b, sv.ownBlock = some b → B ≤ b
theorem Ow.nil (w : World) (B : Nat) : Ow w B (.slice none 0 0) [] := ⟨Sl.nil _ _ _, fun b h => by cases h⟩
theorem Ow.call {w w' : World} {B : Nat} {sv : Value} {l : List Int} (h : Ow w B sv l) (hb : Below w.heap.size w w') : Ow w' B sv l := ⟨h.sl.call hb, h.own⟩
theorem Ow.drew {w : World} {B : Nat} {sv : Value} {l : List Int} (h : Ow w B sv l) : Ow w.drew B sv l := ⟨h.sl.drew, h.own⟩
theorem Ow.mono {w : World} {B B' : Nat} {sv : Value} {l : List Int} (h : Ow w B sv l) (hB : B' ≤ B) : Ow w B' sv l := ⟨h.sl, fun b hb => Nat.le_trans hB (h.own b hb)⟩
theorem Ow.kept {S : Nat → Prop} {w w' : World} {B : Nat} {sv : Value} {l : List Int} (h : Ow w B sv l) (hf : Fr S w w') (hn : ∀ b, B ≤ b → ¬ S b) : Ow w' B sv l := ⟨h.sl.kept hf fun b hb => hn b (h.own b hb), h.own⟩
/-- One number more. -/
theorem Ow.snoc {w w' : World} {B : Nat} {sv : Value} {l : List Int} {b f c H : Nat} {x : Int} (h : Ow w B sv l) (hs : Sl w' 3 1 (.slice (some ⟨b, f, none⟩) (l.length + 1) c) (l.length + 1) (Iv l ++ [.int .i64 x])) (hb : sv.ownBlock = some b ∨ b = H) (hH : B ≤ H) : Ow w' B (.slice (some ⟨b, f, none⟩) (l.length + 1) c) (l ++ [x]) := by
  refine ⟨?_, fun b' hb' => ?_⟩
  · have e : Iv (l ++ [x]) = Iv l ++ [.int .i64 x] := by simp [Iv]
    rw [e, List.length_append]
    exact hs
  · cases hb'
    rcases hb with e | e
    · exact h.own _ e
    · show B ≤ b
      omega

/-- While the numbers are told. -/
structure Dm.Li (w wr : World) (box : Array Value) (s : Value) (acc : List Int) : Prop where
  box : wr.heap[w.heap.size]? = some (.cells box 25 (0, 0))
  own : Ow wr (w.heap.size + 1) s acc
  below : Below w.heap.size w wr
theorem Dm.Li.drew {w wr : World} {box : Array Value} {s : Value} {acc : List Int} (h : Dm.Li w wr box s acc) : Dm.Li w wr.drew box s acc := ⟨heap_drew h.box, h.own.drew, h.below.drew⟩
theorem Dm.Li.more {w wr w1 w2 : World} {box : Array Value} {s : Value} {acc : List Int} (h : Dm.Li w wr box s acc) {b f c H : Nat} {x : Int} (h1 : Below wr.heap.size wr w1) (hs : Sl w2 3 1 (.slice (some ⟨b, f, none⟩) (acc.length + 1) c) (acc.length + 1) (Iv acc ++ [.int .i64 x])) (hf : Fr (fun k => s.ownBlock = some k) w1 w2) (hb : s.ownBlock = some b ∨ b = H) (hH : wr.heap.size ≤ H) :
    Dm.Li w w2 box (.slice (some ⟨b, f, none⟩) (acc.length + 1) c) (acc ++ [x]) := by
  have hlt := heap_lt h.box
  refine ⟨hf.heap (heap_call h.box h1) (fun e => by have := h.own.own _ e; omega), h.own.snoc hs hb (by omega), ?_⟩
  exact Fr.below (below_call h.below h1) hf (fun i e => by have := h.own.own _ e; omega)

def Dm.Ls (l : List Int) (w : World) (e : Ending) (w' : World) : Prop := ∃ sv, e = .returned sv ∧ Ow w' w.heap.size sv l ∧ Below w.heap.size w w'
set_option maxHeartbeats 2000000 in
set_option maxRecDepth 100000 in
theorem dom_list (d : Value) (l : List Int) (w : World) (hd : Dm.Rep w d l) (hT : Tab w) :
    Calls Tryd.prog 19 #[d] w (Dm.Ls l w) := by
  obtain ⟨i0, hi0, hz0, hz1, hz2⟩ := info_parts infoInt
  obtain ⟨off, sv, ws, rfl, hx⟩ := hd
  obtain ⟨A, c, rfl⟩ := hx.sl.len
  unfold Dm.val
  have EL := Lib.hid hx.els
  have hh := hx.hi
  have ho := hx.lo
  generalize l.headD 0 = lo at *
  generalize l.getLastD 0 = hi at *
  generalize l.length = sz at *
  have HX := Lib.hid hx
  have HT := Lib.hid hT
  have HI : Hid (Dm.Li w (w.alloc (.cells #[.int .i64 off, .slice A ws.length c, .int .i64 lo, .int .i64 hi, .int .i64 sz] 25)) #[.int .i64 off, .slice A ws.length c, .int .i64 lo, .int .i64 hi, .int .i64 sz] (.slice none 0 0) []) :=
    ⟨heap_new _ _, Ow.nil _ _, below_alloc (Below.refl _ _) _⟩
  generalize hm : ws.length = m at *
  have HM := Lib.hid hm
  clear hx hT hm
  go_enter Tryd.func19, Tryd.ntmps19
  go_wp2_with fail
  go_loopg [3, 9] m (fun k s3 s9 wr => ∃ (j : Nat), s9 = .int .i64 j ∧ k + j = m ∧ Dm.Li w wr #[.int .i64 off, .slice A m c, .int .i64 lo, .int .i64 hi, .int .i64 sz] s3 (Bt.els off (ws.take j)))
  case atStart => exact ⟨0, rfl, by omega, HI.out⟩
  case round =>
    obtain ⟨j, rfl, hj, hinv⟩ := hrel
    have H := Lib.hid hinv
    clear hinv
    rcases Nat.lt_or_ge j m with hk | hk
    · have hjl : j < ws.length := by rw [HM.out]; exact hk
      obtain ⟨bw, ow, rfl, hcell⟩ := Dm.cell_at (c := c) (A := A) (by rw [HM.out]; have := HX.out.sl.call H.out.below; rwa [HM.out] at this) j hjl
      have hxl : ws.getD j 0 < 18446744073709551616 := HX.out.lt _ (by rw [List.getD_eq_getElem?_getD, List.getElem?_eq_getElem hjl]; simp)
      have ET := Lib.hid (Bt.els_take ws off j hjl)
      have hln : (Bt.els off (ws.take (j + 1))).length ≤ 64 * m := Nat.le_trans (Bt.els_length _ _) (by simp; omega)
      generalize ws.getD j 0 = x0 at *
      go_wp2_with fail
      clear hcell
      obtain ⟨wo, rfl⟩ : ∃ wo : World, wo = wr := ⟨_, rfl⟩
      obtain ⟨gko, rfl⟩ : ∃ g : Nat, g = gk := ⟨_, rfl⟩
      go_loopg [3, 5] (Bt.of x0).length (fun kk s3 s5 wr => ∃ (x : Nat) (acc : List Int), s5 = .int .u64 x ∧ x < 18446744073709551616 ∧ (Bt.of x).length = kk ∧ acc ++ (Bt.of x).map (fun b : Nat => off + 64 * j + (b : Int)) = Bt.els off (ws.take (j + 1)) ∧ Dm.Li w wr #[.int .i64 off, .slice (some ⟨bw, ow, none⟩) m c, .int .i64 lo, .int .i64 hi, .int .i64 sz] s3 acc)
      case atStart => exact ⟨x0, _, rfl, hxl, rfl, ET.out.symm, H.out⟩
      case round =>
        obtain ⟨x, acc, rfl, hx, hkk, hacc, hinv⟩ := hrel
        have HA := Lib.hid hacc
        have HI2 := Lib.hid hinv
        have KK := Lib.hid hkk
        clear hacc hinv hkk
        by_cases h0 : x = 0
        · subst h0
          go_wp2_with fail
          go_roundg (gko - 1)
          case measure => omega
          case rel =>
            refine ⟨j + 1, by go_num, by omega, ?_⟩
            have := HA.out
            rw [Bt.zero, List.map_nil, List.append_nil] at this
            rw [← this]
            exact HI2.out
        · have hst := Lib.hid (Bt.step x h0 hx)
          have hct := (Bt.step x h0 hx).2
          have hb0 : ((x : Int) != 0) = true := by simp; omega
          have hx1 : 1 ≤ (x : Int) := by omega
          have hal : acc.length ≤ 64 * m := by
            have := congrArg List.length HA.out
            rw [List.length_append] at this
            omega
          have y0 := cell_of HI2.out.box 0
          have y1 := cell_of HI2.out.box 1
          have TZ := Lib.hid (tz64 x wr.drew h0 hx ((HT.out.call HI2.out.below).call (Below.refl _ _).drew))
          have TZ2 := Lib.hid (tz64 x wr h0 hx (HT.out.call HI2.out.below))
          have hand : bits .and .u64 (x : Int) ((x : Int) - 1) = ((x &&& (x - 1) : Nat) : Int) := and64 x (x - 1) hx (by omega) _ rfl _ (by omega)
          generalize hct' : Lib.ctz 64 x = ct at *
          have CT := Lib.hid hct'
          have HS := Lib.hid HI2.out.own.sl
          have HV := Lib.hid (show IntKind.i64.wrap (IntKind.i64.wrap (off + IntKind.i64.wrap (64 * (j : Int))) + (ct : Int)) = off + 64 * j + ct from by
            have a1 : IntKind.i64.wrap (64 * (j : Int)) = 64 * j := by rw [IntKind.wrap_i64]; omega
            have a2 : IntKind.i64.wrap (off + 64 * (j : Int)) = off + 64 * j := by rw [IntKind.wrap_i64]; omega
            have a3 : IntKind.i64.wrap (off + 64 * (j : Int) + (ct : Int)) = off + 64 * j + ct := by rw [IntKind.wrap_i64]; omega
            rw [a1, a2, a3])
          clear hct' h0
          go_wp2_with fail
          go_region_law (first
            | (refine step_append_sl _ rfl _ _ 22 rfl 3 i0 (.int .i64 0) 1 8 Tryd.underlying22 hi0 hz0 hz1 hz2 rfl (by decide) _ _ _ rfl (by first | exact Sl.alloc (Sl.drew HS.out) _ | exact Sl.drew (Sl.alloc HS.out _) | exact Sl.alloc HS.out _) ⟨wr.heap.size, 0, none⟩ 1 1 [.int .i64 (IntKind.i64.wrap (IntKind.i64.wrap (off + IntKind.i64.wrap (64 * (j : Int))) + (ct : Int)))] rfl rfl (by first | exact World.news_of_block (heap_drew (heap_new wr _)) | exact World.news_of_block (heap_new wr.drew _) | exact World.news_of_block (heap_new wr _)) (by intro u hu; simp at hu; subst hu; rfl) (by decide) (by unfold maxLen; omega) (by omega) _ rfl ?_; intro b2 f2 c2 w2 hs2 hf2 hb2)
            | (go_simp; go_at_call 94; first | (refine TZ.out.mono ?_; rintro e w3 ⟨rfl, rfl⟩) | (refine TZ2.out.mono ?_; rintro e w3 ⟨rfl, rfl⟩)))
          all_goals
            go_wp2_with fail
            go_roundg (gk - 1)
            case measure =>
              have h1 := hst.out.1
              have h2 := KK.out
              rw [h1, List.length_cons] at h2
              omega
            case rel =>
              have h1 := hst.out.1
              have h2 := KK.out
              have h3 := HA.out
              have hL := HI2.out.more (by repeat (first | exact Below.refl _ _ | refine Below.drew ?_ | refine below_alloc ?_ _)) hs2 hf2 (hb2.imp id (fun h => h.1)) (by first | exact Nat.le_refl _ | (simp; done))
              rw [HV.out] at hL
              rw [h1, List.length_cons] at h2
              rw [h1, List.map_cons] at h3
              refine ⟨x &&& (x - 1), acc ++ [off + 64 * j + ct], by first | rfl | rw [hand], Nat.lt_of_le_of_lt Nat.and_le_left hx, by omega, by rw [List.append_assoc]; exact h3, ?_⟩
              first | exact hL | exact hL.drew
    · have hjm : j = m := by omega
      subst hjm
      go_wp2_with fail
      go_ret
      refine ⟨_, rfl, ?_, H.out.below⟩
      rw [EL.out]
      have e : ws.take j = ws := List.take_of_length_le (by rw [HM.out]; omega)
      have := H.out.own
      rw [e] at this
      exact this.mono (by omega)
end Go.Proofs.YtdbjljbkneopcaaDoor
