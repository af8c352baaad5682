/- less of chapter 02 walked: one act on both. -/
import Derived.Test.YtdbjljbkneopcaaDoorDomT
namespace Go.Proofs.YtdbjljbkneopcaaDoor
open Go.RowKit
set_option linter.unusedSimpArgs false
set_option linter.unusedVariables false

/-- One act on both: what is left is the document's. -/
def Rf.Acted (d : Value) (out : List Int) (w : World) (e : Ending) (w' : World) : Prop :=
  ∃ v' so, e = .returned (.tuple #[v', so, .bool true]) ∧ Dm.Rep w' v' out ∧ Ow w' w.heap.size so out ∧ Below w.heap.size w w' ∧ ∀ b, Dm.wb v' = some b → Dm.wb d = some b ∨ w.heap.size ≤ b
theorem Rf.acted_put {w w2 wf : World} {d so : Value} {out : List Int} {off : Int} {sv : Value} {ws : List Nat} {lo hi : Int} {n B : Nat} (hx : Dm.RepX w2 off sv ws out) (e1 : out.headD 0 = lo) (e2 : out.getLastD 0 = hi) (e3 : out.length = n)
    (hf : Fr (fun k => k = B) w2 wf) (hb : Below w.heap.size w w2) (hn : ∀ b, sv.ownBlock = some b → (Dm.wb d = some b ∧ b < w.heap.size) ∨ B < b) (hB : w.heap.size ≤ B) (ho : Sl w2 3 1 so out.length (Iv out)) (hob : ∀ b, so.ownBlock = some b → B < b) :
    Rf.Acted d out w (.returned (.tuple #[.agg #[.int .i64 off, sv, .int .i64 lo, .int .i64 hi, .int .i64 n], so, .bool true])) wf := by
  subst e1 e2 e3
  exact ⟨_, _, rfl, ⟨off, sv, ws, rfl, hx.kept hf (fun b hb e => by rcases hn b hb with h | h <;> omega)⟩, ⟨ho.kept hf (fun b hb e => by have := hob b hb; omega), fun b hb => by have := hob b hb; omega⟩, Fr.below hb hf (fun i e => by omega), fun b hb => (hn b hb).imp (fun h => h.1) (fun h => by omega)⟩
set_option maxHeartbeats 8000000 in
set_option maxRecDepth 100000 in
theorem law2_less0 (d sv sL : Value) (l L : List Int) (dd v : Int) (w : World) (hd : Dm.Rep w d l) (hs : Sl w 3 1 sv l.length (Iv l)) (hL : Rd w sL L) (hl : l.length < 16000000000000) (b0 : 0 ≤ dd ∧ dd ≤ 255) (hk : dd % 6 = 0) (b1 : -9223372036854775808 ≤ v ∧ v ≤ 9223372036854775807) (hT : Tab w) :
    Calls Tryd.prog 42 #[d, sv, .agg #[.int .u8 dd, .int .i64 v, sL]] w (Rf.Acted d (l.filter (Rf.stays 0 v (Rf.of (Rf.near L)))) w) := by
  have RT := Lib.hid hT
  have RD := Lib.hid hd
  have RS := Lib.hid hs
  have RL := Lib.hid hL
  have W0 : Hid (0 < w.heap.size) := Lib.hid hT.lt
  have WB := Lib.hid (Dm.wb_lt hd)
  have BEL := Lib.hid (Below.refl w.heap.size w)
  obtain ⟨pn, hpn⟩ : ∃ p, p = Rf.near L := ⟨_, rfl⟩
  obtain ⟨nn, hnn⟩ : ∃ p, p = Rf.of pn := ⟨_, rfl⟩
  have PN := Lib.hid hpn
  have NN := Lib.hid hnn
  have NNL : Hid (pn.length < 16000000000000) := Lib.hid (by rw [hpn]; have := Rf.near_length L; omega)
  rw [← hpn, ← hnn]
  obtain ⟨out, hout⟩ : ∃ p, p = l.filter (Rf.stays 0 v nn) := ⟨_, rfl⟩
  have HO : Hid (l.filter (fun u => !decide (u = v)) = out) := Lib.hid hout.symm
  have HO2 := Lib.hid hout
  rw [← hout]
  obtain ⟨n1, hn1⟩ : ∃ n, n = nn.length := ⟨_, rfl⟩
  have N1 := Lib.hid hn1
  obtain ⟨n2, hn2⟩ : ∃ n, n = out.length := ⟨_, rfl⟩
  have N2 := Lib.hid hn2
  have LL := Lib.hid hl
  obtain ⟨offd, dv, wsd, hde, hxd⟩ := hd
  have HDE := Lib.hid hde
  obtain ⟨od, hod⟩ : ∃ z : Value, z = d := ⟨_, rfl⟩
  have HOD := Lib.hid hod
  rw [show Rf.Acted d out w = Rf.Acted od out w from by rw [hod]]
  rw [hde] at RD ⊢
  unfold Dm.val at *
  generalize l.headD 0 = lod at *
  generalize l.getLastD 0 = hid at *
  obtain ⟨nd, hnd⟩ : ∃ n, n = l.length := ⟨_, rfl⟩
  rw [← hnd] at RD ⊢
  have ND := Lib.hid hnd
  obtain ⟨AS, cS, hse⟩ := hs.len
  have OWNL : Hid (∀ b, sv.ownBlock = some b → b < w.heap.size) := Lib.hid fun b hb => Sl.lt hs hb
  clear hT hs hL hpn hnn hout hn1 hn2 hl hde hxd hod hnd
  subst hse
  go_enter Tryd.func42, Tryd.ntmps42
  go_wp2_with fail
  have HBd := Lib.hid (heap_alloc (heap_alloc (heap_new w (.cells #[.int .i64 offd, dv, .int .i64 lod, .int .i64 hid, .int .i64 nd] 25)) (.cells #[.int .u8 dd, .int .i64 v, sL] 66)) (.cells #[.int .i64 0, .slice none 0 0, .int .i64 0, .int .i64 0, .int .i64 0] 25))
  have ha1 := heap_alloc (heap_new (w.alloc (.cells #[.int .i64 offd, dv, .int .i64 lod, .int .i64 hid, .int .i64 nd] 25)) (.cells #[.int .u8 dd, .int .i64 v, sL] 66)) (.cells #[.int .i64 0, .slice none 0 0, .int .i64 0, .int .i64 0, .int .i64 0] 25)
  rw [show (w.alloc (.cells #[.int .i64 offd, dv, .int .i64 lod, .int .i64 hid, .int .i64 nd] 25)).heap.size = w.heap.size + 1 from by simp] at ha1
  have HBa := Lib.hid ha1
  have hr1 := heap_new ((w.alloc (.cells #[.int .i64 offd, dv, .int .i64 lod, .int .i64 hid, .int .i64 nd] 25)).alloc (.cells #[.int .u8 dd, .int .i64 v, sL] 66)) (.cells #[.int .i64 0, .slice none 0 0, .int .i64 0, .int .i64 0, .int .i64 0] 25)
  rw [show ((w.alloc (.cells #[.int .i64 offd, dv, .int .i64 lod, .int .i64 hid, .int .i64 nd] 25)).alloc (.cells #[.int .u8 dd, .int .i64 v, sL] 66)).heap.size = w.heap.size + 1 + 1 from by simp] at hr1
  have HBr := Lib.hid hr1
  clear ha1 hr1
  refine (law2_near_rd sL L _ (RL.out.call (by repeat (first | exact Below.refl _ _ | refine below_alloc ?_ _ | refine below_drewN ?_ _ | refine Below.drew ?_)))).mono ?_
  rintro e w2 ⟨so, rfl, ⟨hso, hb⟩⟩
  replace HBd := Lib.hid (heap_call (b := w.heap.size) (o := .cells #[.int .i64 offd, dv, .int .i64 lod, .int .i64 hid, .int .i64 nd] 25) (by repeat (first | exact HBd.out | refine heap_alloc ?_ _ | refine heap_drewN ?_ _ | refine heap_drew ?_)) hb)
  have HBd_0 := cell_of HBd.out 0
  have HBd_1 := cell_of HBd.out 1
  have HBd_2 := cell_of HBd.out 2
  have HBd_3 := cell_of HBd.out 3
  have HBd_4 := cell_of HBd.out 4
  replace HBa := Lib.hid (heap_call (b := (w.heap.size + 1)) (o := .cells #[.int .u8 dd, .int .i64 v, sL] 66) (by repeat (first | exact HBa.out | refine heap_alloc ?_ _ | refine heap_drewN ?_ _ | refine heap_drew ?_)) hb)
  have HBa_0 := cell_of HBa.out 0
  have HBa_1 := cell_of HBa.out 1
  have HBa_2 := cell_of HBa.out 2
  replace HBr := Lib.hid (heap_call (b := (w.heap.size + 1 + 1)) (o := .cells #[.int .i64 0, .slice none 0 0, .int .i64 0, .int .i64 0, .int .i64 0] 25) (by repeat (first | exact HBr.out | refine heap_alloc ?_ _ | refine heap_drewN ?_ _ | refine heap_drew ?_)) hb)
  have HBr_0 := cell_of HBr.out 0
  have HBr_1 := cell_of HBr.out 1
  have HBr_2 := cell_of HBr.out 2
  have HBr_3 := cell_of HBr.out 3
  have HBr_4 := cell_of HBr.out 4
  have K := below_call (w0 := w) (by repeat (first | exact Below.refl _ _ | refine below_alloc ?_ _ | refine below_drewN ?_ _ | refine Below.drew ?_)) hb
  replace RT := Lib.hid (RT.out.call K)
  replace RD := Lib.hid (RD.out.call K)
  replace RS := Lib.hid (RS.out.call K)
  replace RL := Lib.hid (RL.out.call K)
  replace BEL := Lib.hid (below_call (w0 := w) BEL.out K)
  clear hb K
  rw [← PN.out] at hso
  have HSO := Lib.hid hso.sl
  clear hso
  go_wp2_with fail
  refine (dom_of so pn _ (HSO.out.call (by repeat (first | exact Below.refl _ _ | refine below_alloc ?_ _ | refine below_drewN ?_ _ | refine Below.drew ?_))) (RT.out.call (by repeat (first | exact Below.refl _ _ | refine below_alloc ?_ _ | refine below_drewN ?_ _ | refine Below.drew ?_)))).mono ?_
  rintro e w3 ⟨v', rfl, hrep, hb, hown⟩
  clear HBd_0 HBd_1 HBd_2 HBd_3 HBd_4 HBa_0 HBa_1 HBa_2 HBr_0 HBr_1 HBr_2 HBr_3 HBr_4
  replace HBd := Lib.hid (heap_call (b := w.heap.size) (o := .cells #[.int .i64 offd, dv, .int .i64 lod, .int .i64 hid, .int .i64 nd] 25) (by repeat (first | exact HBd.out | refine heap_alloc ?_ _ | refine heap_drewN ?_ _ | refine heap_drew ?_)) hb)
  have HBd_0 := cell_of HBd.out 0
  have HBd_1 := cell_of HBd.out 1
  have HBd_2 := cell_of HBd.out 2
  have HBd_3 := cell_of HBd.out 3
  have HBd_4 := cell_of HBd.out 4
  replace HBa := Lib.hid (heap_call (b := (w.heap.size + 1)) (o := .cells #[.int .u8 dd, .int .i64 v, sL] 66) (by repeat (first | exact HBa.out | refine heap_alloc ?_ _ | refine heap_drewN ?_ _ | refine heap_drew ?_)) hb)
  have HBa_0 := cell_of HBa.out 0
  have HBa_1 := cell_of HBa.out 1
  have HBa_2 := cell_of HBa.out 2
  replace HBr := Lib.hid (heap_call (b := (w.heap.size + 1 + 1)) (o := .cells #[.int .i64 0, .slice none 0 0, .int .i64 0, .int .i64 0, .int .i64 0] 25) (by repeat (first | exact HBr.out | refine heap_alloc ?_ _ | refine heap_drewN ?_ _ | refine heap_drew ?_)) hb)
  have HBr_0 := cell_of HBr.out 0
  have HBr_1 := cell_of HBr.out 1
  have HBr_2 := cell_of HBr.out 2
  have HBr_3 := cell_of HBr.out 3
  have HBr_4 := cell_of HBr.out 4
  have K := below_call (w0 := w2) (by repeat (first | exact Below.refl _ _ | refine below_alloc ?_ _ | refine below_drewN ?_ _ | refine Below.drew ?_)) hb
  replace RT := Lib.hid (RT.out.call K)
  replace RD := Lib.hid (RD.out.call K)
  replace RS := Lib.hid (RS.out.call K)
  replace RL := Lib.hid (RL.out.call K)
  replace HSO := Lib.hid (HSO.out.call K)
  replace BEL := Lib.hid (below_call (w0 := w) BEL.out K)
  clear hb K
  rw [← NN.out] at hrep
  generalize Rf.code pn = ce1 at *
  obtain ⟨off1, sv1, ws1, rfl, hx1⟩ := hrep
  obtain ⟨A1, c1, rfl⟩ := hx1.sl.len
  generalize hm1 : ws1.length = m1 at *
  obtain ⟨lo1, hlo1⟩ : ∃ x, x = nn.headD 0 := ⟨_, rfl⟩
  obtain ⟨hi1, hhi1⟩ : ∃ x, x = nn.getLastD 0 := ⟨_, rfl⟩
  have e1 : Dm.val off1 (.slice A1 m1 c1) nn = .agg #[.int .i64 off1, .slice A1 m1 c1, .int .i64 lo1, .int .i64 hi1, .int .i64 n1] := by unfold Dm.val; rw [hlo1, hhi1, N1.out]
  have RD1 : Hid (Dm.Rep w3 (.agg #[.int .i64 off1, .slice A1 m1 c1, .int .i64 lo1, .int .i64 hi1, .int .i64 n1]) nn) := by
    rw [← e1, ← hm1]
    exact ⟨off1, _, ws1, rfl, by rw [hm1]; exact hx1⟩
  rw [e1]
  clear hx1 hm1 e1 hlo1 hhi1 hown
  have HB1 := Lib.hid (heap_new w3 (.cells #[.int .i64 off1, .slice A1 m1 c1, .int .i64 lo1, .int .i64 hi1, .int .i64 n1] 25))
  clear HBd_0 HBd_1 HBd_2 HBd_3 HBd_4
  replace HBd := Lib.hid (heap_alloc HBd.out (.cells #[.int .i64 off1, .slice A1 m1 c1, .int .i64 lo1, .int .i64 hi1, .int .i64 n1] 25))
  have HBd_0 := cell_of HBd.out 0
  have HBd_1 := cell_of HBd.out 1
  have HBd_2 := cell_of HBd.out 2
  have HBd_3 := cell_of HBd.out 3
  have HBd_4 := cell_of HBd.out 4
  clear HBa_0 HBa_1 HBa_2
  replace HBa := Lib.hid (heap_alloc HBa.out (.cells #[.int .i64 off1, .slice A1 m1 c1, .int .i64 lo1, .int .i64 hi1, .int .i64 n1] 25))
  have HBa_0 := cell_of HBa.out 0
  have HBa_1 := cell_of HBa.out 1
  have HBa_2 := cell_of HBa.out 2
  clear HBr_0 HBr_1 HBr_2 HBr_3 HBr_4
  replace HBr := Lib.hid (heap_alloc HBr.out (.cells #[.int .i64 off1, .slice A1 m1 c1, .int .i64 lo1, .int .i64 hi1, .int .i64 n1] 25))
  have HBr_0 := cell_of HBr.out 0
  have HBr_1 := cell_of HBr.out 1
  have HBr_2 := cell_of HBr.out 2
  have HBr_3 := cell_of HBr.out 3
  have HBr_4 := cell_of HBr.out 4
  have HB1_0 := cell_of HB1.out 0
  have HB1_1 := cell_of HB1.out 1
  have HB1_2 := cell_of HB1.out 2
  have HB1_3 := cell_of HB1.out 3
  have HB1_4 := cell_of HB1.out 4
  go_wp2_with fail
  have hz3 : Hid (w.heap.size ≤ w3.heap.size) := Lib.hid BEL.out.size
  refine (ref_of so pn _ (HSO.out.call (by repeat (first | exact Below.refl _ _ | refine below_alloc ?_ _ | refine below_drewN ?_ _ | refine Below.drew ?_))) NNL.out).mono ?_
  rintro e w4 ⟨so2, rfl, ⟨hso, hb⟩⟩
  clear HBd_0 HBd_1 HBd_2 HBd_3 HBd_4 HBa_0 HBa_1 HBa_2 HBr_0 HBr_1 HBr_2 HBr_3 HBr_4 HB1_0 HB1_1 HB1_2 HB1_3 HB1_4
  replace HBd := Lib.hid (heap_call (b := w.heap.size) (o := .cells #[.int .i64 offd, dv, .int .i64 lod, .int .i64 hid, .int .i64 nd] 25) (by repeat (first | exact HBd.out | refine heap_alloc ?_ _ | refine heap_drewN ?_ _ | refine heap_drew ?_)) hb)
  have HBd_0 := cell_of HBd.out 0
  have HBd_1 := cell_of HBd.out 1
  have HBd_2 := cell_of HBd.out 2
  have HBd_3 := cell_of HBd.out 3
  have HBd_4 := cell_of HBd.out 4
  replace HBa := Lib.hid (heap_call (b := (w.heap.size + 1)) (o := .cells #[.int .u8 dd, .int .i64 v, sL] 66) (by repeat (first | exact HBa.out | refine heap_alloc ?_ _ | refine heap_drewN ?_ _ | refine heap_drew ?_)) hb)
  have HBa_0 := cell_of HBa.out 0
  have HBa_1 := cell_of HBa.out 1
  have HBa_2 := cell_of HBa.out 2
  replace HBr := Lib.hid (heap_call (b := (w.heap.size + 1 + 1)) (o := .cells #[.int .i64 0, .slice none 0 0, .int .i64 0, .int .i64 0, .int .i64 0] 25) (by repeat (first | exact HBr.out | refine heap_alloc ?_ _ | refine heap_drewN ?_ _ | refine heap_drew ?_)) hb)
  have HBr_0 := cell_of HBr.out 0
  have HBr_1 := cell_of HBr.out 1
  have HBr_2 := cell_of HBr.out 2
  have HBr_3 := cell_of HBr.out 3
  have HBr_4 := cell_of HBr.out 4
  replace HB1 := Lib.hid (heap_call (b := w3.heap.size) (o := .cells #[.int .i64 off1, .slice A1 m1 c1, .int .i64 lo1, .int .i64 hi1, .int .i64 n1] 25) (by repeat (first | exact HB1.out | refine heap_alloc ?_ _ | refine heap_drewN ?_ _ | refine heap_drew ?_)) hb)
  have HB1_0 := cell_of HB1.out 0
  have HB1_1 := cell_of HB1.out 1
  have HB1_2 := cell_of HB1.out 2
  have HB1_3 := cell_of HB1.out 3
  have HB1_4 := cell_of HB1.out 4
  have K := below_call (w0 := w3) (by repeat (first | exact Below.refl _ _ | refine below_alloc ?_ _ | refine below_drewN ?_ _ | refine Below.drew ?_)) hb
  replace RT := Lib.hid (RT.out.call K)
  replace RD := Lib.hid (RD.out.call K)
  replace RS := Lib.hid (RS.out.call K)
  replace RL := Lib.hid (RL.out.call K)
  replace HSO := Lib.hid (HSO.out.call K)
  replace RD1 := Lib.hid (RD1.out.call K)
  replace BEL := Lib.hid (below_call (w0 := w) BEL.out K)
  clear hb K
  rw [← NN.out] at hso
  generalize Rf.code pn = ce2 at *
  have HSN := Lib.hid hso.sl
  have hsz3 := BEL.out.size
  have ONN : Hid (∀ b, so2.ownBlock = some b → w.heap.size < b) := Lib.hid fun b hb2 => by have h1 := hso.own b hb2; have h2 := hz3.out; simp at h1; omega
  clear hso hsz3
  go_wp2_with fail
  have hz4 : Hid (w.heap.size + 1 + 1 < w4.heap.size) := Lib.hid (heap_lt HBr.out)
  refine (dom_without _ l v _ (RD.out.call (by repeat (first | exact Below.refl _ _ | refine below_alloc ?_ _ | refine below_drewN ?_ _ | refine Below.drew ?_))) (RT.out.call (by repeat (first | exact Below.refl _ _ | refine below_alloc ?_ _ | refine below_drewN ?_ _ | refine Below.drew ?_))) b1.1 b1.2).mono ?_
  rintro e w5 ⟨v', rfl, hrep, hb, hown⟩
  clear HBd_0 HBd_1 HBd_2 HBd_3 HBd_4 HBa_0 HBa_1 HBa_2 HBr_0 HBr_1 HBr_2 HBr_3 HBr_4 HB1_0 HB1_1 HB1_2 HB1_3 HB1_4
  replace HBd := Lib.hid (heap_call (b := w.heap.size) (o := .cells #[.int .i64 offd, dv, .int .i64 lod, .int .i64 hid, .int .i64 nd] 25) (by repeat (first | exact HBd.out | refine heap_alloc ?_ _ | refine heap_drewN ?_ _ | refine heap_drew ?_)) hb)
  have HBd_0 := cell_of HBd.out 0
  have HBd_1 := cell_of HBd.out 1
  have HBd_2 := cell_of HBd.out 2
  have HBd_3 := cell_of HBd.out 3
  have HBd_4 := cell_of HBd.out 4
  replace HBa := Lib.hid (heap_call (b := (w.heap.size + 1)) (o := .cells #[.int .u8 dd, .int .i64 v, sL] 66) (by repeat (first | exact HBa.out | refine heap_alloc ?_ _ | refine heap_drewN ?_ _ | refine heap_drew ?_)) hb)
  have HBa_0 := cell_of HBa.out 0
  have HBa_1 := cell_of HBa.out 1
  have HBa_2 := cell_of HBa.out 2
  replace HBr := Lib.hid (heap_call (b := (w.heap.size + 1 + 1)) (o := .cells #[.int .i64 0, .slice none 0 0, .int .i64 0, .int .i64 0, .int .i64 0] 25) (by repeat (first | exact HBr.out | refine heap_alloc ?_ _ | refine heap_drewN ?_ _ | refine heap_drew ?_)) hb)
  have HBr_0 := cell_of HBr.out 0
  have HBr_1 := cell_of HBr.out 1
  have HBr_2 := cell_of HBr.out 2
  have HBr_3 := cell_of HBr.out 3
  have HBr_4 := cell_of HBr.out 4
  replace HB1 := Lib.hid (heap_call (b := w3.heap.size) (o := .cells #[.int .i64 off1, .slice A1 m1 c1, .int .i64 lo1, .int .i64 hi1, .int .i64 n1] 25) (by repeat (first | exact HB1.out | refine heap_alloc ?_ _ | refine heap_drewN ?_ _ | refine heap_drew ?_)) hb)
  have HB1_0 := cell_of HB1.out 0
  have HB1_1 := cell_of HB1.out 1
  have HB1_2 := cell_of HB1.out 2
  have HB1_3 := cell_of HB1.out 3
  have HB1_4 := cell_of HB1.out 4
  have K := below_call (w0 := w4) (by repeat (first | exact Below.refl _ _ | refine below_alloc ?_ _ | refine below_drewN ?_ _ | refine Below.drew ?_)) hb
  replace RT := Lib.hid (RT.out.call K)
  replace RD := Lib.hid (RD.out.call K)
  replace RS := Lib.hid (RS.out.call K)
  replace RL := Lib.hid (RL.out.call K)
  replace HSO := Lib.hid (HSO.out.call K)
  replace RD1 := Lib.hid (RD1.out.call K)
  replace HSN := Lib.hid (HSN.out.call K)
  replace BEL := Lib.hid (below_call (w0 := w) BEL.out K)
  clear hb K
  rw [HO.out] at hrep ⊢
  obtain ⟨ch, hch⟩ : ∃ z, z = Dm.chg l out := ⟨_, rfl⟩
  rw [← hch]
  have CHE := Lib.hid hch
  clear hch
  obtain ⟨off2, sv2, ws2, rfl, hx2⟩ := hrep
  obtain ⟨A2, c2, rfl⟩ := hx2.sl.len
  generalize hm2 : ws2.length = m2 at *
  obtain ⟨lo2, hlo2⟩ : ∃ x, x = out.headD 0 := ⟨_, rfl⟩
  obtain ⟨hi2, hhi2⟩ : ∃ x, x = out.getLastD 0 := ⟨_, rfl⟩
  have e2 : Dm.val off2 (.slice A2 m2 c2) out = .agg #[.int .i64 off2, .slice A2 m2 c2, .int .i64 lo2, .int .i64 hi2, .int .i64 n2] := by unfold Dm.val; rw [hlo2, hhi2, N2.out]
  rw [e2] at hown ⊢
  have HX2 := Lib.hid hx2
  have OWN2 : Hid (∀ b, (Value.slice A2 m2 c2).ownBlock = some b → (Dm.wb od = some b ∧ b < w.heap.size) ∨ w.heap.size + 1 + 1 < b) := Lib.hid fun b hb2 => by
    rcases hown b hb2 with h | h
    · have h1 : Dm.wb d = some b := by rw [HDE.out]; exact h
      exact Or.inl ⟨by rw [HOD.out]; exact h1, WB.out b h1⟩
    · right; have := hz4.out; try simp at h
      omega
  have L2 := Lib.hid hlo2
  have I2 := Lib.hid hhi2
  have M2 := Lib.hid hm2
  clear hx2 hm2 e2 hlo2 hhi2 hown
  have fd0 := frozen_of HBd.out 0
  have fd1 := frozen_of HBd.out 1
  have fd2 := frozen_of HBd.out 2
  have fd3 := frozen_of HBd.out 3
  have fd4 := frozen_of HBd.out 4
  have FR : Hid (∀ u0 u1 u2 u3 u4 : Value, Fr (fun k => k = w.heap.size) w5 (((((w5.setCell ⟨w.heap.size, 0, none⟩ u0).setCell ⟨w.heap.size, 1, none⟩ u1).setCell ⟨w.heap.size, 2, none⟩ u2).setCell ⟨w.heap.size, 3, none⟩ u3).setCell ⟨w.heap.size, 4, none⟩ u4)) := Lib.hid fun u0 u1 u2 u3 u4 => by
    refine Fr.set (Fr.set (Fr.set (Fr.set (Fr.set (Fr.refl _ _) ?_ _) ?_ _) ?_ _) ?_ _) ?_ _
    all_goals exact fun _ => rfl
  have CK := Lib.hid (fun u0 u1 u2 u3 u4 => ref_keep0 (.slice AS l.length cS) so2 l nn v _ (RS.out.kept (FR.out u0 u1 u2 u3 u4) (fun b hb e => by have h1 := OWNL.out b hb; have h2 : b = w.heap.size := e; omega)) (HSN.out.kept (FR.out u0 u1 u2 u3 u4) (fun b hb e => by have h1 := ONN.out b hb; have h2 : b = w.heap.size := e; omega)) (by have := LL.out; omega))
  go_wp2_with fail
  refine (CK.out _ _ _ _ _).mono ?_
  rintro e w7 ⟨so3, rfl, hso3, hb⟩
  rw [← HO2.out] at hso3 ⊢
  rw [← CHE.out]
  have HD2 : Hid (w7.heap[w.heap.size]? = some (.cells #[.int .i64 off2, .slice A2 m2 c2, .int .i64 lo2, .int .i64 hi2, .int .i64 n2] 25 (0, 0))) := Lib.hid (by
    have := heap_call (heap_set (heap_set (heap_set (heap_set (heap_set HBd.out 0 (.int .i64 off2)) 1 (.slice A2 m2 c2)) 2 (.int .i64 lo2)) 3 (.int .i64 hi2)) 4 (.int .i64 n2)) hb
    simpa using this)
  have hne : w.heap.size + 1 + 1 ≠ w.heap.size := by omega
  have HR2 : Hid (w7.heap[w.heap.size + 1 + 1]? = some (.cells #[.int .i64 0, .slice none 0 0, .int .i64 0, .int .i64 0, .int .i64 0] 25 (0, 0))) := Lib.hid (heap_call (heap_far (heap_far (heap_far (heap_far (heap_far HBr.out hne _) hne _) hne _) hne _) hne _) hb)
  have HX7 : Hid (Dm.RepX w7 off2 (.slice A2 m2 c2) ws2 out) := Lib.hid ((HX2.out.kept (FR.out _ _ _ _ _) (fun b hb2 e => by
    have h2 : b = w.heap.size := e
    rcases OWN2.out b hb2 with h | h <;> omega)).call hb)
  have BE7 : Hid (Below w.heap.size w w7) := Lib.hid (Fr.below (c := w7) BEL.out (((FR.out _ _ _ _ _).trans2 (Fr.of_below (S := fun _ => False) hb) (fun _ _ h => h.elim))) (fun i e => by have h2 : i = w.heap.size := e; omega))
  have SO7 : Hid (Sl w7 3 1 so3 out.length (Iv out)) := Lib.hid hso3.sl
  have OS7 : Hid (∀ b, so3.ownBlock = some b → w.heap.size + 1 + 1 < b) := Lib.hid fun b hb2 => by
    have h1 := hso3.own b hb2
    have h2 := hz4.out
    have h3 := BEL.out.size
    have h4 := heap_lt HBr.out
    simp [World.setCell] at h1
    omega
  clear HBd_0 HBd_1 HBd_2 HBd_3 HBd_4 HBa_0 HBa_1 HBa_2 HBr_0 HBr_1 HBr_2 HBr_3 HBr_4 HB1_0 HB1_1 HB1_2 HB1_3 HB1_4 fd0 fd1 fd2 fd3 fd4 hso3 hb
  have x0 := cell_of HD2.out 0
  have x1 := cell_of HD2.out 1
  have x2 := cell_of HD2.out 2
  have x3 := cell_of HD2.out 3
  have x4 := cell_of HD2.out 4
  have r0 := cell_of HR2.out 0
  have r1 := cell_of HR2.out 1
  have r2 := cell_of HR2.out 2
  have r3 := cell_of HR2.out 3
  have r4 := cell_of HR2.out 4
  have f0 := frozen_of HR2.out 0
  have f1 := frozen_of HR2.out 1
  have f2 := frozen_of HR2.out 2
  have f3 := frozen_of HR2.out 3
  have f4 := frozen_of HR2.out 4
  go_wp2_with fail
  refine bodyPost_ret (v := .tuple #[.agg #[.int .i64 off2, .slice A2 m2 c2, .int .i64 lo2, .int .i64 hi2, .int .i64 n2], so3, .bool true]) (by simp [results, Tryd.results42, go_sem, r0, r1, r2, r3, r4]) rfl ?_
  refine Rf.acted_put (w2 := w7) (B := w.heap.size + 1 + 1) HX7.out L2.out.symm I2.out.symm N2.out.symm ?_ BE7.out OWN2.out (by omega) SO7.out OS7.out
  refine Fr.set (Fr.set (Fr.set (Fr.set (Fr.set (Fr.refl _ _) ?_ _) ?_ _) ?_ _) ?_ _) ?_ _
  all_goals exact fun _ => rfl
set_option maxHeartbeats 8000000 in
set_option maxRecDepth 100000 in
theorem law2_less1 (d sv sL : Value) (l L : List Int) (dd v : Int) (w : World) (hd : Dm.Rep w d l) (hs : Sl w 3 1 sv l.length (Iv l)) (hL : Rd w sL L) (hl : l.length < 16000000000000) (b0 : 0 ≤ dd ∧ dd ≤ 255) (hk : dd % 6 = 1) (b1 : -9223372036854775808 ≤ v ∧ v ≤ 9223372036854775807) (hT : Tab w) :
    Calls Tryd.prog 42 #[d, sv, .agg #[.int .u8 dd, .int .i64 v, sL]] w (Rf.Acted d (l.filter (Rf.stays 1 v (Rf.of (Rf.near L)))) w) := by
  have RT := Lib.hid hT
  have RD := Lib.hid hd
  have RS := Lib.hid hs
  have RL := Lib.hid hL
  have W0 : Hid (0 < w.heap.size) := Lib.hid hT.lt
  have WB := Lib.hid (Dm.wb_lt hd)
  have BEL := Lib.hid (Below.refl w.heap.size w)
  obtain ⟨pn, hpn⟩ : ∃ p, p = Rf.near L := ⟨_, rfl⟩
  obtain ⟨nn, hnn⟩ : ∃ p, p = Rf.of pn := ⟨_, rfl⟩
  have PN := Lib.hid hpn
  have NN := Lib.hid hnn
  have NNL : Hid (pn.length < 16000000000000) := Lib.hid (by rw [hpn]; have := Rf.near_length L; omega)
  rw [← hpn, ← hnn]
  obtain ⟨out, hout⟩ : ∃ p, p = l.filter (Rf.stays 1 v nn) := ⟨_, rfl⟩
  have HO : Hid (l.filter (fun u => decide (u = v)) = out) := Lib.hid hout.symm
  have HO2 := Lib.hid hout
  rw [← hout]
  obtain ⟨n1, hn1⟩ : ∃ n, n = nn.length := ⟨_, rfl⟩
  have N1 := Lib.hid hn1
  obtain ⟨n2, hn2⟩ : ∃ n, n = out.length := ⟨_, rfl⟩
  have N2 := Lib.hid hn2
  have LL := Lib.hid hl
  obtain ⟨offd, dv, wsd, hde, hxd⟩ := hd
  have HDE := Lib.hid hde
  obtain ⟨od, hod⟩ : ∃ z : Value, z = d := ⟨_, rfl⟩
  have HOD := Lib.hid hod
  rw [show Rf.Acted d out w = Rf.Acted od out w from by rw [hod]]
  rw [hde] at RD ⊢
  unfold Dm.val at *
  generalize l.headD 0 = lod at *
  generalize l.getLastD 0 = hid at *
  obtain ⟨nd, hnd⟩ : ∃ n, n = l.length := ⟨_, rfl⟩
  rw [← hnd] at RD ⊢
  have ND := Lib.hid hnd
  obtain ⟨AS, cS, hse⟩ := hs.len
  have OWNL : Hid (∀ b, sv.ownBlock = some b → b < w.heap.size) := Lib.hid fun b hb => Sl.lt hs hb
  clear hT hs hL hpn hnn hout hn1 hn2 hl hde hxd hod hnd
  subst hse
  go_enter Tryd.func42, Tryd.ntmps42
  go_wp2_with fail
  have HBd := Lib.hid (heap_alloc (heap_alloc (heap_new w (.cells #[.int .i64 offd, dv, .int .i64 lod, .int .i64 hid, .int .i64 nd] 25)) (.cells #[.int .u8 dd, .int .i64 v, sL] 66)) (.cells #[.int .i64 0, .slice none 0 0, .int .i64 0, .int .i64 0, .int .i64 0] 25))
  have ha1 := heap_alloc (heap_new (w.alloc (.cells #[.int .i64 offd, dv, .int .i64 lod, .int .i64 hid, .int .i64 nd] 25)) (.cells #[.int .u8 dd, .int .i64 v, sL] 66)) (.cells #[.int .i64 0, .slice none 0 0, .int .i64 0, .int .i64 0, .int .i64 0] 25)
  rw [show (w.alloc (.cells #[.int .i64 offd, dv, .int .i64 lod, .int .i64 hid, .int .i64 nd] 25)).heap.size = w.heap.size + 1 from by simp] at ha1
  have HBa := Lib.hid ha1
  have hr1 := heap_new ((w.alloc (.cells #[.int .i64 offd, dv, .int .i64 lod, .int .i64 hid, .int .i64 nd] 25)).alloc (.cells #[.int .u8 dd, .int .i64 v, sL] 66)) (.cells #[.int .i64 0, .slice none 0 0, .int .i64 0, .int .i64 0, .int .i64 0] 25)
  rw [show ((w.alloc (.cells #[.int .i64 offd, dv, .int .i64 lod, .int .i64 hid, .int .i64 nd] 25)).alloc (.cells #[.int .u8 dd, .int .i64 v, sL] 66)).heap.size = w.heap.size + 1 + 1 from by simp] at hr1
  have HBr := Lib.hid hr1
  clear ha1 hr1
  refine (law2_near_rd sL L _ (RL.out.call (by repeat (first | exact Below.refl _ _ | refine below_alloc ?_ _ | refine below_drewN ?_ _ | refine Below.drew ?_)))).mono ?_
  rintro e w2 ⟨so, rfl, ⟨hso, hb⟩⟩
  replace HBd := Lib.hid (heap_call (b := w.heap.size) (o := .cells #[.int .i64 offd, dv, .int .i64 lod, .int .i64 hid, .int .i64 nd] 25) (by repeat (first | exact HBd.out | refine heap_alloc ?_ _ | refine heap_drewN ?_ _ | refine heap_drew ?_)) hb)
  have HBd_0 := cell_of HBd.out 0
  have HBd_1 := cell_of HBd.out 1
  have HBd_2 := cell_of HBd.out 2
  have HBd_3 := cell_of HBd.out 3
  have HBd_4 := cell_of HBd.out 4
  replace HBa := Lib.hid (heap_call (b := (w.heap.size + 1)) (o := .cells #[.int .u8 dd, .int .i64 v, sL] 66) (by repeat (first | exact HBa.out | refine heap_alloc ?_ _ | refine heap_drewN ?_ _ | refine heap_drew ?_)) hb)
  have HBa_0 := cell_of HBa.out 0
  have HBa_1 := cell_of HBa.out 1
  have HBa_2 := cell_of HBa.out 2
  replace HBr := Lib.hid (heap_call (b := (w.heap.size + 1 + 1)) (o := .cells #[.int .i64 0, .slice none 0 0, .int .i64 0, .int .i64 0, .int .i64 0] 25) (by repeat (first | exact HBr.out | refine heap_alloc ?_ _ | refine heap_drewN ?_ _ | refine heap_drew ?_)) hb)
  have HBr_0 := cell_of HBr.out 0
  have HBr_1 := cell_of HBr.out 1
  have HBr_2 := cell_of HBr.out 2
  have HBr_3 := cell_of HBr.out 3
  have HBr_4 := cell_of HBr.out 4
  have K := below_call (w0 := w) (by repeat (first | exact Below.refl _ _ | refine below_alloc ?_ _ | refine below_drewN ?_ _ | refine Below.drew ?_)) hb
  replace RT := Lib.hid (RT.out.call K)
  replace RD := Lib.hid (RD.out.call K)
  replace RS := Lib.hid (RS.out.call K)
  replace RL := Lib.hid (RL.out.call K)
  replace BEL := Lib.hid (below_call (w0 := w) BEL.out K)
  clear hb K
  rw [← PN.out] at hso
  have HSO := Lib.hid hso.sl
  clear hso
  go_wp2_with fail
  refine (dom_of so pn _ (HSO.out.call (by repeat (first | exact Below.refl _ _ | refine below_alloc ?_ _ | refine below_drewN ?_ _ | refine Below.drew ?_))) (RT.out.call (by repeat (first | exact Below.refl _ _ | refine below_alloc ?_ _ | refine below_drewN ?_ _ | refine Below.drew ?_)))).mono ?_
  rintro e w3 ⟨v', rfl, hrep, hb, hown⟩
  clear HBd_0 HBd_1 HBd_2 HBd_3 HBd_4 HBa_0 HBa_1 HBa_2 HBr_0 HBr_1 HBr_2 HBr_3 HBr_4
  replace HBd := Lib.hid (heap_call (b := w.heap.size) (o := .cells #[.int .i64 offd, dv, .int .i64 lod, .int .i64 hid, .int .i64 nd] 25) (by repeat (first | exact HBd.out | refine heap_alloc ?_ _ | refine heap_drewN ?_ _ | refine heap_drew ?_)) hb)
  have HBd_0 := cell_of HBd.out 0
  have HBd_1 := cell_of HBd.out 1
  have HBd_2 := cell_of HBd.out 2
  have HBd_3 := cell_of HBd.out 3
  have HBd_4 := cell_of HBd.out 4
  replace HBa := Lib.hid (heap_call (b := (w.heap.size + 1)) (o := .cells #[.int .u8 dd, .int .i64 v, sL] 66) (by repeat (first | exact HBa.out | refine heap_alloc ?_ _ | refine heap_drewN ?_ _ | refine heap_drew ?_)) hb)
  have HBa_0 := cell_of HBa.out 0
  have HBa_1 := cell_of HBa.out 1
  have HBa_2 := cell_of HBa.out 2
  replace HBr := Lib.hid (heap_call (b := (w.heap.size + 1 + 1)) (o := .cells #[.int .i64 0, .slice none 0 0, .int .i64 0, .int .i64 0, .int .i64 0] 25) (by repeat (first | exact HBr.out | refine heap_alloc ?_ _ | refine heap_drewN ?_ _ | refine heap_drew ?_)) hb)
  have HBr_0 := cell_of HBr.out 0
  have HBr_1 := cell_of HBr.out 1
  have HBr_2 := cell_of HBr.out 2
  have HBr_3 := cell_of HBr.out 3
  have HBr_4 := cell_of HBr.out 4
  have K := below_call (w0 := w2) (by repeat (first | exact Below.refl _ _ | refine below_alloc ?_ _ | refine below_drewN ?_ _ | refine Below.drew ?_)) hb
  replace RT := Lib.hid (RT.out.call K)
  replace RD := Lib.hid (RD.out.call K)
  replace RS := Lib.hid (RS.out.call K)
  replace RL := Lib.hid (RL.out.call K)
  replace HSO := Lib.hid (HSO.out.call K)
  replace BEL := Lib.hid (below_call (w0 := w) BEL.out K)
  clear hb K
  rw [← NN.out] at hrep
  generalize Rf.code pn = ce1 at *
  obtain ⟨off1, sv1, ws1, rfl, hx1⟩ := hrep
  obtain ⟨A1, c1, rfl⟩ := hx1.sl.len
  generalize hm1 : ws1.length = m1 at *
  obtain ⟨lo1, hlo1⟩ : ∃ x, x = nn.headD 0 := ⟨_, rfl⟩
  obtain ⟨hi1, hhi1⟩ : ∃ x, x = nn.getLastD 0 := ⟨_, rfl⟩
  have e1 : Dm.val off1 (.slice A1 m1 c1) nn = .agg #[.int .i64 off1, .slice A1 m1 c1, .int .i64 lo1, .int .i64 hi1, .int .i64 n1] := by unfold Dm.val; rw [hlo1, hhi1, N1.out]
  have RD1 : Hid (Dm.Rep w3 (.agg #[.int .i64 off1, .slice A1 m1 c1, .int .i64 lo1, .int .i64 hi1, .int .i64 n1]) nn) := by
    rw [← e1, ← hm1]
    exact ⟨off1, _, ws1, rfl, by rw [hm1]; exact hx1⟩
  rw [e1]
  clear hx1 hm1 e1 hlo1 hhi1 hown
  have HB1 := Lib.hid (heap_new w3 (.cells #[.int .i64 off1, .slice A1 m1 c1, .int .i64 lo1, .int .i64 hi1, .int .i64 n1] 25))
  clear HBd_0 HBd_1 HBd_2 HBd_3 HBd_4
  replace HBd := Lib.hid (heap_alloc HBd.out (.cells #[.int .i64 off1, .slice A1 m1 c1, .int .i64 lo1, .int .i64 hi1, .int .i64 n1] 25))
  have HBd_0 := cell_of HBd.out 0
  have HBd_1 := cell_of HBd.out 1
  have HBd_2 := cell_of HBd.out 2
  have HBd_3 := cell_of HBd.out 3
  have HBd_4 := cell_of HBd.out 4
  clear HBa_0 HBa_1 HBa_2
  replace HBa := Lib.hid (heap_alloc HBa.out (.cells #[.int .i64 off1, .slice A1 m1 c1, .int .i64 lo1, .int .i64 hi1, .int .i64 n1] 25))
  have HBa_0 := cell_of HBa.out 0
  have HBa_1 := cell_of HBa.out 1
  have HBa_2 := cell_of HBa.out 2
  clear HBr_0 HBr_1 HBr_2 HBr_3 HBr_4
  replace HBr := Lib.hid (heap_alloc HBr.out (.cells #[.int .i64 off1, .slice A1 m1 c1, .int .i64 lo1, .int .i64 hi1, .int .i64 n1] 25))
  have HBr_0 := cell_of HBr.out 0
  have HBr_1 := cell_of HBr.out 1
  have HBr_2 := cell_of HBr.out 2
  have HBr_3 := cell_of HBr.out 3
  have HBr_4 := cell_of HBr.out 4
  have HB1_0 := cell_of HB1.out 0
  have HB1_1 := cell_of HB1.out 1
  have HB1_2 := cell_of HB1.out 2
  have HB1_3 := cell_of HB1.out 3
  have HB1_4 := cell_of HB1.out 4
  go_wp2_with fail
  have hz3 : Hid (w.heap.size ≤ w3.heap.size) := Lib.hid BEL.out.size
  refine (ref_of so pn _ (HSO.out.call (by repeat (first | exact Below.refl _ _ | refine below_alloc ?_ _ | refine below_drewN ?_ _ | refine Below.drew ?_))) NNL.out).mono ?_
  rintro e w4 ⟨so2, rfl, ⟨hso, hb⟩⟩
  clear HBd_0 HBd_1 HBd_2 HBd_3 HBd_4 HBa_0 HBa_1 HBa_2 HBr_0 HBr_1 HBr_2 HBr_3 HBr_4 HB1_0 HB1_1 HB1_2 HB1_3 HB1_4
  replace HBd := Lib.hid (heap_call (b := w.heap.size) (o := .cells #[.int .i64 offd, dv, .int .i64 lod, .int .i64 hid, .int .i64 nd] 25) (by repeat (first | exact HBd.out | refine heap_alloc ?_ _ | refine heap_drewN ?_ _ | refine heap_drew ?_)) hb)
  have HBd_0 := cell_of HBd.out 0
  have HBd_1 := cell_of HBd.out 1
  have HBd_2 := cell_of HBd.out 2
  have HBd_3 := cell_of HBd.out 3
  have HBd_4 := cell_of HBd.out 4
  replace HBa := Lib.hid (heap_call (b := (w.heap.size + 1)) (o := .cells #[.int .u8 dd, .int .i64 v, sL] 66) (by repeat (first | exact HBa.out | refine heap_alloc ?_ _ | refine heap_drewN ?_ _ | refine heap_drew ?_)) hb)
  have HBa_0 := cell_of HBa.out 0
  have HBa_1 := cell_of HBa.out 1
  have HBa_2 := cell_of HBa.out 2
  replace HBr := Lib.hid (heap_call (b := (w.heap.size + 1 + 1)) (o := .cells #[.int .i64 0, .slice none 0 0, .int .i64 0, .int .i64 0, .int .i64 0] 25) (by repeat (first | exact HBr.out | refine heap_alloc ?_ _ | refine heap_drewN ?_ _ | refine heap_drew ?_)) hb)
  have HBr_0 := cell_of HBr.out 0
  have HBr_1 := cell_of HBr.out 1
  have HBr_2 := cell_of HBr.out 2
  have HBr_3 := cell_of HBr.out 3
  have HBr_4 := cell_of HBr.out 4
  replace HB1 := Lib.hid (heap_call (b := w3.heap.size) (o := .cells #[.int .i64 off1, .slice A1 m1 c1, .int .i64 lo1, .int .i64 hi1, .int .i64 n1] 25) (by repeat (first | exact HB1.out | refine heap_alloc ?_ _ | refine heap_drewN ?_ _ | refine heap_drew ?_)) hb)
  have HB1_0 := cell_of HB1.out 0
  have HB1_1 := cell_of HB1.out 1
  have HB1_2 := cell_of HB1.out 2
  have HB1_3 := cell_of HB1.out 3
  have HB1_4 := cell_of HB1.out 4
  have K := below_call (w0 := w3) (by repeat (first | exact Below.refl _ _ | refine below_alloc ?_ _ | refine below_drewN ?_ _ | refine Below.drew ?_)) hb
  replace RT := Lib.hid (RT.out.call K)
  replace RD := Lib.hid (RD.out.call K)
  replace RS := Lib.hid (RS.out.call K)
  replace RL := Lib.hid (RL.out.call K)
  replace HSO := Lib.hid (HSO.out.call K)
  replace RD1 := Lib.hid (RD1.out.call K)
  replace BEL := Lib.hid (below_call (w0 := w) BEL.out K)
  clear hb K
  rw [← NN.out] at hso
  generalize Rf.code pn = ce2 at *
  have HSN := Lib.hid hso.sl
  have hsz3 := BEL.out.size
  have ONN : Hid (∀ b, so2.ownBlock = some b → w.heap.size < b) := Lib.hid fun b hb2 => by have h1 := hso.own b hb2; have h2 := hz3.out; simp at h1; omega
  clear hso hsz3
  go_wp2_with fail
  have hz4 : Hid (w.heap.size + 1 + 1 < w4.heap.size) := Lib.hid (heap_lt HBr.out)
  refine (dom_only _ l v _ (RD.out.call (by repeat (first | exact Below.refl _ _ | refine below_alloc ?_ _ | refine below_drewN ?_ _ | refine Below.drew ?_))) (RT.out.call (by repeat (first | exact Below.refl _ _ | refine below_alloc ?_ _ | refine below_drewN ?_ _ | refine Below.drew ?_))) b1.1 b1.2).mono ?_
  rintro e w5 ⟨v', rfl, hrep, hb, hown⟩
  clear HBd_0 HBd_1 HBd_2 HBd_3 HBd_4 HBa_0 HBa_1 HBa_2 HBr_0 HBr_1 HBr_2 HBr_3 HBr_4 HB1_0 HB1_1 HB1_2 HB1_3 HB1_4
  replace HBd := Lib.hid (heap_call (b := w.heap.size) (o := .cells #[.int .i64 offd, dv, .int .i64 lod, .int .i64 hid, .int .i64 nd] 25) (by repeat (first | exact HBd.out | refine heap_alloc ?_ _ | refine heap_drewN ?_ _ | refine heap_drew ?_)) hb)
  have HBd_0 := cell_of HBd.out 0
  have HBd_1 := cell_of HBd.out 1
  have HBd_2 := cell_of HBd.out 2
  have HBd_3 := cell_of HBd.out 3
  have HBd_4 := cell_of HBd.out 4
  replace HBa := Lib.hid (heap_call (b := (w.heap.size + 1)) (o := .cells #[.int .u8 dd, .int .i64 v, sL] 66) (by repeat (first | exact HBa.out | refine heap_alloc ?_ _ | refine heap_drewN ?_ _ | refine heap_drew ?_)) hb)
  have HBa_0 := cell_of HBa.out 0
  have HBa_1 := cell_of HBa.out 1
  have HBa_2 := cell_of HBa.out 2
  replace HBr := Lib.hid (heap_call (b := (w.heap.size + 1 + 1)) (o := .cells #[.int .i64 0, .slice none 0 0, .int .i64 0, .int .i64 0, .int .i64 0] 25) (by repeat (first | exact HBr.out | refine heap_alloc ?_ _ | refine heap_drewN ?_ _ | refine heap_drew ?_)) hb)
  have HBr_0 := cell_of HBr.out 0
  have HBr_1 := cell_of HBr.out 1
  have HBr_2 := cell_of HBr.out 2
  have HBr_3 := cell_of HBr.out 3
  have HBr_4 := cell_of HBr.out 4
  replace HB1 := Lib.hid (heap_call (b := w3.heap.size) (o := .cells #[.int .i64 off1, .slice A1 m1 c1, .int .i64 lo1, .int .i64 hi1, .int .i64 n1] 25) (by repeat (first | exact HB1.out | refine heap_alloc ?_ _ | refine heap_drewN ?_ _ | refine heap_drew ?_)) hb)
  have HB1_0 := cell_of HB1.out 0
  have HB1_1 := cell_of HB1.out 1
  have HB1_2 := cell_of HB1.out 2
  have HB1_3 := cell_of HB1.out 3
  have HB1_4 := cell_of HB1.out 4
  have K := below_call (w0 := w4) (by repeat (first | exact Below.refl _ _ | refine below_alloc ?_ _ | refine below_drewN ?_ _ | refine Below.drew ?_)) hb
  replace RT := Lib.hid (RT.out.call K)
  replace RD := Lib.hid (RD.out.call K)
  replace RS := Lib.hid (RS.out.call K)
  replace RL := Lib.hid (RL.out.call K)
  replace HSO := Lib.hid (HSO.out.call K)
  replace RD1 := Lib.hid (RD1.out.call K)
  replace HSN := Lib.hid (HSN.out.call K)
  replace BEL := Lib.hid (below_call (w0 := w) BEL.out K)
  clear hb K
  rw [HO.out] at hrep ⊢
  obtain ⟨ch, hch⟩ : ∃ z, z = Dm.chg l out := ⟨_, rfl⟩
  rw [← hch]
  have CHE := Lib.hid hch
  clear hch
  obtain ⟨off2, sv2, ws2, rfl, hx2⟩ := hrep
  obtain ⟨A2, c2, rfl⟩ := hx2.sl.len
  generalize hm2 : ws2.length = m2 at *
  obtain ⟨lo2, hlo2⟩ : ∃ x, x = out.headD 0 := ⟨_, rfl⟩
  obtain ⟨hi2, hhi2⟩ : ∃ x, x = out.getLastD 0 := ⟨_, rfl⟩
  have e2 : Dm.val off2 (.slice A2 m2 c2) out = .agg #[.int .i64 off2, .slice A2 m2 c2, .int .i64 lo2, .int .i64 hi2, .int .i64 n2] := by unfold Dm.val; rw [hlo2, hhi2, N2.out]
  rw [e2] at hown ⊢
  have HX2 := Lib.hid hx2
  have OWN2 : Hid (∀ b, (Value.slice A2 m2 c2).ownBlock = some b → (Dm.wb od = some b ∧ b < w.heap.size) ∨ w.heap.size + 1 + 1 < b) := Lib.hid fun b hb2 => by
    rcases hown b hb2 with h | h
    · have h1 : Dm.wb d = some b := by rw [HDE.out]; exact h
      exact Or.inl ⟨by rw [HOD.out]; exact h1, WB.out b h1⟩
    · right; have := hz4.out; try simp at h
      omega
  have L2 := Lib.hid hlo2
  have I2 := Lib.hid hhi2
  have M2 := Lib.hid hm2
  clear hx2 hm2 e2 hlo2 hhi2 hown
  have fd0 := frozen_of HBd.out 0
  have fd1 := frozen_of HBd.out 1
  have fd2 := frozen_of HBd.out 2
  have fd3 := frozen_of HBd.out 3
  have fd4 := frozen_of HBd.out 4
  have FR : Hid (∀ u0 u1 u2 u3 u4 : Value, Fr (fun k => k = w.heap.size) w5 (((((w5.setCell ⟨w.heap.size, 0, none⟩ u0).setCell ⟨w.heap.size, 1, none⟩ u1).setCell ⟨w.heap.size, 2, none⟩ u2).setCell ⟨w.heap.size, 3, none⟩ u3).setCell ⟨w.heap.size, 4, none⟩ u4)) := Lib.hid fun u0 u1 u2 u3 u4 => by
    refine Fr.set (Fr.set (Fr.set (Fr.set (Fr.set (Fr.refl _ _) ?_ _) ?_ _) ?_ _) ?_ _) ?_ _
    all_goals exact fun _ => rfl
  have CK := Lib.hid (fun u0 u1 u2 u3 u4 => ref_keep1 (.slice AS l.length cS) so2 l nn v _ (RS.out.kept (FR.out u0 u1 u2 u3 u4) (fun b hb e => by have h1 := OWNL.out b hb; have h2 : b = w.heap.size := e; omega)) (HSN.out.kept (FR.out u0 u1 u2 u3 u4) (fun b hb e => by have h1 := ONN.out b hb; have h2 : b = w.heap.size := e; omega)) (by have := LL.out; omega))
  go_wp2_with fail
  refine (CK.out _ _ _ _ _).mono ?_
  rintro e w7 ⟨so3, rfl, hso3, hb⟩
  rw [← HO2.out] at hso3 ⊢
  rw [← CHE.out]
  have HD2 : Hid (w7.heap[w.heap.size]? = some (.cells #[.int .i64 off2, .slice A2 m2 c2, .int .i64 lo2, .int .i64 hi2, .int .i64 n2] 25 (0, 0))) := Lib.hid (by
    have := heap_call (heap_set (heap_set (heap_set (heap_set (heap_set HBd.out 0 (.int .i64 off2)) 1 (.slice A2 m2 c2)) 2 (.int .i64 lo2)) 3 (.int .i64 hi2)) 4 (.int .i64 n2)) hb
    simpa using this)
  have hne : w.heap.size + 1 + 1 ≠ w.heap.size := by omega
  have HR2 : Hid (w7.heap[w.heap.size + 1 + 1]? = some (.cells #[.int .i64 0, .slice none 0 0, .int .i64 0, .int .i64 0, .int .i64 0] 25 (0, 0))) := Lib.hid (heap_call (heap_far (heap_far (heap_far (heap_far (heap_far HBr.out hne _) hne _) hne _) hne _) hne _) hb)
  have HX7 : Hid (Dm.RepX w7 off2 (.slice A2 m2 c2) ws2 out) := Lib.hid ((HX2.out.kept (FR.out _ _ _ _ _) (fun b hb2 e => by
    have h2 : b = w.heap.size := e
    rcases OWN2.out b hb2 with h | h <;> omega)).call hb)
  have BE7 : Hid (Below w.heap.size w w7) := Lib.hid (Fr.below (c := w7) BEL.out (((FR.out _ _ _ _ _).trans2 (Fr.of_below (S := fun _ => False) hb) (fun _ _ h => h.elim))) (fun i e => by have h2 : i = w.heap.size := e; omega))
  have SO7 : Hid (Sl w7 3 1 so3 out.length (Iv out)) := Lib.hid hso3.sl
  have OS7 : Hid (∀ b, so3.ownBlock = some b → w.heap.size + 1 + 1 < b) := Lib.hid fun b hb2 => by
    have h1 := hso3.own b hb2
    have h2 := hz4.out
    have h3 := BEL.out.size
    have h4 := heap_lt HBr.out
    simp [World.setCell] at h1
    omega
  clear HBd_0 HBd_1 HBd_2 HBd_3 HBd_4 HBa_0 HBa_1 HBa_2 HBr_0 HBr_1 HBr_2 HBr_3 HBr_4 HB1_0 HB1_1 HB1_2 HB1_3 HB1_4 fd0 fd1 fd2 fd3 fd4 hso3 hb
  have x0 := cell_of HD2.out 0
  have x1 := cell_of HD2.out 1
  have x2 := cell_of HD2.out 2
  have x3 := cell_of HD2.out 3
  have x4 := cell_of HD2.out 4
  have r0 := cell_of HR2.out 0
  have r1 := cell_of HR2.out 1
  have r2 := cell_of HR2.out 2
  have r3 := cell_of HR2.out 3
  have r4 := cell_of HR2.out 4
  have f0 := frozen_of HR2.out 0
  have f1 := frozen_of HR2.out 1
  have f2 := frozen_of HR2.out 2
  have f3 := frozen_of HR2.out 3
  have f4 := frozen_of HR2.out 4
  go_wp2_with fail
  refine bodyPost_ret (v := .tuple #[.agg #[.int .i64 off2, .slice A2 m2 c2, .int .i64 lo2, .int .i64 hi2, .int .i64 n2], so3, .bool true]) (by simp [results, Tryd.results42, go_sem, r0, r1, r2, r3, r4]) rfl ?_
  refine Rf.acted_put (w2 := w7) (B := w.heap.size + 1 + 1) HX7.out L2.out.symm I2.out.symm N2.out.symm ?_ BE7.out OWN2.out (by omega) SO7.out OS7.out
  refine Fr.set (Fr.set (Fr.set (Fr.set (Fr.set (Fr.refl _ _) ?_ _) ?_ _) ?_ _) ?_ _) ?_ _
  all_goals exact fun _ => rfl
set_option maxHeartbeats 8000000 in
set_option maxRecDepth 100000 in
theorem law2_less2 (d sv sL : Value) (l L : List Int) (dd v : Int) (w : World) (hd : Dm.Rep w d l) (hs : Sl w 3 1 sv l.length (Iv l)) (hL : Rd w sL L) (hl : l.length < 16000000000000) (b0 : 0 ≤ dd ∧ dd ≤ 255) (hk : dd % 6 = 2) (b1 : -9223372036854775808 ≤ v ∧ v ≤ 9223372036854775807) (hT : Tab w) :
    Calls Tryd.prog 42 #[d, sv, .agg #[.int .u8 dd, .int .i64 v, sL]] w (Rf.Acted d (l.filter (Rf.stays 2 v (Rf.of (Rf.near L)))) w) := by
  have RT := Lib.hid hT
  have RD := Lib.hid hd
  have RS := Lib.hid hs
  have RL := Lib.hid hL
  have W0 : Hid (0 < w.heap.size) := Lib.hid hT.lt
  have WB := Lib.hid (Dm.wb_lt hd)
  have BEL := Lib.hid (Below.refl w.heap.size w)
  obtain ⟨pn, hpn⟩ : ∃ p, p = Rf.near L := ⟨_, rfl⟩
  obtain ⟨nn, hnn⟩ : ∃ p, p = Rf.of pn := ⟨_, rfl⟩
  have PN := Lib.hid hpn
  have NN := Lib.hid hnn
  have NNL : Hid (pn.length < 16000000000000) := Lib.hid (by rw [hpn]; have := Rf.near_length L; omega)
  rw [← hpn, ← hnn]
  obtain ⟨out, hout⟩ : ∃ p, p = l.filter (Rf.stays 2 v nn) := ⟨_, rfl⟩
  have HO : Hid (l.filter (fun u => decide (v ≤ u)) = out) := Lib.hid hout.symm
  have HO2 := Lib.hid hout
  rw [← hout]
  obtain ⟨n1, hn1⟩ : ∃ n, n = nn.length := ⟨_, rfl⟩
  have N1 := Lib.hid hn1
  obtain ⟨n2, hn2⟩ : ∃ n, n = out.length := ⟨_, rfl⟩
  have N2 := Lib.hid hn2
  have LL := Lib.hid hl
  obtain ⟨offd, dv, wsd, hde, hxd⟩ := hd
  have HDE := Lib.hid hde
  obtain ⟨od, hod⟩ : ∃ z : Value, z = d := ⟨_, rfl⟩
  have HOD := Lib.hid hod
  rw [show Rf.Acted d out w = Rf.Acted od out w from by rw [hod]]
  rw [hde] at RD ⊢
  unfold Dm.val at *
  generalize l.headD 0 = lod at *
  generalize l.getLastD 0 = hid at *
  obtain ⟨nd, hnd⟩ : ∃ n, n = l.length := ⟨_, rfl⟩
  rw [← hnd] at RD ⊢
  have ND := Lib.hid hnd
  obtain ⟨AS, cS, hse⟩ := hs.len
  have OWNL : Hid (∀ b, sv.ownBlock = some b → b < w.heap.size) := Lib.hid fun b hb => Sl.lt hs hb
  clear hT hs hL hpn hnn hout hn1 hn2 hl hde hxd hod hnd
  subst hse
  go_enter Tryd.func42, Tryd.ntmps42
  go_wp2_with fail
  have HBd := Lib.hid (heap_alloc (heap_alloc (heap_new w (.cells #[.int .i64 offd, dv, .int .i64 lod, .int .i64 hid, .int .i64 nd] 25)) (.cells #[.int .u8 dd, .int .i64 v, sL] 66)) (.cells #[.int .i64 0, .slice none 0 0, .int .i64 0, .int .i64 0, .int .i64 0] 25))
  have ha1 := heap_alloc (heap_new (w.alloc (.cells #[.int .i64 offd, dv, .int .i64 lod, .int .i64 hid, .int .i64 nd] 25)) (.cells #[.int .u8 dd, .int .i64 v, sL] 66)) (.cells #[.int .i64 0, .slice none 0 0, .int .i64 0, .int .i64 0, .int .i64 0] 25)
  rw [show (w.alloc (.cells #[.int .i64 offd, dv, .int .i64 lod, .int .i64 hid, .int .i64 nd] 25)).heap.size = w.heap.size + 1 from by simp] at ha1
  have HBa := Lib.hid ha1
  have hr1 := heap_new ((w.alloc (.cells #[.int .i64 offd, dv, .int .i64 lod, .int .i64 hid, .int .i64 nd] 25)).alloc (.cells #[.int .u8 dd, .int .i64 v, sL] 66)) (.cells #[.int .i64 0, .slice none 0 0, .int .i64 0, .int .i64 0, .int .i64 0] 25)
  rw [show ((w.alloc (.cells #[.int .i64 offd, dv, .int .i64 lod, .int .i64 hid, .int .i64 nd] 25)).alloc (.cells #[.int .u8 dd, .int .i64 v, sL] 66)).heap.size = w.heap.size + 1 + 1 from by simp] at hr1
  have HBr := Lib.hid hr1
  clear ha1 hr1
  refine (law2_near_rd sL L _ (RL.out.call (by repeat (first | exact Below.refl _ _ | refine below_alloc ?_ _ | refine below_drewN ?_ _ | refine Below.drew ?_)))).mono ?_
  rintro e w2 ⟨so, rfl, ⟨hso, hb⟩⟩
  replace HBd := Lib.hid (heap_call (b := w.heap.size) (o := .cells #[.int .i64 offd, dv, .int .i64 lod, .int .i64 hid, .int .i64 nd] 25) (by repeat (first | exact HBd.out | refine heap_alloc ?_ _ | refine heap_drewN ?_ _ | refine heap_drew ?_)) hb)
  have HBd_0 := cell_of HBd.out 0
  have HBd_1 := cell_of HBd.out 1
  have HBd_2 := cell_of HBd.out 2
  have HBd_3 := cell_of HBd.out 3
  have HBd_4 := cell_of HBd.out 4
  replace HBa := Lib.hid (heap_call (b := (w.heap.size + 1)) (o := .cells #[.int .u8 dd, .int .i64 v, sL] 66) (by repeat (first | exact HBa.out | refine heap_alloc ?_ _ | refine heap_drewN ?_ _ | refine heap_drew ?_)) hb)
  have HBa_0 := cell_of HBa.out 0
  have HBa_1 := cell_of HBa.out 1
  have HBa_2 := cell_of HBa.out 2
  replace HBr := Lib.hid (heap_call (b := (w.heap.size + 1 + 1)) (o := .cells #[.int .i64 0, .slice none 0 0, .int .i64 0, .int .i64 0, .int .i64 0] 25) (by repeat (first | exact HBr.out | refine heap_alloc ?_ _ | refine heap_drewN ?_ _ | refine heap_drew ?_)) hb)
  have HBr_0 := cell_of HBr.out 0
  have HBr_1 := cell_of HBr.out 1
  have HBr_2 := cell_of HBr.out 2
  have HBr_3 := cell_of HBr.out 3
  have HBr_4 := cell_of HBr.out 4
  have K := below_call (w0 := w) (by repeat (first | exact Below.refl _ _ | refine below_alloc ?_ _ | refine below_drewN ?_ _ | refine Below.drew ?_)) hb
  replace RT := Lib.hid (RT.out.call K)
  replace RD := Lib.hid (RD.out.call K)
  replace RS := Lib.hid (RS.out.call K)
  replace RL := Lib.hid (RL.out.call K)
  replace BEL := Lib.hid (below_call (w0 := w) BEL.out K)
  clear hb K
  rw [← PN.out] at hso
  have HSO := Lib.hid hso.sl
  clear hso
  go_wp2_with fail
  refine (dom_of so pn _ (HSO.out.call (by repeat (first | exact Below.refl _ _ | refine below_alloc ?_ _ | refine below_drewN ?_ _ | refine Below.drew ?_))) (RT.out.call (by repeat (first | exact Below.refl _ _ | refine below_alloc ?_ _ | refine below_drewN ?_ _ | refine Below.drew ?_)))).mono ?_
  rintro e w3 ⟨v', rfl, hrep, hb, hown⟩
  clear HBd_0 HBd_1 HBd_2 HBd_3 HBd_4 HBa_0 HBa_1 HBa_2 HBr_0 HBr_1 HBr_2 HBr_3 HBr_4
  replace HBd := Lib.hid (heap_call (b := w.heap.size) (o := .cells #[.int .i64 offd, dv, .int .i64 lod, .int .i64 hid, .int .i64 nd] 25) (by repeat (first | exact HBd.out | refine heap_alloc ?_ _ | refine heap_drewN ?_ _ | refine heap_drew ?_)) hb)
  have HBd_0 := cell_of HBd.out 0
  have HBd_1 := cell_of HBd.out 1
  have HBd_2 := cell_of HBd.out 2
  have HBd_3 := cell_of HBd.out 3
  have HBd_4 := cell_of HBd.out 4
  replace HBa := Lib.hid (heap_call (b := (w.heap.size + 1)) (o := .cells #[.int .u8 dd, .int .i64 v, sL] 66) (by repeat (first | exact HBa.out | refine heap_alloc ?_ _ | refine heap_drewN ?_ _ | refine heap_drew ?_)) hb)
  have HBa_0 := cell_of HBa.out 0
  have HBa_1 := cell_of HBa.out 1
  have HBa_2 := cell_of HBa.out 2
  replace HBr := Lib.hid (heap_call (b := (w.heap.size + 1 + 1)) (o := .cells #[.int .i64 0, .slice none 0 0, .int .i64 0, .int .i64 0, .int .i64 0] 25) (by repeat (first | exact HBr.out | refine heap_alloc ?_ _ | refine heap_drewN ?_ _ | refine heap_drew ?_)) hb)
  have HBr_0 := cell_of HBr.out 0
  have HBr_1 := cell_of HBr.out 1
  have HBr_2 := cell_of HBr.out 2
  have HBr_3 := cell_of HBr.out 3
  have HBr_4 := cell_of HBr.out 4
  have K := below_call (w0 := w2) (by repeat (first | exact Below.refl _ _ | refine below_alloc ?_ _ | refine below_drewN ?_ _ | refine Below.drew ?_)) hb
  replace RT := Lib.hid (RT.out.call K)
  replace RD := Lib.hid (RD.out.call K)
  replace RS := Lib.hid (RS.out.call K)
  replace RL := Lib.hid (RL.out.call K)
  replace HSO := Lib.hid (HSO.out.call K)
  replace BEL := Lib.hid (below_call (w0 := w) BEL.out K)
  clear hb K
  rw [← NN.out] at hrep
  generalize Rf.code pn = ce1 at *
  obtain ⟨off1, sv1, ws1, rfl, hx1⟩ := hrep
  obtain ⟨A1, c1, rfl⟩ := hx1.sl.len
  generalize hm1 : ws1.length = m1 at *
  obtain ⟨lo1, hlo1⟩ : ∃ x, x = nn.headD 0 := ⟨_, rfl⟩
  obtain ⟨hi1, hhi1⟩ : ∃ x, x = nn.getLastD 0 := ⟨_, rfl⟩
  have e1 : Dm.val off1 (.slice A1 m1 c1) nn = .agg #[.int .i64 off1, .slice A1 m1 c1, .int .i64 lo1, .int .i64 hi1, .int .i64 n1] := by unfold Dm.val; rw [hlo1, hhi1, N1.out]
  have RD1 : Hid (Dm.Rep w3 (.agg #[.int .i64 off1, .slice A1 m1 c1, .int .i64 lo1, .int .i64 hi1, .int .i64 n1]) nn) := by
    rw [← e1, ← hm1]
    exact ⟨off1, _, ws1, rfl, by rw [hm1]; exact hx1⟩
  rw [e1]
  clear hx1 hm1 e1 hlo1 hhi1 hown
  have HB1 := Lib.hid (heap_new w3 (.cells #[.int .i64 off1, .slice A1 m1 c1, .int .i64 lo1, .int .i64 hi1, .int .i64 n1] 25))
  clear HBd_0 HBd_1 HBd_2 HBd_3 HBd_4
  replace HBd := Lib.hid (heap_alloc HBd.out (.cells #[.int .i64 off1, .slice A1 m1 c1, .int .i64 lo1, .int .i64 hi1, .int .i64 n1] 25))
  have HBd_0 := cell_of HBd.out 0
  have HBd_1 := cell_of HBd.out 1
  have HBd_2 := cell_of HBd.out 2
  have HBd_3 := cell_of HBd.out 3
  have HBd_4 := cell_of HBd.out 4
  clear HBa_0 HBa_1 HBa_2
  replace HBa := Lib.hid (heap_alloc HBa.out (.cells #[.int .i64 off1, .slice A1 m1 c1, .int .i64 lo1, .int .i64 hi1, .int .i64 n1] 25))
  have HBa_0 := cell_of HBa.out 0
  have HBa_1 := cell_of HBa.out 1
  have HBa_2 := cell_of HBa.out 2
  clear HBr_0 HBr_1 HBr_2 HBr_3 HBr_4
  replace HBr := Lib.hid (heap_alloc HBr.out (.cells #[.int .i64 off1, .slice A1 m1 c1, .int .i64 lo1, .int .i64 hi1, .int .i64 n1] 25))
  have HBr_0 := cell_of HBr.out 0
  have HBr_1 := cell_of HBr.out 1
  have HBr_2 := cell_of HBr.out 2
  have HBr_3 := cell_of HBr.out 3
  have HBr_4 := cell_of HBr.out 4
  have HB1_0 := cell_of HB1.out 0
  have HB1_1 := cell_of HB1.out 1
  have HB1_2 := cell_of HB1.out 2
  have HB1_3 := cell_of HB1.out 3
  have HB1_4 := cell_of HB1.out 4
  go_wp2_with fail
  have hz3 : Hid (w.heap.size ≤ w3.heap.size) := Lib.hid BEL.out.size
  refine (ref_of so pn _ (HSO.out.call (by repeat (first | exact Below.refl _ _ | refine below_alloc ?_ _ | refine below_drewN ?_ _ | refine Below.drew ?_))) NNL.out).mono ?_
  rintro e w4 ⟨so2, rfl, ⟨hso, hb⟩⟩
  clear HBd_0 HBd_1 HBd_2 HBd_3 HBd_4 HBa_0 HBa_1 HBa_2 HBr_0 HBr_1 HBr_2 HBr_3 HBr_4 HB1_0 HB1_1 HB1_2 HB1_3 HB1_4
  replace HBd := Lib.hid (heap_call (b := w.heap.size) (o := .cells #[.int .i64 offd, dv, .int .i64 lod, .int .i64 hid, .int .i64 nd] 25) (by repeat (first | exact HBd.out | refine heap_alloc ?_ _ | refine heap_drewN ?_ _ | refine heap_drew ?_)) hb)
  have HBd_0 := cell_of HBd.out 0
  have HBd_1 := cell_of HBd.out 1
  have HBd_2 := cell_of HBd.out 2
  have HBd_3 := cell_of HBd.out 3
  have HBd_4 := cell_of HBd.out 4
  replace HBa := Lib.hid (heap_call (b := (w.heap.size + 1)) (o := .cells #[.int .u8 dd, .int .i64 v, sL] 66) (by repeat (first | exact HBa.out | refine heap_alloc ?_ _ | refine heap_drewN ?_ _ | refine heap_drew ?_)) hb)
  have HBa_0 := cell_of HBa.out 0
  have HBa_1 := cell_of HBa.out 1
  have HBa_2 := cell_of HBa.out 2
  replace HBr := Lib.hid (heap_call (b := (w.heap.size + 1 + 1)) (o := .cells #[.int .i64 0, .slice none 0 0, .int .i64 0, .int .i64 0, .int .i64 0] 25) (by repeat (first | exact HBr.out | refine heap_alloc ?_ _ | refine heap_drewN ?_ _ | refine heap_drew ?_)) hb)
  have HBr_0 := cell_of HBr.out 0
  have HBr_1 := cell_of HBr.out 1
  have HBr_2 := cell_of HBr.out 2
  have HBr_3 := cell_of HBr.out 3
  have HBr_4 := cell_of HBr.out 4
  replace HB1 := Lib.hid (heap_call (b := w3.heap.size) (o := .cells #[.int .i64 off1, .slice A1 m1 c1, .int .i64 lo1, .int .i64 hi1, .int .i64 n1] 25) (by repeat (first | exact HB1.out | refine heap_alloc ?_ _ | refine heap_drewN ?_ _ | refine heap_drew ?_)) hb)
  have HB1_0 := cell_of HB1.out 0
  have HB1_1 := cell_of HB1.out 1
  have HB1_2 := cell_of HB1.out 2
  have HB1_3 := cell_of HB1.out 3
  have HB1_4 := cell_of HB1.out 4
  have K := below_call (w0 := w3) (by repeat (first | exact Below.refl _ _ | refine below_alloc ?_ _ | refine below_drewN ?_ _ | refine Below.drew ?_)) hb
  replace RT := Lib.hid (RT.out.call K)
  replace RD := Lib.hid (RD.out.call K)
  replace RS := Lib.hid (RS.out.call K)
  replace RL := Lib.hid (RL.out.call K)
  replace HSO := Lib.hid (HSO.out.call K)
  replace RD1 := Lib.hid (RD1.out.call K)
  replace BEL := Lib.hid (below_call (w0 := w) BEL.out K)
  clear hb K
  rw [← NN.out] at hso
  generalize Rf.code pn = ce2 at *
  have HSN := Lib.hid hso.sl
  have hsz3 := BEL.out.size
  have ONN : Hid (∀ b, so2.ownBlock = some b → w.heap.size < b) := Lib.hid fun b hb2 => by have h1 := hso.own b hb2; have h2 := hz3.out; simp at h1; omega
  clear hso hsz3
  go_wp2_with fail
  have hz4 : Hid (w.heap.size + 1 + 1 < w4.heap.size) := Lib.hid (heap_lt HBr.out)
  refine (dom_atleast _ l v _ (RD.out.call (by repeat (first | exact Below.refl _ _ | refine below_alloc ?_ _ | refine below_drewN ?_ _ | refine Below.drew ?_))) (RT.out.call (by repeat (first | exact Below.refl _ _ | refine below_alloc ?_ _ | refine below_drewN ?_ _ | refine Below.drew ?_)))).mono ?_
  rintro e w5 ⟨v', rfl, hrep, hb, hown⟩
  clear HBd_0 HBd_1 HBd_2 HBd_3 HBd_4 HBa_0 HBa_1 HBa_2 HBr_0 HBr_1 HBr_2 HBr_3 HBr_4 HB1_0 HB1_1 HB1_2 HB1_3 HB1_4
  replace HBd := Lib.hid (heap_call (b := w.heap.size) (o := .cells #[.int .i64 offd, dv, .int .i64 lod, .int .i64 hid, .int .i64 nd] 25) (by repeat (first | exact HBd.out | refine heap_alloc ?_ _ | refine heap_drewN ?_ _ | refine heap_drew ?_)) hb)
  have HBd_0 := cell_of HBd.out 0
  have HBd_1 := cell_of HBd.out 1
  have HBd_2 := cell_of HBd.out 2
  have HBd_3 := cell_of HBd.out 3
  have HBd_4 := cell_of HBd.out 4
  replace HBa := Lib.hid (heap_call (b := (w.heap.size + 1)) (o := .cells #[.int .u8 dd, .int .i64 v, sL] 66) (by repeat (first | exact HBa.out | refine heap_alloc ?_ _ | refine heap_drewN ?_ _ | refine heap_drew ?_)) hb)
  have HBa_0 := cell_of HBa.out 0
  have HBa_1 := cell_of HBa.out 1
  have HBa_2 := cell_of HBa.out 2
  replace HBr := Lib.hid (heap_call (b := (w.heap.size + 1 + 1)) (o := .cells #[.int .i64 0, .slice none 0 0, .int .i64 0, .int .i64 0, .int .i64 0] 25) (by repeat (first | exact HBr.out | refine heap_alloc ?_ _ | refine heap_drewN ?_ _ | refine heap_drew ?_)) hb)
  have HBr_0 := cell_of HBr.out 0
  have HBr_1 := cell_of HBr.out 1
  have HBr_2 := cell_of HBr.out 2
  have HBr_3 := cell_of HBr.out 3
  have HBr_4 := cell_of HBr.out 4
  replace HB1 := Lib.hid (heap_call (b := w3.heap.size) (o := .cells #[.int .i64 off1, .slice A1 m1 c1, .int .i64 lo1, .int .i64 hi1, .int .i64 n1] 25) (by repeat (first | exact HB1.out | refine heap_alloc ?_ _ | refine heap_drewN ?_ _ | refine heap_drew ?_)) hb)
  have HB1_0 := cell_of HB1.out 0
  have HB1_1 := cell_of HB1.out 1
  have HB1_2 := cell_of HB1.out 2
  have HB1_3 := cell_of HB1.out 3
  have HB1_4 := cell_of HB1.out 4
  have K := below_call (w0 := w4) (by repeat (first | exact Below.refl _ _ | refine below_alloc ?_ _ | refine below_drewN ?_ _ | refine Below.drew ?_)) hb
  replace RT := Lib.hid (RT.out.call K)
  replace RD := Lib.hid (RD.out.call K)
  replace RS := Lib.hid (RS.out.call K)
  replace RL := Lib.hid (RL.out.call K)
  replace HSO := Lib.hid (HSO.out.call K)
  replace RD1 := Lib.hid (RD1.out.call K)
  replace HSN := Lib.hid (HSN.out.call K)
  replace BEL := Lib.hid (below_call (w0 := w) BEL.out K)
  clear hb K
  rw [HO.out] at hrep ⊢
  obtain ⟨ch, hch⟩ : ∃ z, z = Dm.chg l out := ⟨_, rfl⟩
  rw [← hch]
  have CHE := Lib.hid hch
  clear hch
  obtain ⟨off2, sv2, ws2, rfl, hx2⟩ := hrep
  obtain ⟨A2, c2, rfl⟩ := hx2.sl.len
  generalize hm2 : ws2.length = m2 at *
  obtain ⟨lo2, hlo2⟩ : ∃ x, x = out.headD 0 := ⟨_, rfl⟩
  obtain ⟨hi2, hhi2⟩ : ∃ x, x = out.getLastD 0 := ⟨_, rfl⟩
  have e2 : Dm.val off2 (.slice A2 m2 c2) out = .agg #[.int .i64 off2, .slice A2 m2 c2, .int .i64 lo2, .int .i64 hi2, .int .i64 n2] := by unfold Dm.val; rw [hlo2, hhi2, N2.out]
  rw [e2] at hown ⊢
  have HX2 := Lib.hid hx2
  have OWN2 : Hid (∀ b, (Value.slice A2 m2 c2).ownBlock = some b → (Dm.wb od = some b ∧ b < w.heap.size) ∨ w.heap.size + 1 + 1 < b) := Lib.hid fun b hb2 => by
    rcases hown b hb2 with h | h
    · have h1 : Dm.wb d = some b := by rw [HDE.out]; exact h
      exact Or.inl ⟨by rw [HOD.out]; exact h1, WB.out b h1⟩
    · right; have := hz4.out; try simp at h
      omega
  have L2 := Lib.hid hlo2
  have I2 := Lib.hid hhi2
  have M2 := Lib.hid hm2
  clear hx2 hm2 e2 hlo2 hhi2 hown
  have fd0 := frozen_of HBd.out 0
  have fd1 := frozen_of HBd.out 1
  have fd2 := frozen_of HBd.out 2
  have fd3 := frozen_of HBd.out 3
  have fd4 := frozen_of HBd.out 4
  have FR : Hid (∀ u0 u1 u2 u3 u4 : Value, Fr (fun k => k = w.heap.size) w5 (((((w5.setCell ⟨w.heap.size, 0, none⟩ u0).setCell ⟨w.heap.size, 1, none⟩ u1).setCell ⟨w.heap.size, 2, none⟩ u2).setCell ⟨w.heap.size, 3, none⟩ u3).setCell ⟨w.heap.size, 4, none⟩ u4)) := Lib.hid fun u0 u1 u2 u3 u4 => by
    refine Fr.set (Fr.set (Fr.set (Fr.set (Fr.set (Fr.refl _ _) ?_ _) ?_ _) ?_ _) ?_ _) ?_ _
    all_goals exact fun _ => rfl
  have CK := Lib.hid (fun u0 u1 u2 u3 u4 => ref_keep2 (.slice AS l.length cS) so2 l nn v _ (RS.out.kept (FR.out u0 u1 u2 u3 u4) (fun b hb e => by have h1 := OWNL.out b hb; have h2 : b = w.heap.size := e; omega)) (HSN.out.kept (FR.out u0 u1 u2 u3 u4) (fun b hb e => by have h1 := ONN.out b hb; have h2 : b = w.heap.size := e; omega)) (by have := LL.out; omega))
  go_wp2_with fail
  refine (CK.out _ _ _ _ _).mono ?_
  rintro e w7 ⟨so3, rfl, hso3, hb⟩
  rw [← HO2.out] at hso3 ⊢
  rw [← CHE.out]
  have HD2 : Hid (w7.heap[w.heap.size]? = some (.cells #[.int .i64 off2, .slice A2 m2 c2, .int .i64 lo2, .int .i64 hi2, .int .i64 n2] 25 (0, 0))) := Lib.hid (by
    have := heap_call (heap_set (heap_set (heap_set (heap_set (heap_set HBd.out 0 (.int .i64 off2)) 1 (.slice A2 m2 c2)) 2 (.int .i64 lo2)) 3 (.int .i64 hi2)) 4 (.int .i64 n2)) hb
    simpa using this)
  have hne : w.heap.size + 1 + 1 ≠ w.heap.size := by omega
  have HR2 : Hid (w7.heap[w.heap.size + 1 + 1]? = some (.cells #[.int .i64 0, .slice none 0 0, .int .i64 0, .int .i64 0, .int .i64 0] 25 (0, 0))) := Lib.hid (heap_call (heap_far (heap_far (heap_far (heap_far (heap_far HBr.out hne _) hne _) hne _) hne _) hne _) hb)
  have HX7 : Hid (Dm.RepX w7 off2 (.slice A2 m2 c2) ws2 out) := Lib.hid ((HX2.out.kept (FR.out _ _ _ _ _) (fun b hb2 e => by
    have h2 : b = w.heap.size := e
    rcases OWN2.out b hb2 with h | h <;> omega)).call hb)
  have BE7 : Hid (Below w.heap.size w w7) := Lib.hid (Fr.below (c := w7) BEL.out (((FR.out _ _ _ _ _).trans2 (Fr.of_below (S := fun _ => False) hb) (fun _ _ h => h.elim))) (fun i e => by have h2 : i = w.heap.size := e; omega))
  have SO7 : Hid (Sl w7 3 1 so3 out.length (Iv out)) := Lib.hid hso3.sl
  have OS7 : Hid (∀ b, so3.ownBlock = some b → w.heap.size + 1 + 1 < b) := Lib.hid fun b hb2 => by
    have h1 := hso3.own b hb2
    have h2 := hz4.out
    have h3 := BEL.out.size
    have h4 := heap_lt HBr.out
    simp [World.setCell] at h1
    omega
  clear HBd_0 HBd_1 HBd_2 HBd_3 HBd_4 HBa_0 HBa_1 HBa_2 HBr_0 HBr_1 HBr_2 HBr_3 HBr_4 HB1_0 HB1_1 HB1_2 HB1_3 HB1_4 fd0 fd1 fd2 fd3 fd4 hso3 hb
  have x0 := cell_of HD2.out 0
  have x1 := cell_of HD2.out 1
  have x2 := cell_of HD2.out 2
  have x3 := cell_of HD2.out 3
  have x4 := cell_of HD2.out 4
  have r0 := cell_of HR2.out 0
  have r1 := cell_of HR2.out 1
  have r2 := cell_of HR2.out 2
  have r3 := cell_of HR2.out 3
  have r4 := cell_of HR2.out 4
  have f0 := frozen_of HR2.out 0
  have f1 := frozen_of HR2.out 1
  have f2 := frozen_of HR2.out 2
  have f3 := frozen_of HR2.out 3
  have f4 := frozen_of HR2.out 4
  go_wp2_with fail
  refine bodyPost_ret (v := .tuple #[.agg #[.int .i64 off2, .slice A2 m2 c2, .int .i64 lo2, .int .i64 hi2, .int .i64 n2], so3, .bool true]) (by simp [results, Tryd.results42, go_sem, r0, r1, r2, r3, r4]) rfl ?_
  refine Rf.acted_put (w2 := w7) (B := w.heap.size + 1 + 1) HX7.out L2.out.symm I2.out.symm N2.out.symm ?_ BE7.out OWN2.out (by omega) SO7.out OS7.out
  refine Fr.set (Fr.set (Fr.set (Fr.set (Fr.set (Fr.refl _ _) ?_ _) ?_ _) ?_ _) ?_ _) ?_ _
  all_goals exact fun _ => rfl
set_option maxHeartbeats 8000000 in
set_option maxRecDepth 100000 in
theorem law2_less3 (d sv sL : Value) (l L : List Int) (dd v : Int) (w : World) (hd : Dm.Rep w d l) (hs : Sl w 3 1 sv l.length (Iv l)) (hL : Rd w sL L) (hl : l.length < 16000000000000) (b0 : 0 ≤ dd ∧ dd ≤ 255) (hk : dd % 6 = 3) (b1 : -9223372036854775808 ≤ v ∧ v ≤ 9223372036854775807) (hT : Tab w) :
    Calls Tryd.prog 42 #[d, sv, .agg #[.int .u8 dd, .int .i64 v, sL]] w (Rf.Acted d (l.filter (Rf.stays 3 v (Rf.of (Rf.near L)))) w) := by
  have RT := Lib.hid hT
  have RD := Lib.hid hd
  have RS := Lib.hid hs
  have RL := Lib.hid hL
  have W0 : Hid (0 < w.heap.size) := Lib.hid hT.lt
  have WB := Lib.hid (Dm.wb_lt hd)
  have BEL := Lib.hid (Below.refl w.heap.size w)
  obtain ⟨pn, hpn⟩ : ∃ p, p = Rf.near L := ⟨_, rfl⟩
  obtain ⟨nn, hnn⟩ : ∃ p, p = Rf.of pn := ⟨_, rfl⟩
  have PN := Lib.hid hpn
  have NN := Lib.hid hnn
  have NNL : Hid (pn.length < 16000000000000) := Lib.hid (by rw [hpn]; have := Rf.near_length L; omega)
  rw [← hpn, ← hnn]
  obtain ⟨out, hout⟩ : ∃ p, p = l.filter (Rf.stays 3 v nn) := ⟨_, rfl⟩
  have HO : Hid (l.filter (fun u => decide (u ≤ v)) = out) := Lib.hid hout.symm
  have HO2 := Lib.hid hout
  rw [← hout]
  obtain ⟨n1, hn1⟩ : ∃ n, n = nn.length := ⟨_, rfl⟩
  have N1 := Lib.hid hn1
  obtain ⟨n2, hn2⟩ : ∃ n, n = out.length := ⟨_, rfl⟩
  have N2 := Lib.hid hn2
  have LL := Lib.hid hl
  obtain ⟨offd, dv, wsd, hde, hxd⟩ := hd
  have HDE := Lib.hid hde
  obtain ⟨od, hod⟩ : ∃ z : Value, z = d := ⟨_, rfl⟩
  have HOD := Lib.hid hod
  rw [show Rf.Acted d out w = Rf.Acted od out w from by rw [hod]]
  rw [hde] at RD ⊢
  unfold Dm.val at *
  generalize l.headD 0 = lod at *
  generalize l.getLastD 0 = hid at *
  obtain ⟨nd, hnd⟩ : ∃ n, n = l.length := ⟨_, rfl⟩
  rw [← hnd] at RD ⊢
  have ND := Lib.hid hnd
  obtain ⟨AS, cS, hse⟩ := hs.len
  have OWNL : Hid (∀ b, sv.ownBlock = some b → b < w.heap.size) := Lib.hid fun b hb => Sl.lt hs hb
  clear hT hs hL hpn hnn hout hn1 hn2 hl hde hxd hod hnd
  subst hse
  go_enter Tryd.func42, Tryd.ntmps42
  go_wp2_with fail
  have HBd := Lib.hid (heap_alloc (heap_alloc (heap_new w (.cells #[.int .i64 offd, dv, .int .i64 lod, .int .i64 hid, .int .i64 nd] 25)) (.cells #[.int .u8 dd, .int .i64 v, sL] 66)) (.cells #[.int .i64 0, .slice none 0 0, .int .i64 0, .int .i64 0, .int .i64 0] 25))
  have ha1 := heap_alloc (heap_new (w.alloc (.cells #[.int .i64 offd, dv, .int .i64 lod, .int .i64 hid, .int .i64 nd] 25)) (.cells #[.int .u8 dd, .int .i64 v, sL] 66)) (.cells #[.int .i64 0, .slice none 0 0, .int .i64 0, .int .i64 0, .int .i64 0] 25)
  rw [show (w.alloc (.cells #[.int .i64 offd, dv, .int .i64 lod, .int .i64 hid, .int .i64 nd] 25)).heap.size = w.heap.size + 1 from by simp] at ha1
  have HBa := Lib.hid ha1
  have hr1 := heap_new ((w.alloc (.cells #[.int .i64 offd, dv, .int .i64 lod, .int .i64 hid, .int .i64 nd] 25)).alloc (.cells #[.int .u8 dd, .int .i64 v, sL] 66)) (.cells #[.int .i64 0, .slice none 0 0, .int .i64 0, .int .i64 0, .int .i64 0] 25)
  rw [show ((w.alloc (.cells #[.int .i64 offd, dv, .int .i64 lod, .int .i64 hid, .int .i64 nd] 25)).alloc (.cells #[.int .u8 dd, .int .i64 v, sL] 66)).heap.size = w.heap.size + 1 + 1 from by simp] at hr1
  have HBr := Lib.hid hr1
  clear ha1 hr1
  refine (law2_near_rd sL L _ (RL.out.call (by repeat (first | exact Below.refl _ _ | refine below_alloc ?_ _ | refine below_drewN ?_ _ | refine Below.drew ?_)))).mono ?_
  rintro e w2 ⟨so, rfl, ⟨hso, hb⟩⟩
  replace HBd := Lib.hid (heap_call (b := w.heap.size) (o := .cells #[.int .i64 offd, dv, .int .i64 lod, .int .i64 hid, .int .i64 nd] 25) (by repeat (first | exact HBd.out | refine heap_alloc ?_ _ | refine heap_drewN ?_ _ | refine heap_drew ?_)) hb)
  have HBd_0 := cell_of HBd.out 0
  have HBd_1 := cell_of HBd.out 1
  have HBd_2 := cell_of HBd.out 2
  have HBd_3 := cell_of HBd.out 3
  have HBd_4 := cell_of HBd.out 4
  replace HBa := Lib.hid (heap_call (b := (w.heap.size + 1)) (o := .cells #[.int .u8 dd, .int .i64 v, sL] 66) (by repeat (first | exact HBa.out | refine heap_alloc ?_ _ | refine heap_drewN ?_ _ | refine heap_drew ?_)) hb)
  have HBa_0 := cell_of HBa.out 0
  have HBa_1 := cell_of HBa.out 1
  have HBa_2 := cell_of HBa.out 2
  replace HBr := Lib.hid (heap_call (b := (w.heap.size + 1 + 1)) (o := .cells #[.int .i64 0, .slice none 0 0, .int .i64 0, .int .i64 0, .int .i64 0] 25) (by repeat (first | exact HBr.out | refine heap_alloc ?_ _ | refine heap_drewN ?_ _ | refine heap_drew ?_)) hb)
  have HBr_0 := cell_of HBr.out 0
  have HBr_1 := cell_of HBr.out 1
  have HBr_2 := cell_of HBr.out 2
  have HBr_3 := cell_of HBr.out 3
  have HBr_4 := cell_of HBr.out 4
  have K := below_call (w0 := w) (by repeat (first | exact Below.refl _ _ | refine below_alloc ?_ _ | refine below_drewN ?_ _ | refine Below.drew ?_)) hb
  replace RT := Lib.hid (RT.out.call K)
  replace RD := Lib.hid (RD.out.call K)
  replace RS := Lib.hid (RS.out.call K)
  replace RL := Lib.hid (RL.out.call K)
  replace BEL := Lib.hid (below_call (w0 := w) BEL.out K)
  clear hb K
  rw [← PN.out] at hso
  have HSO := Lib.hid hso.sl
  clear hso
  go_wp2_with fail
  refine (dom_of so pn _ (HSO.out.call (by repeat (first | exact Below.refl _ _ | refine below_alloc ?_ _ | refine below_drewN ?_ _ | refine Below.drew ?_))) (RT.out.call (by repeat (first | exact Below.refl _ _ | refine below_alloc ?_ _ | refine below_drewN ?_ _ | refine Below.drew ?_)))).mono ?_
  rintro e w3 ⟨v', rfl, hrep, hb, hown⟩
  clear HBd_0 HBd_1 HBd_2 HBd_3 HBd_4 HBa_0 HBa_1 HBa_2 HBr_0 HBr_1 HBr_2 HBr_3 HBr_4
  replace HBd := Lib.hid (heap_call (b := w.heap.size) (o := .cells #[.int .i64 offd, dv, .int .i64 lod, .int .i64 hid, .int .i64 nd] 25) (by repeat (first | exact HBd.out | refine heap_alloc ?_ _ | refine heap_drewN ?_ _ | refine heap_drew ?_)) hb)
  have HBd_0 := cell_of HBd.out 0
  have HBd_1 := cell_of HBd.out 1
  have HBd_2 := cell_of HBd.out 2
  have HBd_3 := cell_of HBd.out 3
  have HBd_4 := cell_of HBd.out 4
  replace HBa := Lib.hid (heap_call (b := (w.heap.size + 1)) (o := .cells #[.int .u8 dd, .int .i64 v, sL] 66) (by repeat (first | exact HBa.out | refine heap_alloc ?_ _ | refine heap_drewN ?_ _ | refine heap_drew ?_)) hb)
  have HBa_0 := cell_of HBa.out 0
  have HBa_1 := cell_of HBa.out 1
  have HBa_2 := cell_of HBa.out 2
  replace HBr := Lib.hid (heap_call (b := (w.heap.size + 1 + 1)) (o := .cells #[.int .i64 0, .slice none 0 0, .int .i64 0, .int .i64 0, .int .i64 0] 25) (by repeat (first | exact HBr.out | refine heap_alloc ?_ _ | refine heap_drewN ?_ _ | refine heap_drew ?_)) hb)
  have HBr_0 := cell_of HBr.out 0
  have HBr_1 := cell_of HBr.out 1
  have HBr_2 := cell_of HBr.out 2
  have HBr_3 := cell_of HBr.out 3
  have HBr_4 := cell_of HBr.out 4
  have K := below_call (w0 := w2) (by repeat (first | exact Below.refl _ _ | refine below_alloc ?_ _ | refine below_drewN ?_ _ | refine Below.drew ?_)) hb
  replace RT := Lib.hid (RT.out.call K)
  replace RD := Lib.hid (RD.out.call K)
  replace RS := Lib.hid (RS.out.call K)
  replace RL := Lib.hid (RL.out.call K)
  replace HSO := Lib.hid (HSO.out.call K)
  replace BEL := Lib.hid (below_call (w0 := w) BEL.out K)
  clear hb K
  rw [← NN.out] at hrep
  generalize Rf.code pn = ce1 at *
  obtain ⟨off1, sv1, ws1, rfl, hx1⟩ := hrep
  obtain ⟨A1, c1, rfl⟩ := hx1.sl.len
  generalize hm1 : ws1.length = m1 at *
  obtain ⟨lo1, hlo1⟩ : ∃ x, x = nn.headD 0 := ⟨_, rfl⟩
  obtain ⟨hi1, hhi1⟩ : ∃ x, x = nn.getLastD 0 := ⟨_, rfl⟩
  have e1 : Dm.val off1 (.slice A1 m1 c1) nn = .agg #[.int .i64 off1, .slice A1 m1 c1, .int .i64 lo1, .int .i64 hi1, .int .i64 n1] := by unfold Dm.val; rw [hlo1, hhi1, N1.out]
  have RD1 : Hid (Dm.Rep w3 (.agg #[.int .i64 off1, .slice A1 m1 c1, .int .i64 lo1, .int .i64 hi1, .int .i64 n1]) nn) := by
    rw [← e1, ← hm1]
    exact ⟨off1, _, ws1, rfl, by rw [hm1]; exact hx1⟩
  rw [e1]
  clear hx1 hm1 e1 hlo1 hhi1 hown
  have HB1 := Lib.hid (heap_new w3 (.cells #[.int .i64 off1, .slice A1 m1 c1, .int .i64 lo1, .int .i64 hi1, .int .i64 n1] 25))
  clear HBd_0 HBd_1 HBd_2 HBd_3 HBd_4
  replace HBd := Lib.hid (heap_alloc HBd.out (.cells #[.int .i64 off1, .slice A1 m1 c1, .int .i64 lo1, .int .i64 hi1, .int .i64 n1] 25))
  have HBd_0 := cell_of HBd.out 0
  have HBd_1 := cell_of HBd.out 1
  have HBd_2 := cell_of HBd.out 2
  have HBd_3 := cell_of HBd.out 3
  have HBd_4 := cell_of HBd.out 4
  clear HBa_0 HBa_1 HBa_2
  replace HBa := Lib.hid (heap_alloc HBa.out (.cells #[.int .i64 off1, .slice A1 m1 c1, .int .i64 lo1, .int .i64 hi1, .int .i64 n1] 25))
  have HBa_0 := cell_of HBa.out 0
  have HBa_1 := cell_of HBa.out 1
  have HBa_2 := cell_of HBa.out 2
  clear HBr_0 HBr_1 HBr_2 HBr_3 HBr_4
  replace HBr := Lib.hid (heap_alloc HBr.out (.cells #[.int .i64 off1, .slice A1 m1 c1, .int .i64 lo1, .int .i64 hi1, .int .i64 n1] 25))
  have HBr_0 := cell_of HBr.out 0
  have HBr_1 := cell_of HBr.out 1
  have HBr_2 := cell_of HBr.out 2
  have HBr_3 := cell_of HBr.out 3
  have HBr_4 := cell_of HBr.out 4
  have HB1_0 := cell_of HB1.out 0
  have HB1_1 := cell_of HB1.out 1
  have HB1_2 := cell_of HB1.out 2
  have HB1_3 := cell_of HB1.out 3
  have HB1_4 := cell_of HB1.out 4
  go_wp2_with fail
  have hz3 : Hid (w.heap.size ≤ w3.heap.size) := Lib.hid BEL.out.size
  refine (ref_of so pn _ (HSO.out.call (by repeat (first | exact Below.refl _ _ | refine below_alloc ?_ _ | refine below_drewN ?_ _ | refine Below.drew ?_))) NNL.out).mono ?_
  rintro e w4 ⟨so2, rfl, ⟨hso, hb⟩⟩
  clear HBd_0 HBd_1 HBd_2 HBd_3 HBd_4 HBa_0 HBa_1 HBa_2 HBr_0 HBr_1 HBr_2 HBr_3 HBr_4 HB1_0 HB1_1 HB1_2 HB1_3 HB1_4
  replace HBd := Lib.hid (heap_call (b := w.heap.size) (o := .cells #[.int .i64 offd, dv, .int .i64 lod, .int .i64 hid, .int .i64 nd] 25) (by repeat (first | exact HBd.out | refine heap_alloc ?_ _ | refine heap_drewN ?_ _ | refine heap_drew ?_)) hb)
  have HBd_0 := cell_of HBd.out 0
  have HBd_1 := cell_of HBd.out 1
  have HBd_2 := cell_of HBd.out 2
  have HBd_3 := cell_of HBd.out 3
  have HBd_4 := cell_of HBd.out 4
  replace HBa := Lib.hid (heap_call (b := (w.heap.size + 1)) (o := .cells #[.int .u8 dd, .int .i64 v, sL] 66) (by repeat (first | exact HBa.out | refine heap_alloc ?_ _ | refine heap_drewN ?_ _ | refine heap_drew ?_)) hb)
  have HBa_0 := cell_of HBa.out 0
  have HBa_1 := cell_of HBa.out 1
  have HBa_2 := cell_of HBa.out 2
  replace HBr := Lib.hid (heap_call (b := (w.heap.size + 1 + 1)) (o := .cells #[.int .i64 0, .slice none 0 0, .int .i64 0, .int .i64 0, .int .i64 0] 25) (by repeat (first | exact HBr.out | refine heap_alloc ?_ _ | refine heap_drewN ?_ _ | refine heap_drew ?_)) hb)
  have HBr_0 := cell_of HBr.out 0
  have HBr_1 := cell_of HBr.out 1
  have HBr_2 := cell_of HBr.out 2
  have HBr_3 := cell_of HBr.out 3
  have HBr_4 := cell_of HBr.out 4
  replace HB1 := Lib.hid (heap_call (b := w3.heap.size) (o := .cells #[.int .i64 off1, .slice A1 m1 c1, .int .i64 lo1, .int .i64 hi1, .int .i64 n1] 25) (by repeat (first | exact HB1.out | refine heap_alloc ?_ _ | refine heap_drewN ?_ _ | refine heap_drew ?_)) hb)
  have HB1_0 := cell_of HB1.out 0
  have HB1_1 := cell_of HB1.out 1
  have HB1_2 := cell_of HB1.out 2
  have HB1_3 := cell_of HB1.out 3
  have HB1_4 := cell_of HB1.out 4
  have K := below_call (w0 := w3) (by repeat (first | exact Below.refl _ _ | refine below_alloc ?_ _ | refine below_drewN ?_ _ | refine Below.drew ?_)) hb
  replace RT := Lib.hid (RT.out.call K)
  replace RD := Lib.hid (RD.out.call K)
  replace RS := Lib.hid (RS.out.call K)
  replace RL := Lib.hid (RL.out.call K)
  replace HSO := Lib.hid (HSO.out.call K)
  replace RD1 := Lib.hid (RD1.out.call K)
  replace BEL := Lib.hid (below_call (w0 := w) BEL.out K)
  clear hb K
  rw [← NN.out] at hso
  generalize Rf.code pn = ce2 at *
  have HSN := Lib.hid hso.sl
  have hsz3 := BEL.out.size
  have ONN : Hid (∀ b, so2.ownBlock = some b → w.heap.size < b) := Lib.hid fun b hb2 => by have h1 := hso.own b hb2; have h2 := hz3.out; simp at h1; omega
  clear hso hsz3
  go_wp2_with fail
  have hz4 : Hid (w.heap.size + 1 + 1 < w4.heap.size) := Lib.hid (heap_lt HBr.out)
  refine (dom_atmost _ l v _ (RD.out.call (by repeat (first | exact Below.refl _ _ | refine below_alloc ?_ _ | refine below_drewN ?_ _ | refine Below.drew ?_))) (RT.out.call (by repeat (first | exact Below.refl _ _ | refine below_alloc ?_ _ | refine below_drewN ?_ _ | refine Below.drew ?_)))).mono ?_
  rintro e w5 ⟨v', rfl, hrep, hb, hown⟩
  clear HBd_0 HBd_1 HBd_2 HBd_3 HBd_4 HBa_0 HBa_1 HBa_2 HBr_0 HBr_1 HBr_2 HBr_3 HBr_4 HB1_0 HB1_1 HB1_2 HB1_3 HB1_4
  replace HBd := Lib.hid (heap_call (b := w.heap.size) (o := .cells #[.int .i64 offd, dv, .int .i64 lod, .int .i64 hid, .int .i64 nd] 25) (by repeat (first | exact HBd.out | refine heap_alloc ?_ _ | refine heap_drewN ?_ _ | refine heap_drew ?_)) hb)
  have HBd_0 := cell_of HBd.out 0
  have HBd_1 := cell_of HBd.out 1
  have HBd_2 := cell_of HBd.out 2
  have HBd_3 := cell_of HBd.out 3
  have HBd_4 := cell_of HBd.out 4
  replace HBa := Lib.hid (heap_call (b := (w.heap.size + 1)) (o := .cells #[.int .u8 dd, .int .i64 v, sL] 66) (by repeat (first | exact HBa.out | refine heap_alloc ?_ _ | refine heap_drewN ?_ _ | refine heap_drew ?_)) hb)
  have HBa_0 := cell_of HBa.out 0
  have HBa_1 := cell_of HBa.out 1
  have HBa_2 := cell_of HBa.out 2
  replace HBr := Lib.hid (heap_call (b := (w.heap.size + 1 + 1)) (o := .cells #[.int .i64 0, .slice none 0 0, .int .i64 0, .int .i64 0, .int .i64 0] 25) (by repeat (first | exact HBr.out | refine heap_alloc ?_ _ | refine heap_drewN ?_ _ | refine heap_drew ?_)) hb)
  have HBr_0 := cell_of HBr.out 0
  have HBr_1 := cell_of HBr.out 1
  have HBr_2 := cell_of HBr.out 2
  have HBr_3 := cell_of HBr.out 3
  have HBr_4 := cell_of HBr.out 4
  replace HB1 := Lib.hid (heap_call (b := w3.heap.size) (o := .cells #[.int .i64 off1, .slice A1 m1 c1, .int .i64 lo1, .int .i64 hi1, .int .i64 n1] 25) (by repeat (first | exact HB1.out | refine heap_alloc ?_ _ | refine heap_drewN ?_ _ | refine heap_drew ?_)) hb)
  have HB1_0 := cell_of HB1.out 0
  have HB1_1 := cell_of HB1.out 1
  have HB1_2 := cell_of HB1.out 2
  have HB1_3 := cell_of HB1.out 3
  have HB1_4 := cell_of HB1.out 4
  have K := below_call (w0 := w4) (by repeat (first | exact Below.refl _ _ | refine below_alloc ?_ _ | refine below_drewN ?_ _ | refine Below.drew ?_)) hb
  replace RT := Lib.hid (RT.out.call K)
  replace RD := Lib.hid (RD.out.call K)
  replace RS := Lib.hid (RS.out.call K)
  replace RL := Lib.hid (RL.out.call K)
  replace HSO := Lib.hid (HSO.out.call K)
  replace RD1 := Lib.hid (RD1.out.call K)
  replace HSN := Lib.hid (HSN.out.call K)
  replace BEL := Lib.hid (below_call (w0 := w) BEL.out K)
  clear hb K
  rw [HO.out] at hrep ⊢
  obtain ⟨ch, hch⟩ : ∃ z, z = Dm.chg l out := ⟨_, rfl⟩
  rw [← hch]
  have CHE := Lib.hid hch
  clear hch
  obtain ⟨off2, sv2, ws2, rfl, hx2⟩ := hrep
  obtain ⟨A2, c2, rfl⟩ := hx2.sl.len
  generalize hm2 : ws2.length = m2 at *
  obtain ⟨lo2, hlo2⟩ : ∃ x, x = out.headD 0 := ⟨_, rfl⟩
  obtain ⟨hi2, hhi2⟩ : ∃ x, x = out.getLastD 0 := ⟨_, rfl⟩
  have e2 : Dm.val off2 (.slice A2 m2 c2) out = .agg #[.int .i64 off2, .slice A2 m2 c2, .int .i64 lo2, .int .i64 hi2, .int .i64 n2] := by unfold Dm.val; rw [hlo2, hhi2, N2.out]
  rw [e2] at hown ⊢
  have HX2 := Lib.hid hx2
  have OWN2 : Hid (∀ b, (Value.slice A2 m2 c2).ownBlock = some b → (Dm.wb od = some b ∧ b < w.heap.size) ∨ w.heap.size + 1 + 1 < b) := Lib.hid fun b hb2 => by
    rcases hown b hb2 with h | h
    · have h1 : Dm.wb d = some b := by rw [HDE.out]; exact h
      exact Or.inl ⟨by rw [HOD.out]; exact h1, WB.out b h1⟩
    · right; have := hz4.out; try simp at h
      omega
  have L2 := Lib.hid hlo2
  have I2 := Lib.hid hhi2
  have M2 := Lib.hid hm2
  clear hx2 hm2 e2 hlo2 hhi2 hown
  have fd0 := frozen_of HBd.out 0
  have fd1 := frozen_of HBd.out 1
  have fd2 := frozen_of HBd.out 2
  have fd3 := frozen_of HBd.out 3
  have fd4 := frozen_of HBd.out 4
  have FR : Hid (∀ u0 u1 u2 u3 u4 : Value, Fr (fun k => k = w.heap.size) w5 (((((w5.setCell ⟨w.heap.size, 0, none⟩ u0).setCell ⟨w.heap.size, 1, none⟩ u1).setCell ⟨w.heap.size, 2, none⟩ u2).setCell ⟨w.heap.size, 3, none⟩ u3).setCell ⟨w.heap.size, 4, none⟩ u4)) := Lib.hid fun u0 u1 u2 u3 u4 => by
    refine Fr.set (Fr.set (Fr.set (Fr.set (Fr.set (Fr.refl _ _) ?_ _) ?_ _) ?_ _) ?_ _) ?_ _
    all_goals exact fun _ => rfl
  have CK := Lib.hid (fun u0 u1 u2 u3 u4 => ref_keep3 (.slice AS l.length cS) so2 l nn v _ (RS.out.kept (FR.out u0 u1 u2 u3 u4) (fun b hb e => by have h1 := OWNL.out b hb; have h2 : b = w.heap.size := e; omega)) (HSN.out.kept (FR.out u0 u1 u2 u3 u4) (fun b hb e => by have h1 := ONN.out b hb; have h2 : b = w.heap.size := e; omega)) (by have := LL.out; omega))
  go_wp2_with fail
  refine (CK.out _ _ _ _ _).mono ?_
  rintro e w7 ⟨so3, rfl, hso3, hb⟩
  rw [← HO2.out] at hso3 ⊢
  rw [← CHE.out]
  have HD2 : Hid (w7.heap[w.heap.size]? = some (.cells #[.int .i64 off2, .slice A2 m2 c2, .int .i64 lo2, .int .i64 hi2, .int .i64 n2] 25 (0, 0))) := Lib.hid (by
    have := heap_call (heap_set (heap_set (heap_set (heap_set (heap_set HBd.out 0 (.int .i64 off2)) 1 (.slice A2 m2 c2)) 2 (.int .i64 lo2)) 3 (.int .i64 hi2)) 4 (.int .i64 n2)) hb
    simpa using this)
  have hne : w.heap.size + 1 + 1 ≠ w.heap.size := by omega
  have HR2 : Hid (w7.heap[w.heap.size + 1 + 1]? = some (.cells #[.int .i64 0, .slice none 0 0, .int .i64 0, .int .i64 0, .int .i64 0] 25 (0, 0))) := Lib.hid (heap_call (heap_far (heap_far (heap_far (heap_far (heap_far HBr.out hne _) hne _) hne _) hne _) hne _) hb)
  have HX7 : Hid (Dm.RepX w7 off2 (.slice A2 m2 c2) ws2 out) := Lib.hid ((HX2.out.kept (FR.out _ _ _ _ _) (fun b hb2 e => by
    have h2 : b = w.heap.size := e
    rcases OWN2.out b hb2 with h | h <;> omega)).call hb)
  have BE7 : Hid (Below w.heap.size w w7) := Lib.hid (Fr.below (c := w7) BEL.out (((FR.out _ _ _ _ _).trans2 (Fr.of_below (S := fun _ => False) hb) (fun _ _ h => h.elim))) (fun i e => by have h2 : i = w.heap.size := e; omega))
  have SO7 : Hid (Sl w7 3 1 so3 out.length (Iv out)) := Lib.hid hso3.sl
  have OS7 : Hid (∀ b, so3.ownBlock = some b → w.heap.size + 1 + 1 < b) := Lib.hid fun b hb2 => by
    have h1 := hso3.own b hb2
    have h2 := hz4.out
    have h3 := BEL.out.size
    have h4 := heap_lt HBr.out
    simp [World.setCell] at h1
    omega
  clear HBd_0 HBd_1 HBd_2 HBd_3 HBd_4 HBa_0 HBa_1 HBa_2 HBr_0 HBr_1 HBr_2 HBr_3 HBr_4 HB1_0 HB1_1 HB1_2 HB1_3 HB1_4 fd0 fd1 fd2 fd3 fd4 hso3 hb
  have x0 := cell_of HD2.out 0
  have x1 := cell_of HD2.out 1
  have x2 := cell_of HD2.out 2
  have x3 := cell_of HD2.out 3
  have x4 := cell_of HD2.out 4
  have r0 := cell_of HR2.out 0
  have r1 := cell_of HR2.out 1
  have r2 := cell_of HR2.out 2
  have r3 := cell_of HR2.out 3
  have r4 := cell_of HR2.out 4
  have f0 := frozen_of HR2.out 0
  have f1 := frozen_of HR2.out 1
  have f2 := frozen_of HR2.out 2
  have f3 := frozen_of HR2.out 3
  have f4 := frozen_of HR2.out 4
  go_wp2_with fail
  refine bodyPost_ret (v := .tuple #[.agg #[.int .i64 off2, .slice A2 m2 c2, .int .i64 lo2, .int .i64 hi2, .int .i64 n2], so3, .bool true]) (by simp [results, Tryd.results42, go_sem, r0, r1, r2, r3, r4]) rfl ?_
  refine Rf.acted_put (w2 := w7) (B := w.heap.size + 1 + 1) HX7.out L2.out.symm I2.out.symm N2.out.symm ?_ BE7.out OWN2.out (by omega) SO7.out OS7.out
  refine Fr.set (Fr.set (Fr.set (Fr.set (Fr.set (Fr.refl _ _) ?_ _) ?_ _) ?_ _) ?_ _) ?_ _
  all_goals exact fun _ => rfl
set_option maxHeartbeats 8000000 in
set_option maxRecDepth 100000 in
theorem law2_less4 (d sv sL : Value) (l L : List Int) (dd v : Int) (w : World) (hd : Dm.Rep w d l) (hs : Sl w 3 1 sv l.length (Iv l)) (hL : Rd w sL L) (hl : l.length < 16000000000000) (b0 : 0 ≤ dd ∧ dd ≤ 255) (hk : dd % 6 = 4) (b1 : -9223372036854775808 ≤ v ∧ v ≤ 9223372036854775807) (hT : Tab w) :
    Calls Tryd.prog 42 #[d, sv, .agg #[.int .u8 dd, .int .i64 v, sL]] w (Rf.Acted d (l.filter (Rf.stays 4 v (Rf.of (Rf.near L)))) w) := by
  have RT := Lib.hid hT
  have RD := Lib.hid hd
  have RS := Lib.hid hs
  have RL := Lib.hid hL
  have W0 : Hid (0 < w.heap.size) := Lib.hid hT.lt
  have WB := Lib.hid (Dm.wb_lt hd)
  have BEL := Lib.hid (Below.refl w.heap.size w)
  obtain ⟨pn, hpn⟩ : ∃ p, p = Rf.near L := ⟨_, rfl⟩
  obtain ⟨nn, hnn⟩ : ∃ p, p = Rf.of pn := ⟨_, rfl⟩
  have PN := Lib.hid hpn
  have NN := Lib.hid hnn
  have NNL : Hid (pn.length < 16000000000000) := Lib.hid (by rw [hpn]; have := Rf.near_length L; omega)
  rw [← hpn, ← hnn]
  obtain ⟨out, hout⟩ : ∃ p, p = l.filter (Rf.stays 4 v nn) := ⟨_, rfl⟩
  have HO : Hid (l.filter (fun u => decide (u ∈ nn)) = out) := Lib.hid hout.symm
  have HO2 := Lib.hid hout
  rw [← hout]
  obtain ⟨n1, hn1⟩ : ∃ n, n = nn.length := ⟨_, rfl⟩
  have N1 := Lib.hid hn1
  obtain ⟨n2, hn2⟩ : ∃ n, n = out.length := ⟨_, rfl⟩
  have N2 := Lib.hid hn2
  have LL := Lib.hid hl
  obtain ⟨offd, dv, wsd, hde, hxd⟩ := hd
  have HDE := Lib.hid hde
  obtain ⟨od, hod⟩ : ∃ z : Value, z = d := ⟨_, rfl⟩
  have HOD := Lib.hid hod
  rw [show Rf.Acted d out w = Rf.Acted od out w from by rw [hod]]
  rw [hde] at RD ⊢
  unfold Dm.val at *
  generalize l.headD 0 = lod at *
  generalize l.getLastD 0 = hid at *
  obtain ⟨nd, hnd⟩ : ∃ n, n = l.length := ⟨_, rfl⟩
  rw [← hnd] at RD ⊢
  have ND := Lib.hid hnd
  obtain ⟨AS, cS, hse⟩ := hs.len
  have OWNL : Hid (∀ b, sv.ownBlock = some b → b < w.heap.size) := Lib.hid fun b hb => Sl.lt hs hb
  clear hT hs hL hpn hnn hout hn1 hn2 hl hde hxd hod hnd
  subst hse
  go_enter Tryd.func42, Tryd.ntmps42
  go_wp2_with fail
  have HBd := Lib.hid (heap_alloc (heap_alloc (heap_new w (.cells #[.int .i64 offd, dv, .int .i64 lod, .int .i64 hid, .int .i64 nd] 25)) (.cells #[.int .u8 dd, .int .i64 v, sL] 66)) (.cells #[.int .i64 0, .slice none 0 0, .int .i64 0, .int .i64 0, .int .i64 0] 25))
  have ha1 := heap_alloc (heap_new (w.alloc (.cells #[.int .i64 offd, dv, .int .i64 lod, .int .i64 hid, .int .i64 nd] 25)) (.cells #[.int .u8 dd, .int .i64 v, sL] 66)) (.cells #[.int .i64 0, .slice none 0 0, .int .i64 0, .int .i64 0, .int .i64 0] 25)
  rw [show (w.alloc (.cells #[.int .i64 offd, dv, .int .i64 lod, .int .i64 hid, .int .i64 nd] 25)).heap.size = w.heap.size + 1 from by simp] at ha1
  have HBa := Lib.hid ha1
  have hr1 := heap_new ((w.alloc (.cells #[.int .i64 offd, dv, .int .i64 lod, .int .i64 hid, .int .i64 nd] 25)).alloc (.cells #[.int .u8 dd, .int .i64 v, sL] 66)) (.cells #[.int .i64 0, .slice none 0 0, .int .i64 0, .int .i64 0, .int .i64 0] 25)
  rw [show ((w.alloc (.cells #[.int .i64 offd, dv, .int .i64 lod, .int .i64 hid, .int .i64 nd] 25)).alloc (.cells #[.int .u8 dd, .int .i64 v, sL] 66)).heap.size = w.heap.size + 1 + 1 from by simp] at hr1
  have HBr := Lib.hid hr1
  clear ha1 hr1
  refine (law2_near_rd sL L _ (RL.out.call (by repeat (first | exact Below.refl _ _ | refine below_alloc ?_ _ | refine below_drewN ?_ _ | refine Below.drew ?_)))).mono ?_
  rintro e w2 ⟨so, rfl, ⟨hso, hb⟩⟩
  replace HBd := Lib.hid (heap_call (b := w.heap.size) (o := .cells #[.int .i64 offd, dv, .int .i64 lod, .int .i64 hid, .int .i64 nd] 25) (by repeat (first | exact HBd.out | refine heap_alloc ?_ _ | refine heap_drewN ?_ _ | refine heap_drew ?_)) hb)
  have HBd_0 := cell_of HBd.out 0
  have HBd_1 := cell_of HBd.out 1
  have HBd_2 := cell_of HBd.out 2
  have HBd_3 := cell_of HBd.out 3
  have HBd_4 := cell_of HBd.out 4
  replace HBa := Lib.hid (heap_call (b := (w.heap.size + 1)) (o := .cells #[.int .u8 dd, .int .i64 v, sL] 66) (by repeat (first | exact HBa.out | refine heap_alloc ?_ _ | refine heap_drewN ?_ _ | refine heap_drew ?_)) hb)
  have HBa_0 := cell_of HBa.out 0
  have HBa_1 := cell_of HBa.out 1
  have HBa_2 := cell_of HBa.out 2
  replace HBr := Lib.hid (heap_call (b := (w.heap.size + 1 + 1)) (o := .cells #[.int .i64 0, .slice none 0 0, .int .i64 0, .int .i64 0, .int .i64 0] 25) (by repeat (first | exact HBr.out | refine heap_alloc ?_ _ | refine heap_drewN ?_ _ | refine heap_drew ?_)) hb)
  have HBr_0 := cell_of HBr.out 0
  have HBr_1 := cell_of HBr.out 1
  have HBr_2 := cell_of HBr.out 2
  have HBr_3 := cell_of HBr.out 3
  have HBr_4 := cell_of HBr.out 4
  have K := below_call (w0 := w) (by repeat (first | exact Below.refl _ _ | refine below_alloc ?_ _ | refine below_drewN ?_ _ | refine Below.drew ?_)) hb
  replace RT := Lib.hid (RT.out.call K)
  replace RD := Lib.hid (RD.out.call K)
  replace RS := Lib.hid (RS.out.call K)
  replace RL := Lib.hid (RL.out.call K)
  replace BEL := Lib.hid (below_call (w0 := w) BEL.out K)
  clear hb K
  rw [← PN.out] at hso
  have HSO := Lib.hid hso.sl
  clear hso
  go_wp2_with fail
  refine (dom_of so pn _ (HSO.out.call (by repeat (first | exact Below.refl _ _ | refine below_alloc ?_ _ | refine below_drewN ?_ _ | refine Below.drew ?_))) (RT.out.call (by repeat (first | exact Below.refl _ _ | refine below_alloc ?_ _ | refine below_drewN ?_ _ | refine Below.drew ?_)))).mono ?_
  rintro e w3 ⟨v', rfl, hrep, hb, hown⟩
  clear HBd_0 HBd_1 HBd_2 HBd_3 HBd_4 HBa_0 HBa_1 HBa_2 HBr_0 HBr_1 HBr_2 HBr_3 HBr_4
  replace HBd := Lib.hid (heap_call (b := w.heap.size) (o := .cells #[.int .i64 offd, dv, .int .i64 lod, .int .i64 hid, .int .i64 nd] 25) (by repeat (first | exact HBd.out | refine heap_alloc ?_ _ | refine heap_drewN ?_ _ | refine heap_drew ?_)) hb)
  have HBd_0 := cell_of HBd.out 0
  have HBd_1 := cell_of HBd.out 1
  have HBd_2 := cell_of HBd.out 2
  have HBd_3 := cell_of HBd.out 3
  have HBd_4 := cell_of HBd.out 4
  replace HBa := Lib.hid (heap_call (b := (w.heap.size + 1)) (o := .cells #[.int .u8 dd, .int .i64 v, sL] 66) (by repeat (first | exact HBa.out | refine heap_alloc ?_ _ | refine heap_drewN ?_ _ | refine heap_drew ?_)) hb)
  have HBa_0 := cell_of HBa.out 0
  have HBa_1 := cell_of HBa.out 1
  have HBa_2 := cell_of HBa.out 2
  replace HBr := Lib.hid (heap_call (b := (w.heap.size + 1 + 1)) (o := .cells #[.int .i64 0, .slice none 0 0, .int .i64 0, .int .i64 0, .int .i64 0] 25) (by repeat (first | exact HBr.out | refine heap_alloc ?_ _ | refine heap_drewN ?_ _ | refine heap_drew ?_)) hb)
  have HBr_0 := cell_of HBr.out 0
  have HBr_1 := cell_of HBr.out 1
  have HBr_2 := cell_of HBr.out 2
  have HBr_3 := cell_of HBr.out 3
  have HBr_4 := cell_of HBr.out 4
  have K := below_call (w0 := w2) (by repeat (first | exact Below.refl _ _ | refine below_alloc ?_ _ | refine below_drewN ?_ _ | refine Below.drew ?_)) hb
  replace RT := Lib.hid (RT.out.call K)
  replace RD := Lib.hid (RD.out.call K)
  replace RS := Lib.hid (RS.out.call K)
  replace RL := Lib.hid (RL.out.call K)
  replace HSO := Lib.hid (HSO.out.call K)
  replace BEL := Lib.hid (below_call (w0 := w) BEL.out K)
  clear hb K
  rw [← NN.out] at hrep
  generalize Rf.code pn = ce1 at *
  obtain ⟨off1, sv1, ws1, rfl, hx1⟩ := hrep
  obtain ⟨A1, c1, rfl⟩ := hx1.sl.len
  generalize hm1 : ws1.length = m1 at *
  obtain ⟨lo1, hlo1⟩ : ∃ x, x = nn.headD 0 := ⟨_, rfl⟩
  obtain ⟨hi1, hhi1⟩ : ∃ x, x = nn.getLastD 0 := ⟨_, rfl⟩
  have e1 : Dm.val off1 (.slice A1 m1 c1) nn = .agg #[.int .i64 off1, .slice A1 m1 c1, .int .i64 lo1, .int .i64 hi1, .int .i64 n1] := by unfold Dm.val; rw [hlo1, hhi1, N1.out]
  have RD1 : Hid (Dm.Rep w3 (.agg #[.int .i64 off1, .slice A1 m1 c1, .int .i64 lo1, .int .i64 hi1, .int .i64 n1]) nn) := by
    rw [← e1, ← hm1]
    exact ⟨off1, _, ws1, rfl, by rw [hm1]; exact hx1⟩
  rw [e1]
  clear hx1 hm1 e1 hlo1 hhi1 hown
  have HB1 := Lib.hid (heap_new w3 (.cells #[.int .i64 off1, .slice A1 m1 c1, .int .i64 lo1, .int .i64 hi1, .int .i64 n1] 25))
  clear HBd_0 HBd_1 HBd_2 HBd_3 HBd_4
  replace HBd := Lib.hid (heap_alloc HBd.out (.cells #[.int .i64 off1, .slice A1 m1 c1, .int .i64 lo1, .int .i64 hi1, .int .i64 n1] 25))
  have HBd_0 := cell_of HBd.out 0
  have HBd_1 := cell_of HBd.out 1
  have HBd_2 := cell_of HBd.out 2
  have HBd_3 := cell_of HBd.out 3
  have HBd_4 := cell_of HBd.out 4
  clear HBa_0 HBa_1 HBa_2
  replace HBa := Lib.hid (heap_alloc HBa.out (.cells #[.int .i64 off1, .slice A1 m1 c1, .int .i64 lo1, .int .i64 hi1, .int .i64 n1] 25))
  have HBa_0 := cell_of HBa.out 0
  have HBa_1 := cell_of HBa.out 1
  have HBa_2 := cell_of HBa.out 2
  clear HBr_0 HBr_1 HBr_2 HBr_3 HBr_4
  replace HBr := Lib.hid (heap_alloc HBr.out (.cells #[.int .i64 off1, .slice A1 m1 c1, .int .i64 lo1, .int .i64 hi1, .int .i64 n1] 25))
  have HBr_0 := cell_of HBr.out 0
  have HBr_1 := cell_of HBr.out 1
  have HBr_2 := cell_of HBr.out 2
  have HBr_3 := cell_of HBr.out 3
  have HBr_4 := cell_of HBr.out 4
  have HB1_0 := cell_of HB1.out 0
  have HB1_1 := cell_of HB1.out 1
  have HB1_2 := cell_of HB1.out 2
  have HB1_3 := cell_of HB1.out 3
  have HB1_4 := cell_of HB1.out 4
  go_wp2_with fail
  have hz3 : Hid (w.heap.size ≤ w3.heap.size) := Lib.hid BEL.out.size
  refine (ref_of so pn _ (HSO.out.call (by repeat (first | exact Below.refl _ _ | refine below_alloc ?_ _ | refine below_drewN ?_ _ | refine Below.drew ?_))) NNL.out).mono ?_
  rintro e w4 ⟨so2, rfl, ⟨hso, hb⟩⟩
  clear HBd_0 HBd_1 HBd_2 HBd_3 HBd_4 HBa_0 HBa_1 HBa_2 HBr_0 HBr_1 HBr_2 HBr_3 HBr_4 HB1_0 HB1_1 HB1_2 HB1_3 HB1_4
  replace HBd := Lib.hid (heap_call (b := w.heap.size) (o := .cells #[.int .i64 offd, dv, .int .i64 lod, .int .i64 hid, .int .i64 nd] 25) (by repeat (first | exact HBd.out | refine heap_alloc ?_ _ | refine heap_drewN ?_ _ | refine heap_drew ?_)) hb)
  have HBd_0 := cell_of HBd.out 0
  have HBd_1 := cell_of HBd.out 1
  have HBd_2 := cell_of HBd.out 2
  have HBd_3 := cell_of HBd.out 3
  have HBd_4 := cell_of HBd.out 4
  replace HBa := Lib.hid (heap_call (b := (w.heap.size + 1)) (o := .cells #[.int .u8 dd, .int .i64 v, sL] 66) (by repeat (first | exact HBa.out | refine heap_alloc ?_ _ | refine heap_drewN ?_ _ | refine heap_drew ?_)) hb)
  have HBa_0 := cell_of HBa.out 0
  have HBa_1 := cell_of HBa.out 1
  have HBa_2 := cell_of HBa.out 2
  replace HBr := Lib.hid (heap_call (b := (w.heap.size + 1 + 1)) (o := .cells #[.int .i64 0, .slice none 0 0, .int .i64 0, .int .i64 0, .int .i64 0] 25) (by repeat (first | exact HBr.out | refine heap_alloc ?_ _ | refine heap_drewN ?_ _ | refine heap_drew ?_)) hb)
  have HBr_0 := cell_of HBr.out 0
  have HBr_1 := cell_of HBr.out 1
  have HBr_2 := cell_of HBr.out 2
  have HBr_3 := cell_of HBr.out 3
  have HBr_4 := cell_of HBr.out 4
  replace HB1 := Lib.hid (heap_call (b := w3.heap.size) (o := .cells #[.int .i64 off1, .slice A1 m1 c1, .int .i64 lo1, .int .i64 hi1, .int .i64 n1] 25) (by repeat (first | exact HB1.out | refine heap_alloc ?_ _ | refine heap_drewN ?_ _ | refine heap_drew ?_)) hb)
  have HB1_0 := cell_of HB1.out 0
  have HB1_1 := cell_of HB1.out 1
  have HB1_2 := cell_of HB1.out 2
  have HB1_3 := cell_of HB1.out 3
  have HB1_4 := cell_of HB1.out 4
  have K := below_call (w0 := w3) (by repeat (first | exact Below.refl _ _ | refine below_alloc ?_ _ | refine below_drewN ?_ _ | refine Below.drew ?_)) hb
  replace RT := Lib.hid (RT.out.call K)
  replace RD := Lib.hid (RD.out.call K)
  replace RS := Lib.hid (RS.out.call K)
  replace RL := Lib.hid (RL.out.call K)
  replace HSO := Lib.hid (HSO.out.call K)
  replace RD1 := Lib.hid (RD1.out.call K)
  replace BEL := Lib.hid (below_call (w0 := w) BEL.out K)
  clear hb K
  rw [← NN.out] at hso
  generalize Rf.code pn = ce2 at *
  have HSN := Lib.hid hso.sl
  have hsz3 := BEL.out.size
  have ONN : Hid (∀ b, so2.ownBlock = some b → w.heap.size < b) := Lib.hid fun b hb2 => by have h1 := hso.own b hb2; have h2 := hz3.out; simp at h1; omega
  clear hso hsz3
  go_wp2_with fail
  have hz4 : Hid (w.heap.size + 1 + 1 < w4.heap.size) := Lib.hid (heap_lt HBr.out)
  refine (dom_and _ _ l nn _ (RD.out.call (by repeat (first | exact Below.refl _ _ | refine below_alloc ?_ _ | refine below_drewN ?_ _ | refine Below.drew ?_))) (RD1.out.call (by repeat (first | exact Below.refl _ _ | refine below_alloc ?_ _ | refine below_drewN ?_ _ | refine Below.drew ?_))) (RT.out.call (by repeat (first | exact Below.refl _ _ | refine below_alloc ?_ _ | refine below_drewN ?_ _ | refine Below.drew ?_)))).mono ?_
  rintro e w5 ⟨v', rfl, hrep, hb, hown⟩
  clear HBd_0 HBd_1 HBd_2 HBd_3 HBd_4 HBa_0 HBa_1 HBa_2 HBr_0 HBr_1 HBr_2 HBr_3 HBr_4 HB1_0 HB1_1 HB1_2 HB1_3 HB1_4
  replace HBd := Lib.hid (heap_call (b := w.heap.size) (o := .cells #[.int .i64 offd, dv, .int .i64 lod, .int .i64 hid, .int .i64 nd] 25) (by repeat (first | exact HBd.out | refine heap_alloc ?_ _ | refine heap_drewN ?_ _ | refine heap_drew ?_)) hb)
  have HBd_0 := cell_of HBd.out 0
  have HBd_1 := cell_of HBd.out 1
  have HBd_2 := cell_of HBd.out 2
  have HBd_3 := cell_of HBd.out 3
  have HBd_4 := cell_of HBd.out 4
  replace HBa := Lib.hid (heap_call (b := (w.heap.size + 1)) (o := .cells #[.int .u8 dd, .int .i64 v, sL] 66) (by repeat (first | exact HBa.out | refine heap_alloc ?_ _ | refine heap_drewN ?_ _ | refine heap_drew ?_)) hb)
  have HBa_0 := cell_of HBa.out 0
  have HBa_1 := cell_of HBa.out 1
  have HBa_2 := cell_of HBa.out 2
  replace HBr := Lib.hid (heap_call (b := (w.heap.size + 1 + 1)) (o := .cells #[.int .i64 0, .slice none 0 0, .int .i64 0, .int .i64 0, .int .i64 0] 25) (by repeat (first | exact HBr.out | refine heap_alloc ?_ _ | refine heap_drewN ?_ _ | refine heap_drew ?_)) hb)
  have HBr_0 := cell_of HBr.out 0
  have HBr_1 := cell_of HBr.out 1
  have HBr_2 := cell_of HBr.out 2
  have HBr_3 := cell_of HBr.out 3
  have HBr_4 := cell_of HBr.out 4
  replace HB1 := Lib.hid (heap_call (b := w3.heap.size) (o := .cells #[.int .i64 off1, .slice A1 m1 c1, .int .i64 lo1, .int .i64 hi1, .int .i64 n1] 25) (by repeat (first | exact HB1.out | refine heap_alloc ?_ _ | refine heap_drewN ?_ _ | refine heap_drew ?_)) hb)
  have HB1_0 := cell_of HB1.out 0
  have HB1_1 := cell_of HB1.out 1
  have HB1_2 := cell_of HB1.out 2
  have HB1_3 := cell_of HB1.out 3
  have HB1_4 := cell_of HB1.out 4
  have K := below_call (w0 := w4) (by repeat (first | exact Below.refl _ _ | refine below_alloc ?_ _ | refine below_drewN ?_ _ | refine Below.drew ?_)) hb
  replace RT := Lib.hid (RT.out.call K)
  replace RD := Lib.hid (RD.out.call K)
  replace RS := Lib.hid (RS.out.call K)
  replace RL := Lib.hid (RL.out.call K)
  replace HSO := Lib.hid (HSO.out.call K)
  replace RD1 := Lib.hid (RD1.out.call K)
  replace HSN := Lib.hid (HSN.out.call K)
  replace BEL := Lib.hid (below_call (w0 := w) BEL.out K)
  clear hb K
  rw [HO.out] at hrep ⊢
  obtain ⟨ch, hch⟩ : ∃ z, z = Dm.chg l out := ⟨_, rfl⟩
  rw [← hch]
  have CHE := Lib.hid hch
  clear hch
  obtain ⟨off2, sv2, ws2, rfl, hx2⟩ := hrep
  obtain ⟨A2, c2, rfl⟩ := hx2.sl.len
  generalize hm2 : ws2.length = m2 at *
  obtain ⟨lo2, hlo2⟩ : ∃ x, x = out.headD 0 := ⟨_, rfl⟩
  obtain ⟨hi2, hhi2⟩ : ∃ x, x = out.getLastD 0 := ⟨_, rfl⟩
  have e2 : Dm.val off2 (.slice A2 m2 c2) out = .agg #[.int .i64 off2, .slice A2 m2 c2, .int .i64 lo2, .int .i64 hi2, .int .i64 n2] := by unfold Dm.val; rw [hlo2, hhi2, N2.out]
  rw [e2] at hown ⊢
  have HX2 := Lib.hid hx2
  have OWN2 : Hid (∀ b, (Value.slice A2 m2 c2).ownBlock = some b → (Dm.wb od = some b ∧ b < w.heap.size) ∨ w.heap.size + 1 + 1 < b) := Lib.hid fun b hb2 => by
    rcases hown b hb2 with h | h
    · have h1 : Dm.wb d = some b := by rw [HDE.out]; exact h
      exact Or.inl ⟨by rw [HOD.out]; exact h1, WB.out b h1⟩
    · right; have := hz4.out; try simp at h
      omega
  have L2 := Lib.hid hlo2
  have I2 := Lib.hid hhi2
  have M2 := Lib.hid hm2
  clear hx2 hm2 e2 hlo2 hhi2 hown
  have fd0 := frozen_of HBd.out 0
  have fd1 := frozen_of HBd.out 1
  have fd2 := frozen_of HBd.out 2
  have fd3 := frozen_of HBd.out 3
  have fd4 := frozen_of HBd.out 4
  have FR : Hid (∀ u0 u1 u2 u3 u4 : Value, Fr (fun k => k = w.heap.size) w5 (((((w5.setCell ⟨w.heap.size, 0, none⟩ u0).setCell ⟨w.heap.size, 1, none⟩ u1).setCell ⟨w.heap.size, 2, none⟩ u2).setCell ⟨w.heap.size, 3, none⟩ u3).setCell ⟨w.heap.size, 4, none⟩ u4)) := Lib.hid fun u0 u1 u2 u3 u4 => by
    refine Fr.set (Fr.set (Fr.set (Fr.set (Fr.set (Fr.refl _ _) ?_ _) ?_ _) ?_ _) ?_ _) ?_ _
    all_goals exact fun _ => rfl
  have CK := Lib.hid (fun u0 u1 u2 u3 u4 => ref_keep4 (.slice AS l.length cS) so2 l nn v _ (RS.out.kept (FR.out u0 u1 u2 u3 u4) (fun b hb e => by have h1 := OWNL.out b hb; have h2 : b = w.heap.size := e; omega)) (HSN.out.kept (FR.out u0 u1 u2 u3 u4) (fun b hb e => by have h1 := ONN.out b hb; have h2 : b = w.heap.size := e; omega)) (by have := LL.out; omega))
  go_wp2_with fail
  refine (CK.out _ _ _ _ _).mono ?_
  rintro e w7 ⟨so3, rfl, hso3, hb⟩
  rw [← HO2.out] at hso3 ⊢
  rw [← CHE.out]
  have HD2 : Hid (w7.heap[w.heap.size]? = some (.cells #[.int .i64 off2, .slice A2 m2 c2, .int .i64 lo2, .int .i64 hi2, .int .i64 n2] 25 (0, 0))) := Lib.hid (by
    have := heap_call (heap_set (heap_set (heap_set (heap_set (heap_set HBd.out 0 (.int .i64 off2)) 1 (.slice A2 m2 c2)) 2 (.int .i64 lo2)) 3 (.int .i64 hi2)) 4 (.int .i64 n2)) hb
    simpa using this)
  have hne : w.heap.size + 1 + 1 ≠ w.heap.size := by omega
  have HR2 : Hid (w7.heap[w.heap.size + 1 + 1]? = some (.cells #[.int .i64 0, .slice none 0 0, .int .i64 0, .int .i64 0, .int .i64 0] 25 (0, 0))) := Lib.hid (heap_call (heap_far (heap_far (heap_far (heap_far (heap_far HBr.out hne _) hne _) hne _) hne _) hne _) hb)
  have HX7 : Hid (Dm.RepX w7 off2 (.slice A2 m2 c2) ws2 out) := Lib.hid ((HX2.out.kept (FR.out _ _ _ _ _) (fun b hb2 e => by
    have h2 : b = w.heap.size := e
    rcases OWN2.out b hb2 with h | h <;> omega)).call hb)
  have BE7 : Hid (Below w.heap.size w w7) := Lib.hid (Fr.below (c := w7) BEL.out (((FR.out _ _ _ _ _).trans2 (Fr.of_below (S := fun _ => False) hb) (fun _ _ h => h.elim))) (fun i e => by have h2 : i = w.heap.size := e; omega))
  have SO7 : Hid (Sl w7 3 1 so3 out.length (Iv out)) := Lib.hid hso3.sl
  have OS7 : Hid (∀ b, so3.ownBlock = some b → w.heap.size + 1 + 1 < b) := Lib.hid fun b hb2 => by
    have h1 := hso3.own b hb2
    have h2 := hz4.out
    have h3 := BEL.out.size
    have h4 := heap_lt HBr.out
    simp [World.setCell] at h1
    omega
  clear HBd_0 HBd_1 HBd_2 HBd_3 HBd_4 HBa_0 HBa_1 HBa_2 HBr_0 HBr_1 HBr_2 HBr_3 HBr_4 HB1_0 HB1_1 HB1_2 HB1_3 HB1_4 fd0 fd1 fd2 fd3 fd4 hso3 hb
  have x0 := cell_of HD2.out 0
  have x1 := cell_of HD2.out 1
  have x2 := cell_of HD2.out 2
  have x3 := cell_of HD2.out 3
  have x4 := cell_of HD2.out 4
  have r0 := cell_of HR2.out 0
  have r1 := cell_of HR2.out 1
  have r2 := cell_of HR2.out 2
  have r3 := cell_of HR2.out 3
  have r4 := cell_of HR2.out 4
  have f0 := frozen_of HR2.out 0
  have f1 := frozen_of HR2.out 1
  have f2 := frozen_of HR2.out 2
  have f3 := frozen_of HR2.out 3
  have f4 := frozen_of HR2.out 4
  go_wp2_with fail
  refine bodyPost_ret (v := .tuple #[.agg #[.int .i64 off2, .slice A2 m2 c2, .int .i64 lo2, .int .i64 hi2, .int .i64 n2], so3, .bool true]) (by simp [results, Tryd.results42, go_sem, r0, r1, r2, r3, r4]) rfl ?_
  refine Rf.acted_put (w2 := w7) (B := w.heap.size + 1 + 1) HX7.out L2.out.symm I2.out.symm N2.out.symm ?_ BE7.out OWN2.out (by omega) SO7.out OS7.out
  refine Fr.set (Fr.set (Fr.set (Fr.set (Fr.set (Fr.refl _ _) ?_ _) ?_ _) ?_ _) ?_ _) ?_ _
  all_goals exact fun _ => rfl
set_option maxHeartbeats 8000000 in
set_option maxRecDepth 100000 in
theorem law2_less5 (d sv sL : Value) (l L : List Int) (dd v : Int) (w : World) (hd : Dm.Rep w d l) (hs : Sl w 3 1 sv l.length (Iv l)) (hL : Rd w sL L) (hl : l.length < 16000000000000) (b0 : 0 ≤ dd ∧ dd ≤ 255) (hk : dd % 6 = 5) (b1 : -9223372036854775808 ≤ v ∧ v ≤ 9223372036854775807) (hT : Tab w) :
    Calls Tryd.prog 42 #[d, sv, .agg #[.int .u8 dd, .int .i64 v, sL]] w (Rf.Acted d (l.filter (Rf.stays 5 v (Rf.of (Rf.near L)))) w) := by
  have RT := Lib.hid hT
  have RD := Lib.hid hd
  have RS := Lib.hid hs
  have RL := Lib.hid hL
  have W0 : Hid (0 < w.heap.size) := Lib.hid hT.lt
  have WB := Lib.hid (Dm.wb_lt hd)
  have BEL := Lib.hid (Below.refl w.heap.size w)
  obtain ⟨pn, hpn⟩ : ∃ p, p = Rf.near L := ⟨_, rfl⟩
  obtain ⟨nn, hnn⟩ : ∃ p, p = Rf.of pn := ⟨_, rfl⟩
  have PN := Lib.hid hpn
  have NN := Lib.hid hnn
  have NNL : Hid (pn.length < 16000000000000) := Lib.hid (by rw [hpn]; have := Rf.near_length L; omega)
  rw [← hpn, ← hnn]
  obtain ⟨out, hout⟩ : ∃ p, p = l.filter (Rf.stays 5 v nn) := ⟨_, rfl⟩
  have HO : Hid (l.filter (fun u => !decide (u ∈ nn)) = out) := Lib.hid hout.symm
  have HO2 := Lib.hid hout
  rw [← hout]
  obtain ⟨n1, hn1⟩ : ∃ n, n = nn.length := ⟨_, rfl⟩
  have N1 := Lib.hid hn1
  obtain ⟨n2, hn2⟩ : ∃ n, n = out.length := ⟨_, rfl⟩
  have N2 := Lib.hid hn2
  have LL := Lib.hid hl
  obtain ⟨offd, dv, wsd, hde, hxd⟩ := hd
  have HDE := Lib.hid hde
  obtain ⟨od, hod⟩ : ∃ z : Value, z = d := ⟨_, rfl⟩
  have HOD := Lib.hid hod
  rw [show Rf.Acted d out w = Rf.Acted od out w from by rw [hod]]
  rw [hde] at RD ⊢
  unfold Dm.val at *
  generalize l.headD 0 = lod at *
  generalize l.getLastD 0 = hid at *
  obtain ⟨nd, hnd⟩ : ∃ n, n = l.length := ⟨_, rfl⟩
  rw [← hnd] at RD ⊢
  have ND := Lib.hid hnd
  obtain ⟨AS, cS, hse⟩ := hs.len
  have OWNL : Hid (∀ b, sv.ownBlock = some b → b < w.heap.size) := Lib.hid fun b hb => Sl.lt hs hb
  clear hT hs hL hpn hnn hout hn1 hn2 hl hde hxd hod hnd
  subst hse
  go_enter Tryd.func42, Tryd.ntmps42
  go_wp2_with fail
  have HBd := Lib.hid (heap_alloc (heap_alloc (heap_new w (.cells #[.int .i64 offd, dv, .int .i64 lod, .int .i64 hid, .int .i64 nd] 25)) (.cells #[.int .u8 dd, .int .i64 v, sL] 66)) (.cells #[.int .i64 0, .slice none 0 0, .int .i64 0, .int .i64 0, .int .i64 0] 25))
  have ha1 := heap_alloc (heap_new (w.alloc (.cells #[.int .i64 offd, dv, .int .i64 lod, .int .i64 hid, .int .i64 nd] 25)) (.cells #[.int .u8 dd, .int .i64 v, sL] 66)) (.cells #[.int .i64 0, .slice none 0 0, .int .i64 0, .int .i64 0, .int .i64 0] 25)
  rw [show (w.alloc (.cells #[.int .i64 offd, dv, .int .i64 lod, .int .i64 hid, .int .i64 nd] 25)).heap.size = w.heap.size + 1 from by simp] at ha1
  have HBa := Lib.hid ha1
  have hr1 := heap_new ((w.alloc (.cells #[.int .i64 offd, dv, .int .i64 lod, .int .i64 hid, .int .i64 nd] 25)).alloc (.cells #[.int .u8 dd, .int .i64 v, sL] 66)) (.cells #[.int .i64 0, .slice none 0 0, .int .i64 0, .int .i64 0, .int .i64 0] 25)
  rw [show ((w.alloc (.cells #[.int .i64 offd, dv, .int .i64 lod, .int .i64 hid, .int .i64 nd] 25)).alloc (.cells #[.int .u8 dd, .int .i64 v, sL] 66)).heap.size = w.heap.size + 1 + 1 from by simp] at hr1
  have HBr := Lib.hid hr1
  clear ha1 hr1
  refine (law2_near_rd sL L _ (RL.out.call (by repeat (first | exact Below.refl _ _ | refine below_alloc ?_ _ | refine below_drewN ?_ _ | refine Below.drew ?_)))).mono ?_
  rintro e w2 ⟨so, rfl, ⟨hso, hb⟩⟩
  replace HBd := Lib.hid (heap_call (b := w.heap.size) (o := .cells #[.int .i64 offd, dv, .int .i64 lod, .int .i64 hid, .int .i64 nd] 25) (by repeat (first | exact HBd.out | refine heap_alloc ?_ _ | refine heap_drewN ?_ _ | refine heap_drew ?_)) hb)
  have HBd_0 := cell_of HBd.out 0
  have HBd_1 := cell_of HBd.out 1
  have HBd_2 := cell_of HBd.out 2
  have HBd_3 := cell_of HBd.out 3
  have HBd_4 := cell_of HBd.out 4
  replace HBa := Lib.hid (heap_call (b := (w.heap.size + 1)) (o := .cells #[.int .u8 dd, .int .i64 v, sL] 66) (by repeat (first | exact HBa.out | refine heap_alloc ?_ _ | refine heap_drewN ?_ _ | refine heap_drew ?_)) hb)
  have HBa_0 := cell_of HBa.out 0
  have HBa_1 := cell_of HBa.out 1
  have HBa_2 := cell_of HBa.out 2
  replace HBr := Lib.hid (heap_call (b := (w.heap.size + 1 + 1)) (o := .cells #[.int .i64 0, .slice none 0 0, .int .i64 0, .int .i64 0, .int .i64 0] 25) (by repeat (first | exact HBr.out | refine heap_alloc ?_ _ | refine heap_drewN ?_ _ | refine heap_drew ?_)) hb)
  have HBr_0 := cell_of HBr.out 0
  have HBr_1 := cell_of HBr.out 1
  have HBr_2 := cell_of HBr.out 2
  have HBr_3 := cell_of HBr.out 3
  have HBr_4 := cell_of HBr.out 4
  have K := below_call (w0 := w) (by repeat (first | exact Below.refl _ _ | refine below_alloc ?_ _ | refine below_drewN ?_ _ | refine Below.drew ?_)) hb
  replace RT := Lib.hid (RT.out.call K)
  replace RD := Lib.hid (RD.out.call K)
  replace RS := Lib.hid (RS.out.call K)
  replace RL := Lib.hid (RL.out.call K)
  replace BEL := Lib.hid (below_call (w0 := w) BEL.out K)
  clear hb K
  rw [← PN.out] at hso
  have HSO := Lib.hid hso.sl
  clear hso
  go_wp2_with fail
  refine (dom_of so pn _ (HSO.out.call (by repeat (first | exact Below.refl _ _ | refine below_alloc ?_ _ | refine below_drewN ?_ _ | refine Below.drew ?_))) (RT.out.call (by repeat (first | exact Below.refl _ _ | refine below_alloc ?_ _ | refine below_drewN ?_ _ | refine Below.drew ?_)))).mono ?_
  rintro e w3 ⟨v', rfl, hrep, hb, hown⟩
  clear HBd_0 HBd_1 HBd_2 HBd_3 HBd_4 HBa_0 HBa_1 HBa_2 HBr_0 HBr_1 HBr_2 HBr_3 HBr_4
  replace HBd := Lib.hid (heap_call (b := w.heap.size) (o := .cells #[.int .i64 offd, dv, .int .i64 lod, .int .i64 hid, .int .i64 nd] 25) (by repeat (first | exact HBd.out | refine heap_alloc ?_ _ | refine heap_drewN ?_ _ | refine heap_drew ?_)) hb)
  have HBd_0 := cell_of HBd.out 0
  have HBd_1 := cell_of HBd.out 1
  have HBd_2 := cell_of HBd.out 2
  have HBd_3 := cell_of HBd.out 3
  have HBd_4 := cell_of HBd.out 4
  replace HBa := Lib.hid (heap_call (b := (w.heap.size + 1)) (o := .cells #[.int .u8 dd, .int .i64 v, sL] 66) (by repeat (first | exact HBa.out | refine heap_alloc ?_ _ | refine heap_drewN ?_ _ | refine heap_drew ?_)) hb)
  have HBa_0 := cell_of HBa.out 0
  have HBa_1 := cell_of HBa.out 1
  have HBa_2 := cell_of HBa.out 2
  replace HBr := Lib.hid (heap_call (b := (w.heap.size + 1 + 1)) (o := .cells #[.int .i64 0, .slice none 0 0, .int .i64 0, .int .i64 0, .int .i64 0] 25) (by repeat (first | exact HBr.out | refine heap_alloc ?_ _ | refine heap_drewN ?_ _ | refine heap_drew ?_)) hb)
  have HBr_0 := cell_of HBr.out 0
  have HBr_1 := cell_of HBr.out 1
  have HBr_2 := cell_of HBr.out 2
  have HBr_3 := cell_of HBr.out 3
  have HBr_4 := cell_of HBr.out 4
  have K := below_call (w0 := w2) (by repeat (first | exact Below.refl _ _ | refine below_alloc ?_ _ | refine below_drewN ?_ _ | refine Below.drew ?_)) hb
  replace RT := Lib.hid (RT.out.call K)
  replace RD := Lib.hid (RD.out.call K)
  replace RS := Lib.hid (RS.out.call K)
  replace RL := Lib.hid (RL.out.call K)
  replace HSO := Lib.hid (HSO.out.call K)
  replace BEL := Lib.hid (below_call (w0 := w) BEL.out K)
  clear hb K
  rw [← NN.out] at hrep
  generalize Rf.code pn = ce1 at *
  obtain ⟨off1, sv1, ws1, rfl, hx1⟩ := hrep
  obtain ⟨A1, c1, rfl⟩ := hx1.sl.len
  generalize hm1 : ws1.length = m1 at *
  obtain ⟨lo1, hlo1⟩ : ∃ x, x = nn.headD 0 := ⟨_, rfl⟩
  obtain ⟨hi1, hhi1⟩ : ∃ x, x = nn.getLastD 0 := ⟨_, rfl⟩
  have e1 : Dm.val off1 (.slice A1 m1 c1) nn = .agg #[.int .i64 off1, .slice A1 m1 c1, .int .i64 lo1, .int .i64 hi1, .int .i64 n1] := by unfold Dm.val; rw [hlo1, hhi1, N1.out]
  have RD1 : Hid (Dm.Rep w3 (.agg #[.int .i64 off1, .slice A1 m1 c1, .int .i64 lo1, .int .i64 hi1, .int .i64 n1]) nn) := by
    rw [← e1, ← hm1]
    exact ⟨off1, _, ws1, rfl, by rw [hm1]; exact hx1⟩
  rw [e1]
  clear hx1 hm1 e1 hlo1 hhi1 hown
  have HB1 := Lib.hid (heap_new w3 (.cells #[.int .i64 off1, .slice A1 m1 c1, .int .i64 lo1, .int .i64 hi1, .int .i64 n1] 25))
  clear HBd_0 HBd_1 HBd_2 HBd_3 HBd_4
  replace HBd := Lib.hid (heap_alloc HBd.out (.cells #[.int .i64 off1, .slice A1 m1 c1, .int .i64 lo1, .int .i64 hi1, .int .i64 n1] 25))
  have HBd_0 := cell_of HBd.out 0
  have HBd_1 := cell_of HBd.out 1
  have HBd_2 := cell_of HBd.out 2
  have HBd_3 := cell_of HBd.out 3
  have HBd_4 := cell_of HBd.out 4
  clear HBa_0 HBa_1 HBa_2
  replace HBa := Lib.hid (heap_alloc HBa.out (.cells #[.int .i64 off1, .slice A1 m1 c1, .int .i64 lo1, .int .i64 hi1, .int .i64 n1] 25))
  have HBa_0 := cell_of HBa.out 0
  have HBa_1 := cell_of HBa.out 1
  have HBa_2 := cell_of HBa.out 2
  clear HBr_0 HBr_1 HBr_2 HBr_3 HBr_4
  replace HBr := Lib.hid (heap_alloc HBr.out (.cells #[.int .i64 off1, .slice A1 m1 c1, .int .i64 lo1, .int .i64 hi1, .int .i64 n1] 25))
  have HBr_0 := cell_of HBr.out 0
  have HBr_1 := cell_of HBr.out 1
  have HBr_2 := cell_of HBr.out 2
  have HBr_3 := cell_of HBr.out 3
  have HBr_4 := cell_of HBr.out 4
  have HB1_0 := cell_of HB1.out 0
  have HB1_1 := cell_of HB1.out 1
  have HB1_2 := cell_of HB1.out 2
  have HB1_3 := cell_of HB1.out 3
  have HB1_4 := cell_of HB1.out 4
  go_wp2_with fail
  have hz3 : Hid (w.heap.size ≤ w3.heap.size) := Lib.hid BEL.out.size
  refine (ref_of so pn _ (HSO.out.call (by repeat (first | exact Below.refl _ _ | refine below_alloc ?_ _ | refine below_drewN ?_ _ | refine Below.drew ?_))) NNL.out).mono ?_
  rintro e w4 ⟨so2, rfl, ⟨hso, hb⟩⟩
  clear HBd_0 HBd_1 HBd_2 HBd_3 HBd_4 HBa_0 HBa_1 HBa_2 HBr_0 HBr_1 HBr_2 HBr_3 HBr_4 HB1_0 HB1_1 HB1_2 HB1_3 HB1_4
  replace HBd := Lib.hid (heap_call (b := w.heap.size) (o := .cells #[.int .i64 offd, dv, .int .i64 lod, .int .i64 hid, .int .i64 nd] 25) (by repeat (first | exact HBd.out | refine heap_alloc ?_ _ | refine heap_drewN ?_ _ | refine heap_drew ?_)) hb)
  have HBd_0 := cell_of HBd.out 0
  have HBd_1 := cell_of HBd.out 1
  have HBd_2 := cell_of HBd.out 2
  have HBd_3 := cell_of HBd.out 3
  have HBd_4 := cell_of HBd.out 4
  replace HBa := Lib.hid (heap_call (b := (w.heap.size + 1)) (o := .cells #[.int .u8 dd, .int .i64 v, sL] 66) (by repeat (first | exact HBa.out | refine heap_alloc ?_ _ | refine heap_drewN ?_ _ | refine heap_drew ?_)) hb)
  have HBa_0 := cell_of HBa.out 0
  have HBa_1 := cell_of HBa.out 1
  have HBa_2 := cell_of HBa.out 2
  replace HBr := Lib.hid (heap_call (b := (w.heap.size + 1 + 1)) (o := .cells #[.int .i64 0, .slice none 0 0, .int .i64 0, .int .i64 0, .int .i64 0] 25) (by repeat (first | exact HBr.out | refine heap_alloc ?_ _ | refine heap_drewN ?_ _ | refine heap_drew ?_)) hb)
  have HBr_0 := cell_of HBr.out 0
  have HBr_1 := cell_of HBr.out 1
  have HBr_2 := cell_of HBr.out 2
  have HBr_3 := cell_of HBr.out 3
  have HBr_4 := cell_of HBr.out 4
  replace HB1 := Lib.hid (heap_call (b := w3.heap.size) (o := .cells #[.int .i64 off1, .slice A1 m1 c1, .int .i64 lo1, .int .i64 hi1, .int .i64 n1] 25) (by repeat (first | exact HB1.out | refine heap_alloc ?_ _ | refine heap_drewN ?_ _ | refine heap_drew ?_)) hb)
  have HB1_0 := cell_of HB1.out 0
  have HB1_1 := cell_of HB1.out 1
  have HB1_2 := cell_of HB1.out 2
  have HB1_3 := cell_of HB1.out 3
  have HB1_4 := cell_of HB1.out 4
  have K := below_call (w0 := w3) (by repeat (first | exact Below.refl _ _ | refine below_alloc ?_ _ | refine below_drewN ?_ _ | refine Below.drew ?_)) hb
  replace RT := Lib.hid (RT.out.call K)
  replace RD := Lib.hid (RD.out.call K)
  replace RS := Lib.hid (RS.out.call K)
  replace RL := Lib.hid (RL.out.call K)
  replace HSO := Lib.hid (HSO.out.call K)
  replace RD1 := Lib.hid (RD1.out.call K)
  replace BEL := Lib.hid (below_call (w0 := w) BEL.out K)
  clear hb K
  rw [← NN.out] at hso
  generalize Rf.code pn = ce2 at *
  have HSN := Lib.hid hso.sl
  have hsz3 := BEL.out.size
  have ONN : Hid (∀ b, so2.ownBlock = some b → w.heap.size < b) := Lib.hid fun b hb2 => by have h1 := hso.own b hb2; have h2 := hz3.out; simp at h1; omega
  clear hso hsz3
  go_wp2_with fail
  have hz4 : Hid (w.heap.size + 1 + 1 < w4.heap.size) := Lib.hid (heap_lt HBr.out)
  refine (dom_minus _ _ l nn _ (RD.out.call (by repeat (first | exact Below.refl _ _ | refine below_alloc ?_ _ | refine below_drewN ?_ _ | refine Below.drew ?_))) (RD1.out.call (by repeat (first | exact Below.refl _ _ | refine below_alloc ?_ _ | refine below_drewN ?_ _ | refine Below.drew ?_))) (RT.out.call (by repeat (first | exact Below.refl _ _ | refine below_alloc ?_ _ | refine below_drewN ?_ _ | refine Below.drew ?_)))).mono ?_
  rintro e w5 ⟨v', rfl, hrep, hb, hown⟩
  clear HBd_0 HBd_1 HBd_2 HBd_3 HBd_4 HBa_0 HBa_1 HBa_2 HBr_0 HBr_1 HBr_2 HBr_3 HBr_4 HB1_0 HB1_1 HB1_2 HB1_3 HB1_4
  replace HBd := Lib.hid (heap_call (b := w.heap.size) (o := .cells #[.int .i64 offd, dv, .int .i64 lod, .int .i64 hid, .int .i64 nd] 25) (by repeat (first | exact HBd.out | refine heap_alloc ?_ _ | refine heap_drewN ?_ _ | refine heap_drew ?_)) hb)
  have HBd_0 := cell_of HBd.out 0
  have HBd_1 := cell_of HBd.out 1
  have HBd_2 := cell_of HBd.out 2
  have HBd_3 := cell_of HBd.out 3
  have HBd_4 := cell_of HBd.out 4
  replace HBa := Lib.hid (heap_call (b := (w.heap.size + 1)) (o := .cells #[.int .u8 dd, .int .i64 v, sL] 66) (by repeat (first | exact HBa.out | refine heap_alloc ?_ _ | refine heap_drewN ?_ _ | refine heap_drew ?_)) hb)
  have HBa_0 := cell_of HBa.out 0
  have HBa_1 := cell_of HBa.out 1
  have HBa_2 := cell_of HBa.out 2
  replace HBr := Lib.hid (heap_call (b := (w.heap.size + 1 + 1)) (o := .cells #[.int .i64 0, .slice none 0 0, .int .i64 0, .int .i64 0, .int .i64 0] 25) (by repeat (first | exact HBr.out | refine heap_alloc ?_ _ | refine heap_drewN ?_ _ | refine heap_drew ?_)) hb)
  have HBr_0 := cell_of HBr.out 0
  have HBr_1 := cell_of HBr.out 1
  have HBr_2 := cell_of HBr.out 2
  have HBr_3 := cell_of HBr.out 3
  have HBr_4 := cell_of HBr.out 4
  replace HB1 := Lib.hid (heap_call (b := w3.heap.size) (o := .cells #[.int .i64 off1, .slice A1 m1 c1, .int .i64 lo1, .int .i64 hi1, .int .i64 n1] 25) (by repeat (first | exact HB1.out | refine heap_alloc ?_ _ | refine heap_drewN ?_ _ | refine heap_drew ?_)) hb)
  have HB1_0 := cell_of HB1.out 0
  have HB1_1 := cell_of HB1.out 1
  have HB1_2 := cell_of HB1.out 2
  have HB1_3 := cell_of HB1.out 3
  have HB1_4 := cell_of HB1.out 4
  have K := below_call (w0 := w4) (by repeat (first | exact Below.refl _ _ | refine below_alloc ?_ _ | refine below_drewN ?_ _ | refine Below.drew ?_)) hb
  replace RT := Lib.hid (RT.out.call K)
  replace RD := Lib.hid (RD.out.call K)
  replace RS := Lib.hid (RS.out.call K)
  replace RL := Lib.hid (RL.out.call K)
  replace HSO := Lib.hid (HSO.out.call K)
  replace RD1 := Lib.hid (RD1.out.call K)
  replace HSN := Lib.hid (HSN.out.call K)
  replace BEL := Lib.hid (below_call (w0 := w) BEL.out K)
  clear hb K
  rw [HO.out] at hrep ⊢
  obtain ⟨ch, hch⟩ : ∃ z, z = Dm.chg l out := ⟨_, rfl⟩
  rw [← hch]
  have CHE := Lib.hid hch
  clear hch
  obtain ⟨off2, sv2, ws2, rfl, hx2⟩ := hrep
  obtain ⟨A2, c2, rfl⟩ := hx2.sl.len
  generalize hm2 : ws2.length = m2 at *
  obtain ⟨lo2, hlo2⟩ : ∃ x, x = out.headD 0 := ⟨_, rfl⟩
  obtain ⟨hi2, hhi2⟩ : ∃ x, x = out.getLastD 0 := ⟨_, rfl⟩
  have e2 : Dm.val off2 (.slice A2 m2 c2) out = .agg #[.int .i64 off2, .slice A2 m2 c2, .int .i64 lo2, .int .i64 hi2, .int .i64 n2] := by unfold Dm.val; rw [hlo2, hhi2, N2.out]
  rw [e2] at hown ⊢
  have HX2 := Lib.hid hx2
  have OWN2 : Hid (∀ b, (Value.slice A2 m2 c2).ownBlock = some b → (Dm.wb od = some b ∧ b < w.heap.size) ∨ w.heap.size + 1 + 1 < b) := Lib.hid fun b hb2 => by
    rcases hown b hb2 with h | h
    · have h1 : Dm.wb d = some b := by rw [HDE.out]; exact h
      exact Or.inl ⟨by rw [HOD.out]; exact h1, WB.out b h1⟩
    · right; have := hz4.out; try simp at h
      omega
  have L2 := Lib.hid hlo2
  have I2 := Lib.hid hhi2
  have M2 := Lib.hid hm2
  clear hx2 hm2 e2 hlo2 hhi2 hown
  have fd0 := frozen_of HBd.out 0
  have fd1 := frozen_of HBd.out 1
  have fd2 := frozen_of HBd.out 2
  have fd3 := frozen_of HBd.out 3
  have fd4 := frozen_of HBd.out 4
  have FR : Hid (∀ u0 u1 u2 u3 u4 : Value, Fr (fun k => k = w.heap.size) w5 (((((w5.setCell ⟨w.heap.size, 0, none⟩ u0).setCell ⟨w.heap.size, 1, none⟩ u1).setCell ⟨w.heap.size, 2, none⟩ u2).setCell ⟨w.heap.size, 3, none⟩ u3).setCell ⟨w.heap.size, 4, none⟩ u4)) := Lib.hid fun u0 u1 u2 u3 u4 => by
    refine Fr.set (Fr.set (Fr.set (Fr.set (Fr.set (Fr.refl _ _) ?_ _) ?_ _) ?_ _) ?_ _) ?_ _
    all_goals exact fun _ => rfl
  have CK := Lib.hid (fun u0 u1 u2 u3 u4 => ref_keep5 (.slice AS l.length cS) so2 l nn v _ (RS.out.kept (FR.out u0 u1 u2 u3 u4) (fun b hb e => by have h1 := OWNL.out b hb; have h2 : b = w.heap.size := e; omega)) (HSN.out.kept (FR.out u0 u1 u2 u3 u4) (fun b hb e => by have h1 := ONN.out b hb; have h2 : b = w.heap.size := e; omega)) (by have := LL.out; omega))
  go_wp2_with fail
  refine (CK.out _ _ _ _ _).mono ?_
  rintro e w7 ⟨so3, rfl, hso3, hb⟩
  rw [← HO2.out] at hso3 ⊢
  rw [← CHE.out]
  have HD2 : Hid (w7.heap[w.heap.size]? = some (.cells #[.int .i64 off2, .slice A2 m2 c2, .int .i64 lo2, .int .i64 hi2, .int .i64 n2] 25 (0, 0))) := Lib.hid (by
    have := heap_call (heap_set (heap_set (heap_set (heap_set (heap_set HBd.out 0 (.int .i64 off2)) 1 (.slice A2 m2 c2)) 2 (.int .i64 lo2)) 3 (.int .i64 hi2)) 4 (.int .i64 n2)) hb
    simpa using this)
  have hne : w.heap.size + 1 + 1 ≠ w.heap.size := by omega
  have HR2 : Hid (w7.heap[w.heap.size + 1 + 1]? = some (.cells #[.int .i64 0, .slice none 0 0, .int .i64 0, .int .i64 0, .int .i64 0] 25 (0, 0))) := Lib.hid (heap_call (heap_far (heap_far (heap_far (heap_far (heap_far HBr.out hne _) hne _) hne _) hne _) hne _) hb)
  have HX7 : Hid (Dm.RepX w7 off2 (.slice A2 m2 c2) ws2 out) := Lib.hid ((HX2.out.kept (FR.out _ _ _ _ _) (fun b hb2 e => by
    have h2 : b = w.heap.size := e
    rcases OWN2.out b hb2 with h | h <;> omega)).call hb)
  have BE7 : Hid (Below w.heap.size w w7) := Lib.hid (Fr.below (c := w7) BEL.out (((FR.out _ _ _ _ _).trans2 (Fr.of_below (S := fun _ => False) hb) (fun _ _ h => h.elim))) (fun i e => by have h2 : i = w.heap.size := e; omega))
  have SO7 : Hid (Sl w7 3 1 so3 out.length (Iv out)) := Lib.hid hso3.sl
  have OS7 : Hid (∀ b, so3.ownBlock = some b → w.heap.size + 1 + 1 < b) := Lib.hid fun b hb2 => by
    have h1 := hso3.own b hb2
    have h2 := hz4.out
    have h3 := BEL.out.size
    have h4 := heap_lt HBr.out
    simp [World.setCell] at h1
    omega
  clear HBd_0 HBd_1 HBd_2 HBd_3 HBd_4 HBa_0 HBa_1 HBa_2 HBr_0 HBr_1 HBr_2 HBr_3 HBr_4 HB1_0 HB1_1 HB1_2 HB1_3 HB1_4 fd0 fd1 fd2 fd3 fd4 hso3 hb
  have x0 := cell_of HD2.out 0
  have x1 := cell_of HD2.out 1
  have x2 := cell_of HD2.out 2
  have x3 := cell_of HD2.out 3
  have x4 := cell_of HD2.out 4
  have r0 := cell_of HR2.out 0
  have r1 := cell_of HR2.out 1
  have r2 := cell_of HR2.out 2
  have r3 := cell_of HR2.out 3
  have r4 := cell_of HR2.out 4
  have f0 := frozen_of HR2.out 0
  have f1 := frozen_of HR2.out 1
  have f2 := frozen_of HR2.out 2
  have f3 := frozen_of HR2.out 3
  have f4 := frozen_of HR2.out 4
  go_wp2_with fail
  refine bodyPost_ret (v := .tuple #[.agg #[.int .i64 off2, .slice A2 m2 c2, .int .i64 lo2, .int .i64 hi2, .int .i64 n2], so3, .bool true]) (by simp [results, Tryd.results42, go_sem, r0, r1, r2, r3, r4]) rfl ?_
  refine Rf.acted_put (w2 := w7) (B := w.heap.size + 1 + 1) HX7.out L2.out.symm I2.out.symm N2.out.symm ?_ BE7.out OWN2.out (by omega) SO7.out OS7.out
  refine Fr.set (Fr.set (Fr.set (Fr.set (Fr.set (Fr.refl _ _) ?_ _) ?_ _) ?_ _) ?_ _) ?_ _
  all_goals exact fun _ => rfl
end Go.Proofs.YtdbjljbkneopcaaDoor
