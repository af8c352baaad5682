import Derived.Test.YtdnllmngaljflaaGreatDoorOpRow
import Derived.LaidMore
import Derived.MakeChecks
import Derived.Carry
import Derived.LaidSub
import Derived.Shelf.Vars
import Derived.Lib.LaidTab
import Derived.Lib.SmallJoins
import Derived.Test.YtdnllmngaljflaaGreatDoorOpPlain
/- From a row's condition to what the walks of chapter 29 ask of the variables. -/
namespace Go.Proofs.YtdnllmngaljflaaGreatDoorX.Ho
open Go.ChangeShapes Go.WideShapes Go.RowKit
set_option linter.unusedSimpArgs false
set_option linter.unusedVariables false
theorem tPow : (Tryz.prog.globals[1]?).map (·.type) = some 144 := by kernel_rfl
theorem tErr4 : (Tryz.prog.globals[4]?).map (·.type) = some 75 := by kernel_rfl
theorem tErr5 : (Tryz.prog.globals[5]?).map (·.type) = some 75 := by kernel_rfl
theorem iface_laid {W : World} {name nm : String} {d : DataW Unit} {g : Nat} (hg : Tryz.prog.globalNamed name = some g) (ht : (Tryz.prog.globals[g]?).map (·.type) = some 75) (h : laidMet Tryz.prog [(name, .iface nm d)] W) : ∃ t p, W.cell? ⟨g, 0, none⟩ = some (.iface t p) := by
  obtain ⟨ps, ⟨g', t', cs, fuel, p, q, hg', ht', hvar, hd, _, _⟩, _⟩ := h
  obtain rfl := Option.some.inj (hg.symm.trans hg')
  obtain rfl := Option.some.inj (ht.symm.trans ht')
  obtain ⟨u, v, e⟩ := iface_cells Tryz.underlying75 hd
  have := World.var?_cell hg hvar 0
  refine ⟨u, v, ?_⟩
  rw [this, ← Array.getElem?_toList, e]
  rfl
theorem env_of {W : World} (hsh : W.ShapedOpen Tryz.prog) (hL : laidMetH Tryz.prog Go.Proofs.YtdnllmngaljflaaGreatDoor.laidTab W) : Env W := by
  obtain ⟨m, hm⟩ := Go.Proofs.cell_of_shapedOpen_int (P := Tryz.prog) (w := W) (g := 0) (t := 3) (zero := #[.int .i64 0]) (k := .i64) hsh (of_decide_eq_true (by kernel_rfl)) (by kernel_rfl) (by kernel_rfl) (by kernel_rfl) (by kernel_rfl) (by kernel_rfl)
  have h1 := hL.filter (fun x => x.1 == "internal/strconv.uint64pow10")
  have h4 := hL.filter (fun x => x.1 == "strconv.ErrSyntax")
  have h5 := hL.filter (fun x => x.1 == "strconv.ErrRange")
  rw [show Go.Proofs.YtdnllmngaljflaaGreatDoor.laidTab.filter (fun x => x.1 == "internal/strconv.uint64pow10") = [("internal/strconv.uint64pow10", Lib.tabData .u64 Lib.pow10Tab)] by kernel_rfl, MakeChecks.laidMetH_plain _ _ _ (by kernel_rfl)] at h1
  rw [show Go.Proofs.YtdnllmngaljflaaGreatDoor.laidTab.filter (fun x => x.1 == "strconv.ErrSyntax") = [("strconv.ErrSyntax", Go.Proofs.YtdnllmngaljflaaGreatDoor.Rows.laid_strconv_ErrSyntax)] by kernel_rfl, MakeChecks.laidMetH_plain _ _ _ (by kernel_rfl)] at h4
  rw [show Go.Proofs.YtdnllmngaljflaaGreatDoor.laidTab.filter (fun x => x.1 == "strconv.ErrRange") = [("strconv.ErrRange", Go.Proofs.YtdnllmngaljflaaGreatDoor.Rows.laid_strconv_ErrRange)] by kernel_rfl, MakeChecks.laidMetH_plain _ _ _ (by kernel_rfl)] at h5
  refine ⟨?_, ⟨m, hm⟩, iface_laid gErr4 tErr4 h4, iface_laid gErr5 tErr5 h5, Lib.tabIs_of_head gPow tPow Tryz.underlying144 Tryz.underlying125 (by kernel_rfl) (by kernel_rfl) h1⟩
  obtain ⟨⟨zero, t⟩, hz⟩ := Option.isSome_iff_exists.1 (show (((begin Tryz.prog (fun _ _ => 0) default).world.heap[7]?).bind Obj.row?).isSome = true by kernel_rfl)
  obtain ⟨cs, hc, _⟩ := hsh.1 7 zero t (of_decide_eq_true (by kernel_rfl)) hz
  exact (Array.getElem?_eq_some_iff.1 hc).1
theorem array10 {α : Type} {cs : Array α} (h : cs.size = 10) : ∃ c0 c1 c2 c3 c4 c5 c6 c7 c8 c9, cs = #[c0, c1, c2, c3, c4, c5, c6, c7, c8, c9] := by
  obtain ⟨l⟩ := cs
  match l, h with
  | [c0, c1, c2, c3, c4, c5, c6, c7, c8, c9], _ => exact ⟨c0, c1, c2, c3, c4, c5, c6, c7, c8, c9, rfl⟩
theorem list10 {α : Type} {cs : List α} (h : cs.length = 10) : ∃ c0 c1 c2 c3 c4 c5 c6 c7 c8 c9, cs = [c0, c1, c2, c3, c4, c5, c6, c7, c8, c9] := by
  match cs, h with
  | [c0, c1, c2, c3, c4, c5, c6, c7, c8, c9], _ => exact ⟨c0, c1, c2, c3, c4, c5, c6, c7, c8, c9, rfl⟩
theorem optsCells : Tryz.prog.cellsOf 34 = 10 := by kernel_rfl
set_option maxRecDepth 100000 in
theorem open_opts {H : Type} {enc : TypeId × Value → H} {W : World} {base b0 : Nat} {spare : Nat → Bool} {held : Bool} {r : Reach} {v : Value} {d : DataW H} {p : List MemPlace}
    (hv : Value.okWide Tryz.prog W r b0 34 v) (h : DataW.Trod enc Tryz.prog W base spare held 34 v d p) : ∃ o : Ov, v = .agg o.rc := by
  obtain ⟨cs, rfl, hsz⟩ := okWide_struct Tryz.underlying34 hv
  obtain ⟨fuel, hf⟩ := h
  obtain ⟨xs, n, _, hx, hl, hlen, hff⟩ := DataW.trod_struct Tryz.underlying34 hf
  obtain ⟨c0, c1, c2, c3, c4, c5, c6, c7, c8, c9, rfl⟩ := array10 (hsz.trans optsCells)
  obtain ⟨y0, y1, y2, y3, y4, y5, y6, y7, y8, y9, rfl⟩ := list10 (hlen.trans (by rfl : _ = 10))
  have k1 : Tryz.prog.cellsOf 3 = 1 := by kernel_rfl
  have k2 : Tryz.prog.cellsOf 4 = 1 := by kernel_rfl
  obtain ⟨x0, e0, _⟩ := DataW.trod_int (k := .i64) Tryz.underlying3 (by simpa using hff 0 _ rfl)
  obtain ⟨x1, e1, _⟩ := DataW.trod_bool Tryz.underlying4 (by simpa using hff 1 _ rfl)
  obtain ⟨x2, e2, _⟩ := DataW.trod_bool Tryz.underlying4 (by simpa using hff 2 _ rfl)
  obtain ⟨x3, e3, _⟩ := DataW.trod_bool Tryz.underlying4 (by simpa using hff 3 _ rfl)
  obtain ⟨x4, e4, _⟩ := DataW.trod_bool Tryz.underlying4 (by simpa using hff 4 _ rfl)
  obtain ⟨x5, e5, _⟩ := DataW.trod_int (k := .i64) Tryz.underlying3 (by simpa using hff 5 _ rfl)
  obtain ⟨x6, e6, _⟩ := DataW.trod_int (k := .i64) Tryz.underlying3 (by simpa using hff 6 _ rfl)
  obtain ⟨x7, e7, _⟩ := DataW.trod_int (k := .i64) Tryz.underlying3 (by simpa using hff 7 _ rfl)
  obtain ⟨x8, e8, _⟩ := DataW.trod_int (k := .i64) Tryz.underlying3 (by simpa using hff 8 _ rfl)
  obtain ⟨x9, e9, _⟩ := DataW.trod_int (k := .i64) Tryz.underlying3 (by simpa using hff 9 _ rfl)
  simp [k1, k2, Value.cells] at e0 e1 e2 e3 e4 e5 e6 e7 e8 e9
  subst e0 e1 e2 e3 e4 e5 e6 e7 e8 e9
  exact ⟨⟨x0, x1, x2, x3, x4, x5, x6, x7, x8, x9⟩, rfl⟩
end Go.Proofs.YtdnllmngaljflaaGreatDoorX.Ho
