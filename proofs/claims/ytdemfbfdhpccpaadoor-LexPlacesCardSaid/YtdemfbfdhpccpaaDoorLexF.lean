/- The cell of internal/bytealg.MaxLen, which strings.Split reads: it holds a number, and goes on to. -/
import Derived.Test.YtdemfbfdhpccpaaDoorProg
import Derived.Test.YtdemfbfdhpccpaaDoorShelf
import Derived.Below
import Derived.WalkKit
import Derived.Shelf.Vars
import Derived.Shelf.Strings.SlTrimAscii
namespace Go.Proofs.YtdemfbfdhpccpaaDoor.Hook
open Go.RowKit
def MaxL (w : World) : Prop := 0 < w.heap.size ∧ ∃ m, w.cell? ⟨0, 0, none⟩ = some (.int .i64 m)
theorem MaxL.below {w w' : World} (h : MaxL w) (hb : Below w.heap.size w w') : MaxL w' := by
  obtain ⟨h0, m, hm⟩ := h
  exact ⟨Nat.lt_of_lt_of_le h0 hb.size, m, by rw [hb.cell (p := ⟨0, 0, none⟩) h0]; exact hm⟩
theorem maxL_of_shape {w : World} (h : w.ShapedOpen Tryd.prog) : MaxL w := by
  obtain ⟨m, hm⟩ := Go.Proofs.cell_of_shapedOpen_int (P := Tryd.prog) (w := w) (g := 0) (t := 3) (zero := #[.int .i64 0]) (k := .i64) h (of_decide_eq_true (by kernel_rfl)) (by kernel_rfl) (by kernel_rfl) (by kernel_rfl) (by kernel_rfl) (by kernel_rfl)
  refine ⟨?_, m, hm⟩
  simp only [World.cell?] at hm
  split at hm
  · rename_i e
    exact (Array.getElem?_eq_some_iff.1 e).1
  · cases hm
theorem split_calls (s sep : ByteArray) (hs : s.size < 4294967281) (h1 : 1 ≤ sep.size) (w : World) (hm : MaxL w) :
    Calls Tryd.prog 29 #[.string s, .string sep] w fun e w' =>
      e = .returned (.slice (some ⟨w.heap.size, 0, none⟩) (Lib.countB s sep + 1) (Lib.countB s sep + 1)) ∧ w' = w.alloc (.cells ((Lib.splitB sep 0 (Lib.countB s sep) s).map Value.string).toArray 9) := by
  obtain ⟨_, m, hm⟩ := hm
  exact Tryd.strings_Split s sep m w hs hm h1
theorem trim_calls (s cutset : ByteArray) (w : World) (hs : s.size ≤ 9223372036854775807) (hcs : cutset.size < 4294967281) (hascii : cutset.data.toList.all (fun b => decide (b.toNat < 128)) = true) :
    Calls Tryd.prog 31 #[.string s, .string cutset] w fun e w' => e = .returned (.string ⟨(Lib.trimS s.data.toList cutset.data.toList).toArray⟩) ∧ Below w.heap.size w w' :=
  Any.strings_Trim_laid Tryd.lays160 (by kernel_rfl) s cutset w hs hcs (ascii_of_all hascii)
end Go.Proofs.YtdemfbfdhpccpaaDoor.Hook
