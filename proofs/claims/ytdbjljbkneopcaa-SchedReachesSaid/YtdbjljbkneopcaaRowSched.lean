/- Words of the rows whose first argument is a schedule. -/
import Derived.Test.YtdbjljbkneopcaaRows
import Derived.Test.YtdbjljbkneopcaaRowWords
import Derived.Lib.SmallJoins
import Derived.Carry
namespace Go.Proofs.Ytdbjljbkneopcaa
open Go.ChangeShapes Go.WideShapes Go.ChangeAt Go.RowKit
theorem sched_open {H : Type} {enc : TypeId × Value → H} {w : World} {base : Nat} {spare : Nat → Bool} {held : Bool} {r : Reach} {b0 : Nat} {v : Value} {d : DataW H} {p : List MemPlace}
    (hv : Value.okWide Try.prog w r b0 45 v) (h : DataW.Trod enc Try.prog w base spare held 45 v d p) :
    ∃ a b c e : Int, v = .agg #[.int .i64 a, .int .i64 b, .int .i64 c, .int .i64 e] ∧ a ≤ 9223372036854775807 ∧ b ≤ 9223372036854775807 ∧ c ≤ 9223372036854775807 ∧ e ≤ 9223372036854775807 := by
  obtain ⟨v0, v1, v2, v3, y0, y1, y2, y3, n, rfl, rfl, rfl, h0, h1, h2, h3⟩ := Go.Joins.open_agg4 Try.underlying45 (by kernel_rfl) (by kernel_rfl) hv h
  obtain ⟨a, e0, _, w0⟩ := DataW.trod_int (k := .i64) Try.underlying43 h0
  obtain ⟨b, e1, _, w1⟩ := DataW.trod_int (k := .i64) Try.underlying3 h1
  obtain ⟨c, e2, _, w2⟩ := DataW.trod_int (k := .i64) Try.underlying3 h2
  obtain ⟨e, e3, _, w3⟩ := DataW.trod_int (k := .i64) Try.underlying3 h3
  cases e0; cases e1; cases e2; cases e3
  exact ⟨a, b, c, e, rfl, (i64_wf w0).2, (i64_wf w1).2, (i64_wf w2).2, (i64_wf w3).2⟩
end Go.Proofs.Ytdbjljbkneopcaa
