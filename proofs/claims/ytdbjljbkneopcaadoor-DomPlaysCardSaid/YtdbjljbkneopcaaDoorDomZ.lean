/- The acts of DomPlays as they come in; less whole. -/
import Derived.Test.YtdbjljbkneopcaaDoorDomY
namespace Go.Proofs.YtdbjljbkneopcaaDoor
open Go.RowKit
set_option linter.unusedSimpArgs false
set_option linter.unusedVariables false
/-- Acts that are read: what is done, a number, a slice of numbers. -/
structure Rf.Acts (w : World) (A : Option Addr) (len : Nat) (D V : Nat → Int) (SL : Nat → Value) (LL : Nat → List Int) : Prop where
  at_ : ∀ i, i < len → ∃ b o, A = some ⟨b, o, none⟩ ∧ b < w.heap.size ∧ w.cell? ⟨b, o + i * 3, none⟩ = some (.int .u8 (D i)) ∧ w.cell? ⟨b, o + i * 3 + 1, none⟩ = some (.int .i64 (V i)) ∧ w.cell? ⟨b, o + i * 3 + 2, none⟩ = some (SL i) ∧
    (0 ≤ D i ∧ D i ≤ 255) ∧ (-9223372036854775808 ≤ V i ∧ V i ≤ 9223372036854775807) ∧ Rd w (SL i) (LL i)
/-- Which of the six ways an act goes. -/
theorem law2_less (d sv sL : Value) (l L : List Int) (dd v : Int) (w : World) (hd : Dm.Rep w d l) (hs : Sl w 3 1 sv l.length (Iv l)) (hL : Rd w sL L) (hl : l.length < 16000000000000) (b0 : 0 ≤ dd ∧ dd ≤ 255) (b1 : -9223372036854775808 ≤ v ∧ v ≤ 9223372036854775807) (hT : Tab w) :
    Calls Tryd.prog 42 #[d, sv, .agg #[.int .u8 dd, .int .i64 v, sL]] w (Rf.Acted d (l.filter (Rf.stays (dd % 6).toNat v (Rf.of (Rf.near L)))) w) := by
  have h6 : dd % 6 = 0 ∨ dd % 6 = 1 ∨ dd % 6 = 2 ∨ dd % 6 = 3 ∨ dd % 6 = 4 ∨ dd % 6 = 5 := by omega
  rcases h6 with h | h | h | h | h | h
  · rw [h]; exact law2_less0 d sv sL l L dd v w hd hs hL hl b0 h b1 hT
  · rw [h]; exact law2_less1 d sv sL l L dd v w hd hs hL hl b0 h b1 hT
  · rw [h]; exact law2_less2 d sv sL l L dd v w hd hs hL hl b0 h b1 hT
  · rw [h]; exact law2_less3 d sv sL l L dd v w hd hs hL hl b0 h b1 hT
  · rw [h]; exact law2_less4 d sv sL l L dd v w hd hs hL hl b0 h b1 hT
  · rw [h]; exact law2_less5 d sv sL l L dd v w hd hs hL hl b0 h b1 hT
end Go.Proofs.YtdbjljbkneopcaaDoor
