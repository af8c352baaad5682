/- The reference's store as a value; New, Now, Push, Back. -/
import Derived.Test.YtdbjljbkneopcaaDoorGl
namespace Go.Proofs.YtdbjljbkneopcaaDoor
open Go.RowKit
set_option linter.unusedSimpArgs false
set_option linter.unusedVariables false

/-- One cell that is a slice of slices of numbers. -/
def E3r (P : Nat → Prop) (w : World) (vs : List Value) (L : List (List Int)) : Prop := ∃ v, vs = [v] ∧ Rr P w v L
/-- Two cells that are an event. -/
def E3e (w : World) (vs : List Value) (e : Int × Int) : Prop := vs = [.int .i64 e.1, .int .i64 e.2]
structure R3 (P : Nat → Prop) (w : World) (v : Value) (LS : List (List (List Int))) (es : List (Int × Int)) (lv ev : Value) : Prop where
  val : v = .agg #[lv, ev]
  lev : Gl P 1 (E3r P) [] w lv LS
  evs : Gl P 2 E3e (0, 0) w ev es
theorem E3r.call {P : Nat → Prop} {w w' : World} (hb : Below w.heap.size w w') (vs : List Value) (L : List (List Int)) (h : E3r P w vs L) : E3r P w' vs L := by
  obtain ⟨v, e, h⟩ := h; exact ⟨v, e, h.call hb⟩
theorem E3r.kept {P S : Nat → Prop} {w w' : World} (hf : Fr S w w') (hn : ∀ b, P b → ¬ S b) (vs : List Value) (L : List (List Int)) (h : E3r P w vs L) : E3r P w' vs L := by
  obtain ⟨v, e, h⟩ := h; exact ⟨v, e, h.kept hf hn⟩
theorem E3r.mono {P Q : Nat → Prop} {w : World} (hq : ∀ b, P b → Q b) (vs : List Value) (L : List (List Int)) (h : E3r P w vs L) : E3r Q w vs L := by
  obtain ⟨v, e, h⟩ := h; exact ⟨v, e, h.mono hq⟩
theorem R3.call {P : Nat → Prop} {w w' : World} {v : Value} {LS : List (List (List Int))} {es : List (Int × Int)} {lv ev : Value} (h : R3 P w v LS es lv ev) (hb : Below w.heap.size w w') : R3 P w' v LS es lv ev :=
  ⟨h.val, h.lev.call hb (E3r.call hb), h.evs.call hb (fun _ _ h => h)⟩
theorem R3.kept {P S : Nat → Prop} {w w' : World} {v : Value} {LS : List (List (List Int))} {es : List (Int × Int)} {lv ev : Value} (h : R3 P w v LS es lv ev) (hf : Fr S w w') (hn : ∀ b, P b → ¬ S b) : R3 P w' v LS es lv ev :=
  ⟨h.val, h.lev.kept hf hn (E3r.kept hf hn), h.evs.kept hf hn (fun _ _ h => h)⟩
theorem R3.mono {P Q : Nat → Prop} {w : World} {v : Value} {LS : List (List (List Int))} {es : List (Int × Int)} {lv ev : Value} (h : R3 P w v LS es lv ev) (hq : ∀ b, P b → Q b) : R3 Q w v LS es lv ev :=
  ⟨h.val, h.lev.mono hq (E3r.mono hq), h.evs.mono hq (fun _ _ h => h)⟩
/-- Old blocks, or such as were made from w on. -/
def Or2 (P : Nat → Prop) (w w' : World) (b : Nat) : Prop := P b ∨ (w.heap.size ≤ b ∧ b < w'.heap.size)
/-- A store is told. -/
def R3V (P : Nat → Prop) (LS : List (List (List Int))) (es : List (Int × Int)) (w : World) (e : Ending) (w' : World) : Prop := ∃ v lv ev, e = .returned v ∧ R3 (Or2 P w w') w' v LS es lv ev ∧ Below w.heap.size w w'
def R3C (P : Nat → Prop) (LS : List (List (List Int))) (es : List (Int × Int)) (c : Int) (w : World) (e : Ending) (w' : World) : Prop := ∃ v lv ev, e = .returned (.tuple #[v, .int .i64 c]) ∧ R3 (Or2 P w w') w' v LS es lv ev ∧ Below w.heap.size w w'
theorem infoRows : (Tryd.prog.info? 39).map (fun i => (i.zero, i.size, i.bytes)) = some (some (.slice none 0 0), 1, 24) := by kernel_rfl
theorem infoEv3 : (Tryd.prog.info? 159).map (fun i => (i.zero, i.size, i.bytes)) = some (some (.agg #[.int .i64 0, .int .i64 0]), 2, 16) := by kernel_rfl
set_option maxRecDepth 100000 in
theorem ref3_new (P : Nat → Prop) (sv : Value) (L : List (List Int)) (w : World) (h : Rr P w sv L) : Calls Tryd.prog 50 #[sv] w (R3V P [L] [] w) := by
  have H := Lib.hid h
  obtain ⟨A, c, rfl⟩ := h.len
  clear h
  go_enter Tryd.func50, Tryd.ntmps50
  go_wp2_with fail
  refine bodyPost_ret (v := .agg #[.slice (some ⟨w.heap.size + 1, 0, none⟩) 1 1, .slice none 0 0]) (by simp [results, Tryd.results50, go_sem]) rfl ?_
  have hb : Below w.heap.size w ((w.alloc (.cells #[.slice (some ⟨w.heap.size + 1, 0, none⟩) 1 1, .slice none 0 0] 78)).alloc (.cells #[.slice A L.length c] 39)) := below_alloc (below_alloc (Below.refl _ _) _) _
  have hz : ((w.alloc (.cells #[.slice (some ⟨w.heap.size + 1, 0, none⟩) 1 1, .slice none 0 0] 78)).alloc (.cells #[.slice A L.length c] 39)).heap[w.heap.size + 1]? = some (.cells #[.slice A L.length c] 39 (0, 0)) := by
    have h1 := heap_new (w.alloc (.cells #[.slice (some ⟨w.heap.size + 1, 0, none⟩) 1 1, .slice none 0 0] 78)) (.cells #[.slice A L.length c] 39)
    simpa using h1
  refine ⟨_, _, _, rfl, ⟨rfl, ⟨⟨_, 1, rfl⟩, by simp, fun A n c e => ?_, fun _ => ⟨w.heap.size + 1, 0, 1, rfl, by simp, Or.inr ⟨by omega, by simp⟩, fun j hj => ?_⟩⟩, Gl.nil _ _ _ _ _⟩, hb⟩
  · cases e
    exact ⟨Nat.le_refl _, fun e => by cases e⟩
  · obtain rfl : j = 0 := by simpa using hj
    refine ⟨[.slice A L.length c], rfl, fun q hq => ?_, ⟨_, rfl, (H.out.call hb).mono (fun b h => Or.inl h)⟩⟩
    obtain rfl : q = 0 := by omega
    rw [cell_of hz]
    rfl
set_option maxRecDepth 100000 in
theorem ref3_now (P : Nat → Prop) (v : Value) (LS : List (List (List Int))) (es : List (Int × Int)) (lv ev : Value) (w : World) (h : R3 P w v LS es lv ev) (h0 : 0 < LS.length) :
    ∃ sv, Rr P w sv (LS.getD (LS.length - 1) []) ∧ ∀ w1, Below w.heap.size w w1 → Calls Tryd.prog 56 #[v] w1 fun e w' => e = .returned sv ∧ Below w1.heap.size w1 w' := by
  obtain ⟨rfl, hl, _⟩ := h
  obtain ⟨A, c, rfl⟩ := hl.len
  have hbig := hl.big
  obtain ⟨b, o, vs, rfl, hb, hp, h1, h2, sv, rfl, h4⟩ := hl.at (LS.length - 1) (by omega)
  have hc := h2 0 (by decide)
  rw [Nat.mul_one, Nat.add_zero] at hc
  refine ⟨sv, h4, fun w1 hw => ?_⟩
  have hc' : w1.cell? ⟨b, o + (LS.length - 1), none⟩ = some sv := by rw [(bcell hw).1 b _ hb]; exact hc
  have hi2 : (LS.length : Int) - 1 = ((LS.length - 1 : Nat) : Int) := by omega
  have hi : IntKind.i64.wrap ((LS.length : Int) - 1) = ((LS.length - 1 : Nat) : Int) := by rw [IntKind.wrap_i64]; omega
  have hlt : LS.length - 1 < LS.length := by omega
  have hb1 : b < w1.heap.size := Nat.lt_of_lt_of_le hb hw.size
  clear hl h1 h2 hc h4 hb hw
  go_enter Tryd.func56, Tryd.ntmps56
  go_wp2_with fail
  go_ret
  exact ⟨rfl, below_alloc (Below.refl _ _) _⟩
end Go.Proofs.YtdbjljbkneopcaaDoor
