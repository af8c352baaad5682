/- Slices of numbers of the call's own: one more is appended. -/
import Derived.Test.YtdbjljbkneopcaaDoorDomN
namespace Go.Proofs.YtdbjljbkneopcaaDoor
open Go.RowKit
set_option linter.unusedSimpArgs false
set_option linter.unusedVariables false

/-- What an append leaves. -/
def Ow.App (wr : World) (B : Nat) (sv : Value) (l : List Int) (y : Int) (sv' : Value) (w' : World) : Prop :=
  Ow w' B sv' (l ++ [y]) ∧ Fr (fun k => sv.ownBlock = some k) wr w' ∧ ∀ b, sv'.ownBlock = some b → sv.ownBlock = some b ∨ wr.heap.size ≤ b
theorem Ow.app {w wr w1 w' : World} {B : Nat} {sv : Value} {l : List Int} {y : Int} {b f c H : Nat} (h : Ow wr B sv l) (hB : B ≤ wr.heap.size) (hw : Below wr.heap.size wr w1) (hH : wr.heap.size ≤ H)
    (hs : Sl w' 3 1 (.slice (some ⟨b, f, none⟩) (l.length + 1) c) (l.length + 1) (Iv l ++ [.int .i64 y])) (hf : Fr (fun k => sv.ownBlock = some k) w1 w') (hb : sv.ownBlock = some b ∨ b = H ∧ H < w'.heap.size) :
    Ow.App wr B sv l y (.slice (some ⟨b, f, none⟩) (l.length + 1) c) w' :=
  ⟨h.snoc hs (hb.imp id (fun e => e.1)) (by omega), (Fr.of_below hw).trans2 hf (fun k _ e => e), fun b' hb' => by
    cases hb'
    rcases hb with e | e
    · exact Or.inl e
    · right; show wr.heap.size ≤ b; omega⟩
theorem wpList_append_int (wr : World) {ops : Array Oper} {rest : List Oper} {o : Oper} {a : Act} {Q : Exit → Act → World → Prop} (hgd : o.guard = none) (s x : Operand)
    (ho : o.op = .call { callee := .builtin .append, args := #[s, x], argTypes := #[22, 22] })
    (B : Nat) (sv : Value) (l : List Int) (hs : a.eval s = sv) (h : Ow wr B sv l) (hB : B ≤ wr.heap.size) (y : Int) (hx : a.eval x = .slice (some ⟨wr.heap.size, 0, none⟩) 1 1) (hl : l.length < 17000000000000)
    (hk : ∀ sv' w', Ow.App wr B sv l y sv' w' → wpList Tryd.prog ops Q rest (a.put o.dst sv') w') : wpList Tryd.prog ops Q (o :: rest) a (wr.alloc (.cells #[.int .i64 y] 3)) := by
  obtain ⟨i0, hi0, hz0, hz1, hz2⟩ := info_parts infoInt
  refine wpList_append_sl _ hgd s x 22 ho 3 i0 (.int .i64 0) 1 8 Tryd.underlying22 hi0 hz0 hz1 hz2 rfl (by decide) sv l.length (Iv l) hs (Sl.alloc h.sl _) ⟨wr.heap.size, 0, none⟩ 1 1 [.int .i64 y] hx rfl (World.news_of_block (heap_new wr _)) (by intro u hu; simp at hu; subst hu; rfl) (by decide) (by unfold maxLen; omega) (by omega) _ rfl ?_
  intro b f c w' hs' hf' hb'
  exact hk _ _ (h.app (w := wr) hB (below_alloc (Below.refl _ _) _) (by simp) hs' hf' hb')
theorem Ow.App.below {w wr w' : World} {sv sv' : Value} {l : List Int} {y : Int} (h : Ow.App wr w.heap.size sv l y sv' w') (ho : Ow wr w.heap.size sv l) (hb : Below w.heap.size w wr) : Below w.heap.size w w' :=
  Fr.below hb h.2.1 (fun i e => ho.own _ e)
end Go.Proofs.YtdbjljbkneopcaaDoor
