/- Slices of whatever elements: read by their cells; made by a call of its own. -/
import Derived.Test.YtdbjljbkneopcaaDoorStoreJ
import Derived.Deep.RegionLaw
import Derived.Deep.DeepCutAuto
import Derived.Deep.CutBlock
namespace Go.Proofs.YtdbjljbkneopcaaDoor
open Go.RowKit
set_option linter.unusedSimpArgs false
set_option linter.unusedVariables false

/-- A slice that is read: k cells an element; what they tell of it. -/
structure Gl {α : Type} (P : Nat → Prop) (k : Nat) (E : World → List Value → α → Prop) (d : α) (w : World) (sv : Value) (l : List α) : Prop where
  len : ∃ A c, sv = .slice A l.length c
  big : l.length ≤ 9223372036854775807
  cap : ∀ A n c, sv = .slice A n c → n ≤ c ∧ (A = none → n = 0 ∧ c = 0)
  form : 0 < l.length → ∃ b o c, sv = .slice (some ⟨b, o, none⟩) l.length c ∧ b < w.heap.size ∧ P b ∧ ∀ j, j < l.length → ∃ vs, vs.length = k ∧ (∀ q, q < k → w.cell? ⟨b, o + j * k + q, none⟩ = vs[q]?) ∧ E w vs (l.getD j d)
theorem Gl.nil {α : Type} (P : Nat → Prop) (k : Nat) (E : World → List Value → α → Prop) (d : α) (w : World) : Gl P k E d w (.slice none 0 0) [] :=
  ⟨⟨none, 0, rfl⟩, Nat.zero_le _, fun A n c e => (by cases e; exact ⟨Nat.le_refl _, fun _ => ⟨rfl, rfl⟩⟩), fun h => (by cases h)⟩
theorem Gl.kept {α : Type} {P : Nat → Prop} {k : Nat} {E : World → List Value → α → Prop} {d : α} {w w' : World} {sv : Value} {l : List α} (h : Gl P k E d w sv l) {S : Nat → Prop} (hf : Fr S w w') (hn : ∀ b, P b → ¬ S b) (hE : ∀ vs x, E w vs x → E w' vs x) : Gl P k E d w' sv l :=
  ⟨h.len, h.big, h.cap, fun h0 => by
    obtain ⟨b, o, c, e, h1, hp, h2⟩ := h.form h0
    refine ⟨b, o, c, e, Nat.lt_of_lt_of_le h1 hf.size, hp, fun j hj => ?_⟩
    obtain ⟨vs, h3, h4, h5⟩ := h2 j hj
    exact ⟨vs, h3, fun q hq => by rw [cell_same ⟨b, o + j * k + q, none⟩ (hf.block b h1 (hn b hp))]; exact h4 q hq, hE vs _ h5⟩⟩
theorem Gl.call {α : Type} {P : Nat → Prop} {k : Nat} {E : World → List Value → α → Prop} {d : α} {w w' : World} {sv : Value} {l : List α} (h : Gl P k E d w sv l) (hb : Below w.heap.size w w') (hE : ∀ vs x, E w vs x → E w' vs x) : Gl P k E d w' sv l :=
  h.kept (S := fun _ => False) (Fr.of_below hb) (fun _ _ => id) hE
theorem Gl.mono {α : Type} {P Q : Nat → Prop} {k : Nat} {E E' : World → List Value → α → Prop} {d : α} {w : World} {sv : Value} {l : List α} (h : Gl P k E d w sv l) (hq : ∀ b, P b → Q b) (hE : ∀ vs x, E w vs x → E' w vs x) : Gl Q k E' d w sv l :=
  ⟨h.len, h.big, h.cap, fun h0 => by
    obtain ⟨b, o, c, e, h1, hp, h2⟩ := h.form h0
    refine ⟨b, o, c, e, h1, hq b hp, fun j hj => ?_⟩
    obtain ⟨vs, h3, h4, h5⟩ := h2 j hj
    exact ⟨vs, h3, h4, hE vs _ h5⟩⟩
/-- An element. -/
theorem Gl.at {α : Type} {P : Nat → Prop} {k : Nat} {E : World → List Value → α → Prop} {d : α} {w : World} {A : Option Addr} {n c : Nat} {l : List α} (h : Gl P k E d w (.slice A n c) l) (j : Nat) (hj : j < l.length) : ∃ b o vs, A = some ⟨b, o, none⟩ ∧ b < w.heap.size ∧ P b ∧ vs.length = k ∧ (∀ q, q < k → w.cell? ⟨b, o + j * k + q, none⟩ = vs[q]?) ∧ E w vs (l.getD j d) := by
  obtain ⟨b, o, c', e, h1, hp, h2⟩ := h.form (by omega)
  cases e
  obtain ⟨vs, h3, h4, h5⟩ := h2 j hj
  exact ⟨b, o, vs, rfl, h1, hp, h3, h4, h5⟩
/-- A slice that was made from block B on. -/
structure Gw {α : Type} (B e k : Nat) (E : World → List Value → α → Prop) (d : α) (w : World) (sv : Value) (vs : List (List Value)) (l : List α) : Prop where
  sl : Sl w e k sv l.length vs.flatten
  own : ∀ b, sv.ownBlock = some b → B ≤ b
  len : vs.length = l.length
  wide : ∀ v ∈ vs, v.length = k
  rep : ∀ i, i < l.length → E w (vs.getD i []) (l.getD i d)
theorem Gw.nil {α : Type} (B e k : Nat) (E : World → List Value → α → Prop) (d : α) (w : World) : Gw B e k E d w (.slice none 0 0) [] [] :=
  ⟨Sl.nil _ _ _, (fun b h => by cases h), rfl, (fun v h => by cases h), (fun i h => by cases h)⟩
theorem Gw.kept {α : Type} {B e k : Nat} {E : World → List Value → α → Prop} {d : α} {w w' : World} {sv : Value} {vs : List (List Value)} {l : List α} (h : Gw B e k E d w sv vs l) {S : Nat → Prop} (hf : Fr S w w') (hn : ∀ b, sv.ownBlock = some b → ¬ S b) (hE : ∀ vs x, E w vs x → E w' vs x) : Gw B e k E d w' sv vs l :=
  ⟨h.sl.kept hf hn, h.own, h.len, h.wide, fun i hi => hE _ _ (h.rep i hi)⟩
theorem Gw.call {α : Type} {B e k : Nat} {E : World → List Value → α → Prop} {d : α} {w w' : World} {sv : Value} {vs : List (List Value)} {l : List α} (h : Gw B e k E d w sv vs l) (hb : Below w.heap.size w w') (hE : ∀ vs x, E w vs x → E w' vs x) : Gw B e k E d w' sv vs l :=
  h.kept (S := fun _ => False) (Fr.of_below hb) (fun _ _ => id) hE
theorem Gw.app {α : Type} {B e k : Nat} {E : World → List Value → α → Prop} {d : α} {w w' : World} {sv : Value} {vs : List (List Value)} {l : List α} {news : List Value} {sv' : Value} {x : α} (h : Gw B e k E d w sv vs l) (hB : B ≤ w.heap.size) (ha : App e k w sv l.length vs.flatten news sv' w') (hn : news.length = k) (hE : ∀ vs x, E w vs x → E w' vs x) (hx : E w' news x) : Gw B e k E d w' sv' (vs ++ [news]) (l ++ [x]) := by
  refine ⟨?_, fun b hb => (ha.own b hb).elim (h.own b) (fun e => Nat.le_trans hB e), by rw [List.length_append, List.length_append, h.len]; rfl, fun v hv => (List.mem_append.1 hv).elim (h.wide v) (fun e => by rw [List.mem_singleton.1 e]; exact hn), fun i hi => ?_⟩
  · rw [List.length_append, List.flatten_append]
    have := ha.sl
    simpa using this
  · rw [getD_snoc _ _ _ _ hi, getD_snoc _ _ _ _ (by rw [List.length_append, List.length_singleton, h.len]; simpa using hi), h.len]
    split
    · rename_i h1; exact hE _ _ (h.rep i h1)
    · exact hx
theorem flatten_get {k : Nat} : ∀ (vs : List (List Value)) (i q : Nat), (∀ v ∈ vs, v.length = k) → i < vs.length → q < k → vs.flatten[i * k + q]? = (vs.getD i [])[q]?
  | [], i, q, _, hi, _ => by cases hi
  | v :: r, 0, q, hk, _, hq => by
    rw [Nat.zero_mul, Nat.zero_add, List.flatten_cons, List.getElem?_append_left (by rw [hk v List.mem_cons_self]; exact hq)]
    rfl
  | v :: r, i + 1, q, hk, hi, hq => by
    rw [List.flatten_cons, List.getElem?_append_right (by rw [hk v List.mem_cons_self, Nat.add_mul]; omega), hk v List.mem_cons_self, show (i + 1) * k + q - k = i * k + q from by rw [Nat.add_mul]; omega]
    have := flatten_get r i q (fun z hz => hk z (List.mem_cons_of_mem _ hz)) (by simpa using hi) hq
    rw [this]
    rfl
theorem Gw.gl {α : Type} {B e k : Nat} {E : World → List Value → α → Prop} {d : α} {w : World} {sv : Value} {vs : List (List Value)} {l : List α} (h : Gw B e k E d w sv vs l) (P : Nat → Prop) (hp : ∀ b, sv.ownBlock = some b → P b) : Gl P k E d w sv l := by
  refine ⟨h.sl.len, h.sl.big, ?_, fun h0 => ?_⟩
  · obtain ⟨_, ⟨rfl, h2⟩ | ⟨b, o, c', cs, rfl, _, h3, _⟩⟩ := h.sl
    · intro A n c e
      cases e
      exact ⟨Nat.le_refl _, fun _ => ⟨rfl, rfl⟩⟩
    · intro A n c e
      cases e
      exact ⟨h3, fun e => by cases e⟩
  · obtain ⟨b, o, c', cs, e0, hc, _⟩ := h.sl.form h0
    have hs := h.sl
    rw [e0] at hs
    refine ⟨b, o, c', e0, heap_lt hc, hp b (by rw [e0]; rfl), fun j hj => ?_⟩
    have hv : j < vs.length := by rw [h.len]; exact hj
    refine ⟨vs.getD j [], h.wide _ (by rw [List.getD_eq_getElem?_getD, List.getElem?_eq_getElem hv]; exact List.getElem_mem hv), fun q hq => ?_, h.rep j hj⟩
    rw [Nat.add_assoc, hs.cell (j * k + q) (by have : j * k + k ≤ l.length * k := by rw [← Nat.succ_mul]; exact Nat.mul_le_mul_right k hj
                                               omega)]
    exact flatten_get vs j q h.wide hv hq
/-- An append of one element: the new slice written out. -/
theorem wpList_append_elx (wr : World) {ops : Array Oper} {rest : List Oper} {o : Oper} {a : Act} {Q : Exit → Act → World → Prop} (hgd : o.guard = none) (s x : Operand) (t e size bytes : Nat) (z : Value) (cs : Array Value)
    (ho : o.op = .call { callee := .builtin .append, args := #[s, x], argTypes := #[t, t] }) (ht : Tryd.prog.underlying t = some (.slice e)) (hinfo : (Tryd.prog.info? e).map (fun i => (i.zero, i.size, i.bytes)) = some (some z, size, bytes)) (hzs : z.cells.size = size) (hsz : 0 < size)
    (hcs : cs.size = size) (hone : ∀ u ∈ cs.toList, u.oneCell' = true)
    (sv : Value) (n : Nat) (xs : List Value) (hs : a.eval s = sv) (h : Sl wr e size sv n xs) (H : Nat) (hx : a.eval x = .slice (some ⟨H, 0, none⟩) 1 1) (hH : wr.heap.size = H) (hl : n < 1000000000000) (hby : bytes ≤ 128)
    (hk : ∀ b f c w', App e size wr sv n xs cs.toList (.slice (some ⟨b, f, none⟩) (n + 1) c) w' → wpList Tryd.prog ops Q rest (a.put o.dst (.slice (some ⟨b, f, none⟩) (n + 1) c)) w') : wpList Tryd.prog ops Q (o :: rest) a (wr.alloc (.cells cs e)) := by
  obtain ⟨i0, hi0, hz0, hz1, hz2⟩ := info_parts hinfo
  subst hH
  have hb : (n + 1) * bytes ≤ 140737488355328 := Nat.le_trans (Nat.mul_le_mul (show n + 1 ≤ 1000000000000 by omega) hby) (by decide)
  refine wpList_append_sl _ hgd s x t ho e i0 z size bytes ht hi0 hz0 hz1 hz2 hzs hsz sv n xs hs (Sl.alloc h _) ⟨wr.heap.size, 0, none⟩ 1 1 cs.toList hx (by rw [Array.length_toList, hcs, Nat.one_mul]) (World.news_of_block (heap_new wr _)) hone (by decide) (by unfold maxLen; omega) hb _ rfl ?_
  intro b f c w' hs' hf' hb'
  refine hk _ _ _ _ ⟨hs', (Fr.of_below (below_alloc (Below.refl _ _) _)).trans2 hf' (fun k _ e => e), fun b' hb2 => ?_⟩
  cases hb2
  rcases hb' with e1 | e1
  · exact Or.inl e1
  · right; have := e1.1; simp at this; show wr.heap.size ≤ b; omega
/-- An append of one element inside a statement that draws its order. -/
theorem step_append_el (wr W : World) {ops : Array Oper} {o : Oper} {a : Act} {K : Act → World → Prop} {Q : Exit → Act → World → Prop} {X : Prop} (hgd : o.guard = none) (s x : Operand) (t e size bytes : Nat) (z : Value) (cs : Array Value)
    (ho : o.op = .call { callee := .builtin .append, args := #[s, x], argTypes := #[t, t] }) (ht : Tryd.prog.underlying t = some (.slice e)) (hinfo : (Tryd.prog.info? e).map (fun i => (i.zero, i.size, i.bytes)) = some (some z, size, bytes)) (hzs : z.cells.size = size) (hsz : 0 < size)
    (hcs : cs.size = size) (hone : ∀ u ∈ cs.toList, u.oneCell' = true)
    (sv : Value) (n : Nat) (xs : List Value) (hs : a.eval s = sv) (h : Sl wr e size sv n xs) (hb : Below wr.heap.size wr W) (H : Nat) (hx : a.eval x = .slice (some ⟨H, 0, none⟩) 1 1) (hH : W.heap[H]? = some (.cells cs e (0, 0))) (hl : n < 1000000000000) (hby : bytes ≤ 128)
    (hk : ∀ b f c w', App e size wr sv n xs cs.toList (.slice (some ⟨b, f, none⟩) (n + 1) c) w' → K (a.put o.dst (.slice (some ⟨b, f, none⟩) (n + 1) c)) w') :
    if Region.wanted o (yielded ops a.tmps) = true then Oper.wp Tryd.prog o a W K Q else X := by
  obtain ⟨i0, hi0, hz0, hz1, hz2⟩ := info_parts hinfo
  have hbn : (n + 1) * bytes ≤ 140737488355328 := Nat.le_trans (Nat.mul_le_mul (show n + 1 ≤ 1000000000000 by omega) hby) (by decide)
  refine step_append_sl _ hgd s x t ho e i0 z size bytes ht hi0 hz0 hz1 hz2 hzs hsz sv n xs hs (h.call hb) ⟨H, 0, none⟩ 1 1 cs.toList hx (by rw [Array.length_toList, hcs, Nat.one_mul]) (World.news_of_block hH) hone (by decide) (by unfold maxLen; omega) hbn _ rfl ?_
  intro b f c w' hs' hf' hb'
  refine hk _ _ _ _ ⟨hs', (Fr.of_below hb).trans2 hf' (fun k _ e => e), fun b' hb2 => ?_⟩
  cases hb2
  rcases hb' with e1 | e1
  · exact Or.inl e1
  · right; have := e1.1; have := hb.size; show wr.heap.size ≤ b; omega
end Go.Proofs.YtdbjljbkneopcaaDoor
