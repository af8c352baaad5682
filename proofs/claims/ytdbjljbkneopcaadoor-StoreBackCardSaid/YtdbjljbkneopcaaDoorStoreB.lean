/- A store in memory: what it is, and what each kind of write makes of it. -/
import Derived.Test.YtdbjljbkneopcaaDoorStoreA
namespace Go.Proofs.YtdbjljbkneopcaaDoor
open Go.RowKit
set_option linter.unusedSimpArgs false
set_option linter.unusedVariables false

/-- A block's type. -/
def Ty (w : World) (b : Nat) (t : TypeId) : Prop := ∃ cs, w.heap[b]? = some (.cells cs t (0, 0))
theorem Sl.typed {w : World} {e k n : Nat} {v : Value} {xs : List Value} (h : Sl w e k v n xs) {b : Nat} (hb : v.ownBlock = some b) : Ty w b e := by
  obtain ⟨_, ⟨rfl, _⟩ | ⟨b', o, c, cs, rfl, hc, _⟩⟩ := h
  · cases hb
  · cases hb; exact ⟨cs, hc⟩
theorem Dm.Rep.typed {w : World} {v : Value} {l : List Int} (h : Dm.Rep w v l) {b : Nat} (hb : Dm.wb v = some b) : Ty w b 140 := by
  obtain ⟨off, sv, ws, rfl, hx⟩ := h
  exact hx.sl.typed hb
theorem Dm.Rep.keep {S : Nat → Prop} {w w' : World} {v : Value} {l : List Int} (h : Dm.Rep w v l) (hf : Fr S w w') (hn : ∀ b, Dm.wb v = some b → ¬ S b) : Dm.Rep w' v l := by
  obtain ⟨off, sv, ws, rfl, hx⟩ := h
  exact ⟨off, sv, ws, rfl, hx.kept hf (fun b hb => hn b hb)⟩
/-- Blocks of two types are two. -/
theorem Ty.ne {w : World} {b b' : Nat} {t t' : TypeId} (h : Ty w b t) (h' : Ty w b' t') (ht : t ≠ t') : b ≠ b' := fun e => by
  subst e
  obtain ⟨cs, h⟩ := h
  obtain ⟨cs', h'⟩ := h'
  rw [h] at h'
  cases h'
  exact ht rfl
theorem Ty.lt {w : World} {b : Nat} {t : TypeId} (h : Ty w b t) : b < w.heap.size := by
  obtain ⟨cs, h⟩ := h
  exact heap_lt h
/-- Domains are kept where no word is written. -/
theorem Dl.keep {S : Nat → Prop} {w w' : World} {sv : Value} {vs : List Value} {ls : List (List Int)} (h : Dl w sv vs ls) (hf : Fr S w w') (h1 : ∀ b, sv.ownBlock = some b → ¬ S b) (h2 : ∀ b, Ty w b 140 → ¬ S b) : Dl w' sv vs ls :=
  ⟨h.sl.kept hf h1, h.len, fun i hi => (h.rep i hi).keep hf (fun b hb => h2 b ((h.rep i hi).typed hb))⟩
/-- A store's parts: the values in its block. -/
structure Su.Parts where
  ds : Value
  ss : Value
  ts : Value
  ms : Value
  es : Value
  vs : List Value
  tv : List Value
def Su.Parts.fp (p : Su.Parts) (S k : Nat) : Prop := k = S ∨ p.ds.ownBlock = some k ∨ p.ss.ownBlock = some k ∨ p.ts.ownBlock = some k ∨ p.ms.ownBlock = some k ∨ p.es.ownBlock = some k
def Su.tcells (tr : List (Nat × List Int)) (tv : List Value) : List Value := (tr.zip tv).flatMap fun e => .int .i64 (e.1.1 : Int) :: Dm.cells e.2
def Su.ecells (es : List (Int × Int)) : List Value := es.flatMap fun e => [.int .i64 e.1, .int .i64 e.2]
structure Su.Mem (w : World) (S : Nat) (p : Su.Parts) (m : Su.M) : Prop where
  box : w.heap[S]? = some (.cells #[p.ds, p.ss, p.ts, p.ms, .int .i64 m.time, p.es] 151 (0, 0))
  doms : Dl w p.ds p.vs m.cur
  stamps : Sl w 3 1 p.ss m.stamps.length (Iv m.stamps)
  trail : Sl w 153 6 p.ts m.trail.length (Su.tcells m.trail p.tv)
  tlen : p.tv.length = m.trail.length
  trep : ∀ i, i < m.trail.length → Dm.Rep w (p.tv.getD i undef) (m.trail.getD i (0, [])).2
  tat : ∀ e ∈ m.trail, e.1 < m.cur.length
  marks : Sl w 3 1 p.ms m.marks.length (Iv (m.marks.map Int.ofNat))
  events : Sl w 155 2 p.es m.events.length (Su.ecells m.events)
  apart : ∀ b, p.ss.ownBlock = some b → p.ms.ownBlock ≠ some b
structure Su.At (w : World) (S : Nat) (p : Su.Parts) (m : Su.M) : Prop extends Su.Mem w S p m where
  ok : Su.Ok m
theorem Su.Mem.call {w w' : World} {S : Nat} {p : Su.Parts} {m : Su.M} (h : Su.Mem w S p m) (hb : Below w.heap.size w w') : Su.Mem w' S p m :=
  ⟨heap_call h.box hb, h.doms.call hb, h.stamps.call hb, h.trail.call hb, h.tlen, fun i hi => (h.trep i hi).call hb, h.tat, h.marks.call hb, h.events.call hb, h.apart⟩
theorem Su.At.call {w w' : World} {S : Nat} {p : Su.Parts} {m : Su.M} (h : Su.At w S p m) (hb : Below w.heap.size w w') : Su.At w' S p m := ⟨h.toMem.call hb, h.ok⟩
/-- Sizes. -/
structure Su.Sz (m : Su.M) (N : Nat) : Prop where
  marks : m.marks.length ≤ N
  trail : m.trail.length ≤ N
  events : m.events.length ≤ N
  t0 : 0 ≤ m.time
  t1 : m.time ≤ N
theorem Su.Sz.mono {m : Su.M} {N N' : Nat} (h : Su.Sz m N) (hn : N ≤ N') : Su.Sz m N' := ⟨Nat.le_trans h.marks hn, Nat.le_trans h.trail hn, Nat.le_trans h.events hn, h.t0, by have := h.t1; omega⟩
theorem Su.Mem.tyS {w : World} {S : Nat} {p : Su.Parts} {m : Su.M} (h : Su.Mem w S p m) : Ty w S 151 := ⟨_, h.box⟩
theorem Su.Mem.tyd {w : World} {S : Nat} {p : Su.Parts} {m : Su.M} (h : Su.Mem w S p m) {b : Nat} (hb : p.ds.ownBlock = some b) : Ty w b 25 := h.doms.sl.typed hb
theorem Su.Mem.tys {w : World} {S : Nat} {p : Su.Parts} {m : Su.M} (h : Su.Mem w S p m) {b : Nat} (hb : p.ss.ownBlock = some b) : Ty w b 3 := h.stamps.typed hb
theorem Su.Mem.tyt {w : World} {S : Nat} {p : Su.Parts} {m : Su.M} (h : Su.Mem w S p m) {b : Nat} (hb : p.ts.ownBlock = some b) : Ty w b 153 := h.trail.typed hb
theorem Su.Mem.tym {w : World} {S : Nat} {p : Su.Parts} {m : Su.M} (h : Su.Mem w S p m) {b : Nat} (hb : p.ms.ownBlock = some b) : Ty w b 3 := h.marks.typed hb
theorem Su.Mem.tye {w : World} {S : Nat} {p : Su.Parts} {m : Su.M} (h : Su.Mem w S p m) {b : Nat} (hb : p.es.ownBlock = some b) : Ty w b 155 := h.events.typed hb
/-- A step: what the store is then; what was written; which blocks it has. -/
structure Su.St (w w' : World) (S : Nat) (p p' : Su.Parts) (m' : Su.M) : Prop where
  mem : Su.Mem w' S p' m'
  fr : Fr (p.fp S) w w'
  fp : ∀ k, p'.fp S k → p.fp S k ∨ w.heap.size ≤ k
theorem Su.St.refl {w : World} {S : Nat} {p : Su.Parts} {m : Su.M} (h : Su.Mem w S p m) : Su.St w w S p p m := ⟨h, Fr.refl _ _, fun _ hk => Or.inl hk⟩
theorem Su.St.trans {w w1 w2 : World} {S : Nat} {p p1 p2 : Su.Parts} {m1 m2 : Su.M} (h : Su.St w w1 S p p1 m1) (k : Su.St w1 w2 S p1 p2 m2) : Su.St w w2 S p p2 m2 :=
  ⟨k.mem, h.fr.trans2 k.fr (fun i hi hk => (h.fp i hk).elim id (fun e => by omega)), fun i hi => (k.fp i hi).elim (fun e => h.fp i e) (fun e => Or.inr (Nat.le_trans h.fr.size e))⟩
theorem Su.St.call {w w1 w2 : World} {S : Nat} {p p1 : Su.Parts} {m1 : Su.M} (h : Su.St w w1 S p p1 m1) (hb : Below w1.heap.size w1 w2) : Su.St w w2 S p p1 m1 :=
  ⟨h.mem.call hb, h.fr.trans (Fr.of_below hb), h.fp⟩
theorem Su.St.before {w w1 w2 : World} {S : Nat} {p p1 : Su.Parts} {m1 : Su.M} (hb : Below w.heap.size w w1) (h : Su.St w1 w2 S p p1 m1) : Su.St w w2 S p p1 m1 :=
  ⟨h.mem, (Fr.of_below hb).trans h.fr, fun k hk => (h.fp k hk).imp id (fun e => Nat.le_trans hb.size e)⟩
/-- A mark more. -/
theorem Su.Mem.addMark {w w2 : World} {S : Nat} {p : Su.Parts} {m : Su.M} (h : Su.Mem w S p m) (x : Nat) {b f c : Nat}
    (hs : Sl w2 3 1 (.slice (some ⟨b, f, none⟩) (m.marks.length + 1) c) (m.marks.length + 1) (Iv (m.marks.map Int.ofNat) ++ [.int .i64 (x : Int)])) (hf1 : Fr (fun k => p.ms.ownBlock = some k) w w2) (hb : p.ms.ownBlock = some b ∨ w.heap.size ≤ b) :
    Su.St w (w2.setCell ⟨S, 3, none⟩ (.slice (some ⟨b, f, none⟩) (m.marks.length + 1) c)) S p { p with ms := .slice (some ⟨b, f, none⟩) (m.marks.length + 1) c } { m with marks := m.marks ++ [x] } := by
  have hS : S ≠ b := by
    rcases hb with e | e
    · exact h.tyS.ne (h.tym e) (by decide)
    · have := h.tyS.lt; omega
  have FR : Fr (fun k => p.ms.ownBlock = some k ∨ k = S) w (w2.setCell ⟨S, 3, none⟩ (.slice (some ⟨b, f, none⟩) (m.marks.length + 1) c)) :=
    Fr.set (S := fun k => p.ms.ownBlock = some k ∨ k = S) (hf1.mono (fun k _ e => Or.inl e)) (p := ⟨S, 3, none⟩) (fun _ => Or.inr rfl) _
  have hbox := heap_set (hf1.heap h.box (fun e => (h.tym e).ne h.tyS (by decide) rfl)) 3 (.slice (some ⟨b, f, none⟩) (m.marks.length + 1) c)
  have hnew : Sl (w2.setCell ⟨S, 3, none⟩ (.slice (some ⟨b, f, none⟩) (m.marks.length + 1) c)) 3 1 (.slice (some ⟨b, f, none⟩) (m.marks.length + 1) c) (m.marks ++ [x]).length (Iv ((m.marks ++ [x]).map Int.ofNat)) := by
    have e : Iv ((m.marks ++ [x]).map Int.ofNat) = Iv (m.marks.map Int.ofNat) ++ [.int .i64 (x : Int)] := by simp [Iv]
    rw [e, List.length_append]
    exact hs.kept (S := fun k => k = S) (Fr.set (S := fun k => k = S) (Fr.refl _ w2) (p := ⟨S, 3, none⟩) (fun _ => rfl) _) (fun b' hb' e => by cases hb'; exact hS e.symm)
  refine ⟨⟨hbox, h.doms.keep FR (fun b' hb' e => e.elim (fun e => (h.tyd hb').ne (h.tym e) (by decide) rfl) (fun e => (h.tyd hb').ne h.tyS (by decide) e)) (fun b' hb' e => e.elim (fun e => hb'.ne (h.tym e) (by decide) rfl) (fun e => hb'.ne h.tyS (by decide) e)), h.stamps.kept FR (fun b' hb' e => e.elim (fun e => h.apart _ hb' e) (fun e => (h.tys hb').ne h.tyS (by decide) e)), h.trail.kept FR (fun b' hb' e => e.elim (fun e => (h.tyt hb').ne (h.tym e) (by decide) rfl) (fun e => (h.tyt hb').ne h.tyS (by decide) e)), h.tlen, fun i hi => (h.trep i hi).keep FR (fun b' hb' e => e.elim (fun e => ((h.trep i hi).typed hb' : Ty w b' _).ne (h.tym e) (by decide) rfl) (fun e => ((h.trep i hi).typed hb' : Ty w b' _).ne h.tyS (by decide) e)), h.tat, hnew, h.events.kept FR (fun b' hb' e => e.elim (fun e => (h.tye hb').ne (h.tym e) (by decide) rfl) (fun e => (h.tye hb').ne h.tyS (by decide) e)), fun b' hb' e => by cases e; exact hb.elim (fun e => h.apart _ hb' e) (fun e => by have := (h.tys (b := b) hb').lt; omega)⟩, FR.mono (fun k _ e => e.elim (fun e => Or.inr (Or.inr (Or.inr (Or.inr (Or.inl e))))) (fun e => Or.inl e)), fun k hk => ?_⟩
  rcases hk with e | e | e | e | e | e
  · exact Or.inl (Or.inl e)
  · exact Or.inl (Or.inr (Or.inl e))
  · exact Or.inl (Or.inr (Or.inr (Or.inl e)))
  · exact Or.inl (Or.inr (Or.inr (Or.inr (Or.inl e))))
  · cases e; exact hb.imp (fun e => Or.inr (Or.inr (Or.inr (Or.inr (Or.inl e))))) id
  · exact Or.inl (Or.inr (Or.inr (Or.inr (Or.inr (Or.inr e)))))
/-- An event more. -/
theorem Su.Mem.addEvent {w w2 : World} {S : Nat} {p : Su.Parts} {m : Su.M} (h : Su.Mem w S p m) (x : Int × Int) {b f c : Nat}
    (hs : Sl w2 155 2 (.slice (some ⟨b, f, none⟩) (m.events.length + 1) c) (m.events.length + 1) (Su.ecells m.events ++ [.int .i64 x.1, .int .i64 x.2])) (hf1 : Fr (fun k => p.es.ownBlock = some k) w w2) (hb : p.es.ownBlock = some b ∨ w.heap.size ≤ b) :
    Su.St w (w2.setCell ⟨S, 5, none⟩ (.slice (some ⟨b, f, none⟩) (m.events.length + 1) c)) S p { p with es := .slice (some ⟨b, f, none⟩) (m.events.length + 1) c } { m with events := m.events ++ [x] } := by
  have hS : S ≠ b := by
    rcases hb with e | e
    · exact h.tyS.ne (h.tye e) (by decide)
    · have := h.tyS.lt; omega
  have FR : Fr (fun k => p.es.ownBlock = some k ∨ k = S) w (w2.setCell ⟨S, 5, none⟩ (.slice (some ⟨b, f, none⟩) (m.events.length + 1) c)) :=
    Fr.set (S := fun k => p.es.ownBlock = some k ∨ k = S) (hf1.mono (fun k _ e => Or.inl e)) (p := ⟨S, 5, none⟩) (fun _ => Or.inr rfl) _
  have hbox := heap_set (hf1.heap h.box (fun e => (h.tye e).ne h.tyS (by decide) rfl)) 5 (.slice (some ⟨b, f, none⟩) (m.events.length + 1) c)
  have hnew : Sl (w2.setCell ⟨S, 5, none⟩ (.slice (some ⟨b, f, none⟩) (m.events.length + 1) c)) 155 2 (.slice (some ⟨b, f, none⟩) (m.events.length + 1) c) (m.events ++ [x]).length (Su.ecells (m.events ++ [x])) := by
    have e : Su.ecells (m.events ++ [x]) = Su.ecells m.events ++ [.int .i64 x.1, .int .i64 x.2] := by simp [Su.ecells]
    rw [e, List.length_append]
    exact hs.kept (S := fun k => k = S) (Fr.set (S := fun k => k = S) (Fr.refl _ w2) (p := ⟨S, 5, none⟩) (fun _ => rfl) _) (fun b' hb' e => by cases hb'; exact hS e.symm)
  refine ⟨⟨hbox, h.doms.keep FR (fun b' hb' e => e.elim (fun e => (h.tyd hb').ne (h.tye e) (by decide) rfl) (fun e => (h.tyd hb').ne h.tyS (by decide) e)) (fun b' hb' e => e.elim (fun e => hb'.ne (h.tye e) (by decide) rfl) (fun e => hb'.ne h.tyS (by decide) e)), h.stamps.kept FR (fun b' hb' e => e.elim (fun e => (h.tys hb').ne (h.tye e) (by decide) rfl) (fun e => (h.tys hb').ne h.tyS (by decide) e)), h.trail.kept FR (fun b' hb' e => e.elim (fun e => (h.tyt hb').ne (h.tye e) (by decide) rfl) (fun e => (h.tyt hb').ne h.tyS (by decide) e)), h.tlen, fun i hi => (h.trep i hi).keep FR (fun b' hb' e => e.elim (fun e => ((h.trep i hi).typed hb' : Ty w b' _).ne (h.tye e) (by decide) rfl) (fun e => ((h.trep i hi).typed hb' : Ty w b' _).ne h.tyS (by decide) e)), h.tat, h.marks.kept FR (fun b' hb' e => e.elim (fun e => (h.tym hb').ne (h.tye e) (by decide) rfl) (fun e => (h.tym hb').ne h.tyS (by decide) e)), hnew, h.apart⟩, FR.mono (fun k _ e => e.elim (fun e => Or.inr (Or.inr (Or.inr (Or.inr (Or.inr e))))) (fun e => Or.inl e)), fun k hk => ?_⟩
  rcases hk with e | e | e | e | e | e
  · exact Or.inl (Or.inl e)
  · exact Or.inl (Or.inr (Or.inl e))
  · exact Or.inl (Or.inr (Or.inr (Or.inl e)))
  · exact Or.inl (Or.inr (Or.inr (Or.inr (Or.inl e))))
  · exact Or.inl (Or.inr (Or.inr (Or.inr (Or.inr (Or.inl e)))))
  · cases e; exact hb.imp (fun e => Or.inr (Or.inr (Or.inr (Or.inr (Or.inr e))))) id
/-- A domain more is saved. -/
theorem Su.Mem.addSaved {w w2 : World} {S : Nat} {p : Su.Parts} {m : Su.M} (h : Su.Mem w S p m) (i : Nat) (v : Value) (l : List Int) (hr : Dm.Rep w v l) (hi : i < m.cur.length) {b f c : Nat}
    (hs : Sl w2 153 6 (.slice (some ⟨b, f, none⟩) (m.trail.length + 1) c) (m.trail.length + 1) (Su.tcells m.trail p.tv ++ (.int .i64 (i : Int) :: Dm.cells v))) (hf1 : Fr (fun k => p.ts.ownBlock = some k) w w2) (hb : p.ts.ownBlock = some b ∨ w.heap.size ≤ b) :
    Su.St w (w2.setCell ⟨S, 2, none⟩ (.slice (some ⟨b, f, none⟩) (m.trail.length + 1) c)) S p { p with ts := .slice (some ⟨b, f, none⟩) (m.trail.length + 1) c, tv := p.tv ++ [v] } { m with trail := m.trail ++ [(i, l)] } := by
  have hS : S ≠ b := by
    rcases hb with e | e
    · exact h.tyS.ne (h.tyt e) (by decide)
    · have := h.tyS.lt; omega
  have FR : Fr (fun k => p.ts.ownBlock = some k ∨ k = S) w (w2.setCell ⟨S, 2, none⟩ (.slice (some ⟨b, f, none⟩) (m.trail.length + 1) c)) :=
    Fr.set (S := fun k => p.ts.ownBlock = some k ∨ k = S) (hf1.mono (fun k _ e => Or.inl e)) (p := ⟨S, 2, none⟩) (fun _ => Or.inr rfl) _
  have hbox := heap_set (hf1.heap h.box (fun e => (h.tyt e).ne h.tyS (by decide) rfl)) 2 (.slice (some ⟨b, f, none⟩) (m.trail.length + 1) c)
  have hnew : Sl (w2.setCell ⟨S, 2, none⟩ (.slice (some ⟨b, f, none⟩) (m.trail.length + 1) c)) 153 6 (.slice (some ⟨b, f, none⟩) (m.trail.length + 1) c) (m.trail ++ [(i, l)]).length (Su.tcells (m.trail ++ [(i, l)]) (p.tv ++ [v])) := by
    have e : Su.tcells (m.trail ++ [(i, l)]) (p.tv ++ [v]) = Su.tcells m.trail p.tv ++ (.int .i64 (i : Int) :: Dm.cells v) := by
      unfold Su.tcells
      rw [List.zip_append h.tlen.symm, List.flatMap_append]
      simp
    rw [e, List.length_append]
    exact hs.kept (S := fun k => k = S) (Fr.set (S := fun k => k = S) (Fr.refl _ w2) (p := ⟨S, 2, none⟩) (fun _ => rfl) _) (fun b' hb' e => by cases hb'; exact hS e.symm)
  have hrk : ∀ {v' : Value} {l' : List Int}, Dm.Rep w v' l' → Dm.Rep (w2.setCell ⟨S, 2, none⟩ (.slice (some ⟨b, f, none⟩) (m.trail.length + 1) c)) v' l' := fun hr' => hr'.keep FR (fun b' hb' e => e.elim (fun e => (hr'.typed hb' : Ty w b' _).ne (h.tyt e) (by decide) rfl) (fun e => (hr'.typed hb' : Ty w b' _).ne h.tyS (by decide) e))
  have htr : ∀ j, j < (m.trail ++ [(i, l)]).length → Dm.Rep (w2.setCell ⟨S, 2, none⟩ (.slice (some ⟨b, f, none⟩) (m.trail.length + 1) c)) ((p.tv ++ [v]).getD j undef) ((m.trail ++ [(i, l)]).getD j (0, [])).2 := fun j hj => by
    rw [List.getD_eq_getElem?_getD, List.getD_eq_getElem?_getD]
    rw [List.length_append, List.length_singleton] at hj
    rcases Nat.lt_or_ge j m.trail.length with g | g
    · rw [List.getElem?_append_left g, List.getElem?_append_left (by rw [h.tlen]; exact g)]
      have := h.trep j g
      rw [List.getD_eq_getElem?_getD, List.getD_eq_getElem?_getD] at this
      exact hrk this
    · obtain rfl : j = m.trail.length := by omega
      rw [List.getElem?_append_right (Nat.le_refl _), List.getElem?_append_right (by rw [h.tlen]; exact Nat.le_refl _), h.tlen, Nat.sub_self]
      exact hrk hr
  refine ⟨⟨hbox, h.doms.keep FR (fun b' hb' e => e.elim (fun e => (h.tyd hb').ne (h.tyt e) (by decide) rfl) (fun e => (h.tyd hb').ne h.tyS (by decide) e)) (fun b' hb' e => e.elim (fun e => hb'.ne (h.tyt e) (by decide) rfl) (fun e => hb'.ne h.tyS (by decide) e)), h.stamps.kept FR (fun b' hb' e => e.elim (fun e => (h.tys hb').ne (h.tyt e) (by decide) rfl) (fun e => (h.tys hb').ne h.tyS (by decide) e)), hnew, by rw [List.length_append, List.length_append, h.tlen]; rfl, htr, fun e he => (List.mem_append.1 he).elim (h.tat e) (fun he => by rw [List.mem_singleton.1 he]; exact hi), h.marks.kept FR (fun b' hb' e => e.elim (fun e => (h.tym hb').ne (h.tyt e) (by decide) rfl) (fun e => (h.tym hb').ne h.tyS (by decide) e)), h.events.kept FR (fun b' hb' e => e.elim (fun e => (h.tye hb').ne (h.tyt e) (by decide) rfl) (fun e => (h.tye hb').ne h.tyS (by decide) e)), h.apart⟩, FR.mono (fun k _ e => e.elim (fun e => Or.inr (Or.inr (Or.inr (Or.inl e)))) (fun e => Or.inl e)), fun k hk => ?_⟩
  rcases hk with e | e | e | e | e | e
  · exact Or.inl (Or.inl e)
  · exact Or.inl (Or.inr (Or.inl e))
  · exact Or.inl (Or.inr (Or.inr (Or.inl e)))
  · cases e; exact hb.imp (fun e => Or.inr (Or.inr (Or.inr (Or.inl e)))) id
  · exact Or.inl (Or.inr (Or.inr (Or.inr (Or.inr (Or.inl e)))))
  · exact Or.inl (Or.inr (Or.inr (Or.inr (Or.inr (Or.inr e)))))
/-- The time is another one. -/
theorem Su.Mem.setTime {w : World} {S : Nat} {p : Su.Parts} {m : Su.M} (h : Su.Mem w S p m) (t : Int) : Su.St w (w.setCell ⟨S, 4, none⟩ (.int .i64 t)) S p p { m with time := t } := by
  have FR : Fr (fun k => k = S) w (w.setCell ⟨S, 4, none⟩ (.int .i64 t)) := Fr.set (S := fun k => k = S) (Fr.refl _ w) (p := ⟨S, 4, none⟩) (fun _ => rfl) _
  have K : ∀ {b : Nat} {t : TypeId}, Ty w b t → t ≠ 151 → ¬ b = S := fun hb' ht e => hb'.ne h.tyS ht e
  refine ⟨⟨heap_set h.box 4 _, h.doms.keep FR (fun b hb => K (h.tyd hb) (by decide)) (fun b hb => K hb (by decide)), h.stamps.kept FR (fun b hb => K (h.tys hb) (by decide)), h.trail.kept FR (fun b hb => K (h.tyt hb) (by decide)), h.tlen, fun i hi => (h.trep i hi).keep FR (fun b hb => K ((h.trep i hi).typed hb) (by decide)), h.tat, h.marks.kept FR (fun b hb => K (h.tym hb) (by decide)), h.events.kept FR (fun b hb => K (h.tye hb) (by decide)), h.apart⟩, FR.mono (fun k _ e => Or.inl e), fun k hk => ?_⟩
  exact Or.inl hk
/-- No events. -/
theorem Su.Mem.noEvents {w : World} {S : Nat} {p : Su.Parts} {m : Su.M} (h : Su.Mem w S p m) : Su.St w (w.setCell ⟨S, 5, none⟩ (.slice none 0 0)) S p { p with es := .slice none 0 0 } { m with events := [] } := by
  have FR : Fr (fun k => k = S) w (w.setCell ⟨S, 5, none⟩ (.slice none 0 0)) := Fr.set (S := fun k => k = S) (Fr.refl _ w) (p := ⟨S, 5, none⟩) (fun _ => rfl) _
  have K : ∀ {b : Nat} {t : TypeId}, Ty w b t → t ≠ 151 → ¬ b = S := fun hb' ht e => hb'.ne h.tyS ht e
  refine ⟨⟨heap_set h.box 5 _, h.doms.keep FR (fun b hb => K (h.tyd hb) (by decide)) (fun b hb => K hb (by decide)), h.stamps.kept FR (fun b hb => K (h.tys hb) (by decide)), h.trail.kept FR (fun b hb => K (h.tyt hb) (by decide)), h.tlen, fun i hi => (h.trep i hi).keep FR (fun b hb => K ((h.trep i hi).typed hb) (by decide)), h.tat, h.marks.kept FR (fun b hb => K (h.tym hb) (by decide)), Sl.nil _ _ _, h.apart⟩, FR.mono (fun k _ e => Or.inl e), fun k hk => ?_⟩
  rcases hk with e | e | e | e | e | e
  · exact Or.inl (Or.inl e)
  · exact Or.inl (Or.inr (Or.inl e))
  · exact Or.inl (Or.inr (Or.inr (Or.inl e)))
  · exact Or.inl (Or.inr (Or.inr (Or.inr (Or.inl e))))
  · exact Or.inl (Or.inr (Or.inr (Or.inr (Or.inr (Or.inl e)))))
  · cases e
theorem Sl.cutk {w : World} {e k c n q : Nat} {A : Option Addr} {xs : List Value} (h : Sl w e k (.slice A n c) n xs) (hq : q ≤ n) : Sl w e k (.slice A q c) q (xs.take (q * k)) := by
  have hle : q * k ≤ n * k := Nat.mul_le_mul_right k hq
  obtain ⟨h0, ⟨h1, h2⟩ | ⟨b, o, c', cs, h1, hc, h3, h4, h5, h6⟩⟩ := h
  · cases h1
    obtain rfl : q = 0 := by omega
    exact ⟨by rw [List.length_take, h0]; omega, .inl ⟨rfl, rfl⟩⟩
  · cases h1
    refine ⟨by rw [List.length_take, h0]; omega, .inr ⟨b, o, c, cs, rfl, hc, by omega, h4, h5, fun j hj => ?_⟩⟩
    rw [List.getElem?_take, if_pos hj]
    exact h6 j (by omega)
theorem Su.tcells_take (tr : List (Nat × List Int)) (tv : List Value) (hl : tv.length = tr.length) (h5 : ∀ v ∈ tv, (Dm.cells v).length = 5) (q : Nat) : (Su.tcells tr tv).take (q * 6) = Su.tcells (tr.take q) (tv.take q) := by
  induction tr generalizing tv q with
  | nil =>
    cases tv with
    | nil => simp [Su.tcells]
    | cons v r => simp at hl
  | cons x r ih =>
    cases tv with
    | nil => simp at hl
    | cons v s =>
      cases q with
      | zero => simp [Su.tcells]
      | succ q =>
        have e : ∀ (a : Nat × List Int) (v : Value) (r : List (Nat × List Int)) (s : List Value), Su.tcells (a :: r) (v :: s) = (.int .i64 (a.1 : Int) :: Dm.cells v) ++ Su.tcells r s := fun a v r s => rfl
        rw [List.take_succ_cons, List.take_succ_cons, e, e, ← ih s (by simpa using hl) (fun u hu => h5 u (List.mem_cons_of_mem _ hu)) q]
        have l6 : (Value.int .i64 (x.1 : Int) :: Dm.cells v).length = 6 := by rw [List.length_cons, h5 v List.mem_cons_self]
        rw [List.take_append, l6, show (q + 1) * 6 - 6 = q * 6 from by omega, List.take_of_length_le (by rw [l6]; omega)]
theorem Su.Mem.tv5 {w : World} {S : Nat} {p : Su.Parts} {m : Su.M} (h : Su.Mem w S p m) : ∀ v ∈ p.tv, (Dm.cells v).length = 5 := fun v hv => by
  obtain ⟨i, hi, rfl⟩ := List.getElem_of_mem hv
  have := h.trep i (by rw [← h.tlen]; exact hi)
  rw [List.getD_eq_getElem?_getD, List.getElem?_eq_getElem hi] at this
  exact this.cells5
/-- The trail is cut. -/
theorem Su.Mem.cutTrail {w : World} {S : Nat} {p : Su.Parts} {m : Su.M} (h : Su.Mem w S p m) {A : Option Addr} {c : Nat} (hA : p.ts = .slice A m.trail.length c) (q : Nat) (hq : q ≤ m.trail.length) : Su.St w (w.setCell ⟨S, 2, none⟩ (.slice A q c)) S p { p with ts := .slice A q c, tv := p.tv.take q } { m with trail := m.trail.take q } := by
  have FR : Fr (fun k => k = S) w (w.setCell ⟨S, 2, none⟩ (.slice A q c)) := Fr.set (S := fun k => k = S) (Fr.refl _ w) (p := ⟨S, 2, none⟩) (fun _ => rfl) _
  have K : ∀ {b : Nat} {t : TypeId}, Ty w b t → t ≠ 151 → ¬ b = S := fun hb' ht e => hb'.ne h.tyS ht e
  have hown : ∀ b, (Value.slice A q c).ownBlock = some b → p.ts.ownBlock = some b := fun b hb => by rw [hA]; cases A <;> first | exact hb | cases hb
  have htr : Sl w 153 6 (.slice A q c) (m.trail.take q).length (Su.tcells (m.trail.take q) (p.tv.take q)) := by
    have := h.trail
    rw [hA] at this
    rw [List.length_take, Nat.min_eq_left hq, ← Su.tcells_take _ _ h.tlen h.tv5]
    exact this.cutk hq
  refine ⟨⟨heap_set h.box 2 _, h.doms.keep FR (fun b hb => K (h.tyd hb) (by decide)) (fun b hb => K hb (by decide)), h.stamps.kept FR (fun b hb => K (h.tys hb) (by decide)), htr.kept FR (fun b hb => K (h.tyt (hown b hb)) (by decide)), by rw [List.length_take, List.length_take, h.tlen], fun i hi => by
      rw [List.length_take] at hi
      have := h.trep i (by omega)
      rw [List.getD_eq_getElem?_getD, List.getD_eq_getElem?_getD] at this
      rw [List.getD_eq_getElem?_getD, List.getD_eq_getElem?_getD, List.getElem?_take, List.getElem?_take, if_pos (by omega), if_pos (by omega)]
      exact this.keep FR (fun b hb => K (this.typed hb) (by decide)), fun e he => h.tat e (List.mem_of_mem_take he), h.marks.kept FR (fun b hb => K (h.tym hb) (by decide)), h.events.kept FR (fun b hb => K (h.tye hb) (by decide)), h.apart⟩, FR.mono (fun k _ e => Or.inl e), fun k hk => ?_⟩
  rcases hk with e | e | e | e | e | e
  · exact Or.inl (Or.inl e)
  · exact Or.inl (Or.inr (Or.inl e))
  · exact Or.inl (Or.inr (Or.inr (Or.inl e)))
  · exact Or.inl (Or.inr (Or.inr (Or.inr (Or.inl (hown k e)))))
  · exact Or.inl (Or.inr (Or.inr (Or.inr (Or.inr (Or.inl e)))))
  · exact Or.inl (Or.inr (Or.inr (Or.inr (Or.inr (Or.inr e)))))
/-- The marks are cut. -/
theorem Su.Mem.cutMarks {w : World} {S : Nat} {p : Su.Parts} {m : Su.M} (h : Su.Mem w S p m) {A : Option Addr} {c : Nat} (hA : p.ms = .slice A m.marks.length c) (q : Nat) (hq : q ≤ m.marks.length) : Su.St w (w.setCell ⟨S, 3, none⟩ (.slice A q c)) S p { p with ms := .slice A q c } { m with marks := m.marks.take q } := by
  have FR : Fr (fun k => k = S) w (w.setCell ⟨S, 3, none⟩ (.slice A q c)) := Fr.set (S := fun k => k = S) (Fr.refl _ w) (p := ⟨S, 3, none⟩) (fun _ => rfl) _
  have K : ∀ {b : Nat} {t : TypeId}, Ty w b t → t ≠ 151 → ¬ b = S := fun hb' ht e => hb'.ne h.tyS ht e
  have hown : ∀ b, (Value.slice A q c).ownBlock = some b → p.ms.ownBlock = some b := fun b hb => by rw [hA]; cases A <;> first | exact hb | cases hb
  have hmk : Sl w 3 1 (.slice A q c) (m.marks.take q).length (Iv ((m.marks.take q).map Int.ofNat)) := by
    have := h.marks
    rw [hA] at this
    rw [List.length_take, Nat.min_eq_left hq]
    have e : Iv ((m.marks.take q).map Int.ofNat) = (Iv (m.marks.map Int.ofNat)).take (q * 1) := by unfold Iv; rw [Nat.mul_one, ← List.map_take, ← List.map_take]
    rw [e]
    exact this.cutk hq
  refine ⟨⟨heap_set h.box 3 _, h.doms.keep FR (fun b hb => K (h.tyd hb) (by decide)) (fun b hb => K hb (by decide)), h.stamps.kept FR (fun b hb => K (h.tys hb) (by decide)), h.trail.kept FR (fun b hb => K (h.tyt hb) (by decide)), h.tlen, fun i hi => (h.trep i hi).keep FR (fun b hb => K ((h.trep i hi).typed hb) (by decide)), h.tat, hmk.kept FR (fun b hb => K (h.tym (hown b hb)) (by decide)), h.events.kept FR (fun b hb => K (h.tye hb) (by decide)), fun b hb e => h.apart b hb (hown b e)⟩, FR.mono (fun k _ e => Or.inl e), fun k hk => ?_⟩
  rcases hk with e | e | e | e | e | e
  · exact Or.inl (Or.inl e)
  · exact Or.inl (Or.inr (Or.inl e))
  · exact Or.inl (Or.inr (Or.inr (Or.inl e)))
  · exact Or.inl (Or.inr (Or.inr (Or.inr (Or.inl e))))
  · exact Or.inl (Or.inr (Or.inr (Or.inr (Or.inr (Or.inl (hown k e))))))
  · exact Or.inl (Or.inr (Or.inr (Or.inr (Or.inr (Or.inr e)))))
/-- A stamp. -/
theorem Su.Mem.setStamp {w : World} {S : Nat} {p : Su.Parts} {m : Su.M} (h : Su.Mem w S p m) {b o n c : Nat} (hA : p.ss = .slice (some ⟨b, o, none⟩) n c) (i : Nat) (hi : i < m.stamps.length) (t : Int) :
    Su.St w (w.setCell ⟨b, o + i, none⟩ (.int .i64 t)) S p p { m with stamps := m.stamps.set i t } := by
  have hown : p.ss.ownBlock = some b := by rw [hA]; rfl
  have FR : Fr (fun k => k = b) w (w.setCell ⟨b, o + i, none⟩ (.int .i64 t)) := Fr.set (S := fun k => k = b) (Fr.refl _ w) (p := ⟨b, o + i, none⟩) (fun _ => rfl) _
  have TB := h.tys hown
  have K : ∀ {b' : Nat} {t : TypeId}, Ty w b' t → t ≠ 3 → ¬ b' = b := fun hb' ht e => hb'.ne TB ht e
  have hst : Sl (w.setCell ⟨b, o + i, none⟩ (.int .i64 t)) 3 1 p.ss (m.stamps.set i t).length (Iv (m.stamps.set i t)) := by
    have hn : n = m.stamps.length := by
      obtain ⟨A', c', e⟩ := h.stamps.len
      rw [hA] at e
      cases e; rfl
    subst hn
    have := h.stamps
    rw [hA] at this ⊢
    have := this.setk i (by omega) (.int .i64 t)
    rw [List.length_set]
    unfold Iv at this ⊢
    rw [← List.map_set] at this
    exact this
  refine ⟨⟨heap_far h.box (fun e => K h.tyS (by decide) e) _, h.doms.keep FR (fun b hb => K (h.tyd hb) (by decide)) (fun b hb => K hb (by decide)), hst, h.trail.kept FR (fun b hb => K (h.tyt hb) (by decide)), h.tlen, fun i hi => (h.trep i hi).keep FR (fun b hb => K ((h.trep i hi).typed hb) (by decide)), h.tat, h.marks.kept FR (fun b' hb' e => by subst e; exact h.apart _ hown hb'), h.events.kept FR (fun b hb => K (h.tye hb) (by decide)), h.apart⟩, FR.mono (fun k _ e => by subst e; exact Or.inr (Or.inr (Or.inl hown))), fun k hk => Or.inl hk⟩
/-- A domain is another one. -/
theorem Su.Mem.setDom {w : World} {S : Nat} {p : Su.Parts} {m : Su.M} (h : Su.Mem w S p m) {b o n c : Nat} (hA : p.ds = .slice (some ⟨b, o, none⟩) n c) (i : Nat) (hi : i < m.cur.length) (off : Int) (As : Option Addr) (q cs : Nat) (lo hh : Int) (z : Nat) (l : List Int)
    (hr : Dm.Rep w (.agg #[.int .i64 off, .slice As q cs, .int .i64 lo, .int .i64 hh, .int .i64 z]) l) :
    Su.St w (((((w.setCell ⟨b, o + (i * 5 + 0), none⟩ (.int .i64 off)).setCell ⟨b, o + (i * 5 + 1), none⟩ (.slice As q cs)).setCell ⟨b, o + (i * 5 + 2), none⟩ (.int .i64 lo)).setCell ⟨b, o + (i * 5 + 3), none⟩ (.int .i64 hh)).setCell ⟨b, o + (i * 5 + 4), none⟩ (.int .i64 z))
      S p { p with vs := p.vs.set i (.agg #[.int .i64 off, .slice As q cs, .int .i64 lo, .int .i64 hh, .int .i64 z]) } { m with cur := m.cur.set i l } := by
  have hown : p.ds.ownBlock = some b := by rw [hA]; rfl
  have FR : Fr (fun k => k = b) w (((((w.setCell ⟨b, o + (i * 5 + 0), none⟩ (.int .i64 off)).setCell ⟨b, o + (i * 5 + 1), none⟩ (.slice As q cs)).setCell ⟨b, o + (i * 5 + 2), none⟩ (.int .i64 lo)).setCell ⟨b, o + (i * 5 + 3), none⟩ (.int .i64 hh)).setCell ⟨b, o + (i * 5 + 4), none⟩ (.int .i64 z)) := by
    refine Fr.set (Fr.set (Fr.set (Fr.set (Fr.set (Fr.refl _ _) ?_ _) ?_ _) ?_ _) ?_ _) ?_ _
    all_goals exact fun _ => rfl
  have TB := h.tyd hown
  have K : ∀ {b' : Nat} {t : TypeId}, Ty w b' t → t ≠ 25 → ¬ b' = b := fun hb' ht e => hb'.ne TB ht e
  have hds : Dl (((((w.setCell ⟨b, o + (i * 5 + 0), none⟩ (.int .i64 off)).setCell ⟨b, o + (i * 5 + 1), none⟩ (.slice As q cs)).setCell ⟨b, o + (i * 5 + 2), none⟩ (.int .i64 lo)).setCell ⟨b, o + (i * 5 + 3), none⟩ (.int .i64 hh)).setCell ⟨b, o + (i * 5 + 4), none⟩ (.int .i64 z)) p.ds (p.vs.set i (.agg #[.int .i64 off, .slice As q cs, .int .i64 lo, .int .i64 hh, .int .i64 z])) (m.cur.set i l) := by
    have hD := h.doms
    have hn : n = p.vs.length := by
      obtain ⟨A', c', e⟩ := h.doms.sl.len
      rw [hA] at e
      cases e; rfl
    subst hn
    rw [hA] at hD ⊢
    refine hD.set i hi off As q cs lo hh z l hr (fun j hj e => ?_) (fun e => K ((hr.typed e : Ty w b _)) (by decide) rfl)
    exact K ((hD.rep j (by rw [← hD.len]; exact hj)).typed e) (by decide) rfl
  refine ⟨⟨FR.heap h.box (fun e => K h.tyS (by decide) e), hds, h.stamps.kept FR (fun b hb => K (h.tys hb) (by decide)), h.trail.kept FR (fun b hb => K (h.tyt hb) (by decide)), h.tlen, fun i hi => (h.trep i hi).keep FR (fun b hb => K ((h.trep i hi).typed hb) (by decide)), fun e he => by rw [List.length_set]; exact h.tat e he, h.marks.kept FR (fun b hb => K (h.tym hb) (by decide)), h.events.kept FR (fun b hb => K (h.tye hb) (by decide)), h.apart⟩, FR.mono (fun k _ e => by subst e; exact Or.inr (Or.inl hown)), fun k hk => Or.inl hk⟩
theorem store_len (S : Nat) (p : Su.Parts) (m : Su.M) (w : World) (h : Su.Mem w S p m) : Calls Tryd.prog 37 #[.pointer (some ⟨S, 0, none⟩)] w fun e w' => e = .returned (.int .i64 m.cur.length) ∧ w = w' := by
  have e0 := cell_of h.box 0
  obtain ⟨A, c, hds⟩ := h.doms.sl.len
  have hl := h.doms.len
  rw [hds, hl] at e0
  generalize m.cur.length = n at *
  clear h hds hl
  go_enter Tryd.func37, Tryd.ntmps37
  go_wp2_with fail
  go_ret
  exact ⟨rfl, rfl⟩
theorem store_len_nil (w : World) : Calls Tryd.prog 37 #[.pointer none] w fun e w' => e = .returned (.int .i64 0) ∧ w = w' := by
  go_enter Tryd.func37, Tryd.ntmps37
  go_wp2_with fail
  go_ret
  exact ⟨rfl, rfl⟩
end Go.Proofs.YtdbjljbkneopcaaDoor
