/- A store of the call's own; wakes (law) of chapter 03. -/
import Derived.Test.YtdbjljbkneopcaaDoorStoreK
namespace Go.Proofs.YtdbjljbkneopcaaDoor
open Go.RowKit
set_option linter.unusedSimpArgs false
set_option linter.unusedVariables false

/-- A store all of whose blocks lie from w0's end on. -/
structure Su.Own (w0 w : World) (S : Nat) (p : Su.Parts) (m : Su.M) (N : Nat) : Prop where
  at_ : Su.At w S p m
  sz : Su.Sz m N
  below : Below w0.heap.size w0 w
  fp : ∀ k, p.fp S k → w0.heap.size ≤ k
theorem Su.Own.step {w0 w w' : World} {S : Nat} {p p' : Su.Parts} {m m' : Su.M} {N N' : Nat} (h : Su.Own w0 w S p m N) (st : Su.St w w' S p p' m') (ok : Su.Ok m') (sz : Su.Sz m' N') : Su.Own w0 w' S p' m' N' :=
  ⟨⟨st.mem, ok⟩, sz, Fr.below h.below st.fr h.fp, fun k hk => (st.fp k hk).elim (h.fp k) (fun e => Nat.le_trans h.below.size e)⟩
theorem Su.Own.call {w0 w w' : World} {S : Nat} {p : Su.Parts} {m : Su.M} {N : Nat} (h : Su.Own w0 w S p m N) (hb : Below w.heap.size w w') : Su.Own w0 w' S p m N :=
  ⟨h.at_.call hb, h.sz, below_call h.below hb, h.fp⟩
/-- What lies apart from a store stays, and apart. -/
theorem Su.St.far {w w' : World} {S : Nat} {p p' : Su.Parts} {m' : Su.M} (st : Su.St w w' S p p' m') {b : Nat} {o : Obj} (h : w.heap[b]? = some o) (hn : ¬ p.fp S b) : w'.heap[b]? = some o ∧ ¬ p'.fp S b :=
  ⟨st.fr.heap h hn, fun hk => (st.fp b hk).elim hn (fun e => by have := heap_lt h; omega)⟩
/-- A call that turns such a store. -/
def Su.OwnV (w0 w : World) (S : Nat) (p : Su.Parts) (m' : Su.M) (N' : Nat) (r : Value) (e : Ending) (w' : World) : Prop := e = .returned r ∧ ∃ p', Su.Own w0 w' S p' m' N' ∧ Su.St w w' S p p' m'
theorem Su.push_ok' {m : Su.M} (h : Su.Ok m) : Su.Ok (Su.push m) := Su.push_ok m h
theorem own_push {w0 w : World} {S : Nat} {p : Su.Parts} {m : Su.M} {N : Nat} (h : Su.Own w0 w S p m N) (hN : N ≤ 100000000000) :
    Calls Tryd.prog 35 #[.pointer (some ⟨S, 0, none⟩)] w (Su.OwnV w0 w S p (Su.push m) (N + 1) (.tuple #[])) := by
  refine (store_pushes S p m N w h.at_.toMem h.sz hN).mono ?_
  rintro e w' ⟨rfl, p', st⟩
  exact ⟨rfl, p', h.step st (Su.push_ok m h.at_.ok) (Su.push_sz h.sz), st⟩
theorem own_narrow {w0 w : World} {S : Nat} {p : Su.Parts} {m : Su.M} {N : Nat} (h : Su.Own w0 w S p m N) (hN : N ≤ 100000000000) (hn : m.cur.length ≤ 1000000) (i : Int) (d : Value) (dl : List Int) (hd : Dm.Rep w d dl) (hT : Tab w) :
    Calls Tryd.prog 34 #[.pointer (some ⟨S, 0, none⟩), .int .i64 i, d] w (Su.OwnV w0 w S p (Su.nar m i dl).1 (N + 1) (.int .i64 (Su.nar m i dl).2)) := by
  refine (store_narrow S p m N i d dl w h.at_ hd h.sz hN hn hT).mono ?_
  rintro e w' ⟨rfl, p', st⟩
  exact ⟨rfl, p', h.step st (Su.nar_ok m i dl h.at_.ok) (Su.nar_sz h.sz i dl), st⟩
theorem own_back {w0 w : World} {S : Nat} {p : Su.Parts} {m : Su.M} {N : Nat} (h : Su.Own w0 w S p m N) (hN : N ≤ 100000000000) (hn : m.cur.length ≤ 1000000) (lv : Int) :
    Calls Tryd.prog 39 #[.pointer (some ⟨S, 0, none⟩), .int .i64 lv] w (Su.OwnV w0 w S p (Su.bk m lv).1 (N + 1) (.int .i64 (Su.bk m lv).2)) := by
  refine (store_back S p m N lv w h.at_ h.sz hN hn).mono ?_
  rintro e w' ⟨rfl, p', st⟩
  exact ⟨rfl, p', h.step st (Su.bk_ok m lv h.at_.ok) (Su.bk_sz h.sz lv), st⟩
/-- The events are told: in a slice that is the caller's from then on. -/
def Su.OwnE (w0 w : World) (S : Nat) (p : Su.Parts) (m : Su.M) (N : Nat) (e : Ending) (w' : World) : Prop :=
  ∃ p' se, e = .returned se ∧ Su.Own w0 w' S p' { m with events := [] } N ∧ Sl w' 155 2 se m.events.length (Su.ecells m.events) ∧ (∀ b, se.ownBlock = some b → ¬ p'.fp S b) ∧ Su.St w w' S p p' { m with events := [] }
theorem own_events {w0 w : World} {S : Nat} {p : Su.Parts} {m : Su.M} {N : Nat} (h : Su.Own w0 w S p m N) :
    Calls Tryd.prog 40 #[.pointer (some ⟨S, 0, none⟩)] w (Su.OwnE w0 w S p m N) := by
  have HM := h.at_.toMem
  have e5 := cell_of HM.box 5
  have f5 := frozen_of HM.box 5
  have H := Lib.hid h
  have HMM := Lib.hid HM
  have K : Hid (∀ b, p.es.ownBlock = some b → ¬ ({ p with es := .slice none 0 0 } : Su.Parts).fp S b) := Lib.hid fun b hb hk => by
    rcases hk with e | e | e | e | e | e
    · exact (HM.tye hb).ne HM.tyS (by decide) e
    · exact (HM.tye hb).ne (HM.tyd e) (by decide) rfl
    · exact (HM.tye hb).ne (HM.tys e) (by decide) rfl
    · exact (HM.tye hb).ne (HM.tyt e) (by decide) rfl
    · exact (HM.tye hb).ne (HM.tym e) (by decide) rfl
    · cases e
  clear h HM
  go_enter Tryd.func40, Tryd.ntmps40
  go_wp2_with fail
  go_ret
  have st := HMM.out.noEvents
  refine ⟨_, p.es, rfl, H.out.step st (H.out.at_.ok.events []) (Su.events_sz H.out.sz), ?_, K.out, st⟩
  exact HMM.out.events.kept (S := fun k => k = S) (Fr.set (S := fun k => k = S) (Fr.refl _ w) (p := ⟨S, 5, none⟩) (fun _ => rfl) _) (fun b hb e => (HMM.out.tye hb).ne HMM.out.tyS (by decide) e)
theorem own_made {ls : List (List Int)} {w w' : World} {e : Ending} (h : Su.Made ls w e w') : ∃ S p, e = .returned (.pointer (some ⟨S, 0, none⟩)) ∧ Su.Own w w' S p (Su.new ls) 0 := by
  obtain ⟨S, p, rfl, hm, hb, hf⟩ := h
  exact ⟨S, p, rfl, ⟨hm, Su.new_ok ls⟩, ⟨Nat.le_refl _, Nat.le_refl _, Nat.le_refl _, Int.le_refl _, Int.le_refl _⟩, hb, hf⟩
theorem own_new (sv : Value) (vs : List Value) (ls : List (List Int)) (w : World) (h : Dl w sv vs ls) (hn : ls.length ≤ 1000000) (h0 : vs.length = 0 → sv = .slice none 0 0) :
    Calls Tryd.prog 31 #[sv] w fun e w' => ∃ S p, e = .returned (.pointer (some ⟨S, 0, none⟩)) ∧ Su.Own w w' S p (Su.new ls) 0 :=
  (store_new sv vs ls w h hn h0).mono fun _ _ h => own_made h
end Go.Proofs.YtdbjljbkneopcaaDoor
