/- Small, and slices of slices of numbers; an element more behind a slice of whatever elements. -/
import Derived.Test.YtdbjljbkneopcaaDoorStoreH
import Derived.Test.YtdbjljbkneopcaaDoorRefD
namespace Go.Proofs.YtdbjljbkneopcaaDoor
open Go.RowKit
set_option linter.unusedSimpArgs false
set_option linter.unusedVariables false

/-- Small numbers. -/
def Rf.small (l : List Int) : List Int := Rf.of ((l.take 8).map fun v => v.tmod 12)
theorem Rf.small_step (l : List Int) (j : Nat) (hj : j < l.length) : (l.take (j + 1)).map (fun v => v.tmod 12) = (l.take j).map (fun v => v.tmod 12) ++ [(l.getD j 0).tmod 12] := by
  rw [take_succ_getD _ j hj, List.map_append]; rfl
set_option maxHeartbeats 2000000 in
set_option maxRecDepth 100000 in
theorem ref_small (sv : Value) (l : List Int) (w : World) (h : Rd w sv l) : Calls Tryd.prog 33 #[sv, .int .i64 8, .int .i64 12] w (Rf.Own (Rf.small l) w) := by
  have hbig := h.big
  have HC := Lib.hid h
  obtain ⟨A, c, rfl⟩ := h.len
  have HI : Hid (Rf.Ke w w (.slice none 0 0) ((l.take 0).map fun v => v.tmod 12)) := ⟨Ow.nil _ _, Below.refl _ _⟩
  have NS := Lib.hid (Rf.small_step l)
  clear h
  generalize hm : l.length = m at *
  have HM := Lib.hid hm
  clear hm
  go_enter Tryd.func33, Tryd.ntmps33
  go_wp2_with fail
  go_loopg [7, 8] (min m 8) (fun k s7 s8 wr => ∃ j : Nat, s8 = .int .i64 j ∧ k + j = min m 8 ∧ Rf.Ke w wr s7 ((l.take j).map fun v => v.tmod 12))
  case atStart => exact ⟨0, rfl, by omega, HI.out⟩
  case round =>
    obtain ⟨j, rfl, hj, hinv⟩ := hrel
    have H := Lib.hid hinv
    clear hinv
    by_cases hk : j < m
    · by_cases hk8 : j < 8
      · have hjl : j < l.length := by rw [HM.out]; exact hk
        obtain ⟨b, o, rfl, hcell⟩ := HC.out.at H.out.below j hjl
        have ST := Lib.hid (NS.out j hk)
        have hlen : ((l.take j).map fun v => v.tmod 12).length < 17000000000000 := by rw [List.length_map, List.length_take]; omega
        generalize ((l.take j).map fun v => v.tmod 12) = acc at *
        generalize l.getD j 0 = u at *
        go_wp2_with (at_builtin; refine wpList_append_int wr rfl _ _ rfl w.heap.size _ _ rfl (by exact H.out.own) H.out.below.size _ rfl (by exact hlen) ?_; intro s2 w2 happ)
        go_roundg (gk - 1)
        case measure => omega
        case rel => exact ⟨j + 1, by go_num, by omega, by rw [ST.out]; exact H.out.app happ⟩
      · have E := Lib.hid (show (l.take j).map (fun v => v.tmod 12) = (l.take 8).map (fun v => v.tmod 12) from by rw [show j = 8 from by omega])
        have hlen : ((l.take 8).map fun v => v.tmod 12).length < 16000000000000 := by rw [List.length_map, List.length_take]; omega
        have HO := Lib.hid (ref_of _ ((l.take j).map fun v => v.tmod 12) wr H.out.own.sl (by rw [E.out]; exact hlen))
        rw [E.out] at HO
        go_wp2_with fail
        refine HO.out.mono ?_
        rintro e w2 ⟨so, rfl, hke⟩
        have HK := Lib.hid hke
        clear hke
        go_wp2_with fail
        go_ret
        exact ⟨so, rfl, HK.out.own.mono H.out.below.size, below_call H.out.below HK.out.below⟩
    · have E := Lib.hid (show (l.take j).map (fun v => v.tmod 12) = (l.take 8).map (fun v => v.tmod 12) from by rw [List.take_of_length_le (by rw [HM.out]; omega), List.take_of_length_le (by rw [HM.out]; omega)])
      have hlen : ((l.take 8).map fun v => v.tmod 12).length < 16000000000000 := by rw [List.length_map, List.length_take]; omega
      have HO := Lib.hid (ref_of _ ((l.take j).map fun v => v.tmod 12) wr H.out.own.sl (by rw [E.out]; exact hlen))
      rw [E.out] at HO
      go_wp2_with fail
      refine HO.out.mono ?_
      rintro e w2 ⟨so, rfl, hke⟩
      have HK := Lib.hid hke
      clear hke
      go_wp2_with fail
      go_ret
      exact ⟨so, rfl, HK.out.own.mono H.out.below.size, below_call H.out.below HK.out.below⟩
/-- What an append of one element leaves. -/
structure App (e size : Nat) (wr : World) (sv : Value) (n : Nat) (xs news : List Value) (sv' : Value) (w' : World) : Prop where
  sl : Sl w' e size sv' (n + 1) (xs ++ news)
  fr : Fr (fun k => sv.ownBlock = some k) wr w'
  own : ∀ b, sv'.ownBlock = some b → sv.ownBlock = some b ∨ wr.heap.size ≤ b
theorem App.below {e size : Nat} {w wr : World} {sv : Value} {n : Nat} {xs news : List Value} {sv' : Value} {w' : World} (h : App e size wr sv n xs news sv' w') (hb : Below w.heap.size w wr) (ho : ∀ b, sv.ownBlock = some b → w.heap.size ≤ b) : Below w.heap.size w w' :=
  Fr.below hb h.fr (fun i hi => ho i hi)
theorem wpList_append_el (wr : World) {ops : Array Oper} {rest : List Oper} {o : Oper} {a : Act} {Q : Exit → Act → World → Prop} (hgd : o.guard = none) (s x : Operand) (t e size bytes : Nat) (z : Value) (cs : Array Value)
    (ho : o.op = .call { callee := .builtin .append, args := #[s, x], argTypes := #[t, t] }) (ht : Tryd.prog.underlying t = some (.slice e)) (hinfo : (Tryd.prog.info? e).map (fun i => (i.zero, i.size, i.bytes)) = some (some z, size, bytes)) (hzs : z.cells.size = size) (hsz : 0 < size)
    (hcs : cs.size = size) (hone : ∀ u ∈ cs.toList, u.oneCell' = true)
    (sv : Value) (n : Nat) (xs : List Value) (hs : a.eval s = sv) (h : Sl wr e size sv n xs) (H : Nat) (hx : a.eval x = .slice (some ⟨H, 0, none⟩) 1 1) (hH : wr.heap.size = H) (hl : n < 1000000000000) (hby : bytes ≤ 128)
    (hk : ∀ sv' w', App e size wr sv n xs cs.toList sv' w' → wpList Tryd.prog ops Q rest (a.put o.dst sv') w') : wpList Tryd.prog ops Q (o :: rest) a (wr.alloc (.cells cs e)) := by
  obtain ⟨i0, hi0, hz0, hz1, hz2⟩ := info_parts hinfo
  subst hH
  have hb : (n + 1) * bytes ≤ 140737488355328 := Nat.le_trans (Nat.mul_le_mul (show n + 1 ≤ 1000000000000 by omega) hby) (by decide)
  refine wpList_append_sl _ hgd s x t ho e i0 z size bytes ht hi0 hz0 hz1 hz2 hzs hsz sv n xs hs (Sl.alloc h _) ⟨wr.heap.size, 0, none⟩ 1 1 cs.toList hx (by rw [Array.length_toList, hcs, Nat.one_mul]) (World.news_of_block (heap_new wr _)) hone (by decide) (by unfold maxLen; omega) hb _ rfl ?_
  intro b f c w' hs' hf' hb'
  refine hk _ _ ⟨hs', (Fr.of_below (below_alloc (Below.refl _ _) _)).trans2 hf' (fun k _ e => e), fun b' hb2 => ?_⟩
  cases hb2
  rcases hb' with e1 | e1
  · exact Or.inl e1
  · right; have := e1.1; simp at this; show wr.heap.size ≤ b; omega
/-- A slice of slices of numbers that is read. -/
structure Rr (P : Nat → Prop) (w : World) (sv : Value) (L : List (List Int)) : Prop where
  len : ∃ A c, sv = .slice A L.length c
  big : L.length ≤ 9223372036854775807
  cap : ∀ A n c, sv = .slice A n c → n ≤ c ∧ (A = none → n = 0 ∧ c = 0)
  form : 0 < L.length → ∃ b o c, sv = .slice (some ⟨b, o, none⟩) L.length c ∧ b < w.heap.size ∧ P b ∧ ∀ j, j < L.length → ∃ v, w.cell? ⟨b, o + j, none⟩ = some v ∧ Rd w v (L.getD j []) ∧ ∀ b', v.ownBlock = some b' → P b'
theorem Rd.blk {w : World} {b o n c : Nat} {l : List Int} (h : Rd w (.slice (some ⟨b, o, none⟩) n c) l) (hl : 0 < l.length) : b < w.heap.size := by
  obtain ⟨b', o', c', e, h1, _⟩ := h.form hl
  cases e
  exact h1
theorem Rd.kept {S : Nat → Prop} {w w' : World} {sv : Value} {l : List Int} (h : Rd w sv l) (hf : Fr S w w') (hn : ∀ b, sv.ownBlock = some b → ¬ S b) : Rd w' sv l :=
  ⟨h.len, h.big, h.cap, fun h0 => by
    obtain ⟨b, o, c, e, h1, h2⟩ := h.form h0
    subst e
    exact ⟨b, o, c, rfl, Nat.lt_of_lt_of_le h1 hf.size, fun j hj => by rw [cell_same ⟨b, o + j, none⟩ (hf.block b h1 (hn b rfl))]; exact h2 j hj⟩⟩
theorem Rr.call {P : Nat → Prop} {w w' : World} {sv : Value} {L : List (List Int)} (h : Rr P w sv L) (hb : Below w.heap.size w w') : Rr P w' sv L :=
  ⟨h.len, h.big, h.cap, fun h0 => by
    obtain ⟨b, o, c, e, h1, hp, h2⟩ := h.form h0
    refine ⟨b, o, c, e, Nat.lt_of_lt_of_le h1 hb.size, hp, fun j hj => ?_⟩
    obtain ⟨v, h3, h4, h5⟩ := h2 j hj
    exact ⟨v, by rw [(bcell hb).1 b (o + j) h1]; exact h3, h4.call hb, h5⟩⟩
theorem Rr.mono {P Q : Nat → Prop} {w : World} {sv : Value} {L : List (List Int)} (h : Rr P w sv L) (hq : ∀ b, P b → Q b) : Rr Q w sv L :=
  ⟨h.len, h.big, h.cap, fun h0 => by
    obtain ⟨b, o, c, e, h1, hp, h2⟩ := h.form h0
    refine ⟨b, o, c, e, h1, hq b hp, fun j hj => ?_⟩
    obtain ⟨v, h3, h4, h5⟩ := h2 j hj
    exact ⟨v, h3, h4, fun b' hb' => hq b' (h5 b' hb')⟩⟩
theorem Rr.kept {P S : Nat → Prop} {w w' : World} {sv : Value} {L : List (List Int)} (h : Rr P w sv L) (hf : Fr S w w') (hn : ∀ b, P b → ¬ S b) : Rr P w' sv L :=
  ⟨h.len, h.big, h.cap, fun h0 => by
    obtain ⟨b, o, c, e, h1, hp, h2⟩ := h.form h0
    refine ⟨b, o, c, e, Nat.lt_of_lt_of_le h1 hf.size, hp, fun j hj => ?_⟩
    obtain ⟨v, h3, h4, h5⟩ := h2 j hj
    exact ⟨v, by rw [cell_same ⟨b, o + j, none⟩ (hf.block b h1 (hn b hp))]; exact h3, h4.kept hf (fun b' hb' => hn b' (h5 b' hb')), h5⟩⟩
theorem Rr.at {P : Nat → Prop} {w w' : World} {A : Option Addr} {n c : Nat} {L : List (List Int)} (h : Rr P w (.slice A n c) L) (hb : Below w.heap.size w w') (j : Nat) (hj : j < L.length) : ∃ b o v, A = some ⟨b, o, none⟩ ∧ w'.cell? ⟨b, o + j, none⟩ = some v ∧ Rd w' v (L.getD j []) ∧ ∀ b', v.ownBlock = some b' → P b' := by
  obtain ⟨b, o, c', e, _, _, h2⟩ := (h.call hb).form (by omega)
  cases e
  obtain ⟨v, h3, h4, h5⟩ := h2 j hj
  exact ⟨b, o, v, rfl, h3, h4, h5⟩
/-- Out of a slice whose block is known. -/
theorem Rr.of_sl {P : Nat → Prop} {w : World} {sv : Value} {vs : List Value} {L : List (List Int)} (h : Sl w 22 1 sv L.length vs) (ho : ∀ b, sv.ownBlock = some b → P b) (hr : ∀ j, j < L.length → Rd w (vs.getD j undef) (L.getD j []) ∧ ∀ b', (vs.getD j undef).ownBlock = some b' → P b') : Rr P w sv L := by
  refine ⟨h.len, h.big, ?_, fun h0 => ?_⟩
  · obtain ⟨_, ⟨rfl, h2⟩ | ⟨b, o, c', cs, rfl, _, h3, _⟩⟩ := h
    · intro A n c e
      cases e
      exact ⟨Nat.le_refl _, fun _ => ⟨rfl, rfl⟩⟩
    · intro A n c e
      cases e
      exact ⟨h3, fun e => by cases e⟩
  · obtain ⟨b, o, c', cs, rfl, hc, _⟩ := h.form h0
    refine ⟨b, o, c', rfl, heap_lt hc, ho b rfl, fun j hj => ?_⟩
    have hv : j < vs.length := by rw [h.1]; omega
    refine ⟨vs.getD j undef, ?_, hr j hj⟩
    rw [h.cell j (by omega), List.getD_eq_getElem?_getD, List.getElem?_eq_getElem hv]
    rfl
end Go.Proofs.YtdbjljbkneopcaaDoor
