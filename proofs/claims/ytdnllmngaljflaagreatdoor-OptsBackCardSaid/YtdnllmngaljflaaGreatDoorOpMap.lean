import Derived.Carry
import Derived.Maps.OwnOps
import Derived.Maps.OwnSet
import Derived.Test.YtdnllmngaljflaaGreatDoorOpNum
namespace Go.Proofs.YtdnllmngaljflaaGreatDoorX.Ho
open Go.RowKit Go.Proofs.YtdnllmngaljflaaGreatDoorW.PrintWords Go.Proofs.YtdnllmngaljflaaGreatDoorW.PrintLast Go.Proofs.YtdnllmngaljflaaGreatDoorW.PrintMore
attribute [local go_sem] max2_int min2_int max_two min_two max_three min_three max_four min_four
set_option linter.unusedVariables false
set_option linter.unusedSimpArgs false
attribute [local go_sem] Go.Proofs.YtdnllmngaljflaaGreatDoor.Hook.cell_two
/-! ### Maps whose elements are held as they are -/
def hR (v : Value) : Option (DataW Value × List MemPlace) := some (.held v, [])
theorem wpList_put_held {P : Program} (w : World) {ops : Array Oper} {rest : List Oper} {o : Oper} {a : Act} {Q : Exit → Act → World → Prop}
    (hg : o.guard = none) (m x v : Operand) (t : TypeId) (hop : o.op = Op.mapUpdate t m x v ∨ o.op = Op.insert t m x v)
    (k e : TypeId) (K : Maps.Keyed P k) (ht : P.underlying t = some (.map k e)) (b n : Nat) (D : DataW Value)
    (hm : a.eval m = .map (some b)) (hown : w.ownsMap P k hR b n D) (hn : n < maxLen) (key val : Value) (kl : Lit) (hx : a.eval x = key) (hv : a.eval v = val) (hkey : keyOf P k key = some kl)
    (hK : ∀ w', w'.ownsMap P k hR b (n + 1) (D.put kl (.held val)) → w.grownBy w' (some b) → wpList P ops Q rest (a.put o.dst undef) w') :
    wpList P ops Q (o :: rest) a w := by
  refine wpList_plain hg fun K' hK' => ?_
  obtain ⟨w', hrun, r1, r2⟩ := hown.update K ht hn hkey (val := val) (d := .held val) (ps := []) rfl
  unfold Oper.wp
  rcases hop with hop | hop
  · simp [execOp, hop, hm, hx, hv, hrun, Result.andThen]
    exact hK' _ _ (hK w' r1 r2)
  · simp [execOp, hop, hm, hx, hv, hrun, Result.andThen]
    exact hK' _ _ (hK w' r1 r2)
theorem wpList_get_held {P : Program} (w : World) {ops : Array Oper} {rest : List Oper} {o : Oper} {a : Act} {Q : Exit → Act → World → Prop}
    (hg : o.guard = none) (m x : Operand) (t : TypeId) (hop : o.op = Op.lookup t m x false)
    (k e : TypeId) (K : Maps.Keyed P k) (ht : P.underlying t = some (.map k e)) {z : Value} (hz : (zeroValue e).run P w = .ok z w) (b n : Nat) (D : DataW Value)
    (hm : a.eval m = .map (some b)) (hown : w.ownsMap P k hR b n D) (key : Value) (kl : Lit) (hx : a.eval x = key) (hkey : keyOf P k key = some kl) (v : Value) (hD : D.atKey kl (.held z) = .held v)
    (hK : wpList P ops Q rest (a.put o.dst v) w) :
    wpList P ops Q (o :: rest) a w := by
  refine wpList_plain hg fun K' hK' => ?_
  obtain ⟨v', ps, hrun, hv⟩ := hown.lookup K ht hz (zd := .held z) (zp := []) rfl hkey
  rw [hD] at hv
  cases hv
  unfold Oper.wp
  simp [execOp, hop, hm, hx, hrun, Result.andThen]
  exact hK' _ _ hK
theorem below_grown {B : Nat} {w0 w w1 : World} {b : Nat} (h : Below B w0 w) (hg : w.grownBy w1 (some b)) (hB : B ≤ w.heap.size) (hb : B ≤ b) : Below B w0 w1 := h.grown hg hB (fun k hk => by cases hk; exact hb)
/-! ### Texts cut -/
theorem ib_miss (c : UInt8) : ∀ l : Bs, Lib.indexByte l c = -1 → c ∉ l
  | [], _, h => by cases h
  | b :: l, h, hm => by
    unfold Lib.indexByte at h
    have hge := Lib.indexByte_ge l c
    by_cases hb : (b == c) = true
    · rw [if_pos hb] at h; cases h
    · rw [if_neg hb] at h
      by_cases h1 : (Lib.indexByte l c == -1) = true
      · cases hm with
        | head => simp at hb
        | tail _ hm => exact ib_miss c l (beq_iff_eq.1 h1) hm
      · rw [if_neg h1] at h
        have h2 : ¬ Lib.indexByte l c = -1 := fun e => h1 (beq_iff_eq.2 e)
        omega
theorem ib_hit (c : UInt8) : ∀ (l : Bs) (i : Nat), Lib.indexByte l c = i → l = l.take i ++ c :: l.drop (i + 1) ∧ c ∉ l.take i
  | [], i, h => by unfold Lib.indexByte at h; omega
  | b :: l, i, h => by
    unfold Lib.indexByte at h
    have hge := Lib.indexByte_ge l c
    by_cases hb : (b == c) = true
    · rw [if_pos hb] at h
      have : i = 0 := by omega
      subst this
      have e : b = c := beq_iff_eq.1 hb
      subst e
      exact ⟨rfl, fun h => by cases h⟩
    · rw [if_neg hb] at h
      by_cases h1 : (Lib.indexByte l c == -1) = true
      · rw [if_pos h1] at h; omega
      · rw [if_neg h1] at h
        obtain ⟨j, rfl⟩ : ∃ j, i = j + 1 := ⟨i - 1, by have h2 : ¬ Lib.indexByte l c = -1 := fun e => h1 (beq_iff_eq.2 e); omega⟩
        have ih := ib_hit c l j (by omega)
        rw [List.take_succ_cons, List.drop_succ_cons, List.cons_append]
        refine ⟨by rw [← ih.1], fun hm => ?_⟩
        cases hm with
        | head => simp at hb
        | tail _ hm => exact ih.2 hm
theorem sc_cons (c : UInt8) : ∀ l : Bs, ∃ h t, splitC c l = h :: t
  | [] => ⟨[], [], rfl⟩
  | b :: l => by
    obtain ⟨h, t, e⟩ := sc_cons c l
    by_cases hc : b = c
    · exact ⟨[], splitC c l, by rw [splitC, if_pos hc]⟩
    · exact ⟨b :: h, t, by rw [splitC, if_neg hc, e]⟩
theorem sc_step {c b : UInt8} (l : Bs) (hc : ¬ b = c) {h : Bs} {t : List Bs} (e : splitC c l = h :: t) : splitC c (b :: l) = (b :: h) :: t := by rw [splitC, if_neg hc, e]
theorem sc_miss (c : UInt8) : ∀ l : Bs, c ∉ l → splitC c l = [l]
  | [], _ => rfl
  | b :: l, h => sc_step l (fun e => h (by rw [e]; exact List.mem_cons_self)) (sc_miss c l (fun h2 => h (List.mem_cons_of_mem _ h2)))
theorem sc_hit (c : UInt8) : ∀ p q : Bs, c ∉ p → splitC c (p ++ c :: q) = p :: splitC c q
  | [], q, _ => by rw [List.nil_append, splitC, if_pos rfl]
  | b :: p, q, h => sc_step _ (fun e => h (by rw [e]; exact List.mem_cons_self)) (sc_hit c p q (fun h2 => h (List.mem_cons_of_mem _ h2)))
theorem split_is (c : UInt8) : ∀ (n : Nat) (s : ByteArray), s.size ≤ n → (Lib.splitB ⟨#[c]⟩ 0 (Lib.countB s ⟨#[c]⟩) s).map (·.data.toList) = splitC c s.data.toList := by
  intro n
  induction n with
  | zero =>
    intro s hs
    have h1 : Lib.indexB s ⟨#[c]⟩ = Lib.indexByte s.data.toList c := Lib.index_one s.data.toList c
    have h0 : s.data.toList = [] := List.eq_nil_of_length_eq_zero (by rw [Array.length_toList]; show s.size = 0; omega)
    have h2 : Lib.indexB s ⟨#[c]⟩ = -1 := by rw [h1, h0]; rfl
    rw [Lib.splitB_miss _ _ _ _ h2, h0]
    show [s.data.toList] = _
    rw [h0]; rfl
  | succ n ih =>
    intro s hs
    have h1 : Lib.indexB s ⟨#[c]⟩ = Lib.indexByte s.data.toList c := Lib.index_one s.data.toList c
    rcases Lib.indexB_cases s ⟨#[c]⟩ with hm | ⟨i, hi, hle⟩
    · rw [Lib.splitB_miss _ _ _ _ hm, sc_miss c _ (ib_miss c _ (by rw [← h1]; exact hm))]
      rfl
    · have hi2 := ib_hit c s.data.toList i (by rw [← h1]; exact hi)
      have z1 : (⟨#[c]⟩ : ByteArray).size = 1 := rfl
      rw [Lib.countB_hit s ⟨#[c]⟩ i (Nat.le_refl _) hi, Nat.add_comm 1, Lib.splitB_hit _ _ _ _ i hi, List.map_cons, z1]
      have e2 : (s.extract (i + 1) s.size).size ≤ n := by rw [ByteArray.size_extract]; omega
      rw [ih _ e2]
      have e3 : (s.extract (i + 1) s.size).data.toList = s.data.toList.drop (i + 1) := Lib.extract_to_end s (i + 1)
      have e4 : (s.extract 0 (i + 0)).data.toList = s.data.toList.take i := by rw [Nat.add_zero]; exact Lib.extract_from_zero s i
      rw [e3, e4]
      conv => rhs; rw [hi2.1]
      rw [sc_hit c _ _ hi2.2]
/-- Texts in cells from a block's head on. -/
def TC (w : World) (b : Nat) (L : List Bs) : Prop := ∀ j (hj : j < L.length), w.cell? ⟨b, j, none⟩ = some (.string ⟨L[j].toArray⟩)
theorem TC.below {w w1 : World} {b : Nat} {L : List Bs} (h : TC w b L) (hb : b < w.heap.size) (hbl : Below w.heap.size w w1) : TC w1 b L := fun j hj => (hbl.cell (p := ⟨b, j, none⟩) hb).trans (h j hj)
/-- strings.Split at a colon. -/
def SpQ (L : List Bs) (w : World) (e : Ending) (w' : World) : Prop := e = .returned (.slice (some ⟨w.heap.size, 0, none⟩) L.length L.length) ∧ TC w' w.heap.size L ∧ w.heap.size < w'.heap.size ∧ Below w.heap.size w w'
theorem splitW (s : ByteArray) (hs : s.size ≤ 10000000) (w : World) (hE : Env w) : Calls Tryz.prog 85 #[.string s, .string ⟨#[58]⟩] w (SpQ (splitC 58 s.data.toList) w) := by
  obtain ⟨m, hm⟩ := hE.mx
  refine (Tryz.strings_Split s ⟨#[58]⟩ m w (by omega) hm (Nat.le_refl _)).mono ?_
  rintro e w' ⟨rfl, rfl⟩
  have hl : (Lib.splitB ⟨#[58]⟩ 0 (Lib.countB s ⟨#[58]⟩) s).length = Lib.countB s ⟨#[58]⟩ + 1 := Lib.splitB_all ⟨#[58]⟩ (Nat.le_refl _) 0 _ s rfl
  have hsp := split_is 58 s.size s (Nat.le_refl _)
  have hl2 : (splitC 58 s.data.toList).length = Lib.countB s ⟨#[58]⟩ + 1 := by rw [← hsp, List.length_map, hl]
  refine ⟨by rw [hl2], fun j hj => ?_, by simp, below_alloc (Below.refl _ _) _⟩
  rw [blk_cell (blk_new w _)]
  have hj2 : j < (Lib.splitB ⟨#[58]⟩ 0 (Lib.countB s ⟨#[58]⟩) s).length := by rw [hl, ← hl2]; exact hj
  have e : (splitC 58 s.data.toList)[j] = ((Lib.splitB ⟨#[58]⟩ 0 (Lib.countB s ⟨#[58]⟩) s)[j]).data.toList := by
    have := List.getElem_map (fun x : ByteArray => x.data.toList) (l := Lib.splitB ⟨#[58]⟩ 0 (Lib.countB s ⟨#[58]⟩) s) (i := j) (h := by rw [List.length_map]; exact hj2)
    rw [← this]
    exact getElem_congr hsp.symm rfl _
  rw [e]
  simp [hj2]
end Go.Proofs.YtdnllmngaljflaaGreatDoorX.Ho
