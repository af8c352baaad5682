import Derived.Test.YtdnllmngaljflaaGreatDoorOpBase
namespace Go.Proofs.YtdnllmngaljflaaGreatDoorX.Ho
open Go.RowKit Go.Proofs.YtdnllmngaljflaaGreatDoorW.PrintWords Go.Proofs.YtdnllmngaljflaaGreatDoorW.PrintLast Go.Proofs.YtdnllmngaljflaaGreatDoorW.PrintMore
attribute [local go_sem] max2_int min2_int max_two min_two max_three min_three max_four min_four
set_option linter.unusedVariables false
set_option linter.unusedSimpArgs false
attribute [local go_sem] Go.Proofs.YtdnllmngaljflaaGreatDoor.Hook.cell_two
/-! ### Library calls, in plain words -/
theorem idxOf_plc (x : Bs) : ∀ (L : List Bs) (i : Nat), Lib.idxFromS (btL L) ⟨x.toArray⟩ i = match plc x L with | none => -1 | some k => ((i + k : Nat) : Int)
  | [], i => rfl
  | y :: L, i => by
    unfold btL at *
    rw [List.map_cons]
    unfold Lib.idxFromS plc
    by_cases h : y = x
    · subst h
      rw [if_pos rfl, if_pos rfl]; rfl
    · rw [if_neg h, if_neg (by intro he; exact h (by have := congrArg (fun b : ByteArray => b.data.toList) he; simpa using this))]
      have ih := idxOf_plc x L (i + 1)
      unfold btL at ih
      rw [ih]
      cases plc x L with
      | none => rfl
      | some k => show ((i + 1 + k : Nat) : Int) = ((i + (k + 1) : Nat) : Int); omega
/-- opts.pick: of texts in cells. -/
theorem pickW (b n c : Nat) (L : List Bs) (s : ByteArray) (w : World) (hn : n = L.length) (h0 : 0 < L.length) (hl : L.length ≤ 100) (hc : ∀ j (hj : j < L.length), w.cell? ⟨b, j, none⟩ = some (.string ⟨L[j].toArray⟩)) :
    Calls Tryz.prog 72 #[.string s, .slice (some ⟨b, 0, none⟩) n c] w fun e w' => e = .returned (.tuple #[.int .i64 (((plc s.data.toList L).getD 0 : Nat) : Int), .bool (plc s.data.toList L).isSome]) ∧ w = w' := by
  subst hn
  have hb : (btL L).length = L.length := List.length_map _
  have hi := Tryz.slices_Index_string b 0 L.length c (btL L) s w (by rw [hb]; exact Nat.le_refl _) (by omega) (fun j hj => by
    rw [hb] at hj
    rw [Nat.zero_add, hc j hj, List.getD_eq_getElem?_getD, List.getElem?_eq_getElem (by rw [hb]; exact hj)]
    unfold btL
    rw [List.getElem_map]; rfl)
  rw [List.take_of_length_le (by rw [hb]; exact Nat.le_refl _)] at hi
  have hp := idxOf_plc s.data.toList L 0
  rw [show (⟨s.data.toList.toArray⟩ : ByteArray) = s from ba_ext (by simp)] at hp
  unfold Lib.idxOfS at hi
  rw [hp] at hi
  have HI := Aside0.mk hi
  clear hi hp hc hb
  cases hq : plc s.data.toList L with
  | none =>
    rw [hq] at HI
    clear hq
    go_enter Tryz.func72, Tryz.ntmps72
    go_wp2_with (go_at_call 84; ((with_reducible refine HI.out.mono ?_); rintro e w1 ⟨rfl, rfl⟩))
    go_ret2
    exact ⟨rfl, rfl⟩
  | some k =>
    rw [hq] at HI
    simp only [Nat.zero_add] at HI
    clear hq
    have h1 : (0 : Int) ≤ (k : Int) := by omega
    go_enter Tryz.func72, Tryz.ntmps72
    go_wp2_with (go_at_call 84; ((with_reducible refine HI.out.mono ?_); rintro e w1 ⟨rfl, rfl⟩))
    go_ret2
    exact ⟨rfl, rfl⟩

/-- A literal's texts, in cells. -/
theorem litCells (L : List Bs) (w : World) (e : Nat) : ∀ j (hj : j < L.length), (w.alloc (.cells (L.map fun x => Value.string ⟨x.toArray⟩).toArray e (0, 0))).cell? ⟨w.heap.size, j, none⟩ = some (.string ⟨L[j].toArray⟩) := by
  intro j hj
  rw [blk_cell (blk_new w _)]
  simp [hj]
def rulesO : Obj := .cells #[.string ⟨#[105, 110, 112, 117, 116]⟩, .string ⟨#[115, 109, 97, 108, 108, 101, 115, 116]⟩, .string ⟨#[119, 101, 105, 103, 104, 116, 101, 100]⟩, .string ⟨#[97, 99, 116, 105, 118, 105, 116, 121]⟩, .string ⟨#[105, 109, 112, 97, 99, 116]⟩, .string ⟨#[102, 97, 105, 108, 117, 114, 101]⟩] 9 (0, 0)
def schedsO : Obj := .cells #[.string ⟨#[110, 111, 110, 101]⟩, .string ⟨#[108, 117, 98, 121]⟩, .string ⟨#[103, 101, 111, 109, 101, 116, 114, 105, 99]⟩, .string ⟨#[108, 100, 115]⟩, .string ⟨#[100, 100, 115]⟩] 9 (0, 0)
theorem rulesO_is : rulesO = .cells (rulesL.map fun x => Value.string ⟨x.toArray⟩).toArray 9 (0, 0) := rfl
theorem schedsO_is : schedsO = .cells (schedsL.map fun x => Value.string ⟨x.toArray⟩).toArray 9 (0, 0) := rfl
theorem rulesW (w : World) : Calls Tryz.prog 27 #[] w fun e w' => e = .returned (.slice (some ⟨w.heap.size, 0, none⟩) 6 6) ∧ w' = w.alloc rulesO := by
  unfold rulesO
  go_enter Tryz.func27, Tryz.ntmps27
  go_wp2
  go_ret
  exact ⟨rfl, rfl⟩
theorem schedsW (w : World) : Calls Tryz.prog 25 #[] w fun e w' => e = .returned (.slice (some ⟨w.heap.size, 0, none⟩) 5 5) ∧ w' = w.alloc schedsO := by
  unfold schedsO
  go_enter Tryz.func25, Tryz.ntmps25
  go_wp2
  go_ret
  exact ⟨rfl, rfl⟩
theorem rules_at (w : World) : ∀ j (hj : j < rulesL.length), (w.alloc rulesO).cell? ⟨w.heap.size, j, none⟩ = some (.string ⟨rulesL[j].toArray⟩) := by rw [rulesO_is]; exact litCells rulesL w 9
theorem scheds_at (w : World) : ∀ j (hj : j < schedsL.length), (w.alloc schedsO).cell? ⟨w.heap.size, j, none⟩ = some (.string ⟨schedsL[j].toArray⟩) := by rw [schedsO_is]; exact litCells schedsL w 9
/-- rule: of options in a block. -/
theorem ruleW (g : Nat) (o : Ov) (s : ByteArray) (w : World) (h : OB w g o) :
    Calls Tryz.prog 52 #[.pointer (some ⟨g, 0, none⟩), .string s] w (SP g ((plc s.data.toList rulesL).map fun (i : Nat) => { o with rule := i }) w) := by
  have hbl := below_alloc (Below.refl w.heap.size w) rulesO
  have h1 : (w.alloc rulesO).heap[g]? = some (.cells o.pc 29 (0, 0)) := (hbl.block g (blk_lt h)).trans h
  have HP := Aside0.mk (pickW w.heap.size 6 6 rulesL s (w.alloc rulesO) rfl (by decide) (by decide) (rules_at w))
  have c0 : (w.alloc rulesO).cell? ⟨g, 0, none⟩ = some (.int .i64 o.rule) := blk_cell h1 0
  have f0 : (w.alloc rulesO).frozen? ⟨g, 0, none⟩ = false := blk_frozen h1 0
  have H1 := Aside0.mk h1
  have HF := Aside0.mk (FrG.of_below (g := g) hbl)
  have hsz : g < (w.alloc rulesO).heap.size := blk_lt h1
  clear h h1
  generalize (plc s.data.toList rulesL) = r at HP ⊢
  go_enter Tryz.func52, Tryz.ntmps52
  go_wp2_with (first
    | (go_at_call 27; ((with_reducible refine (rulesW w).mono ?_); rintro e w1 ⟨rfl, rfl⟩))
    | (go_at_call 72; ((with_reducible refine HP.out.mono ?_); rintro e w1 ⟨rfl, rfl⟩)))
  go_ret
  refine ⟨{ o with rule := ((r.getD 0 : Nat) : Int) }, by cases r <;> rfl, heap_set H1.out 0 _, fun p hp => ?_, HF.out.set 0 _⟩
  cases r with
  | none => cases hp
  | some i => cases hp; rfl
theorem flag_plc (s no yes : Bs) : (plc s [no, yes]).isSome = (flagL s no yes).isSome ∧ ∀ x, flagL s no yes = some x → decide (((plc s [no, yes]).getD 0 : Nat) = 1) = x := by
  unfold plc plc plc flagL
  by_cases h1 : s = no
  · subst h1; rw [if_pos rfl, if_pos rfl]; exact ⟨rfl, fun x h => by cases h; rfl⟩
  · rw [if_neg (fun h => h1 h.symm), if_neg h1]
    by_cases h2 : s = yes
    · subst h2; rw [if_pos rfl, if_pos rfl]; exact ⟨rfl, fun x h => by cases h; rfl⟩
    · rw [if_neg (fun h => h2 h.symm), if_neg h2]; exact ⟨rfl, fun x h => by cases h⟩
/-- flag: a flag's text, into a cell. -/
theorem flagW (g i : Nat) (cs : Array Value) (u : Value) (s no yes : ByteArray) (w : World) (h : w.heap[g]? = some (.cells cs 29 (0, 0))) (hi : cs[i]? = some u) :
    Calls Tryz.prog 54 #[.string s, .string no, .string yes, .pointer (some ⟨g, i, none⟩)] w fun e w' => ∃ b, e = .returned (.bool (flagL s.data.toList no.data.toList yes.data.toList).isSome) ∧ (∀ x, flagL s.data.toList no.data.toList yes.data.toList = some x → b = x) ∧ w'.heap[g]? = some (.cells (cs.setIfInBounds i (.bool b)) 29 (0, 0)) ∧ FrG g w w' := by
  obtain ⟨q1, q2⟩ := flag_plc s.data.toList no.data.toList yes.data.toList
  have hbl := below_alloc (Below.refl w.heap.size w) (.cells #[.string no, .string yes] 9 (0, 0))
  have h1 : (w.alloc (.cells #[.string no, .string yes] 9 (0, 0))).heap[g]? = some (.cells cs 29 (0, 0)) := (hbl.block g (blk_lt h)).trans h
  have HP := Aside0.mk (pickW w.heap.size 2 2 [no.data.toList, yes.data.toList] s (w.alloc (.cells #[.string no, .string yes] 9 (0, 0))) rfl (by simp) (by simp) (fun j hj => by
    rw [blk_cell (blk_new w _)]
    match j, hj with
    | 0, _ => exact congrArg (fun b => some (Value.string b)) (ba_ext (by simp))
    | 1, _ => exact congrArg (fun b => some (Value.string b)) (ba_ext (by simp))
    | j + 2, hj => exact absurd hj (by simp)))
  have c0 : (w.alloc (.cells #[.string no, .string yes] 9 (0, 0))).cell? ⟨g, i, none⟩ = some u := (blk_cell h1 i).trans hi
  have f0 : (w.alloc (.cells #[.string no, .string yes] 9 (0, 0))).frozen? ⟨g, i, none⟩ = false := blk_frozen h1 i
  have H1 := Aside0.mk h1
  have HF := Aside0.mk (FrG.of_below (g := g) hbl)
  have hsz : g < (w.alloc (.cells #[.string no, .string yes] 9 (0, 0))).heap.size := blk_lt h1
  have Q1 := Aside0.mk q1
  have Q2 := Aside0.mk q2
  clear h h1 q1 q2 hi
  generalize (plc s.data.toList [no.data.toList, yes.data.toList]) = r at HP Q1 Q2
  generalize flagL s.data.toList no.data.toList yes.data.toList = fl at Q1 Q2 ⊢
  obtain ⟨k, hk⟩ : ∃ k : Nat, r.getD 0 = k := ⟨_, rfl⟩
  obtain ⟨b, hb⟩ : ∃ b, r.isSome = b := ⟨_, rfl⟩
  rw [hk, hb] at HP
  rw [hk] at Q2
  rw [hb] at Q1
  have hkb : ((k : Int) == 1) = decide (k = 1) := by
    rw [Bool.eq_iff_iff]; simp; omega
  clear hk hb
  go_enter Tryz.func54, Tryz.ntmps54
  go_wp2_with (go_at_call 72; ((with_reducible refine HP.out.mono ?_); rintro e w1 ⟨rfl, rfl⟩))
  go_ret
  refine ⟨decide (k = 1), by rw [← Q1.out]; rfl, Q2.out, ?_, HF.out.set i _⟩
  have := heap_set H1.out i (.bool (decide (k = 1)))
  first | exact this | simpa using this
theorem optW53 (g : Nat) (o : Ov) (s : ByteArray) (w : World) (h : OB w g o) :
    Calls Tryz.prog 53 #[.pointer (some ⟨g, 0, none⟩), .string s] w (SP g ((flagL s.data.toList bLeast bGreatest).map fun b => { o with gr := b }) w) := by
  have HP := Aside0.mk (flagW g 3 o.pc (.bool o.gr) s ⟨#[108, 101, 97, 115, 116]⟩ ⟨#[103, 114, 101, 97, 116, 101, 115, 116]⟩ w h rfl)
  have e : flagL s.data.toList (⟨#[108, 101, 97, 115, 116]⟩ : ByteArray).data.toList (⟨#[103, 114, 101, 97, 116, 101, 115, 116]⟩ : ByteArray).data.toList = flagL s.data.toList bLeast bGreatest := rfl
  rw [e] at HP
  clear h e
  generalize flagL s.data.toList bLeast bGreatest = fl at HP ⊢
  go_enter Tryz.func53, Tryz.ntmps53
  go_wp2_with (go_at_call 54; ((with_reducible refine HP.out.mono ?_); rintro e w1 ⟨b, rfl, hb, hh, hf⟩; have HB := Aside0.mk hb; have HH := Aside0.mk hh; have HF := Aside0.mk hf; clear hb hh hf))
  go_ret
  exact ⟨{ o with gr := b }, by cases fl <;> rfl, HH.out, fun p hp => by (cases fl with | none => cases hp | some x => cases hp; rw [HB.out x rfl]), HF.out⟩
theorem optW55 (g : Nat) (o : Ov) (s : ByteArray) (w : World) (h : OB w g o) :
    Calls Tryz.prog 55 #[.pointer (some ⟨g, 0, none⟩), .string s] w (SP g ((flagL s.data.toList bOff bOn).map fun b => { o with la := b }) w) := by
  have HP := Aside0.mk (flagW g 1 o.pc (.bool o.la) s ⟨#[111, 102, 102]⟩ ⟨#[111, 110]⟩ w h rfl)
  have e : flagL s.data.toList (⟨#[111, 102, 102]⟩ : ByteArray).data.toList (⟨#[111, 110]⟩ : ByteArray).data.toList = flagL s.data.toList bOff bOn := rfl
  rw [e] at HP
  clear h e
  generalize flagL s.data.toList bOff bOn = fl at HP ⊢
  go_enter Tryz.func55, Tryz.ntmps55
  go_wp2_with (go_at_call 54; ((with_reducible refine HP.out.mono ?_); rintro e w1 ⟨b, rfl, hb, hh, hf⟩; have HB := Aside0.mk hb; have HH := Aside0.mk hh; have HF := Aside0.mk hf; clear hb hh hf))
  go_ret
  exact ⟨{ o with la := b }, by cases fl <;> rfl, HH.out, fun p hp => by (cases fl with | none => cases hp | some x => cases hp; rw [HB.out x rfl]), HF.out⟩
theorem optW56 (g : Nat) (o : Ov) (s : ByteArray) (w : World) (h : OB w g o) :
    Calls Tryz.prog 56 #[.pointer (some ⟨g, 0, none⟩), .string s] w (SP g ((flagL s.data.toList bOff bOn).map fun b => { o with ph := b }) w) := by
  have HP := Aside0.mk (flagW g 2 o.pc (.bool o.ph) s ⟨#[111, 102, 102]⟩ ⟨#[111, 110]⟩ w h rfl)
  have e : flagL s.data.toList (⟨#[111, 102, 102]⟩ : ByteArray).data.toList (⟨#[111, 110]⟩ : ByteArray).data.toList = flagL s.data.toList bOff bOn := rfl
  rw [e] at HP
  clear h e
  generalize flagL s.data.toList bOff bOn = fl at HP ⊢
  go_enter Tryz.func56, Tryz.ntmps56
  go_wp2_with (go_at_call 54; ((with_reducible refine HP.out.mono ?_); rintro e w1 ⟨b, rfl, hb, hh, hf⟩; have HB := Aside0.mk hb; have HH := Aside0.mk hh; have HF := Aside0.mk hf; clear hb hh hf))
  go_ret
  exact ⟨{ o with ph := b }, by cases fl <;> rfl, HH.out, fun p hp => by (cases fl with | none => cases hp | some x => cases hp; rw [HB.out x rfl]), HF.out⟩
theorem optW57 (g : Nat) (o : Ov) (s : ByteArray) (w : World) (h : OB w g o) :
    Calls Tryz.prog 57 #[.pointer (some ⟨g, 0, none⟩), .string s] w (SP g ((flagL s.data.toList bOff bOn).map fun b => { o with ng := b }) w) := by
  have HP := Aside0.mk (flagW g 8 o.pc (.bool o.ng) s ⟨#[111, 102, 102]⟩ ⟨#[111, 110]⟩ w h rfl)
  have e : flagL s.data.toList (⟨#[111, 102, 102]⟩ : ByteArray).data.toList (⟨#[111, 110]⟩ : ByteArray).data.toList = flagL s.data.toList bOff bOn := rfl
  rw [e] at HP
  clear h e
  generalize flagL s.data.toList bOff bOn = fl at HP ⊢
  go_enter Tryz.func57, Tryz.ntmps57
  go_wp2_with (go_at_call 54; ((with_reducible refine HP.out.mono ?_); rintro e w1 ⟨b, rfl, hb, hh, hf⟩; have HB := Aside0.mk hb; have HH := Aside0.mk hh; have HF := Aside0.mk hf; clear hb hh hf))
  go_ret
  exact ⟨{ o with ng := b }, by cases fl <;> rfl, HH.out, fun p hp => by (cases fl with | none => cases hp | some x => cases hp; rw [HB.out x rfl]), HF.out⟩
end Go.Proofs.YtdnllmngaljflaaGreatDoorX.Ho
