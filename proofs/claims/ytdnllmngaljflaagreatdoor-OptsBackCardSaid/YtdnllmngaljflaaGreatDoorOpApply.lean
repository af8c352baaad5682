import Derived.Test.YtdnllmngaljflaaGreatDoorOpSched
namespace Go.Proofs.YtdnllmngaljflaaGreatDoorX.Ho
open Go.RowKit Go.Proofs.YtdnllmngaljflaaGreatDoorW.PrintWords Go.Proofs.YtdnllmngaljflaaGreatDoorW.PrintLast Go.Proofs.YtdnllmngaljflaaGreatDoorW.PrintMore
attribute [local go_sem] max2_int min2_int max_two min_two max_three min_three max_four min_four
set_option linter.unusedVariables false
set_option linter.unusedSimpArgs false
attribute [local go_sem] Go.Proofs.YtdnllmngaljflaaGreatDoor.Hook.cell_two
/-! ### apply -/
theorem heap_alloc_of {w : World} {b : Nat} {o : Obj} (h : w.heap[b]? = some o) (p : Obj) : (w.alloc p).heap[b]? = some o := ((below_alloc (Below.refl w.heap.size w) p).block b (blk_lt h)).trans h
theorem restartW (g : Nat) (o : Ov) (s : ByteArray) (hs : s.size ≤ 10000000) (w : World) (h : OB w g o) (hE : Env w) :
    Calls Tryz.prog 58 #[.pointer (some ⟨g, 0, none⟩), .string s] w (SP g ((schL s.data.toList).map fun x => { o with kind := x.1, unit := x.2.1, num := x.2.2.1, den := x.2.2.2 }) w) := by
  have HN := Aside0.mk (schW s hs w hE)
  have H0 := Aside0.mk (show w.heap[g]? = some (.cells o.pc 29 (0, 0)) from h)
  clear h hE
  generalize schL s.data.toList = r at HN ⊢
  go_enter Tryz.func58, Tryz.ntmps58
  go_wp2_with fail
  refine HN.out.mono ?_
  rintro e w1 ⟨k, u, n, d, rfl, hn, hb⟩
  have hb2 := below_alloc hb (.cells #[.int .i64 k, .int .i64 u, .int .i64 n, .int .i64 d] 27 (0, 0))
  have h1 : (w1.alloc (.cells #[.int .i64 k, .int .i64 u, .int .i64 n, .int .i64 d] 27 (0, 0))).heap[g]? = some (.cells o.pc 29 (0, 0)) := (hb2.block g (blk_lt H0.out)).trans H0.out
  have c4 : (w1.alloc (.cells #[.int .i64 k, .int .i64 u, .int .i64 n, .int .i64 d] 27 (0, 0))).cell? ⟨g, 4, none⟩ = some (.int .i64 o.kind) := blk_cell h1 4
  have c5 : (w1.alloc (.cells #[.int .i64 k, .int .i64 u, .int .i64 n, .int .i64 d] 27 (0, 0))).cell? ⟨g, 5, none⟩ = some (.int .i64 o.unit) := blk_cell h1 5
  have c6 : (w1.alloc (.cells #[.int .i64 k, .int .i64 u, .int .i64 n, .int .i64 d] 27 (0, 0))).cell? ⟨g, 6, none⟩ = some (.int .i64 o.num) := blk_cell h1 6
  have c7 : (w1.alloc (.cells #[.int .i64 k, .int .i64 u, .int .i64 n, .int .i64 d] 27 (0, 0))).cell? ⟨g, 7, none⟩ = some (.int .i64 o.den) := blk_cell h1 7
  have f4 : (w1.alloc (.cells #[.int .i64 k, .int .i64 u, .int .i64 n, .int .i64 d] 27 (0, 0))).frozen? ⟨g, 4, none⟩ = false := blk_frozen h1 4
  have f5 : (w1.alloc (.cells #[.int .i64 k, .int .i64 u, .int .i64 n, .int .i64 d] 27 (0, 0))).frozen? ⟨g, 5, none⟩ = false := blk_frozen h1 5
  have f6 : (w1.alloc (.cells #[.int .i64 k, .int .i64 u, .int .i64 n, .int .i64 d] 27 (0, 0))).frozen? ⟨g, 6, none⟩ = false := blk_frozen h1 6
  have f7 : (w1.alloc (.cells #[.int .i64 k, .int .i64 u, .int .i64 n, .int .i64 d] 27 (0, 0))).frozen? ⟨g, 7, none⟩ = false := blk_frozen h1 7
  have hsz : g < (w1.alloc (.cells #[.int .i64 k, .int .i64 u, .int .i64 n, .int .i64 d] 27 (0, 0))).heap.size := blk_lt h1
  have H1 := Aside0.mk h1
  have HF := Aside0.mk (FrG.of_below (g := g) hb2)
  have HN2 := Aside0.mk hn
  clear h1 hb hb2 hn HN H0
  go_wp2_with fail
  go_ret
  refine ⟨{ o with kind := k, unit := u, num := n, den := d }, by cases r <;> rfl, heap_set (heap_set (heap_set (heap_set H1.out 4 _) 5 _) 6 _) 7 _, fun p hp => ?_, (((HF.out.set 4 _).set 5 _).set 6 _).set 7 _⟩
  cases r with
  | none => cases hp
  | some x => cases hp; rw [← HN2.out x rfl]
def keysL : List Bs := [kRule, kValue, kLast, kPhase, kNogoods, kRestart, kSteps]
def setF : Nat → Nat
  | 0 => 52 | 1 => 53 | 2 => 55 | 3 => 56 | 4 => 57 | 5 => 58 | _ => 59
def setsO : Obj := .cells #[.string ⟨#[114, 117, 108, 101]⟩, .func (.func 52) #[] #[], .string ⟨#[118, 97, 108, 117, 101]⟩, .func (.func 53) #[] #[], .string ⟨#[108, 97, 115, 116]⟩, .func (.func 55) #[] #[], .string ⟨#[112, 104, 97, 115, 101]⟩, .func (.func 56) #[] #[], .string ⟨#[110, 111, 103, 111, 111, 100, 115]⟩, .func (.func 57) #[] #[], .string ⟨#[114, 101, 115, 116, 97, 114, 116]⟩, .func (.func 58) #[] #[], .string ⟨#[115, 116, 101, 112, 115]⟩, .func (.func 59) #[] #[]] 86 (0, 0)
theorem setsW (w : World) : Calls Tryz.prog 39 #[] w fun e w' => e = .returned (.slice (some ⟨w.heap.size, 0, none⟩) 7 7) ∧ w' = w.alloc setsO := by
  unfold setsO
  go_enter Tryz.func39, Tryz.ntmps39
  go_wp2
  go_ret
  exact ⟨rfl, rfl⟩
theorem sets_at (w : World) (b : Nat) (h : w.heap[b]? = some setsO) (i : Nat) (hi : i < 7) : w.cell? ⟨b, i * 2, none⟩ = some (.string ⟨(keysL.getD i []).toArray⟩) ∧ w.cell? ⟨b, i * 2 + 1, none⟩ = some (.func (.func (setF i)) #[] #[]) := by
  have h' : w.heap[b]? = some (.cells _ 86 (0, 0)) := h
  rw [blk_cell h', blk_cell h']
  match i, hi with
  | 0, _ => exact ⟨rfl, rfl⟩
  | 1, _ => exact ⟨rfl, rfl⟩
  | 2, _ => exact ⟨rfl, rfl⟩
  | 3, _ => exact ⟨rfl, rfl⟩
  | 4, _ => exact ⟨rfl, rfl⟩
  | 5, _ => exact ⟨rfl, rfl⟩
  | 6, _ => exact ⟨rfl, rfl⟩
theorem isKeyW (x key : ByteArray) (f : Nat) (kb : Nat) (w : World) (h : w.cell? ⟨kb, 0, none⟩ = some (.string key)) :
    Calls Tryz.prog 40 #[.agg #[.string x, .func (.func f) #[] #[]], .pointer (some ⟨kb, 0, none⟩)] w fun e w' => e = .returned (.bool (decide (x.data.toList = key.data.toList))) ∧ Below w.heap.size w w' := by
  have hl := World.block_lt_of_cell? _ _ h
  have h1 : (w.alloc (.cells #[.string x, .func (.func f) #[] #[]] 86 (0, 0))).cell? ⟨kb, 0, none⟩ = some (.string key) := ((below_alloc (Below.refl w.heap.size w) _).cell (p := ⟨kb, 0, none⟩) hl).trans h
  obtain ⟨q, hq⟩ : ∃ q, decide (x.data.toList = key.data.toList) = q := ⟨_, rfl⟩
  rw [hq]
  have HQ := Aside0.mk hq
  clear hq h
  go_enter Tryz.func40, Tryz.ntmps40
  go_wp2_with fail
  go_ret
  refine ⟨?_, below_alloc (Below.refl _ _) _⟩
  rw [← HQ.out]
  show Ending.returned (.bool (x.toList == key.toList)) = _
  rw [ByteArray.toList_eq, ByteArray.toList_eq]
  exact congrArg (fun b => Ending.returned (.bool b)) (by rw [Bool.eq_iff_iff]; simp)
def plcI (s : Bs) : List Bs → Int → Int
  | [], _ => -1
  | x :: l, i => if x = s then i else plcI s l (i + 1)
theorem plcI_is (s : Bs) : ∀ (L : List Bs) (i : Int), plcI s L i = match plc s L with | none => -1 | some k => i + (k : Int)
  | [], _ => rfl
  | x :: l, i => by
    unfold plcI plc
    split
    · simp
    · rw [plcI_is s l (i + 1)]
      cases plc s l with
      | none => rfl
      | some k => show i + 1 + (k : Int) = i + ((k + 1 : Nat) : Int); omega
set_option maxHeartbeats 4000000 in
set_option maxRecDepth 100000 in
/-- slices.IndexFunc over the setters, by their key. -/
theorem idxSetW (b kb : Nat) (key : ByteArray) (w : World) (hb : w.heap[b]? = some setsO) (hk : w.cell? ⟨kb, 0, none⟩ = some (.string key)) :
    Calls Tryz.prog 38 #[.slice (some ⟨b, 0, none⟩) 7 7, .func (.func 40) #[] #[.pointer (some ⟨kb, 0, none⟩)]] w fun e w' => e = .returned (.int .i64 (match plc key.data.toList keysL with | none => -1 | some i => (i : Int))) ∧ Below w.heap.size w w' := by
  have HS := Aside0.mk (fun (w1 : World) (h1 : Below w.heap.size w w1) => sets_at w1 b ((h1.block b (blk_lt hb)).trans hb))
  have HC := Aside0.mk (fun (w1 : World) (h1 : Below w.heap.size w w1) (x : ByteArray) (f : Nat) => isKeyW x key f kb w1 ((h1.cell (p := ⟨kb, 0, none⟩) (World.block_lt_of_cell? _ _ hk)).trans hk))
  have HL : Aside0 (keysL.length = 7) := Aside0.mk rfl
  obtain ⟨q, hq⟩ : ∃ q : Int, (match plc key.data.toList keysL with | none => -1 | some i => (i : Int)) = q := ⟨_, rfl⟩
  rw [hq]
  have HQ := Aside0.mk (show plcI key.data.toList keysL 0 = q from by rw [← hq, plcI_is]; cases plc key.data.toList keysL with | none => rfl | some v => exact Int.zero_add _)
  clear hq hb hk
  generalize keysL = KL at HS HL HQ
  go_enter Tryz.func38, Tryz.ntmps38
  go_wp2_with fail
  go_loopg [5, 8] 7 (fun kx s5 s8 wr => ∃ j : Nat, s8 = .int .i64 j ∧ j ≤ 7 ∧ 7 - j ≤ kx ∧ Aside0 (Below w.heap.size w wr) ∧ Aside0 (plcI key.data.toList (KL.drop j) j = q))
  case atStart => exact ⟨0, rfl, Nat.zero_le _, by omega, Aside0.mk (Below.refl _ _), HQ⟩
  case round =>
    obtain ⟨j, rfl, hjn, hg, HB, HI⟩ := hrel
    by_cases hlt : j < 7
    · obtain ⟨c0, c1⟩ := HS.out wr HB.out j hlt
      have HD := Aside0.mk (show KL.drop j = KL.getD j [] :: KL.drop (j + 1) from by
        have hj : j < KL.length := by rw [HL.out]; exact hlt
        rw [List.drop_eq_getElem_cons hj, List.getD_eq_getElem?_getD, List.getElem?_eq_getElem hj]; rfl)
      generalize KL.getD j [] = x at c0 HD
      have hc := HC.out wr HB.out ⟨x.toArray⟩ (setF j)
      generalize setF j = f at c1 hc
      rw [bt_data] at hc
      have HCC := Aside0.mk hc
      have hj1 : (j : Int) < 7 := by omega
      have hj2 : (0 : Int) ≤ (j : Int) := by omega
      clear hc
      by_cases hx : x = key.data.toList
      · have HH : Aside0 (q = (j : Int)) := Aside0.mk (by rw [← HI.out, HD.out]; unfold plcI; rw [if_pos hx])
        rw [decide_eq_true hx] at HCC
        clear hx HI HD
        go_wp2_with (go_at_call 40; ((with_reducible refine HCC.out.mono ?_); rintro e w2 ⟨rfl, hb2⟩; have HB2 := Aside0.mk (below_step HB.out hb2); clear hb2))
        go_ret
        exact ⟨by rw [HH.out]; rfl, HB2.out⟩
      · have HH : Aside0 (plcI key.data.toList (KL.drop (j + 1)) (j + 1 : Nat) = q) := Aside0.mk (by rw [← HI.out, HD.out]; conv => { rhs; unfold plcI }; rw [if_neg hx]; rfl)
        rw [decide_eq_false hx] at HCC
        clear hx HI HD
        go_wp2_with (go_at_call 40; ((with_reducible refine HCC.out.mono ?_); rintro e w2 ⟨rfl, hb2⟩; have HB2 := Aside0.mk (below_step HB.out hb2); clear hb2))
        go_roundg (7 - (j + 1))
        case measure => omega
        case rel => exact ⟨j + 1, rfl, by omega, Nat.le_refl _, HB2, HH⟩
    · have hj : j = 7 := by omega
      subst hj
      have HH : Aside0 (q = -1) := Aside0.mk (by rw [← HI.out, List.drop_eq_nil_of_le (by rw [HL.out]; exact Nat.le_refl _)]; rfl)
      go_wp2_with fail
      go_ret
      exact ⟨by rw [HH.out]; rfl, HB.out⟩
/-- The options with a word's, by the key's place. -/
def setI (o : Ov) (s : Bs) : Nat → Option Ov
  | 0 => (plc s rulesL).map fun (i : Nat) => { o with rule := i }
  | 1 => (flagL s bLeast bGreatest).map fun b => { o with gr := b }
  | 2 => (flagL s bOff bOn).map fun b => { o with la := b }
  | 3 => (flagL s bOff bOn).map fun b => { o with ph := b }
  | 4 => (flagL s bOff bOn).map fun b => { o with ng := b }
  | 5 => (schL s).map fun x => { o with kind := x.1, unit := x.2.1, num := x.2.2.1, den := x.2.2.2 }
  | _ => (numL s).map fun (n : Nat) => { o with steps := n }
theorem plc_cons (s x : Bs) (l : List Bs) : plc s (x :: l) = if x = s then some 0 else (plc s l).map (· + 1) := rfl
theorem setL_I (o : Ov) (key s : Bs) : setL o key s = (plc key keysL).bind (setI o s) := by
  unfold setL keysL
  rw [plc_cons]
  by_cases h0 : key = kRule
  · rw [if_pos h0, if_pos h0.symm]; rfl
  rw [if_neg h0, if_neg (fun h => h0 h.symm : ¬ kRule = key)]
  rw [plc_cons]
  by_cases h1 : key = kValue
  · rw [if_pos h1, if_pos h1.symm]; rfl
  rw [if_neg h1, if_neg (fun h => h1 h.symm : ¬ kValue = key)]
  rw [plc_cons]
  by_cases h2 : key = kLast
  · rw [if_pos h2, if_pos h2.symm]; rfl
  rw [if_neg h2, if_neg (fun h => h2 h.symm : ¬ kLast = key)]
  rw [plc_cons]
  by_cases h3 : key = kPhase
  · rw [if_pos h3, if_pos h3.symm]; rfl
  rw [if_neg h3, if_neg (fun h => h3 h.symm : ¬ kPhase = key)]
  rw [plc_cons]
  by_cases h4 : key = kNogoods
  · rw [if_pos h4, if_pos h4.symm]; rfl
  rw [if_neg h4, if_neg (fun h => h4 h.symm : ¬ kNogoods = key)]
  rw [plc_cons]
  by_cases h5 : key = kRestart
  · rw [if_pos h5, if_pos h5.symm]; rfl
  rw [if_neg h5, if_neg (fun h => h5 h.symm : ¬ kRestart = key)]
  rw [plc_cons]
  by_cases h6 : key = kSteps
  · rw [if_pos h6, if_pos h6.symm]; rfl
  rw [if_neg h6, if_neg (fun h => h6 h.symm : ¬ kSteps = key)]
  rfl
/-- A setter, by its place. -/
theorem setW (i : Nat) (hi : i < 7) (g : Nat) (o : Ov) (s : ByteArray) (hs : s.size ≤ 10000000) (w : World) (h : OB w g o) (hE : Env w) :
    Calls Tryz.prog (setF i) #[.pointer (some ⟨g, 0, none⟩), .string s] w (SP g (setI o s.data.toList i) w) := by
  match i, hi with
  | 0, _ => exact ruleW g o s w h
  | 1, _ => exact optW53 g o s w h
  | 2, _ => exact optW55 g o s w h
  | 3, _ => exact optW56 g o s w h
  | 4, _ => exact optW57 g o s w h
  | 5, _ => exact restartW g o s hs w h hE
  | 6, _ => exact stepsW g o s hs w h hE
theorem plc_lt2 (s : Bs) : ∀ (L : List Bs) (i : Nat), plc s L = some i → i < L.length
  | x :: L, i, h => by
    unfold plc at h
    split at h
    · cases h; simp
    · cases hq : plc s L with
      | none => rw [hq] at h; cases h
      | some k =>
        rw [hq] at h
        cases h
        have := plc_lt2 s L k hq
        simp; omega
set_option maxHeartbeats 2000000 in
set_option maxRecDepth 100000 in
theorem applyW (g : Nat) (o : Ov) (key s : ByteArray) (hs : s.size ≤ 10000000) (w : World) (h : OB w g o) (hE : Env w) :
    Calls Tryz.prog 22 #[.pointer (some ⟨g, 0, none⟩), .string key, .string s] w (SP g (setL o key.data.toList s.data.toList) w) := by
  rw [setL_I]
  have hlt : ∀ i, plc key.data.toList keysL = some i → i < 7 := fun i hi => plc_lt2 _ _ _ hi
  have hk0 := blk_new w (.cells #[.string key] 9 (0, 0))
  have hb1 := below_alloc (below_alloc (Below.refl w.heap.size w) (.cells #[.string key] 9 (0, 0))) setsO
  have hk1 := heap_alloc_of hk0 setsO
  have hz1 : (w.alloc (.cells #[.string key] 9 (0, 0))).heap.size = w.heap.size + 1 := by simp
  have hs1 : ((w.alloc (.cells #[.string key] 9 (0, 0))).alloc setsO).heap[w.heap.size + 1]? = some setsO := by rw [← hz1]; exact blk_new _ _
  have HI := Aside0.mk (idxSetW (w.heap.size + 1) w.heap.size key ((w.alloc (.cells #[.string key] 9 (0, 0))).alloc setsO) hs1 (blk_cell hk1 0))
  have HB1 := Aside0.mk hb1
  have H0 := Aside0.mk h
  have HE := Aside0.mk hE
  clear hk0 hb1 hk1 hs1 h hE
  cases hq : plc key.data.toList keysL with
  | none =>
    rw [hq] at HI
    simp only at HI
    show Calls _ _ _ _ (SP g none w)
    clear hq hlt
    go_enter Tryz.func22, Tryz.ntmps22
    go_wp2_with (first
      | (go_at_call 39; ((with_reducible refine (setsW _).mono ?_); rintro e w1 ⟨rfl, rfl⟩))
      | (go_at_call 38; ((with_reducible refine HI.out.mono ?_); rintro e w1 ⟨rfl, hb⟩; have HB := Aside0.mk (below_step HB1.out hb); clear hb)))
    go_ret
    exact ⟨o, rfl, (HB.out.block g (blk_lt H0.out)).trans H0.out, fun p hp => (by cases hp), FrG.of_below HB.out⟩
  | some i =>
    have hi7 := hlt i hq
    rw [hq] at HI
    simp only at HI
    show Calls _ _ _ _ (SP g (setI o s.data.toList i) w)
    clear hq hlt
    have HG := Aside0.mk (fun (w1 : World) (h1 : Below w.heap.size w w1) => setW i hi7 g o s hs w1 ((h1.block g (blk_lt H0.out)).trans H0.out) (HE.out.below h1))
    have hi1 : (i : Int) < 7 := by omega
    have hi2 : (0 : Int) ≤ (i : Int) := by omega
    generalize setI o s.data.toList i = r at HG ⊢
    have HAT := Aside0.mk (fun (w1 : World) (b : Nat) (h : w1.heap[b]? = some setsO) => (sets_at w1 b h i hi7).2)
    have h7 : i = 0 ∨ i = 1 ∨ i = 2 ∨ i = 3 ∨ i = 4 ∨ i = 5 ∨ i = 6 := by omega
    clear hi1 hi2 hi7
    rcases h7 with rfl | rfl | rfl | rfl | rfl | rfl | rfl
    all_goals
      simp only [setF] at HG HAT
      go_enter Tryz.func22, Tryz.ntmps22
      go_wp2_with (first
        | (go_at_call 39; ((with_reducible refine (setsW _).mono ?_); rintro e w1 ⟨rfl, rfl⟩))
        | (go_at_call 38; ((with_reducible refine HI.out.mono ?_); rintro e w1 ⟨rfl, hb⟩; have HB := Aside0.mk (below_step HB1.out hb); have ha := HAT.out (w1.alloc setsO) w1.heap.size (blk_new _ _); have HB2 := Aside0.mk (below_alloc HB.out setsO); clear hb))
        | ((with_reducible refine (HG.out _ HB2.out).mono ?_); rintro e w2 ⟨o', rfl, ho, hp, hf⟩; have HO := Aside0.mk ho; have HP := Aside0.mk hp; have HF := Aside0.mk ((FrG.of_below HB2.out).trans hf); clear ho hp hf))
      go_ret
      exact ⟨o', rfl, HO.out, HP.out, HF.out⟩
end Go.Proofs.YtdnllmngaljflaaGreatDoorX.Ho
