import Derived.Test.YtgckohmppefibaaDoorHzx3
namespace Go.Proofs.YtgckohmppefibaaDoorX.Hz
open Go.RowKit Go.Proofs.YtgckohmppefibaaDoorW.PrintWords Go.Proofs.YtgckohmppefibaaDoorW.PrintLast Go.Proofs.YtgckohmppefibaaDoorW.PrintMore
attribute [local go_sem] max2_int min2_int max_two min_two max_three min_three max_four min_four
set_option linter.unusedVariables false
set_option linter.unusedSimpArgs false
attribute [local go_sem] Go.Proofs.YtgckohmppefibaaDoor.Hook.cell_two
set_option maxHeartbeats 2000000 in
set_option maxRecDepth 100000 in
theorem add1 (k : Nat) (A0 : Option Addr) (c0 : Nat) (l0 : List S29) (A1 : Option Addr) (c1 : Nat) (l1 : List S29) (g : Nat) (r : Bool) (w : World) (hg : w.cell? ⟨g, 0, none⟩ = some (.slice A1 l1.length c1)) (hr0 : Kd.C k29 w A0 l0.length l0) (hc0 : l0.length ≤ c0) (hr1 : Kd.C k29 w A1 l1.length l1) (hc1 : l1.length ≤ c1) (h : nogood_within.f k l0 l1 = some r) :
    Calls Tryd.prog 40 #[.slice A0 l0.length c0, .pointer (some ⟨g, 0, none⟩)] w fun e w' => e = .returned (.bool r) ∧ Below w.heap.size w w' := by
  have HC := Aside0.mk (nogood_within.calls k A0 c0 l0 A1 c1 l1 r w hr0 hc0 hr1 hc1 h)
  clear hr0 hr1 h hc0 hc1
  go_enter Tryd.func40, Tryd.ntmps40
  go_wp2_with (go_at_call 41; ((with_reducible refine HC.out.mono ?_); rintro e w1 ⟨rfl, hb⟩; have HB := Aside0.mk hb; clear hb))
  go_ret
  exact ⟨rfl, HB.out⟩
set_option maxHeartbeats 2000000 in
set_option maxRecDepth 100000 in
theorem add2 (k : Nat) (A0 : Option Addr) (c0 : Nat) (l0 : List S29) (A1 : Option Addr) (c1 : Nat) (l1 : List S29) (g : Nat) (r : Bool) (w : World) (hg : w.cell? ⟨g, 0, none⟩ = some (.slice A1 l1.length c1)) (hr0 : Kd.C k29 w A0 l0.length l0) (hc0 : l0.length ≤ c0) (hr1 : Kd.C k29 w A1 l1.length l1) (hc1 : l1.length ≤ c1) (h : nogood_within.f k l1 l0 = some r) :
    Calls Tryd.prog 43 #[.slice A0 l0.length c0, .pointer (some ⟨g, 0, none⟩)] w fun e w' => e = .returned (.bool r) ∧ Below w.heap.size w w' := by
  have HC := Aside0.mk (nogood_within.calls k A1 c1 l1 A0 c0 l0 r w hr1 hc1 hr0 hc0 h)
  clear hr0 hr1 h hc0 hc1
  go_enter Tryd.func43, Tryd.ntmps43
  go_wp2_with (go_at_call 41; ((with_reducible refine HC.out.mono ?_); rintro e w1 ⟨rfl, hb⟩; have HB := Aside0.mk hb; clear hb))
  go_ret
  exact ⟨rfl, HB.out⟩
theorem rawL {w : World} {A : Option Addr} {L : List (List S29)} (h : Kd.C (Kd.slice 29 k29) w A L.length L) (hn : 0 < L.length) : ∃ b o, A = some ⟨b, o, none⟩ ∧ b < w.heap.size ∧ ∀ j (hj : j < L.length), ∃ Aj cj, w.cell? ⟨b, o + j, none⟩ = some (.slice Aj L[j].length cj) ∧ L[j].length ≤ cj ∧ Kd.C k29 w Aj L[j].length L[j] := by
  obtain ⟨ad, hA, hc⟩ := h.2.2 hn
  have get : ∀ j (hj : j < L.length), ∃ Aj cj, w.cell? (ad.add j) = some (.slice Aj L[j].length cj) ∧ L[j].length ≤ cj ∧ Kd.C k29 w Aj L[j].length L[j] := by
    intro j hj
    obtain ⟨c, _, hK, hcell⟩ := hc j L[j] (List.getElem?_eq_getElem hj)
    obtain ⟨Aj, cj, rfl, h1, h2⟩ := hK
    have h3 := hcell 0 _ rfl
    have e : j * (Kd.slice 29 k29).sz + 0 = j := Nat.mul_one j
    rw [e] at h3
    exact ⟨Aj, cj, h3, h1, h2⟩
  obtain ⟨b, o, sp⟩ := ad
  obtain ⟨_, _, h0, _, _⟩ := get 0 hn
  have hsp : sp = none := by
    cases sp with
    | none => rfl
    | some x =>
      exfalso
      simp only [World.cell?, Addr.add] at h0
      simp at h0
      split at h0 <;> cases h0
  subst hsp
  have e : ∀ m, (⟨b, o, none⟩ : Addr).add m = ⟨b, o + m, none⟩ := by intro m; unfold Addr.add; split <;> simp_all
  rw [e] at h0
  refine ⟨b, o, hA, World.block_lt_of_cell? w _ h0, fun j hj => ?_⟩
  have h1 := get j hj
  rw [e] at h1
  exact h1
/-- A slice value of some block. -/
def sv (v : Option Addr × Nat × Nat) : Value := .slice v.1 v.2.1 v.2.2
def fst2 (P : Option Addr × Nat × Nat → Bool) : List (Option Addr × Nat × Nat) → Int → Int
  | [], _ => -1
  | x :: l, i => if P x then i else fst2 P l (i + 1)
theorem fst2_cases (P : Option Addr × Nat × Nat → Bool) : ∀ (l : List (Option Addr × Nat × Nat)) (i : Nat), (fst2 P l i = -1 ∧ l.all (fun x => !P x) = true) ∨ ∃ k : Nat, fst2 P l i = ((i + k : Nat) : Int) ∧ k < l.length ∧ (l.take k).all (fun x => !P x) = true ∧ (l.drop k).head?.any P = true
  | [], _ => .inl ⟨rfl, rfl⟩
  | x :: l, i => by
    unfold fst2
    cases hp : P x with
    | true => exact .inr ⟨0, by simp, by simp, by simp, by simp [hp]⟩
    | false =>
      rcases fst2_cases P l (i + 1) with ⟨h1, h2⟩ | ⟨k, h1, h2, h3, h4⟩
      · exact .inl ⟨by simpa using h1, by simp [hp, h2]⟩
      · exact .inr ⟨k + 1, by simp only [Bool.false_eq_true, if_false]; rw [show ((i : Int) + 1) = ((i + 1 : Nat) : Int) from by omega, h1]; omega, by simp; omega, by simp only [List.take_succ_cons, List.all_cons, hp, h3]; rfl, by simpa using h4⟩
set_option maxHeartbeats 4000000 in
set_option maxRecDepth 100000 in
theorem idxV (b o c : Nat) (V : List (Option Addr × Nat × Nat)) (f : Nat) (pv : Value) (P : Option Addr × Nat × Nat → Bool) (w : World) (hn : 0 < V.length) (hbw : b < w.heap.size) (hcell : ∀ j (hj : j < V.length), w.cell? ⟨b, o + j, none⟩ = some (sv V[j])) (hb : V.length ≤ 1000000) (hf : f = 40 ∨ f = 43)
    (hP : ∀ (v : Option Addr × Nat × Nat) (w1 : World), v ∈ V → Below w.heap.size w w1 → Calls Tryd.prog f #[sv v, pv] w1 fun e w' => e = .returned (.bool (P v)) ∧ Below w1.heap.size w1 w') :
    Calls Tryd.prog 52 #[.slice (some ⟨b, o, none⟩) V.length c, .func (.func f) #[] #[pv]] w fun e w' => e = .returned (.int .i64 (fst2 P V 0)) ∧ Below w.heap.size w w' := by
  have HC := Aside0.mk hcell
  have HP := Aside0.mk hP
  have HE : ∀ j (hj : j < V.length), V.drop j = V[j] :: V.drop (j + 1) := fun j hj => List.drop_eq_getElem_cons hj
  clear hP hcell
  go_enter Tryd.func52, Tryd.ntmps52
  go_wp2
  go_loopg [5, 8] V.length (fun kx s5 s8 wr => ∃ j : Nat, s8 = .int .i64 j ∧ j ≤ V.length ∧ V.length - j ≤ kx ∧ Aside0 (Below w.heap.size w wr) ∧ Aside0 (fst2 P V 0 = fst2 P (V.drop j) j))
  case atStart => exact ⟨0, rfl, Nat.zero_le _, by omega, Aside0.mk (Below.refl _ _), Aside0.mk rfl⟩
  case round =>
    obtain ⟨j, rfl, hjn, hg, HB, HI⟩ := hrel
    by_cases hlt : j < V.length
    · have e0 := HC.out j hlt
      have e0' : wr.cell? ⟨b, o + j, none⟩ = some (sv V[j]) := by
        rw [HB.out.cell (p := ⟨b, o + j, none⟩) hbw]; exact e0
      have hc := HP.out V[j] wr (List.getElem_mem hlt) HB.out
      have X := HE j hlt
      clear e0 HE
      generalize V[j] = y at e0' hc X
      obtain ⟨y1, y2, y3⟩ := y
      unfold sv at e0' hc
      have HX := Aside0.mk X
      have HCC := Aside0.mk hc
      clear X hc
      cases hp : P (y1, y2, y3) with
      | true =>
        have HH : Aside0 (fst2 P V 0 = (j : Int)) := Aside0.mk (by rw [HI.out, HX.out]; unfold fst2; rw [hp]; rfl)
        rw [hp] at HCC
        clear hp HX HI
        rcases hf with rfl | rfl
        · go_wp2_with (go_at_call 40; ((with_reducible refine HCC.out.mono ?_); rintro e w2 ⟨rfl, hb2⟩; have HB2 := Aside0.mk (below_step HB.out hb2); clear hb2))
          go_ret
          exact ⟨by rw [HH.out]; rfl, HB2.out⟩
        · go_wp2_with (go_at_call 43; ((with_reducible refine HCC.out.mono ?_); rintro e w2 ⟨rfl, hb2⟩; have HB2 := Aside0.mk (below_step HB.out hb2); clear hb2))
          go_ret
          exact ⟨by rw [HH.out]; rfl, HB2.out⟩
      | false =>
        have HH : Aside0 (fst2 P V 0 = fst2 P (V.drop (j + 1)) (j + 1 : Nat)) := Aside0.mk (by rw [HI.out, HX.out]; conv => { lhs; unfold fst2 }; rw [hp]; simp)
        rw [hp] at HCC
        clear hp HX HI
        rcases hf with rfl | rfl
        · go_wp2_with (go_at_call 40; ((with_reducible refine HCC.out.mono ?_); rintro e w2 ⟨rfl, hb2⟩; have HB2 := Aside0.mk (below_step HB.out hb2); clear hb2))
          go_roundg (V.length - (j + 1))
          case measure => omega
          case rel => exact ⟨j + 1, rfl, by omega, Nat.le_refl _, HB2, HH⟩
        · go_wp2_with (go_at_call 43; ((with_reducible refine HCC.out.mono ?_); rintro e w2 ⟨rfl, hb2⟩; have HB2 := Aside0.mk (below_step HB.out hb2); clear hb2))
          go_roundg (V.length - (j + 1))
          case measure => omega
          case rel => exact ⟨j + 1, rfl, by omega, Nat.le_refl _, HB2, HH⟩
    · have hj : j = V.length := by omega
      subst hj
      have HH : Aside0 (fst2 P V 0 = -1) := Aside0.mk (by rw [HI.out, List.drop_length]; rfl)
      clear HI
      go_wp2_with fail
      go_ret
      exact ⟨by rw [HH.out]; rfl, HB.out⟩
/-- All but one block stays; above a base nothing but that. -/
def Bt (base blk : Nat) (w w1 : World) : Prop := Below base w w1 ∧ KeepBut w w1 blk none
/-- The row in its block while DeleteFunc is under way. -/
def St (base blk ty cap : Nat) (w : World) (V : List (Option Addr × Nat × Nat)) (P : Option Addr × Nat × Nat → Bool) (wr : World) (kk j : Nat) : Prop :=
  Bt base blk w wr ∧ ∃ cur, wr.heap[blk]? = some (.cells cur ty (0, 0)) ∧ cur.size = cap ∧ (∀ m (hm : m < V.length), j ≤ m → cur[m]? = some (sv V[m])) ∧ cur.toList.take kk = ((V.take j).filter fun x => !P x).map sv ∧ kk = ((V.take j).filter fun x => !P x).length
theorem filter_all {α : Type} (p : α → Bool) : ∀ (l : List α), l.all p = true → l.filter p = l := fun l h => List.filter_eq_self.2 (List.all_eq_true.1 h)
theorem map_take {V : List (Option Addr × Nat × Nat)} {cur : Array Value} (h : ∀ m (hm : m < V.length), cur[m]? = some (sv V[m])) (k : Nat) (hk : k ≤ V.length) : cur.toList.take k = (V.take k).map sv := by
  apply List.ext_getElem?
  intro m
  rw [List.getElem?_take, List.getElem?_map, List.getElem?_take]
  by_cases hm : m < k
  · rw [if_pos hm, if_pos hm, Array.getElem?_toList, h m (by omega), List.getElem?_eq_getElem (by omega)]; rfl
  · rw [if_neg hm, if_neg hm]; rfl
theorem filter_take {V : List (Option Addr × Nat × Nat)} {P : Option Addr × Nat × Nat → Bool} {j : Nat} (hj : j < V.length) : (V.take (j + 1)).filter (fun x => !P x) = (V.take j).filter (fun x => !P x) ++ (if P V[j] then [] else [V[j]]) := by
  rw [List.take_add_one, List.getElem?_eq_getElem hj, List.filter_append]
  cases h : P V[j] <;> simp [h]
theorem St.start {base g ty cap : Nat} {w : World} {V : List (Option Addr × Nat × Nat)} {P : Option Addr × Nat × Nat → Bool} {w1 : World} {cur : Array Value} {k : Nat} (hb : Bt base g w w1) (h0 : w1.heap[g]? = some (.cells cur ty (0, 0))) (hs : cur.size = cap) (hc : ∀ m (hm : m < V.length), cur[m]? = some (sv V[m])) (hk : k < V.length) (h3 : (V.take k).all (fun x => !P x) = true) (h4 : (V.drop k).head?.any P = true) : St base g ty cap w V P w1 k (k + 1) := by
  have hP : P V[k] = true := by
    rw [List.head?_drop, List.getElem?_eq_getElem hk] at h4
    simpa using h4
  refine ⟨hb, cur, h0, hs, fun m hm _ => hc m hm, ?_, ?_⟩
  · rw [filter_take hk, filter_all _ _ h3, hP, if_pos rfl, List.append_nil, map_take hc k (by omega)]
  · rw [filter_take hk, filter_all _ _ h3, hP, if_pos rfl, List.append_nil, List.length_take]; omega
theorem St.below {base g ty cap : Nat} {w : World} {V : List (Option Addr × Nat × Nat)} {P : Option Addr × Nat × Nat → Bool} {w1 w2 : World} {k j : Nat} (h : St base g ty cap w V P w1 k j) (hgw : g < w.heap.size) (hbw : base ≤ g) (hb : Below w1.heap.size w1 w2) : St base g ty cap w V P w2 k j := by
  obtain ⟨⟨h1, h1s, h1b⟩, cur, h0, r⟩ := h
  refine ⟨⟨h1.trans (hb.mono (by have := h1.size; omega)), ?_, ?_⟩, cur, ?_, r⟩
  · have := hb.size; omega
  · intro i hi hne hr
    rw [hb.block i (by omega)]; exact h1b i hi hne hr
  · rw [hb.block g (by omega)]; exact h0
theorem St.skip {base g ty cap : Nat} {w : World} {V : List (Option Addr × Nat × Nat)} {P : Option Addr × Nat × Nat → Bool} {w1 : World} {k j : Nat} (h : St base g ty cap w V P w1 k j) (hj : j < V.length) (hp : P V[j] = true) : St base g ty cap w V P w1 k (j + 1) := by
  obtain ⟨h1, cur, h0, h2, h3, h4, h5⟩ := h
  exact ⟨h1, cur, h0, h2, fun m hm h => h3 m hm (by omega), by rw [filter_take hj, hp, if_pos rfl, List.append_nil]; exact h4, by rw [filter_take hj, hp, if_pos rfl, List.append_nil]; exact h5⟩
theorem Bt.set {base g : Nat} {w w1 : World} (h : Bt base g w w1) (hbg : base ≤ g) (o : Nat) (vs : List Value) : Bt base g w (w1.setCells g o vs) := by
  obtain ⟨e1, e2, e3, e4⟩ := setCells_same g vs o w1
  exact ⟨⟨e1.trans h.1.os, e2.trans h.1.tape, e3.trans h.1.output, by rw [e4]; exact h.1.size, fun k hk => (setCells_far vs o k (by omega)).trans (h.1.block k hk)⟩, by rw [e4]; exact h.2.1, fun i hi hne hr => (setCells_far vs o i hne).trans (h.2.2 i hi hne hr)⟩
theorem St.put {base g ty cap : Nat} {w : World} {V : List (Option Addr × Nat × Nat)} {P : Option Addr × Nat × Nat → Bool} {w1 : World} {k j : Nat} (h : St base g ty cap w V P w1 k j) (hbg : base ≤ g) (hcap : V.length ≤ cap) (hkj : k < j) (hj : j < V.length) (hp : P V[j] = false) : St base g ty cap w V P (w1.setCell ⟨g, k, none⟩ (sv V[j])) (k + 1) (j + 1) := by
  obtain ⟨h1, cur, h0, h2, h3, h4, h5⟩ := h
  have hset := blk_set h0 k (sv V[j])
  refine ⟨h1.set hbg k [sv V[j]], _, hset, by simpa using h2, fun m hm h => ?_, ?_, ?_⟩
  · rw [Array.getElem?_setIfInBounds, if_neg (by omega)]
    exact h3 m hm (by omega)
  · rw [filter_take hj, hp, if_neg (by decide), List.map_append, ← h4, Array.toList_setIfInBounds, List.take_add_one, List.take_set, List.getElem?_set_self (by rw [Array.length_toList]; omega)]
    rw [List.set_eq_of_length_le (by rw [List.length_take]; omega)]
    rfl
  · rw [filter_take hj, hp, if_neg (by decide), List.length_append, ← h5]; rfl
theorem St.clear {base g ty cap : Nat} {w : World} {V : List (Option Addr × Nat × Nat)} {P : Option Addr × Nat × Nat → Bool} {w1 : World} {k : Nat} (h : St base g ty cap w V P w1 k V.length) (hbg : base ≤ g) (vs : List Value) (hv : k + vs.length ≤ cap) : St base g ty cap w V P (w1.setCells g k vs) k V.length := by
  obtain ⟨h1, cur, h0, h2, h3, h4, h5⟩ := h
  obtain ⟨cur', e0, e1, e2⟩ := setCells_row vs k w1 cur h0 (by omega)
  refine ⟨h1.set hbg k vs, cur', e0, by omega, fun m hm h => absurd hm (by omega), ?_, h5⟩
  rw [e2, List.append_assoc, List.take_left' (by rw [List.length_take, Array.length_toList]; omega)]
  exact h4
theorem clear45 (w : World) (ty : TypeId) (b o n c : Nat) (hn : 0 < n) (hc : ∀ j, j < n → (w.cell? ⟨b, o + j, none⟩).isSome = true) (hf : ∀ j, j < n → w.frozen? ⟨b, o + j, none⟩ = false) :
    (Builtin.clear_ #[36] ty #[.slice (some ⟨b, o, none⟩) n c]).run Tryd.prog w = .ok (.tuple #[]) (w.setCells b o (List.replicate n (.slice none 0 0))) := by
  have hv : ∀ w, (zeroValue 45).run Tryd.prog w = .ok (.slice none 0 0) w := Tryd.zeroValue45
  have hzc : (Builtin.zeroCells (Value.slice none 0 0).cells n).toList = List.replicate n (.slice none 0 0) := by
    show (Builtin.zeroCells #[.slice none 0 0] n).toList = _
    simp [Builtin.zeroCells]
    apply List.ext_getElem
    · simp
    · intro i h1 h2
      simp [Nat.mod_one]
  have hst := run_storeCells_cells (P := Tryd.prog) b o (List.replicate n (.slice none 0 0)) 0 w (by simpa using hc) (by simpa using hf) (by intro v hv'; rw [List.eq_of_mem_replicate hv']; rfl)
  simp only [Nat.add_zero] at hst
  obtain ⟨m, rfl⟩ : ∃ m, n = m + 1 := ⟨n - 1, by omega⟩
  simp [Builtin.clear_, run_underlying Tryd.underlying36, hv, hzc, hst]
theorem St.cells {base g ty cap : Nat} {w : World} {V : List (Option Addr × Nat × Nat)} {P : Option Addr × Nat × Nat → Bool} {w1 : World} {k j : Nat} (h : St base g ty cap w V P w1 k j) (hj : j < V.length) : w1.cell? ⟨g, j, none⟩ = some (sv V[j]) := by
  obtain ⟨h1, cur, h0, h2, h3, h4, h5⟩ := h
  simp [World.cell?, h0, h3 j hj (Nat.le_refl _)]
theorem St.slot {base g ty cap : Nat} {w : World} {V : List (Option Addr × Nat × Nat)} {P : Option Addr × Nat × Nat → Bool} {w1 : World} {k j : Nat} (h : St base g ty cap w V P w1 k j) {i : Nat} (hi : i < cap) : ∃ v, w1.cell? ⟨g, i, none⟩ = some v ∧ w1.frozen? ⟨g, i, none⟩ = false := by
  obtain ⟨h1, cur, h0, h2, h3, h4, h5⟩ := h
  refine ⟨cur[i]'(by omega), by simp [World.cell?, h0], ?_⟩
  simp [World.frozen?, h0]
set_option maxHeartbeats 4000000 in
set_option maxRecDepth 100000 in
theorem delV (base g ty cap : Nat) (V : List (Option Addr × Nat × Nat)) (f : Nat) (pv : Value) (P : Option Addr × Nat × Nat → Bool) (w : World) (cur : Array Value) (hn : 0 < V.length) (hbg : base ≤ g) (hblk : w.heap[g]? = some (.cells cur ty (0, 0))) (hcs : cur.size = cap) (hcap : V.length ≤ cap) (hcur : ∀ m (hm : m < V.length), cur[m]? = some (sv V[m])) (hb : V.length ≤ 1000000) (hf : f = 40 ∨ f = 43)
    (hP : ∀ (v : Option Addr × Nat × Nat) (w1 : World), v ∈ V → Bt base g w w1 → Calls Tryd.prog f #[sv v, pv] w1 fun e w' => e = .returned (.bool (P v)) ∧ Below w1.heap.size w1 w') :
    Calls Tryd.prog 42 #[.slice (some ⟨g, 0, none⟩) V.length cap, .func (.func f) #[] #[pv]] w fun e w' => ∃ kk, e = .returned (.slice (some ⟨g, 0, none⟩) kk cap) ∧ St base g ty cap w V P w' kk V.length := by
  have hgw : g < w.heap.size := (Array.getElem?_eq_some_iff.1 hblk).1
  have toBt : ∀ w1, Below w.heap.size w w1 → Bt base g w w1 := fun w1 h => ⟨⟨h.os, h.tape, h.output, h.size, fun k hk => h.block k (by omega)⟩, h.size, fun i hi _ _ => h.block i hi⟩
  have hcell : ∀ j (hj : j < V.length), w.cell? ⟨g, 0 + j, none⟩ = some (sv V[j]) := by
    intro j hj
    simp [World.cell?, hblk, hcur j hj]
  have HI := Aside0.mk (idxV g 0 cap V f pv P w hn hgw hcell hb hf (fun v w1 hv h => hP v w1 hv (toBt w1 h)))
  have HP := Aside0.mk hP
  have H0 := Aside0.mk (And.intro hblk (And.intro hcs hcur))
  have TB := Aside0.mk toBt
  clear hP hcell toBt hblk hcur
  rcases fst2_cases P V 0 with ⟨h1, h2⟩ | ⟨k, h1, h2, h3, h4⟩
  · rw [show fst2 P V 0 = -1 from h1] at HI
    clear h1
    go_enter Tryd.func42, Tryd.ntmps42
    go_wp2_with (go_at_call 52; ((with_reducible refine HI.out.mono ?_); rintro e w1 ⟨rfl, hb1⟩; have HB := Aside0.mk hb1; clear hb1))
    go_ret
    refine ⟨V.length, rfl, TB.out _ HB.out, cur, ?_, H0.out.2.1, fun m hm h => H0.out.2.2 m hm, ?_, ?_⟩
    · rw [HB.out.block g hgw]; exact H0.out.1
    · rw [List.take_length, filter_all _ _ h2]
      exact (map_take H0.out.2.2 _ (Nat.le_refl _)).trans (by rw [List.take_length])
    · rw [List.take_length, filter_all _ _ h2]
  · rw [show fst2 P V 0 = ((0 + k : Nat) : Int) from h1, Nat.zero_add] at HI
    clear h1
    go_enter Tryd.func42, Tryd.ntmps42
    go_wp2_with (go_at_call 52; ((with_reducible refine HI.out.mono ?_); rintro e w1 ⟨rfl, hb1⟩; have HB := Aside0.mk hb1; clear hb1))
    have HS1 := Aside0.mk (St.start (P := P) (TB.out _ HB.out) (by rw [HB.out.block g hgw]; exact H0.out.1) H0.out.2.1 H0.out.2.2 h2 h3 h4)
    clear HB HI H0 h3 h4
    go_loopg [5, 6, 7] V.length (fun kx s5 s6 s7 wr => ∃ kk j : Nat, s5 = .int .i64 kk ∧ s6 = .int .i64 j ∧ kk < j ∧ j ≤ V.length ∧ V.length - j ≤ kx ∧ Aside0 (St base g ty cap w V P wr kk j))
    case atStart => exact ⟨k, k + 1, rfl, rfl, by omega, by omega, by omega, HS1⟩
    case round =>
      obtain ⟨kk, j, rfl, rfl, hkj, hjn, hg, HS⟩ := hrel
      by_cases hlt : j < V.length
      · have e0 := HS.out.cells hlt
        have hc := HP.out V[j] wr (List.getElem_mem hlt) HS.out.1
        have HSK := Aside0.mk (fun w2 => HS.out.below (w2 := w2) hgw hbg)
        have HX := Aside0.mk (rfl : V[j] = V[j])
        generalize hy : V[j] = y at e0 hc
        obtain ⟨y1, y2, y3⟩ := y
        unfold sv at e0 hc
        have HY := Aside0.mk hy
        clear hy HX
        have HCC := Aside0.mk hc
        clear hc
        cases hp : P (y1, y2, y3) with
        | true =>
          rw [hp] at HCC
          rcases hf with rfl | rfl
          · go_wp2_with (go_at_call 40; ((with_reducible refine HCC.out.mono ?_); rintro e w2 ⟨rfl, hb2⟩; have HB2 := Aside0.mk (HSK.out _ hb2); clear hb2))
            go_roundg (V.length - (j + 1))
            case measure => omega
            case rel => exact ⟨kk, j + 1, rfl, rfl, by omega, by omega, Nat.le_refl _, Aside0.mk (HB2.out.skip hlt (by rw [HY.out]; exact hp))⟩
          · go_wp2_with (go_at_call 43; ((with_reducible refine HCC.out.mono ?_); rintro e w2 ⟨rfl, hb2⟩; have HB2 := Aside0.mk (HSK.out _ hb2); clear hb2))
            go_roundg (V.length - (j + 1))
            case measure => omega
            case rel => exact ⟨kk, j + 1, rfl, rfl, by omega, by omega, Nat.le_refl _, Aside0.mk (HB2.out.skip hlt (by rw [HY.out]; exact hp))⟩
        | false =>
          rw [hp] at HCC
          rcases hf with rfl | rfl
          · go_wp2_with (go_at_call 40; ((with_reducible refine HCC.out.mono ?_); rintro e w2 ⟨rfl, hb2⟩; have HB2 := Aside0.mk (HSK.out _ hb2); obtain ⟨old, eo, fo⟩ := (HSK.out _ hb2).slot (i := kk) (by omega); clear hb2))
            go_roundg (V.length - (j + 1))
            case measure => omega
            case rel => exact ⟨kk + 1, j + 1, by go_num, by go_num, by omega, by omega, Nat.le_refl _, Aside0.mk (by have h9 := HB2.out.put hbg hcap hkj hlt (by rw [HY.out]; exact hp); rw [HY.out] at h9; exact h9)⟩
          · go_wp2_with (go_at_call 43; ((with_reducible refine HCC.out.mono ?_); rintro e w2 ⟨rfl, hb2⟩; have HB2 := Aside0.mk (HSK.out _ hb2); obtain ⟨old, eo, fo⟩ := (HSK.out _ hb2).slot (i := kk) (by omega); clear hb2))
            go_roundg (V.length - (j + 1))
            case measure => omega
            case rel => exact ⟨kk + 1, j + 1, by go_num, by go_num, by omega, by omega, Nat.le_refl _, Aside0.mk (by have h9 := HB2.out.put hbg hcap hkj hlt (by rw [HY.out]; exact hp); rw [HY.out] at h9; exact h9)⟩
      · have hj : j = V.length := by omega
        subst hj
        have hcl : ∀ ty, (Builtin.clear_ #[36] ty #[.slice (some ⟨g, kk, none⟩) (V.length - kk) (cap - kk)]).run Tryd.prog wr = .ok (.tuple #[]) (wr.setCells g kk (List.replicate (V.length - kk) (.slice none 0 0))) :=
          fun ty => clear45 wr ty g kk _ _ (by omega)
            (fun j hj => by obtain ⟨v, h5, _⟩ := HS.out.slot (i := kk + j) (by omega); rw [h5]; rfl)
            (fun j hj => by obtain ⟨v, _, h5⟩ := HS.out.slot (i := kk + j) (by omega); exact h5)
        go_wp2_with fail
        go_ret
        exact ⟨kk, rfl, HS.out.clear hbg _ (by rw [List.length_replicate]; omega)⟩
theorem fst2_any (P : Option Addr × Nat × Nat → Bool) : ∀ (L : List (Option Addr × Nat × Nat)) (i : Int), 0 ≤ i → decide (0 ≤ fst2 P L i) = L.any P
  | [], i, _ => by simp [fst2]
  | x :: l, i, h => by
    unfold fst2
    rw [List.any_cons]
    cases hp : P x with
    | true => simp [h]
    | false => simp [fst2_any P l (i + 1) (by omega)]
set_option maxHeartbeats 4000000 in
set_option maxRecDepth 100000 in
theorem idx0 (A : Option Addr) (c f : Nat) (pv : Value) (w : World) :
    Calls Tryd.prog 52 #[.slice A 0 c, .func (.func f) #[] #[pv]] w fun e w' => e = .returned (.int .i64 (-1)) ∧ Below w.heap.size w w' := by
  go_enter Tryd.func52, Tryd.ntmps52
  go_wp2
  refine wp_loop_rounds 1 ?_
  rw [rounds_succ]
  go_wp2
  go_ret
  exact ⟨rfl, Below.refl _ _⟩
set_option maxHeartbeats 4000000 in
set_option maxRecDepth 100000 in
theorem cont0 (A : Option Addr) (c f : Nat) (pv : Value) (w : World) :
    Calls Tryd.prog 24 #[.slice A 0 c, .func (.func f) #[] #[pv]] w fun e w' => e = .returned (.bool false) ∧ Below w.heap.size w w' := by
  have HC := Aside0.mk (idx0 A c f pv w)
  go_enter Tryd.func24, Tryd.ntmps24
  go_wp2_with (go_at_call 52; ((with_reducible refine HC.out.mono ?_); rintro e w1 ⟨rfl, hb⟩; have HB := Aside0.mk hb; clear hb))
  go_ret
  exact ⟨rfl, HB.out⟩
set_option maxHeartbeats 4000000 in
set_option maxRecDepth 100000 in
theorem del0 (A : Option Addr) (c f : Nat) (pv : Value) (w : World) :
    Calls Tryd.prog 42 #[.slice A 0 c, .func (.func f) #[] #[pv]] w fun e w' => e = .returned (.slice A 0 c) ∧ Below w.heap.size w w' := by
  have HC := Aside0.mk (idx0 A c f pv w)
  go_enter Tryd.func42, Tryd.ntmps42
  go_wp2_with (go_at_call 52; ((with_reducible refine HC.out.mono ?_); rintro e w1 ⟨rfl, hb⟩; have HB := Aside0.mk hb; clear hb))
  go_ret
  exact ⟨rfl, HB.out⟩
set_option maxHeartbeats 4000000 in
set_option maxRecDepth 100000 in
theorem contV (b o c : Nat) (V : List (Option Addr × Nat × Nat)) (f : Nat) (pv : Value) (P : Option Addr × Nat × Nat → Bool) (w : World) (hn : 0 < V.length) (hbw : b < w.heap.size) (hcell : ∀ j (hj : j < V.length), w.cell? ⟨b, o + j, none⟩ = some (sv V[j])) (hb : V.length ≤ 1000000) (hf : f = 40 ∨ f = 43)
    (hP : ∀ (v : Option Addr × Nat × Nat) (w1 : World), v ∈ V → Below w.heap.size w w1 → Calls Tryd.prog f #[sv v, pv] w1 fun e w' => e = .returned (.bool (P v)) ∧ Below w1.heap.size w1 w') :
    Calls Tryd.prog 24 #[.slice (some ⟨b, o, none⟩) V.length c, .func (.func f) #[] #[pv]] w fun e w' => e = .returned (.bool (V.any P)) ∧ Below w.heap.size w w' := by
  have HC := Aside0.mk (idxV b o c V f pv P w hn hbw hcell hb hf hP)
  have HA := Aside0.mk (fst2_any P V 0 (Int.le_refl _))
  clear hn hbw hcell hb hf hP
  go_enter Tryd.func24, Tryd.ntmps24
  go_wp2_with (go_at_call 52; ((with_reducible refine HC.out.mono ?_); rintro e w1 ⟨rfl, hb⟩; have HB := Aside0.mk hb; clear hb))
  go_ret
  exact ⟨by rw [← HA.out]; rfl, HB.out⟩
/-- What a slice value is made of. -/
def unsv : Value → Option Addr × Nat × Nat
  | .slice A n c => (A, n, c)
  | _ => (none, 0, 0)
/-- An owned row of rows, opened: its block, and its cells' slices. -/
theorem row_V {w : World} {base : Nat} {ok : Nat → Prop} {v : Value} {L : List (List S29)} (h : Kd.R (Kd.slice 29 k29) 45 w base ok v L) (hn : 0 < L.length) :
    ∃ (g cap : Nat) (cur : Array Value) (V : List (Option Addr × Nat × Nat)), v = .slice (some ⟨g, 0, none⟩) L.length cap ∧ base ≤ g ∧ ok g ∧ w.heap[g]? = some (.cells cur 45 (0, 0)) ∧ L.length ≤ cap ∧ cap ≤ maxLen ∧ cur.size = cap ∧ V.length = L.length ∧ (∀ m (hm : m < V.length), cur[m]? = some (sv V[m])) ∧
      ∀ (m : Nat) (x : List S29) (y : Option Addr × Nat × Nat), L[m]? = some x → V[m]? = some y → y.2.1 = x.length ∧ Kd.R k29 29 w base (fun k => ok k ∧ k ≠ g) (sv y) x := by
  obtain ⟨h0, inner, ⟨hlen, hor⟩, hreps⟩ := h
  rcases hor with ⟨_, hz⟩ | ⟨g, cap, cur, rfl, hb, hh, h1, h2, h3, h4⟩
  · omega
  · have e1 : (Kd.slice 29 k29).sz = 1 := rfl
    rw [e1] at h3 h4 hreps hlen
    rw [Nat.mul_one] at h3 h4 hlen
    have hel : ∀ (m : Nat) (x : List S29), L[m]? = some x → ∃ A c, cur[m]? = some (Value.slice A x.length c) ∧ Kd.R k29 29 w base (fun k => ok k ∧ k ≠ g) (.slice A x.length c) x := by
      intro m x hx
      have hm : m < L.length := (List.getElem?_eq_some_iff.1 hx).1
      obtain ⟨u, hu, hR⟩ := hreps.2 m x hx
      obtain ⟨A, c, hv, _⟩ := Kd.R_reads hR
      subst hv
      refine ⟨A, c, ?_, Kd.R_mono hR (fun k hk => ⟨hk.1, fun hkg => hk.2 (by rw [hkg]; rfl)⟩)⟩
      have hi : inner[m]? = some (Value.slice A x.length c) := by
        have h5 : (inner.drop (m * 1)).take 1 = [Value.slice A x.length c] := hu
        rw [Nat.mul_one] at h5
        have h6 : ((inner.drop m).take 1)[0]? = some (Value.slice A x.length c) := by rw [h5]; rfl
        rw [List.getElem?_take, if_pos (by omega), List.getElem?_drop] at h6
        exact h6
      rw [← h4, List.getElem?_take, if_pos hm, Array.getElem?_toList] at hi
      exact hi
    have hcl : L.length ≤ cur.toList.length := by have h9 := Array.length_toList (xs := cur); omega
    refine ⟨g, cap, cur, (cur.toList.take L.length).map unsv, rfl, hb, h0 g rfl, hh, h1, h2, h3, by rw [List.length_map, List.length_take, Nat.min_eq_left hcl], fun m hm => ?_, fun m x y hx hy => ?_⟩
    · have hm2 : m < L.length := by rw [List.length_map, List.length_take] at hm; omega
      obtain ⟨A, c, e2, _⟩ := hel m L[m] (List.getElem?_eq_getElem hm2)
      have e3 : cur.toList[m]? = some (Value.slice A L[m].length c) := by rw [Array.getElem?_toList]; exact e2
      have e4 : ((cur.toList.take L.length).map unsv)[m]? = some (A, L[m].length, c) := by
        rw [List.getElem?_map, List.getElem?_take, if_pos hm2, e3]; rfl
      rw [List.getElem?_eq_getElem hm] at e4
      rw [e2, Option.some.inj e4]; rfl
    · have hm2 : m < L.length := (List.getElem?_eq_some_iff.1 hx).1
      obtain ⟨A, c, e2, hR⟩ := hel m x hx
      have e3 : cur.toList[m]? = some (Value.slice A x.length c) := by rw [Array.getElem?_toList]; exact e2
      rw [List.getElem?_map, List.getElem?_take, if_pos hm2, e3] at hy
      cases hy
      exact ⟨rfl, hR⟩
/-- And closed again, once DeleteFunc has passed over it. -/
theorem row_R {base g cap kk : Nat} {w w1 : World} {ok : Nat → Prop} (Z : List (List S29 × (Option Addr × Nat × Nat))) (P : Option Addr × Nat × Nat → Bool) (p : List S29 → Bool) (hp : ∀ z ∈ Z, P z.2 = p z.1) (hR : ∀ z ∈ Z, Kd.R k29 29 w1 base (fun k => ok k ∧ k ≠ g) (sv z.2) z.1) (hok : ok g) (hbg : base ≤ g) (hm : cap ≤ maxLen) (hk : kk ≤ cap)
    (h : St base g 45 cap w (Z.map (·.2)) P w1 kk (Z.map (·.2)).length) : Kd.R (Kd.slice 29 k29) 45 w1 base ok (.slice (some ⟨g, 0, none⟩) kk cap) ((Z.map (·.1)).filter fun x => !p x) := by
  obtain ⟨h1, cur, h0, h2, h3, h4, h5⟩ := h
  rw [List.take_length] at h4 h5
  have eV : ((Z.map (·.2)).filter fun x => !P x) = (Z.filter fun z => !p z.1).map (·.2) := by
    rw [List.filter_map]
    congr 1
    exact List.filter_congr fun z hz => by simp [hp z hz]
  have eL : ((Z.map (·.1)).filter fun x => !p x) = (Z.filter fun z => !p z.1).map (·.1) := by
    rw [List.filter_map]; rfl
  have hZ : ∀ z ∈ Z.filter (fun z => !p z.1), Kd.R k29 29 w1 base (fun k => ok k ∧ k ≠ g) (sv z.2) z.1 := fun z hz => hR z (List.mem_filter.1 hz |>.1)
  rw [eV] at h4 h5
  rw [eL]
  generalize Z.filter (fun z => !p z.1) = Y at h4 h5 hZ
  have e1 : (Kd.slice 29 k29).sz = 1 := rfl
  have hl : Y.length = kk := by rw [h5, List.length_map]
  refine ⟨fun k hk => ?_, (Y.map (·.2)).map sv, ⟨?_, .inr ⟨g, cap, cur, ?_, hbg, h0, ?_, hm, ?_, ?_⟩⟩, ?_, fun j x hj => ?_⟩
  · cases hk; exact hok
  · rw [e1]; simp
  · rw [List.length_map, hl]
  · rw [List.length_map, hl]; exact hk
  · rw [e1, Nat.mul_one]; exact h2
  · rw [e1, Nat.mul_one, List.length_map, hl]; exact h4
  · rw [e1]; simp
  · rw [List.getElem?_map] at hj
    obtain ⟨z, hz, rfl⟩ := Option.map_eq_some_iff.1 hj
    have hz2 := hZ z (List.mem_of_getElem? hz)
    refine ⟨sv z.2, ?_, Kd.R_mono hz2 (fun k hk => ⟨hk.1, fun hkg => hk.2 (by cases hkg; rfl)⟩)⟩
    rw [e1, Nat.mul_one]
    apply List.ext_getElem?
    intro i
    rw [List.getElem?_take, List.getElem?_drop, List.getElem?_map, List.getElem?_map]
    cases i with
    | zero => rw [if_pos (by omega), Nat.add_zero, hz]; rfl
    | succ i => rw [if_neg (by omega)]; rfl
set_option maxRecDepth 20000
/-- What is read is one thing. -/
theorem C29_inj {w : World} {A : Option Addr} {l m : List S29} (h : Kd.C k29 w A l.length l) (h2 : Kd.C k29 w A m.length m) (hl : l.length = m.length) : l = m := by
  apply List.ext_getElem?
  intro j
  rcases Nat.lt_or_ge j l.length with hj | hj
  · obtain ⟨ad, e1, hc⟩ := h.2.2 (by omega)
    obtain ⟨ad2, e2, hc2⟩ := h2.2.2 (by omega)
    rw [e1] at e2
    cases e2
    obtain ⟨c, _, hK, hcell⟩ := hc j l[j] (List.getElem?_eq_getElem hj)
    obtain ⟨c2, _, hK2, hcell2⟩ := hc2 j (m[j]'(by omega)) (List.getElem?_eq_getElem (by omega))
    have k1 := k29_open hK
    have k2 := k29_open hK2
    subst k1; subst k2
    have a0 := (hcell 0 _ rfl).symm.trans (hcell2 0 _ rfl)
    have a1 := (hcell 1 _ rfl).symm.trans (hcell2 1 _ rfl)
    injection a0 with a0
    injection a1 with a1
    injection a0 with _ a0
    injection a1 with _ a1
    rw [List.getElem?_eq_getElem hj, List.getElem?_eq_getElem (show j < m.length from by omega)]
    congr 1
    cases hx : l[j]
    cases hy : m[j]'(by omega)
    rw [hx, hy] at a0 a1
    simp only at a0 a1
    rw [a0, a1]
  · rw [List.getElem?_eq_none hj, List.getElem?_eq_none (by omega)]
/-- A predicate of lists, told of their slices. -/
theorem pred_of {w : World} (Z : List (List S29 × (Option Addr × Nat × Nat))) (p : List S29 → Bool) (hR : ∀ z ∈ Z, z.2.2.1 = z.1.length ∧ Kd.C k29 w z.2.1 z.1.length z.1) : ∃ P : Option Addr × Nat × Nat → Bool, ∀ z ∈ Z, P z.2 = p z.1 := by
  classical
  refine ⟨fun y => decide (∃ z ∈ Z, z.2 = y ∧ p z.1 = true), fun z hz => ?_⟩
  cases hp : p z.1 with
  | true => simp only [decide_eq_true_eq]; exact ⟨z, hz, rfl, hp⟩
  | false =>
    simp only [decide_eq_false_iff_not]
    rintro ⟨z2, hz2, e, hp2⟩
    obtain ⟨a1, a2⟩ := hR z hz
    obtain ⟨b1, b2⟩ := hR z2 hz2
    rw [e] at b1 b2
    have := C29_inj a2 b2 (by omega)
    rw [this] at hp
    rw [hp] at hp2
    cases hp2
/-- The zip of an opened row. -/
theorem zipV {w : World} {base : Nat} {ok : Nat → Prop} {L : List (List S29)} {V : List (Option Addr × Nat × Nat)} (hl : V.length = L.length) (h : ∀ (m : Nat) (x : List S29) (y : Option Addr × Nat × Nat), L[m]? = some x → V[m]? = some y → y.2.1 = x.length ∧ Kd.R k29 29 w base ok (sv y) x) :
    (L.zip V).map (·.1) = L ∧ (L.zip V).map (·.2) = V ∧ ∀ z ∈ L.zip V, z.2.2.1 = z.1.length ∧ Kd.R k29 29 w base ok (sv z.2) z.1 := by
  refine ⟨List.map_fst_zip (by omega), List.map_snd_zip (by omega), fun z hz => ?_⟩
  obtain ⟨m, hm⟩ := List.getElem?_of_mem hz
  rw [List.getElem?_zip_eq_some] at hm
  exact h m z.1 z.2 hm.1 hm.2
theorem sv_reads {w : World} {base : Nat} {ok : Nat → Prop} {y : Option Addr × Nat × Nat} {x : List S29} (h : Kd.R k29 29 w base ok (sv y) x) : y.2.1 = x.length ∧ x.length ≤ y.2.2 ∧ Kd.C k29 w y.1 x.length x := by
  obtain ⟨A, c, e, h1, h2⟩ := Kd.R_reads h
  unfold sv at e
  injection e with e1 e2 e3
  rw [e1, e2, e3]
  exact ⟨rfl, h1, h2⟩
/-- What stays, while a row of ok's blocks is written. -/
def Stay (base : Nat) (ok : Nat → Prop) (w w1 : World) : Prop := Below base w w1 ∧ w.heap.size ≤ w1.heap.size ∧ ∀ k, k < w.heap.size → ¬ ok k → w1.heap[k]? = w.heap[k]?
theorem stay_of_bt {base g : Nat} {ok : Nat → Prop} {w w1 : World} (h : Bt base g w w1) (hg : ok g) : Stay base ok w w1 := ⟨h.1, h.2.1, fun k hk hn => h.2.2 k hk (fun e => hn (e ▸ hg)) (by simp)⟩
theorem stay_of_below {base : Nat} {ok : Nat → Prop} {w w1 : World} (hb : base ≤ w.heap.size) (h : Below w.heap.size w w1) : Stay base ok w w1 := ⟨⟨h.os, h.tape, h.output, h.size, fun k hk => h.block k (by omega)⟩, h.size, fun k hk _ => h.block k hk⟩
theorem delR (base : Nat) (ok : Nat → Prop) (A : Option Addr) (n c : Nat) (L : List (List S29)) (f : Nat) (pv : Value) (p : List S29 → Bool) (w : World) (hbw : base ≤ w.heap.size) (h : Kd.R (Kd.slice 29 k29) 45 w base ok (.slice A n c) L) (hb : L.length ≤ 1000000) (hf : f = 40 ∨ f = 43)
    (hP : ∀ (x : List S29) (Ax : Option Addr) (cx : Nat) (w1 : World), x ∈ L → Stay base ok w w1 → Kd.C k29 w1 Ax x.length x → x.length ≤ cx → Calls Tryd.prog f #[.slice Ax x.length cx, pv] w1 fun e w' => e = .returned (.bool (p x)) ∧ Below w1.heap.size w1 w') :
    Calls Tryd.prog 42 #[.slice A n c, .func (.func f) #[] #[pv]] w fun e w' => ∃ A3 n3 c3, e = .returned (.slice A3 n3 c3) ∧ Kd.R (Kd.slice 29 k29) 45 w' base ok (.slice A3 n3 c3) (L.filter fun x => !p x) ∧ Stay base ok w w' := by
  rcases Nat.eq_zero_or_pos L.length with h0 | hn
  · have e0 : L = [] := List.eq_nil_of_length_eq_zero h0
    subst e0
    obtain ⟨A', c', e⟩ := Kd.R_slice h
    have en : n = 0 := by injection e
    subst en
    refine (del0 A c f pv w).mono ?_
    rintro e w' ⟨rfl, hbl⟩
    exact ⟨A, 0, c, rfl, Kd.R_below h hbl, stay_of_below hbw hbl⟩
  · obtain ⟨g, cap, cur, V, hv, hbg, hokg, hh, hcap, hmax, hcs, hVl, hcur, hel⟩ := row_V h hn
    cases hv
    have hg : g < w.heap.size := (Array.getElem?_eq_some_iff.1 hh).1
    obtain ⟨z1, z2, z3⟩ := zipV hVl hel
    obtain ⟨P, hPz⟩ := pred_of (w := w) (L.zip V) p (fun z hz => ⟨(z3 z hz).1, (sv_reads (z3 z hz).2).2.2⟩)
    have hmemV : ∀ v, v ∈ V → ∃ z ∈ L.zip V, z.2 = v := fun v hv => by
      rw [← z2] at hv
      obtain ⟨z, hz, e⟩ := List.mem_map.1 hv
      exact ⟨z, hz, e⟩
    have hmemL : ∀ z ∈ L.zip V, z.1 ∈ L := fun z hz => by
      have : z.1 ∈ (L.zip V).map (·.1) := List.mem_map_of_mem hz
      rwa [z1] at this
    have mv : ∀ (w1 : World) z, z ∈ L.zip V → Bt base g w w1 → Kd.R k29 29 w1 base (fun k => ok k ∧ k ≠ g) (sv z.2) z.1 := fun w1 z hz hbt =>
      Kd.R_step (z3 z hz).2 (fun k hk hlt => hbt.2.2 k hlt hk.2 (by simp))
    have hd := delV base g 45 c V f pv P w cur (by omega) hbg hh hcs (by omega) hcur (by omega) hf (fun v w1 hv hbt => by
      obtain ⟨z, hz, rfl⟩ := hmemV v hv
      rw [hPz z hz]
      obtain ⟨r1, r2, r3⟩ := sv_reads (mv w1 z hz hbt)
      have := hP z.1 z.2.1 z.2.2.2 w1 (hmemL z hz) (stay_of_bt hbt hokg) r3 r2
      unfold sv
      rw [r1]
      exact this)
    rw [hVl] at hd
    refine hd.mono ?_
    rintro e w' ⟨kk, rfl, hst⟩
    have hst2 := hst
    obtain ⟨hbt, cur', s0, s1, s2, s3, s4⟩ := hst2
    have hkk : kk ≤ c := by
      rw [s4]
      refine Nat.le_trans (List.length_filter_le _ _) ?_
      rw [List.length_take]; omega
    refine ⟨_, kk, c, rfl, ?_, stay_of_bt hbt hokg⟩
    have := row_R (base := base) (g := g) (cap := c) (kk := kk) (w := w) (w1 := w') (ok := ok) (L.zip V) P p hPz (fun z hz => mv w' z hz hbt) hokg hbg hmax hkk (by rw [z2, hVl]; exact hst)
    rw [z1] at this
    exact this
theorem contR (base : Nat) (ok : Nat → Prop) (A : Option Addr) (n c : Nat) (L : List (List S29)) (f : Nat) (pv : Value) (p : List S29 → Bool) (w : World) (h : Kd.R (Kd.slice 29 k29) 45 w base ok (.slice A n c) L) (hb : L.length ≤ 1000000) (hf : f = 40 ∨ f = 43)
    (hP : ∀ (x : List S29) (Ax : Option Addr) (cx : Nat) (w1 : World), x ∈ L → Below w.heap.size w w1 → Kd.C k29 w1 Ax x.length x → x.length ≤ cx → Calls Tryd.prog f #[.slice Ax x.length cx, pv] w1 fun e w' => e = .returned (.bool (p x)) ∧ Below w1.heap.size w1 w') :
    Calls Tryd.prog 24 #[.slice A n c, .func (.func f) #[] #[pv]] w fun e w' => e = .returned (.bool (L.any p)) ∧ Below w.heap.size w w' := by
  rcases Nat.eq_zero_or_pos L.length with h0 | hn
  · have e0 : L = [] := List.eq_nil_of_length_eq_zero h0
    subst e0
    obtain ⟨A', c', e⟩ := Kd.R_slice h
    have en : n = 0 := by injection e
    subst en
    exact cont0 A c f pv w
  · obtain ⟨g, cap, cur, V, hv, hbg, hokg, hh, hcap, hmax, hcs, hVl, hcur, hel⟩ := row_V h hn
    cases hv
    have hg : g < w.heap.size := (Array.getElem?_eq_some_iff.1 hh).1
    obtain ⟨z1, z2, z3⟩ := zipV hVl hel
    obtain ⟨P, hPz⟩ := pred_of (w := w) (L.zip V) p (fun z hz => ⟨(z3 z hz).1, (sv_reads (z3 z hz).2).2.2⟩)
    have hmemV : ∀ v, v ∈ V → ∃ z ∈ L.zip V, z.2 = v := fun v hv => by
      rw [← z2] at hv
      obtain ⟨z, hz, e⟩ := List.mem_map.1 hv
      exact ⟨z, hz, e⟩
    have hmemL : ∀ z ∈ L.zip V, z.1 ∈ L := fun z hz => by
      have : z.1 ∈ (L.zip V).map (·.1) := List.mem_map_of_mem hz
      rwa [z1] at this
    have hd := contV g 0 c V f pv P w (by omega) hg (fun j hj => by rw [Nat.zero_add]; simp [World.cell?, hh, hcur j hj]) (by omega) hf (fun v w1 hv hbl => by
      obtain ⟨z, hz, rfl⟩ := hmemV v hv
      rw [hPz z hz]
      obtain ⟨r1, r2, r3⟩ := sv_reads (Kd.R_below (z3 z hz).2 hbl)
      have := hP z.1 z.2.1 z.2.2.2 w1 (hmemL z hz) hbl r3 r2
      unfold sv
      rw [r1]
      exact this)
    rw [hVl] at hd
    have ea : V.any P = L.any p := by
      have e1 : (L.zip V).any (fun z => P z.2) = (L.zip V).any (fun z => p z.1) := by
        rw [Bool.eq_iff_iff, List.any_eq_true, List.any_eq_true]
        constructor
        · rintro ⟨z, hz, h⟩; exact ⟨z, hz, by rw [← hPz z hz]; exact h⟩
        · rintro ⟨z, hz, h⟩; exact ⟨z, hz, by rw [hPz z hz]; exact h⟩
      calc V.any P = ((L.zip V).map (·.2)).any P := by rw [z2]
        _ = (L.zip V).any (fun z => P z.2) := by rw [List.any_map]; rfl
        _ = (L.zip V).any (fun z => p z.1) := e1
        _ = ((L.zip V).map (·.1)).any p := by rw [List.any_map]; rfl
        _ = L.any p := by rw [z1]
    rw [ea] at hd
    exact hd
/-- The store of nogoods, as it lies in its block; F: the blocks that are its own. -/
def NB (base : Nat) (F : Nat → Prop) (w : World) (g : Nat) (L : List (List S29)) : Prop := ∃ v, w.heap[g]? = some (.cells #[v] 88 (0, 0)) ∧ base ≤ g ∧ F g ∧ Kd.R (Kd.slice 29 k29) 45 w base (fun k => F k ∧ k ≠ g) v L
theorem info45c : (Tryd.prog.info? 45).map (fun i => (i.zero, i.size, i.bytes)) = some (some (.slice none 0 0), 1, 24) := by kernel_rfl
set_option maxHeartbeats 4000000 in
set_option maxRecDepth 100000 in
/-- Add, where one of those in it lies within the new one (the contracts of made and ContainsFunc are premises). -/
theorem addNo (A : Option Addr) (c : Nat) (l : List S29) (g : Nat) (A2 : Option Addr) (n2 c2 : Nat) (w : World) (n : List S29) (hg0 : w.heap[g]? = some (.cells #[.slice A2 n2 c2] 88 (0, 0)))
    (hm : Calls Tryd.prog 37 #[.slice A l.length c] w fun e w' => ∃ A1 c1, e = .returned (.slice A1 n.length c1) ∧ Kd.R k29 29 w' w.heap.size (fun _ => True) (.slice A1 n.length c1) n ∧ Below w.heap.size w w')
    (hq : ∀ A1 c1 w1, Kd.R k29 29 w1 w.heap.size (fun _ => True) (.slice A1 n.length c1) n → Below w.heap.size w w1 → Calls Tryd.prog 24 #[.slice A2 n2 c2, .func (.func 40) #[] #[.pointer (some ⟨w1.heap.size, 0, none⟩)]] (w1.alloc (.cells #[.slice A1 n.length c1] 45 (0, 0))) fun e w' => e = .returned (.bool true) ∧ Below (w1.alloc (.cells #[.slice A1 n.length c1] 45 (0, 0))).heap.size (w1.alloc (.cells #[.slice A1 n.length c1] 45 (0, 0))) w') :
    Calls Tryd.prog 14 #[.pointer (some ⟨g, 0, none⟩), .slice A l.length c] w fun e w' => e = .returned (.bool false) ∧ Below w.heap.size w w' := by
  have HM := Aside0.mk hm
  have HQ := Aside0.mk hq
  clear hm hq
  have hc0 : w.cell? ⟨g, 0, none⟩ = some (.slice A2 n2 c2) := blk_cell hg0 0
  clear hg0
  go_enter Tryd.func14, Tryd.ntmps14
  go_wp2_with (first | (go_at_call 37; ((with_reducible refine HM.out.mono ?_); rintro e w2 ⟨A1, c1, rfl, hn2, hb2⟩; have hc1 : w2.cell? ⟨g, 0, none⟩ = some (.slice A2 n2 c2) := (hb2.cell (p := ⟨g, 0, none⟩) (World.block_lt_of_cell? _ _ hc0)).trans hc0; have hc2 : (w2.alloc (.cells #[.slice A1 n.length c1] 45 (0, 0))).cell? ⟨g, 0, none⟩ = some (.slice A2 n2 c2) := ((below_alloc (Below.refl w2.heap.size w2) _).cell (p := ⟨g, 0, none⟩) (World.block_lt_of_cell? _ _ hc1)).trans hc1; have H2 := Aside0.mk (And.intro hn2 hb2); clear hn2 hb2 hc1 hc0)) | (go_at_call 24; ((with_reducible refine (HQ.out _ _ _ H2.out.1 H2.out.2).mono ?_); rintro e w3 ⟨rfl, hb3⟩; have HB := Aside0.mk (below_step (below_alloc H2.out.2 _) hb3); clear hb3)))
  go_ret
  exact ⟨rfl, HB.out⟩
theorem Stay.trans {base : Nat} {F : Nat → Prop} {w w1 w2 : World} (h : Stay base F w w1) (k : Stay base F w1 w2) : Stay base F w w2 := ⟨h.1.trans k.1, Nat.le_trans h.2.1 k.2.1, fun j hj hn => (k.2.2 j (Nat.lt_of_lt_of_le hj h.2.1) hn).trans (h.2.2 j hj hn)⟩
theorem Stay.mono {base : Nat} {F F' : Nat → Prop} {w w1 : World} (h : Stay base F w w1) (hF : ∀ k, F k → F' k) : Stay base F' w w1 := ⟨h.1, h.2.1, fun j hj hn => h.2.2 j hj (fun hf => hn (hF j hf))⟩
theorem Stay.set {base : Nat} {F : Nat → Prop} {w w1 : World} (h : Stay base F w w1) {g : Nat} (hb : base ≤ g) (hg : F g) (i : Nat) (u : Value) : Stay base F w (w1.setCell ⟨g, i, none⟩ u) :=
  ⟨h.1.setCell hb u, by have := h.2.1; simp [World.setCell]; exact this, fun j hj hn => (Below.heap_setCell w1 ⟨g, i, none⟩ u j (fun e => hn (e ▸ hg))).trans (h.2.2 j hj hn)⟩
set_option maxHeartbeats 4000000 in
set_option maxRecDepth 100000 in
theorem addYes (A : Option Addr) (c : Nat) (l : List S29) (g : Nat) (A2 : Option Addr) (n2 c2 : Nat) (w : World) (n : List S29) (base : Nat) (F : Nat → Prop) (K : List (List S29)) (hF : ∀ k, F k → k < w.heap.size) (hbase : base ≤ g) (hgF : F g) (hg0 : w.heap[g]? = some (.cells #[.slice A2 n2 c2] 88 (0, 0)))
    (hK : K.length ≤ 1000000)
    (hm : Calls Tryd.prog 37 #[.slice A l.length c] w fun e w' => ∃ A1 c1, e = .returned (.slice A1 n.length c1) ∧ Kd.R k29 29 w' w.heap.size (fun _ => True) (.slice A1 n.length c1) n ∧ Below w.heap.size w w')
    (hq : ∀ A1 c1 w1, Kd.R k29 29 w1 w.heap.size (fun _ => True) (.slice A1 n.length c1) n → Below w.heap.size w w1 → Calls Tryd.prog 24 #[.slice A2 n2 c2, .func (.func 40) #[] #[.pointer (some ⟨w1.heap.size, 0, none⟩)]] (w1.alloc (.cells #[.slice A1 n.length c1] 45 (0, 0))) fun e w' => e = .returned (.bool false) ∧ Below (w1.alloc (.cells #[.slice A1 n.length c1] 45 (0, 0))).heap.size (w1.alloc (.cells #[.slice A1 n.length c1] 45 (0, 0))) w')
    (hd : ∀ A1 c1 w1, Kd.R k29 29 w1 w.heap.size (fun _ => True) (.slice A1 n.length c1) n → Below w.heap.size w w1 → ∀ w3, Below (w1.alloc (.cells #[.slice A1 n.length c1] 45 (0, 0))).heap.size (w1.alloc (.cells #[.slice A1 n.length c1] 45 (0, 0))) w3 → Calls Tryd.prog 42 #[.slice A2 n2 c2, .func (.func 43) #[] #[.pointer (some ⟨w1.heap.size, 0, none⟩)]] w3 fun e w' => ∃ A3 n3 c3, e = .returned (.slice A3 n3 c3) ∧ Kd.R (Kd.slice 29 k29) 45 w' base (fun k => F k ∧ k ≠ g) (.slice A3 n3 c3) K ∧ Stay base (fun k => F k ∧ k ≠ g) w3 w') :
    Calls Tryd.prog 14 #[.pointer (some ⟨g, 0, none⟩), .slice A l.length c] w fun e w' => e = .returned (.bool true) ∧ NB base (fun k => F k ∨ w.heap.size ≤ k) w' g (K ++ [n]) ∧ Stay base F w w' := by
  have hgw : g < w.heap.size := hF g hgF
  have HM := Aside0.mk hm
  have HQ := Aside0.mk hq
  have HD := Aside0.mk hd
  have H0 := Aside0.mk hg0
  have HFF := Aside0.mk hF
  have hc0 : w.cell? ⟨g, 0, none⟩ = some (.slice A2 n2 c2) := blk_cell hg0 0
  clear hm hq hd hF hg0
  go_enter Tryd.func14, Tryd.ntmps14
  go_upto_region 5 with (first | (go_at_call 37; ((with_reducible refine HM.out.mono ?_); rintro e w2 ⟨A1, c1, rfl, hn2, hb2⟩; have hww : w.heap.size ≤ w2.heap.size := hb2.size; have hgl : g < w2.heap.size := Nat.lt_of_lt_of_le hgw hww; have H1 := Aside0.mk ((hb2.block g hgw).trans H0.out); have hc1 : w2.cell? ⟨g, 0, none⟩ = some (.slice A2 n2 c2) := (hb2.cell (p := ⟨g, 0, none⟩) (World.block_lt_of_cell? _ _ hc0)).trans hc0; have hc2 : (w2.alloc (.cells #[.slice A1 n.length c1] 45 (0, 0))).cell? ⟨g, 0, none⟩ = some (.slice A2 n2 c2) := ((below_alloc (Below.refl w2.heap.size w2) _).cell (p := ⟨g, 0, none⟩) (World.block_lt_of_cell? _ _ hc1)).trans hc1; have HN := Aside0.mk hn2; have HB1 := Aside0.mk hb2; clear hn2 hb2 hc1 hc0)) | (go_at_call 24; ((with_reducible refine (HQ.out _ _ _ HN.out HB1.out).mono ?_); rintro e w3 ⟨rfl, hb3⟩; have hc3 := (hb3.cell (p := ⟨g, 0, none⟩) (World.block_lt_of_cell? _ _ hc2)).trans hc2; have HB := Aside0.mk hb3; clear hb3 hc2)) | (go_at_call 42; ((with_reducible refine (HD.out _ _ _ HN.out HB1.out _ HB.out).mono ?_); rintro e w4 ⟨A3, n3, c3, rfl, hR4, hs4⟩; have hc4 : w4.cell? ⟨g, 0, none⟩ = some (.slice A2 n2 c2) := (by have hx := hs4.2.2 g (World.block_lt_of_cell? _ _ hc3) (fun h => h.2 rfl); simp only [World.cell?, hx]; simpa only [World.cell?] using hc3); have H4 := Aside0.mk (And.intro hR4 hs4); clear hc3 hR4 hs4; have hf4 : w4.heap[g]? = some (.cells #[.slice A2 n2 c2] 88 (0, 0)) := (by rw [H4.out.2.2.2 g (by have := HB.out.size; simp at this; omega) (fun h => h.2 rfl), HB.out.block g (by simp; omega), (below_alloc (Below.refl w2.heap.size w2) _).block g hgl]; exact H1.out); have hn4 : w4.heap[w2.heap.size]? = some (.cells #[.slice A1 n.length c1] 45 (0, 0)) := (by rw [H4.out.2.2.2 w2.heap.size (by have := HB.out.size; simp at this; omega) (fun h => by have := HFF.out _ h.1; omega), HB.out.block w2.heap.size (by simp)]; exact blk_new w2 _); have hz4 : w4.frozen? ⟨g, 0, none⟩ = false := (by simp [World.frozen?, hf4]))))
  have hbw : base ≤ w.heap.size := by omega
  have H5 : Aside0 (Kd.R (Kd.slice 29 k29) 45 (w4.setCell ⟨g, 0, none⟩ (.slice A3 n3 c3)) base (fun k => F k ∧ k ≠ g) (.slice A3 n3 c3) K ∧ Kd.R k29 29 (w4.setCell ⟨g, 0, none⟩ (.slice A3 n3 c3)) base (fun k => w.heap.size ≤ k) (.slice A1 n.length c1) n ∧ Stay base F w (w4.setCell ⟨g, 0, none⟩ (.slice A3 n3 c3)) ∧ (w4.setCell ⟨g, 0, none⟩ (.slice A3 n3 c3)).heap[g]? = some (.cells #[.slice A3 n3 c3] 88 (0, 0)) ∧ (w4.setCell ⟨g, 0, none⟩ (.slice A3 n3 c3)).cell? ⟨w2.heap.size, 0, none⟩ = some (.slice A1 n.length c1)) := by
    obtain ⟨hR4, hs4⟩ := H4.out
    have s1 : Stay base F w w2 := stay_of_below hbw HB1.out
    have s2 : Stay base F w2 (w2.alloc (.cells #[.slice A1 n.length c1] 45 (0, 0))) := stay_of_below (Nat.le_trans hbw hww) (below_alloc (Below.refl _ _) _)
    have s3 : Stay base F (w2.alloc (.cells #[.slice A1 n.length c1] 45 (0, 0))) w3 := stay_of_below (Nat.le_trans hbw (Nat.le_trans hww s2.2.1)) HB.out
    have s4 : Stay base F w3 w4 := hs4.mono (fun k hk => hk.1)
    have hn2 : Kd.R k29 29 w2 base (fun k => w.heap.size ≤ k) (.slice A1 n.length c1) n := Kd.R_lower (Kd.R_mono (Kd.R_bound HN.out) (fun k hk => hk.2.1)) hbw
    have hn4' : Kd.R k29 29 w4 base (fun k => w.heap.size ≤ k) (.slice A1 n.length c1) n := Kd.R_step hn2 (fun k hk hlt => (s2.trans (s3.trans s4)).2.2 k hlt (fun hf => by have := HFF.out _ hf; omega))
    refine Aside0.mk ⟨Kd.R_far hR4 (p := ⟨g, 0, none⟩) (fun k hk => hk.2) _, Kd.R_far hn4' (p := ⟨g, 0, none⟩) (fun k hk => by simp only; omega) _, (s1.trans (s2.trans (s3.trans s4))).set hbase hgF 0 _, blk_set hf4 0 _, ?_⟩
    have := blk_far hn4 (p := ⟨g, 0, none⟩) (by simp only; omega) (.slice A3 n3 c3)
    simp [World.cell?, this]
  clear hf4 hn4 hc4 hz4 H4 HB HM HQ HD H1 HN HB1
  generalize w4.setCell ⟨g, 0, none⟩ (.slice A3 n3 c3) = W at H5 ⊢
  have e0 := blk_cell H5.out.2.2.2.1 0
  have e1 := blk_frozen H5.out.2.2.2.1 0
  have e2 := H5.out.2.2.2.2
  have e0a : ∀ o : Obj, (W.alloc o).cell? ⟨g, 0, none⟩ = some (.slice A3 n3 c3) := fun o => blk_cell (blk_alloc H5.out.2.2.2.1 o) 0
  have hWs : w.heap.size ≤ W.heap.size := H5.out.2.2.1.2.1
  have hWb : base ≤ W.heap.size := by omega
  have m1 : (Kd.slice 29 k29).M W base (fun k => w.heap.size ≤ k ∧ k < W.heap.size) n [.slice A1 n.length c1] := ⟨_, rfl, Kd.R_mono (Kd.R_bound H5.out.2.1) (fun k hk => ⟨hk.1, hk.2.2.1⟩)⟩
  have m2 : (Kd.slice 29 k29).M W.drew base (fun k => w.heap.size ≤ k ∧ k < W.heap.size) n [.slice A1 n.length c1] := ⟨_, rfl, Kd.R_drew (Kd.R_mono (Kd.R_bound H5.out.2.1) (fun k hk => ⟨hk.1, hk.2.2.1⟩))⟩
  have hv3 : ∀ k, (Value.slice A3 n3 c3).ownBlock = some k → F k ∧ k ≠ g := fun k hk => H5.out.1.1 k hk
  have p1 : ∀ k, (w.heap.size ≤ k ∧ k < W.heap.size) → ((F k ∨ w.heap.size ≤ k) ∧ k ≠ g) ∧ some k ≠ (Value.slice A3 n3 c3).ownBlock := fun k hk => ⟨⟨.inr hk.1, by omega⟩, fun he => by have h9 := HFF.out _ (hv3 k he.symm).1; omega⟩
  have p2 : ∀ k, W.heap.size ≤ k → ((F k ∨ w.heap.size ≤ k) ∧ k ≠ g) := fun k hk => ⟨.inr (by omega), by omega⟩
  have o1 : Kd.R (Kd.slice 29 k29) 45 W base (fun k => (F k ∨ w.heap.size ≤ k) ∧ k ≠ g) (.slice A3 n3 c3) K := Kd.R_mono H5.out.1 (fun k hk => ⟨.inl hk.1, hk.2⟩)
  have o2 := Kd.R_drew o1
  have b1 : Below base W W := Below.refl _ _
  have b2 : Below base W W.drew := below_drew (Below.refl _ _)
  have a1 : W.heap[g]? = some (.cells #[.slice A3 n3 c3] 88 (0, 0)) := H5.out.2.2.2.1
  have a2 : W.drew.heap[g]? = some (.cells #[.slice A3 n3 c3] 88 (0, 0)) := H5.out.2.2.2.1
  have p3 : (K.length + 1) * 24 ≤ 140737488355328 := by omega
  go_region_law (first | (refine Kd.R_append_step (Kd.slice 29 k29) (w0 := W) (W := W.drew) base (by rfl) (.tmp 31) (.tmp 33) 36 45 (.slice none 0 0) 24 rfl Tryd.underlying36 info45c rfl (by decide) (by decide) (.slice A3 n3 c3) K n [.slice A1 n.length c1] (fun k => (F k ∨ w.heap.size ≤ k) ∧ k ≠ g) (fun k => w.heap.size ≤ k ∧ k < W.heap.size) rfl rfl m2 p1 p2 o2 b2 hWb p3 ?_; intro v1 w1 ho hbel hg hat; obtain ⟨A4, c4, rfl⟩ := Kd.R_slice ho; have HO := Aside0.mk ho; have HBB := Aside0.mk hbel; have HG := Aside0.mk hg; have s0 := blk_grown a2 hg (fun he => (H5.out.1.1 g he.symm).2 rfl); have s0a : w1.cell? ⟨g, 0, none⟩ = some (.slice A3 n3 c3) := blk_cell s0 0; have s0b := blk_frozen s0 0; clear ho hbel hg hat) | (refine Kd.R_append_step (Kd.slice 29 k29) (w0 := W) (W := W) base (by rfl) (.tmp 31) (.tmp 33) 36 45 (.slice none 0 0) 24 rfl Tryd.underlying36 info45c rfl (by decide) (by decide) (.slice A3 n3 c3) K n [.slice A1 n.length c1] (fun k => (F k ∨ w.heap.size ≤ k) ∧ k ≠ g) (fun k => w.heap.size ≤ k ∧ k < W.heap.size) rfl rfl m1 p1 p2 o1 b1 hWb p3 ?_; intro v1 w1 ho hbel hg hat; obtain ⟨A4, c4, rfl⟩ := Kd.R_slice ho; have HO := Aside0.mk ho; have HBB := Aside0.mk hbel; have HG := Aside0.mk hg; have s0 := blk_grown a1 hg (fun he => (H5.out.1.1 g he.symm).2 rfl); have s0a : w1.cell? ⟨g, 0, none⟩ = some (.slice A3 n3 c3) := blk_cell s0 0; have s0b := blk_frozen s0 0; clear ho hbel hg hat))
  all_goals
    go_wp2
    go_ret
    have st1 : Stay base F W w1 := ⟨HBB.out, HBB.out.size, fun k hk hn => HG.out.block k hk (fun he => hn (hv3 k he.symm).1)⟩
    have hO := HO.out
    refine ⟨rfl, ⟨_, blk_set s0 0 _, hbase, .inl hgF, ?_⟩, (H5.out.2.2.1.trans st1).set hbase hgF 0 _⟩
    have h6 := Kd.R_far hO (p := ⟨g, 0, none⟩) (fun k hk => hk.2) (.slice A4 (K.length + 1) c4)
    rw [List.length_append] at h6
    exact h6
theorem NB.cell {base : Nat} {F : Nat → Prop} {w : World} {g : Nat} {L : List (List S29)} (h : NB base F w g L) : ∃ A c, w.heap[g]? = some (.cells #[.slice A L.length c] 88 (0, 0)) ∧ w.cell? ⟨g, 0, none⟩ = some (.slice A L.length c) ∧ Kd.C (Kd.slice 29 k29) w A L.length L ∧ L.length ≤ c := by
  obtain ⟨v, h1, _, _, hR⟩ := h
  obtain ⟨A, c, rfl, h2, h3⟩ := Kd.R_reads hR
  exact ⟨A, c, h1, by simp [World.cell?, h1], h3, h2⟩
theorem NB.step {base : Nat} {F : Nat → Prop} {w w1 : World} {g : Nat} {L : List (List S29)} (h : NB base F w g L) (hm : ∀ k, F k → k < w.heap.size → w1.heap[k]? = w.heap[k]?) : NB base F w1 g L := by
  obtain ⟨v, h1, h2, h3, hR⟩ := h
  exact ⟨v, by rw [hm g h3 (Array.getElem?_eq_some_iff.1 h1).1]; exact h1, h2, h3, Kd.R_step hR (fun k hk hlt => hm k hk.1 hlt)⟩
theorem NB.below {base : Nat} {F : Nat → Prop} {w w1 : World} {g : Nat} {L : List (List S29)} (h : NB base F w g L) (hb : Below w.heap.size w w1) : NB base F w1 g L := h.step (fun k _ hk => hb.block k hk)
theorem NB.mono {base : Nat} {F F' : Nat → Prop} {w : World} {g : Nat} {L : List (List S29)} (h : NB base F w g L) (hF : ∀ k, F k → F' k) : NB base F' w g L := by
  obtain ⟨v, h1, h2, h3, hR⟩ := h
  exact ⟨v, h1, h2, hF g h3, Kd.R_mono hR (fun k hk => ⟨hF k hk.1, hk.2⟩)⟩
theorem NB.bound {base : Nat} {F : Nat → Prop} {w : World} {g : Nat} {L : List (List S29)} (h : NB base F w g L) : NB base (fun k => F k ∧ k < w.heap.size) w g L := by
  obtain ⟨v, h1, h2, h3, hR⟩ := h
  exact ⟨v, h1, h2, ⟨h3, (Array.getElem?_eq_some_iff.1 h1).1⟩, Kd.R_mono (Kd.R_bound hR) (fun k hk => ⟨⟨hk.1.1, hk.2.2.1⟩, hk.1.2⟩)⟩
/-- What Add leaves: W says whether one lies within another one. -/
def addL (W : List S29 → List S29 → Bool) (L : List (List S29)) (n : List S29) : List (List S29) × Bool :=
  if L.any (fun x => W x n) then (L, false) else ((L.filter fun x => !W n x) ++ [n], true)
theorem addNB (k : Nat) (W : List S29 → List S29 → Bool) (base : Nat) (F : Nat → Prop) (w : World) (g : Nat) (L : List (List S29)) (h : NB base F w g L) (hb : L.length ≤ 1000000) (A : Option Addr) (c : Nat) (l : List S29) (hr : Kd.C k29 w A l.length l) (hl : l.length ≤ 1000000)
    (h1 : ∀ x ∈ L, nogood_within.f k x (madeL l) = some (W x (madeL l))) (h2 : ∀ x ∈ L, nogood_within.f k (madeL l) x = some (W (madeL l) x)) :
    Calls Tryd.prog 14 #[.pointer (some ⟨g, 0, none⟩), .slice A l.length c] w fun e w' => e = .returned (.bool (addL W L (madeL l)).2) ∧ NB base (fun k => F k ∨ w.heap.size ≤ k) w' g (addL W L (madeL l)).1 ∧ Stay base F w w' := by
  have hm : Calls Tryd.prog 37 #[.slice A l.length c] w fun e w' => ∃ A1 c1, e = .returned (.slice A1 (madeL l).length c1) ∧ Kd.R k29 29 w' w.heap.size (fun _ => True) (.slice A1 (madeL l).length c1) (madeL l) ∧ Below w.heap.size w w' := (made29 A c l w hr hl).mono (by
    rintro e w' ⟨v0, rfl, hR0, hb0⟩
    obtain ⟨A1, c1, rfl⟩ := Kd.R_slice hR0
    exact ⟨A1, c1, rfl, hR0, hb0⟩)
  generalize madeL l = n at hm h1 h2 ⊢
  obtain ⟨v, hg0, hbg, hFg, hR⟩ := h.bound
  obtain ⟨A2, c2, rfl⟩ := Kd.R_slice hR
  have hgw := hFg.2
  have hbw : base ≤ w.heap.size := by omega
  have wn : ∀ (A1 : Option Addr) (c1 : Nat) (w1 : World), Kd.R k29 29 w1 w.heap.size (fun _ => True) (.slice A1 n.length c1) n → n.length ≤ c1 := by
    intro A1 c1 w1 h
    obtain ⟨_, _, e, h2, _⟩ := Kd.R_reads h
    injection e with _ _ e
    rw [e]; exact h2
  have wc : ∀ (A1 : Option Addr) (c1 : Nat) (w1 : World) (ok : Nat → Prop), Kd.R k29 29 w1 w.heap.size ok (.slice A1 n.length c1) n → Kd.C k29 w1 A1 n.length n := by
    intro A1 c1 w1 ok h
    obtain ⟨_, _, e, _, h2⟩ := Kd.R_reads h
    injection e with e
    rw [e]; exact h2
  have hq : ∀ A1 c1 w1, Kd.R k29 29 w1 w.heap.size (fun _ => True) (.slice A1 n.length c1) n → Below w.heap.size w w1 → Calls Tryd.prog 24 #[.slice A2 L.length c2, .func (.func 40) #[] #[.pointer (some ⟨w1.heap.size, 0, none⟩)]] (w1.alloc (.cells #[.slice A1 n.length c1] 45 (0, 0))) fun e w' => e = .returned (.bool (L.any fun x => W x n)) ∧ Below (w1.alloc (.cells #[.slice A1 n.length c1] 45 (0, 0))).heap.size (w1.alloc (.cells #[.slice A1 n.length c1] 45 (0, 0))) w' := by
    intro A1 c1 w1 hn hb1
    have hbl := below_alloc hb1 (.cells #[.slice A1 n.length c1] 45 (0, 0))
    have hcell : (w1.alloc (.cells #[.slice A1 n.length c1] 45 (0, 0))).cell? ⟨w1.heap.size, 0, none⟩ = some (.slice A1 n.length c1) := blk_cell (blk_new w1 _) 0
    exact contR base _ A2 L.length c2 L 40 _ (fun x => W x n) _ (Kd.R_below hR hbl) hb (.inl rfl) (fun x Ax cx w3 hx hb3 hC hcx =>
      add1 k Ax cx x A1 c1 n w1.heap.size (W x n) w3 ((hb3.cell (p := ⟨w1.heap.size, 0, none⟩) (World.block_lt_of_cell? _ _ hcell)).trans hcell) hC hcx (Kd.C_below (wc A1 c1 _ _ (Kd.R_alloc hn _)) hb3) (wn A1 c1 w1 hn) (h1 x hx))
  cases ha : L.any (fun x => W x n) with
  | true =>
    have e1 : addL W L n = (L, false) := by unfold addL; rw [if_pos ha]
    rw [e1]
    refine (addNo A c l g A2 L.length c2 w n hg0 hm (fun A1 c1 w1 h1 h2 => by rw [ha] at hq; exact hq A1 c1 w1 h1 h2)).mono ?_
    rintro e w' ⟨rfl, hbl⟩
    exact ⟨rfl, (h.below hbl).mono (fun k hk => .inl hk), stay_of_below hbw hbl⟩
  | false =>
    have e1 : addL W L n = ((L.filter fun x => !W n x) ++ [n], true) := by unfold addL; rw [if_neg (by rw [ha]; decide)]
    rw [e1]
    refine (addYes A c l g A2 L.length c2 w n base (fun k => F k ∧ k < w.heap.size) (L.filter fun x => !W n x) (fun k hk => hk.2) hbg hFg hg0 (Nat.le_trans (List.length_filter_le _ _) hb) hm (fun A1 c1 w1 h1 h2 => by rw [ha] at hq; exact hq A1 c1 w1 h1 h2) (fun A1 c1 w1 hn hb1 w3 hb3 => ?_)).mono ?_
    · have hbl := below_alloc hb1 (.cells #[.slice A1 n.length c1] 45 (0, 0))
      have hbl3 : Below w.heap.size w w3 := below_step hbl hb3
      have hblk : w3.heap[w1.heap.size]? = some (.cells #[.slice A1 n.length c1] 45 (0, 0)) := (hb3.block _ (by simp)).trans (blk_new w1 _)
      have hn3 : Kd.R k29 29 w3 w.heap.size (fun k => True ∧ w.heap.size ≤ k ∧ k < w3.heap.size ∧ ∃ q, q ∈ 29 :: k29.E ∧ ∃ cells, w3.heap[k]? = some (.cells cells q (0, 0))) (.slice A1 n.length c1) n := Kd.R_bound (Kd.R_below (Kd.R_alloc hn _) hb3)
      refine delR base _ A2 L.length c2 L 43 _ (fun x => W n x) w3 (Nat.le_trans hbw hbl3.size) (Kd.R_below hR hbl3) hb (.inr rfl) (fun x Ax cx w4 hx hst hC hcx => ?_)
      have hn4 : w4.heap[w1.heap.size]? = some (.cells #[.slice A1 n.length c1] 45 (0, 0)) := (hst.2.2 _ (blk_lt hblk) (fun hk => by have := hk.1.2; have := hb1.size; omega)).trans hblk
      exact add2 k Ax cx x A1 c1 n w1.heap.size (W n x) w4 (blk_cell hn4 0) hC hcx (wc A1 c1 w4 _ (Kd.R_step hn3 (fun k hk hlt => hst.2.2 k hlt (fun hf => by have := hf.1.2; have := hk.2.1; omega)))) (wn A1 c1 w1 hn) (h2 x hx)
    · rintro e w' ⟨rfl, hN, hS⟩
      exact ⟨rfl, hN.mono (fun k hk => hk.elim (fun h => .inl h.1) .inr), hS.mono (fun k hk => hk.1)⟩
theorem newNB (w : World) : Calls Tryd.prog 12 #[] w fun e w' => e = .returned (.pointer (some ⟨w.heap.size, 0, none⟩)) ∧ w' = w.alloc (.cells #[.slice none 0 0] 88 (0, 0)) := by
  go_enter Tryd.func12, Tryd.ntmps12
  go_wp2
  go_ret
  exact ⟨rfl, rfl⟩
theorem NB.new (w : World) : NB w.heap.size (fun k => w.heap.size ≤ k) (w.alloc (.cells #[.slice none 0 0] 88 (0, 0))) w.heap.size [] :=
  ⟨.slice none 0 0, blk_new w _, Nat.le_refl _, Nat.le_refl _, Kd.R_nil _ _ _ _ _⟩
theorem lenNB (base : Nat) (F : Nat → Prop) (w : World) (g : Nat) (L : List (List S29)) (h : NB base F w g L) : Calls Tryd.prog 22 #[.pointer (some ⟨g, 0, none⟩)] w fun e w' => e = .returned (.int .i64 L.length) ∧ w' = w := by
  obtain ⟨A, c, _, hc, _, _⟩ := h.cell
  clear h
  go_enter Tryd.func22, Tryd.ntmps22
  go_wp2
  go_ret
  exact ⟨rfl, rfl⟩
set_option maxHeartbeats 4000000 in
set_option maxRecDepth 100000 in
theorem listNB (base : Nat) (F : Nat → Prop) (w : World) (g : Nat) (L : List (List S29)) (h : NB base F w g L) (hb : L.length ≤ 1000000) (hx : ∀ x ∈ L, x.length ≤ 1000000) : Calls Tryd.prog 21 #[.pointer (some ⟨g, 0, none⟩)] w fun e w' => ∃ v, e = .returned v ∧ Kd.R (Kd.slice 29 k29) 45 w' w.heap.size (fun _ => True) v L ∧ Below w.heap.size w w' := by
  obtain ⟨A, c, _, hc, hC, _⟩ := h.cell
  clear h
  rcases Nat.eq_zero_or_pos L.length with h0 | hn
  · have e0 : L = [] := List.eq_nil_of_length_eq_zero h0
    subst e0
    clear hC hb hx h0
    go_enter Tryd.func21, Tryd.ntmps21
    go_wp2
    refine wp_loop_rounds 1 ?_
    rw [rounds_succ]
    go_wp2
    go_ret
    exact ⟨_, rfl, Kd.R_nil _ _ _ _ _, Below.refl _ _⟩
  · obtain ⟨b, o, rfl, hbw, hcell⟩ := rawL hC hn
    have HC := Aside0.mk hcell
    have HX := Aside0.mk hx
    clear hC hcell hx
    go_enter Tryd.func21, Tryd.ntmps21
    go_wp2
    go_loopg [3, 5, 13] L.length (fun kx s3 s5 s13 wr => ∃ j : Nat, s13 = .int .i64 j ∧ j ≤ L.length ∧ L.length - j ≤ kx ∧ Aside0 (Below w.heap.size w wr) ∧ Aside0 (Kd.R (Kd.slice 29 k29) 45 wr w.heap.size (fun _ => True) s3 (L.take j)))
    case atStart => exact ⟨0, rfl, Nat.zero_le _, by omega, Aside0.mk (Below.refl _ _), Aside0.mk (Kd.R_nil _ _ _ _ _)⟩
    case round =>
      obtain ⟨j, rfl, hjn, hg, HB, HR⟩ := hrel
      by_cases hlt : j < L.length
      · obtain ⟨Aj, cj, e0, e1, e2⟩ := HC.out j hlt
        have e0' : wr.cell? ⟨b, o + j, none⟩ = some (.slice Aj L[j].length cj) := by
          rw [HB.out.cell (p := ⟨b, o + j, none⟩) hbw]; exact e0
        have hcl := clone29 Aj cj L[j] wr (Kd.C_below e2 HB.out) (HX.out _ (List.getElem_mem hlt))
        have HT : Aside0 (L.take (j + 1) = L.take j ++ [L[j]]) := Aside0.mk (by rw [List.take_add_one, List.getElem?_eq_getElem hlt]; rfl)
        clear e0 e1 e2 hc
        generalize L[j] = y at e0' hcl HT
        have HCL := Aside0.mk hcl
        clear hcl
        go_wp2_with (first | (go_at_call 38; ((with_reducible refine HCL.out.mono ?_); rintro e w2 ⟨v2, rfl, hr2, hb2⟩; obtain ⟨A2, c2, rfl⟩ := Kd.R_slice hr2; have HR2 := Aside0.mk (Kd.R_lower (Kd.R_mono (Kd.R_bound hr2) (ok' := fun k => wr.heap.size ≤ k) (fun k hk => hk.2.1)) HB.out.size); have HB2 := Aside0.mk hb2; clear hr2 hb2)) | ((with_reducible refine gate_builtin (b := .append) (xs := #[.tmp 17, .tmp 20]) rfl ?_); at_builtin; (refine Kd.R_append (Kd.slice 29 k29) (w0 := w) w.heap.size rfl (.tmp 17) (.tmp 20) 36 45 (.slice none 0 0) 24 rfl Tryd.underlying36 info45c rfl (by decide) (by decide) u3 (L.take j) y [.slice A2 y.length c2] (fun _ => True) (fun k => wr.heap.size ≤ k) rfl rfl ⟨_, rfl, HR2.out⟩ (fun k hk => ⟨trivial, fun hko => by have := Kd.R_lt HR.out k hko.symm; omega⟩) (fun _ _ => trivial) (Kd.R_below HR.out HB2.out) (below_step HB.out HB2.out) ((below_step HB.out HB2.out).size) (by rw [List.length_take]; omega) ?_); intro v1 w1 ho hbel hg hat; have HO := Aside0.mk ho; have HBB := Aside0.mk hbel; clear ho hbel hg hat))
        go_roundg (L.length - (j + 1))
        case measure => omega
        case rel => exact ⟨j + 1, rfl, by omega, Nat.le_refl _, HBB, Aside0.mk (by rw [HT.out]; exact HO.out)⟩
      · have hj : j = L.length := by omega
        subst hj
        go_wp2_with fail
        go_ret
        have h1 := HR.out
        rw [List.take_length] at h1
        exact ⟨_, rfl, h1, HB.out⟩
end Go.Proofs.YtgckohmppefibaaDoorX.Hz
