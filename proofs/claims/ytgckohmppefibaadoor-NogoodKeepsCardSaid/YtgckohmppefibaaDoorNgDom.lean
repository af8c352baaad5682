import Derived.Test.YtgckohmppefibaaDoorNgBase
import Derived.Test.YtgckohmppefibaaDoorDomM
namespace Go.Proofs.YtgckohmppefibaaDoorX.Hz
open Go.RowKit Go.Proofs.YtgckohmppefibaaDoorW.PrintWords Go.Proofs.YtgckohmppefibaaDoorW.PrintLast Go.Proofs.YtgckohmppefibaaDoorW.PrintMore
attribute [local go_sem] max2_int min2_int max_two min_two max_three min_three max_four min_four
set_option linter.unusedVariables false
set_option linter.unusedSimpArgs false
attribute [local go_sem] Go.Proofs.YtgckohmppefibaaDoor.Hook.cell_two
/-- A domain's words as the print has them. -/
def wsI (ws : List Nat) : List Int := ws.map fun (x : Nat) => (x : Int)
theorem word_pure {w : World} {off : Int} {sv : Value} {ws : List Nat} {l : List Int} (h : Go.Proofs.YtgckohmppefibaaDoor.Dm.RepX w off sv ws l) (lo hi sz p : Int) (hp : p % 64 = 0) (h1 : -2000000 ≤ p) (h2 : p ≤ 2000000) :
    ∃ x : Nat, dom_Dom_word.f off (wsI ws) lo hi sz p = some (x : Int) ∧ x < 18446744073709551616 ∧ ∀ b, b < 64 → x.testBit b = decide (p + b ∈ l) := by
  have hmod := h.mod
  have hlo := h.lo
  have hhi := h.hi
  have hlen : (wsI ws).length = ws.length := List.length_map _
  unfold dom_Dom_word.f
  by_cases hlt : p < off
  · rw [if_pos hlt]
    exact ⟨0, rfl, by decide, fun b hb => Go.Proofs.YtgckohmppefibaaDoor.Dm.word_none h p hp (.inl hlt) b hb⟩
  · obtain ⟨i, hi⟩ : ∃ i : Nat, p - off = 64 * i := ⟨((p - off) / 64).toNat, by omega⟩
    have e1 : wrap64 (p - off) = 64 * (i : Int) := by rw [hi]; unfold wrap64; omega
    have e2 : wrap64 (Int.tdiv (wrap64 (p - off)) 64) = (i : Int) := by
      rw [e1, Int.mul_tdiv_cancel_left _ (by decide)]; unfold wrap64; omega
    rw [if_neg hlt, e2, hlen]
    by_cases hge : (i : Int) ≥ (ws.length : Int)
    · rw [if_pos hge]
      exact ⟨0, rfl, by decide, fun b hb => Go.Proofs.YtgckohmppefibaaDoor.Dm.word_none h p hp (.inr (by omega)) b hb⟩
    · have hil : i < ws.length := by omega
      rw [if_neg hge, if_pos (by omega), if_pos (by omega)]
      refine ⟨ws.getD i 0, ?_, ?_, fun b hb => ?_⟩
      · unfold rd wsI
        rw [Int.toNat_natCast, List.getD_eq_getElem?_getD, List.getD_eq_getElem?_getD, List.getElem?_map, List.getElem?_eq_getElem hil]
        rfl
      · rw [List.getD_eq_getElem?_getD, List.getElem?_eq_getElem hil]
        exact h.lt _ (List.getElem_mem hil)
      · rw [Go.Proofs.YtgckohmppefibaaDoor.Dm.word_some h i hil b hb]
        congr 1
        rw [show off + 64 * (i : Int) = p from by omega]
theorem has_pure {w : World} {off : Int} {sv : Value} {ws : List Nat} {l : List Int} (h : Go.Proofs.YtgckohmppefibaaDoor.Dm.RepX w off sv ws l) (lo hi sz u : Int) : dom_Dom_Has.f off (wsI ws) lo hi sz u = some (decide (u ∈ l)) := by
  have hin := h.inr
  unfold dom_Dom_Has.f
  by_cases hu : -1000000 ≤ u ∧ u ≤ 1000000
  · have e1 : dom_in.f u = some true := by unfold dom_in.f; rw [if_pos (by omega), decide_eq_true hu.2]
    have e2 : dom_place.f u = some (u - u % 64) := by unfold dom_place.f; rw [Go.Proofs.YtgckohmppefibaaDoor.andNot63 u (by omega) (by omega)]
    obtain ⟨x, hx, hxl, hb⟩ := word_pure h lo hi sz (u - u % 64) (by omega) (by omega) (by omega)
    have e3 : wrap64 (u - (u - u % 64)) = ((u % 64).toNat : Int) := by unfold wrap64; omega
    have e4 : shr .u64 (x : Int) ((u % 64).toNat : Int) = (x : Int) / 2 ^ (u % 64).toNat := by
      unfold shr
      rw [Int.toNat_natCast, show IntKind.u64.bits = 64 from rfl, Nat.min_eq_left (by omega)]
    rw [e1, Option.bind_some, if_pos rfl, e2, Option.bind_some, hx, Option.bind_some, Option.bind_some, e3, if_pos (by omega), e4, Go.Proofs.YtgckohmppefibaaDoor.shift_bit x _ hxl, hb _ (by omega)]
    rw [show u - u % 64 + ((u % 64).toNat : Int) = u from by omega]
  · have e1 : dom_in.f u = some false := by
      unfold dom_in.f
      by_cases h1 : u ≥ -1000000
      · rw [if_pos h1, decide_eq_false (by omega)]
      · rw [if_neg h1]
    have : u ∉ l := fun hm => hu (hin u hm)
    rw [e1, Option.bind_some, decide_eq_false this]
    rfl
/-- A domain as it lies in five cells. -/
def DAt (w : World) (b p : Nat) (l : List Int) : Prop := ∃ off sv ws, Go.Proofs.YtgckohmppefibaaDoor.Dm.RepX w off sv ws l ∧ w.cell? ⟨b, p, none⟩ = some (.int .i64 off) ∧ w.cell? ⟨b, p + 1, none⟩ = some sv ∧ w.cell? ⟨b, p + 2, none⟩ = some (.int .i64 (l.headD 0)) ∧ w.cell? ⟨b, p + 3, none⟩ = some (.int .i64 (l.getLastD 0)) ∧ w.cell? ⟨b, p + 4, none⟩ = some (.int .i64 l.length)
/-- A row of domains that is read. -/
def DRow (w : World) (A : Option Addr) (D : List (List Int)) : Prop := (A = none ∧ D = []) ∨ ∃ b o, A = some ⟨b, o, none⟩ ∧ b < w.heap.size ∧ ∀ j (hj : j < D.length), DAt w b (o + j * 5) D[j]
theorem DRow.pos {w : World} {A : Option Addr} {D : List (List Int)} (h : DRow w A D) (hn : 0 < D.length) : ∃ b o, A = some ⟨b, o, none⟩ ∧ b < w.heap.size ∧ ∀ j (hj : j < D.length), DAt w b (o + j * 5) D[j] := by
  rcases h with ⟨_, rfl⟩ | h
  · exact absurd hn (by decide)
  · exact h
theorem DAt.below {w w' : World} {b p : Nat} {l : List Int} (h : DAt w b p l) (hbw : b < w.heap.size) (hb : Below w.heap.size w w') : DAt w' b p l := by
  obtain ⟨off, sv, ws, h0, h1, h2, h3, h4, h5⟩ := h
  have m : ∀ q v, w.cell? ⟨b, q, none⟩ = some v → w'.cell? ⟨b, q, none⟩ = some v := fun q v h => (hb.cell (p := ⟨b, q, none⟩) hbw).trans h
  exact ⟨off, sv, ws, h0.call hb, m _ _ h1, m _ _ h2, m _ _ h3, m _ _ h4, m _ _ h5⟩
theorem DRow.below {w w' : World} {A : Option Addr} {D : List (List Int)} (h : DRow w A D) (hb : Below w.heap.size w w') : DRow w' A D := by
  rcases h with h | ⟨b, o, rfl, hbw, hc⟩
  · exact .inl h
  · exact .inr ⟨b, o, rfl, Nat.lt_of_lt_of_le hbw hb.size, fun j hj => (hc j hj).below hbw hb⟩
/-- What a domain is, as the print has it. -/
def Good (x : S62) (l : List Int) : Prop := ∃ (w : World) (sv : Value) (ws : List Nat), Go.Proofs.YtgckohmppefibaaDoor.Dm.RepX w x.f0 sv ws l ∧ x.f1 = wsI ws ∧ x.f4 = l.length
theorem u64_reads {w : World} {sv : Value} {ws : List Nat} (h : Go.Proofs.YtgckohmppefibaaDoor.Sl w 99 1 sv ws.length (Go.Proofs.YtgckohmppefibaaDoor.Dm.u64s ws)) : ∃ A c, sv = .slice A (wsI ws).length c ∧ (wsI ws).length ≤ c ∧ Kd.C (Kd.int .u64) w A (wsI ws).length (wsI ws) := by
  have hlen : (wsI ws).length = ws.length := List.length_map _
  have h0 := h
  obtain ⟨_, ⟨rfl, hz⟩ | ⟨b, o, c, cs, rfl, hh, h1, h2, h3, h4⟩⟩ := h
  · have : ws = [] := List.eq_nil_of_length_eq_zero hz
    subst this
    exact ⟨none, 0, rfl, Nat.le_refl _, rfl, by decide, fun h => absurd h (by decide)⟩
  · rw [hlen]
    refine ⟨some ⟨b, o, none⟩, c, rfl, h1, hlen, by unfold maxLen at h2; omega, fun hn => ⟨⟨b, o, none⟩, rfl, fun j p hj => ?_⟩⟩
    obtain ⟨hjl, hjp⟩ := List.getElem?_eq_some_iff.1 hj
    rw [hlen] at hjl
    refine ⟨[.int .u64 p], rfl, rfl, fun i u hu => ?_⟩
    cases i with
    | succ i => simp at hu
    | zero =>
      have hu2 : u = .int .u64 p := by simpa using hu.symm
      subst hu2
      have h5 := Go.Proofs.YtgckohmppefibaaDoor.Dm.cell_u64 h0 j hjl
      have e : (⟨b, o, none⟩ : Addr).add (j * 1 + 0) = ⟨b, o + j, none⟩ := by
        have h9 : ∀ m, (⟨b, o, none⟩ : Addr).add m = ⟨b, o + m, none⟩ := by intro m; unfold Addr.add; split <;> simp_all
        rw [h9, Nat.mul_one, Nat.add_zero]
      show w.cell? ((⟨b, o, none⟩ : Addr).add (j * 1 + 0)) = _
      rw [e, h5]
      have : p = ((ws.getD j 0 : Nat) : Int) := by
        have h8 := hj
        unfold wsI at h8
        rw [List.getElem?_map, List.getElem?_eq_getElem hjl] at h8
        rw [List.getD_eq_getElem?_getD, List.getElem?_eq_getElem hjl]
        exact (Option.some.inj h8).symm
      rw [this]
theorem list_of {α : Type} : ∀ (n : Nat) (P : Nat → α → Prop), (∀ j, j < n → ∃ x, P j x) → ∃ xs : List α, xs.length = n ∧ ∀ j (hj : j < xs.length), P j xs[j]
  | 0, _, _ => ⟨[], rfl, fun j hj => absurd hj (Nat.not_lt_zero j)⟩
  | n + 1, P, h => by
    obtain ⟨xs, hl, hx⟩ := list_of n P (fun j hj => h j (by omega))
    obtain ⟨x, hp⟩ := h n (by omega)
    refine ⟨xs ++ [x], by simp [hl], fun j hj => ?_⟩
    by_cases hjn : j < n
    · rw [List.getElem_append_left (by omega)]; exact hx j (by omega)
    · have : j = n := by simp [hl] at hj; omega
      subst this
      rw [List.getElem_append_right (by omega)]
      simp [hl, hp]
theorem DRow.reads {w : World} {A : Option Addr} {D : List (List Int)} (h : DRow w A D) (hb : D.length ≤ 1000000) : ∃ xs : List S62, xs.length = D.length ∧ Kd.C k62 w A D.length xs ∧ ∀ j (hj : j < D.length) (hx : j < xs.length), Good xs[j] D[j] := by
  rcases Nat.eq_zero_or_pos D.length with h0 | hn
  · refine ⟨[], by rw [h0]; rfl, ⟨by rw [h0]; rfl, by omega, fun h => by omega⟩, fun j hj => by omega⟩
  · obtain ⟨b, o, rfl, hbw, hc⟩ := h.pos hn
    obtain ⟨xs, hl, hx⟩ := list_of D.length (fun j (x : S62) => ∀ hj : j < D.length, Good x D[j] ∧ ∃ c, c.length = 5 ∧ k62.K w x c ∧ ∀ i u, c[i]? = some u → w.cell? ((⟨b, o, none⟩ : Addr).add (j * 5 + i)) = some u) (fun j hj => by
      obtain ⟨off, sv, ws, h0, h1, h2, h3, h4, h5⟩ := hc j hj
      obtain ⟨A', c', rfl, hle, hC⟩ := u64_reads h0.sl
      refine ⟨⟨off, wsI ws, D[j].headD 0, D[j].getLastD 0, D[j].length⟩, fun _ => ⟨⟨w, _, ws, h0, rfl, rfl⟩, [.int .i64 off, .slice A' (wsI ws).length c', .int .i64 (D[j].headD 0), .int .i64 (D[j].getLastD 0), .int .i64 D[j].length], rfl, ?_, fun i u hu => ?_⟩⟩
      · exact ⟨[.int .i64 off], [.slice A' (wsI ws).length c', .int .i64 (D[j].headD 0), .int .i64 (D[j].getLastD 0), .int .i64 D[j].length], rfl, rfl, [.slice A' (wsI ws).length c'], [.int .i64 (D[j].headD 0), .int .i64 (D[j].getLastD 0), .int .i64 D[j].length], rfl, ⟨A', c', rfl, hle, hC⟩, [.int .i64 (D[j].headD 0)], [.int .i64 (D[j].getLastD 0), .int .i64 D[j].length], rfl, rfl, [.int .i64 (D[j].getLastD 0)], [.int .i64 D[j].length], rfl, rfl, rfl⟩
      · have e : (⟨b, o, none⟩ : Addr).add (j * 5 + i) = ⟨b, o + j * 5 + i, none⟩ := by
          have h9 : ∀ m, (⟨b, o, none⟩ : Addr).add m = ⟨b, o + m, none⟩ := by intro m; unfold Addr.add; split <;> simp_all
          rw [h9, Nat.add_assoc]
        rw [e]
        match i, hu with
        | 0, hu => cases hu; exact h1
        | 1, hu => cases hu; exact h2
        | 2, hu => cases hu; exact h3
        | 3, hu => cases hu; exact h4
        | 4, hu => cases hu; exact h5
        | i + 5, hu => simp at hu)
    refine ⟨xs, hl, ⟨hl, by omega, fun _ => ⟨⟨b, o, none⟩, rfl, fun j p hj => ?_⟩⟩, fun j hj hx2 => (hx j hx2 hj).1⟩
    obtain ⟨hjl, rfl⟩ := List.getElem?_eq_some_iff.1 hj
    exact (hx j hjl (by omega)).2
/-- What open answers. -/
def openL (D : List (List Int)) : List S29 → Int × Int → Nat → Int × Int × Int
  | [], a, c => (a.1, a.2, (min c 2 : Nat))
  | x :: l, a, c => if x.f0 < 0 ∨ (D.length : Int) ≤ x.f0 ∨ x.f1 ∉ D.getD x.f0.toNat [] then (0, 0, 2) else if 1 < (D.getD x.f0.toNat []).length then openL D l (x.f0, x.f1) (c + 1) else openL D l a c
theorem good_has {x : S62} {l : List Int} (h : Good x l) (u : Int) : dom_Dom_Has.f x.f0 x.f1 x.f2 x.f3 x.f4 u = some (decide (u ∈ l)) := by
  obtain ⟨w, sv, ws, h1, h2, _⟩ := h
  rw [h2]
  exact has_pure h1 _ _ _ u
theorem good_size {x : S62} {l : List Int} (h : Good x l) : dom_Dom_Size.f x.f0 x.f1 x.f2 x.f3 x.f4 = some (l.length : Int) := by
  obtain ⟨w, sv, ws, _, _, h3⟩ := h
  unfold dom_Dom_Size.f
  rw [h3]
theorem good_at {xs : List S62} {D : List (List Int)} (hl : xs.length = D.length) (hg : ∀ j (hj : j < D.length) (hx : j < xs.length), Good xs[j] D[j]) (v : Int) (h0 : 0 ≤ v) (h1 : v < D.length) : Good (rd_T62 xs v) (D.getD v.toNat []) := by
  have hj : v.toNat < D.length := by omega
  have := hg v.toNat hj (by omega)
  unfold rd_T62
  rw [List.getD_eq_getElem?_getD, List.getD_eq_getElem?_getD, List.getElem?_eq_getElem hj, List.getElem?_eq_getElem (show v.toNat < xs.length by omega)]
  exact this
theorem open_l0 (n : List S29) (xs : List S62) (D : List (List Int)) (hl : xs.length = D.length) (hg : ∀ j (hj : j < D.length) (hx : j < xs.length), Good xs[j] D[j]) (hn : n.length ≤ 1000000) :
    ∀ (m i c k : Nat) (a b : Int), n.length = i + m → c ≤ i → 2 * m + 1 ≤ k → nogood_open.l0 k xs (c : Int) n (n.length : Int) (i : Int) a b = some (openL D (n.drop i) (a, b) c)
  | 0, i, c, k, a, b, hm, hc, hk => by
    obtain ⟨k, rfl⟩ : ∃ k', k = k' + 1 := ⟨k - 1, by omega⟩
    rw [nogood_open.l0, if_neg (by omega), List.drop_eq_nil_of_le (by omega)]
    unfold openL mn
    congr 3
    split <;> omega
  | m + 1, i, c, k, a, b, hm, hc, hk => by
    obtain ⟨k, rfl⟩ : ∃ k', k = k' + 2 := ⟨k - 2, by omega⟩
    have hi : i < n.length := by omega
    have IH := fun c2 (hc2 : c2 ≤ i + 1) a2 b2 => open_l0 n xs D hl hg hn m (i + 1) c2 k a2 b2 (by omega) hc2 (by omega)
    rw [List.drop_eq_getElem_cons hi]
    have ex : rd_T29 n (i : Int) = n[i] := by
      unfold rd_T29
      rw [Int.toNat_natCast, List.getD_eq_getElem?_getD, List.getElem?_eq_getElem hi]; rfl
    have e1 : wrap64 ((i : Int) + 1) = ((i + 1 : Nat) : Int) := by unfold wrap64; omega
    have e2 : wrap64 ((c : Int) + 1) = ((c + 1 : Nat) : Int) := by unfold wrap64; omega
    rw [nogood_open.l0, if_pos (by omega), if_pos (by omega), if_pos (by omega), ex]
    generalize n[i] = x
    have bad : ∀ (q1 q2 : Int), nogood_open.j1 (k + 1) xs (c : Int) n (n.length : Int) (i : Int) true a b q1 q2 = some (0, 0, 2) := by
      intro q1 q2
      rw [nogood_open.j1, if_pos rfl]
    unfold openL
    by_cases h1 : x.f0 < 0
    · rw [if_pos h1, if_pos (.inl h1), bad]
    · by_cases h2 : x.f0 ≥ (xs.length : Int)
      · rw [if_neg h1, if_pos h2, if_pos (.inr (.inl (by omega))), bad]
      · have hgx := good_at hl hg x.f0 (by omega) (by omega)
        rw [if_neg h1, if_neg h2, if_pos (by omega), if_pos (by omega), good_has hgx, Option.bind_some]
        by_cases h3 : x.f1 ∈ D.getD x.f0.toNat []
        · rw [decide_eq_true h3, Bool.not_true, if_neg (by rintro (h | h | h) <;> first | omega | exact h h3)]
          rw [nogood_open.j1, if_neg (by decide), if_pos (by omega), if_pos (by omega), good_size hgx, Option.bind_some]
          by_cases h4 : 1 < (D.getD x.f0.toNat []).length
          · rw [if_pos (by omega), if_pos h4, e1, e2, IH (c + 1) (by omega)]
          · rw [if_neg (by omega), if_neg h4, e1, IH c (by omega)]
        · rw [decide_eq_false h3, Bool.not_false, bad, if_pos (.inr (.inr h3))]
theorem open_pure (n : List S29) (xs : List S62) (D : List (List Int)) (hl : xs.length = D.length) (hg : ∀ j (hj : j < D.length) (hx : j < xs.length), Good xs[j] D[j]) (hn : n.length ≤ 1000000) : nogood_open.f (2 * n.length + 1) n xs = some (openL D n (0, 0) 0) := by
  have := open_l0 n xs D hl hg hn n.length 0 0 (2 * n.length + 1) 0 0 (by omega) (by omega) (by omega)
  rw [List.drop_zero] at this
  exact this
/-- nogood.open, over domains. -/
theorem openD (A : Option Addr) (c : Nat) (n : List S29) (A1 : Option Addr) (c1 : Nat) (D : List (List Int)) (w : World) (hr : Kd.C k29 w A n.length n) (hc : n.length ≤ c) (hD : DRow w A1 D) (hc1 : D.length ≤ c1) (hn : n.length ≤ 1000000) (hb : D.length ≤ 1000000) :
    Calls Tryd.prog 72 #[.slice A n.length c, .slice A1 D.length c1] w fun e w' => e = .returned (.tuple #[.agg #[.int .i64 (openL D n (0, 0) 0).1, .int .i64 (openL D n (0, 0) 0).2.1], .int .i64 (openL D n (0, 0) 0).2.2]) ∧ Below w.heap.size w w' := by
  obtain ⟨xs, hl, hC, hg⟩ := hD.reads hb
  have := nogood_open.calls (2 * n.length + 1) A c n A1 c1 xs (openL D n (0, 0) 0).1 (openL D n (0, 0) 0).2.1 (openL D n (0, 0) 0).2.2 w hr hc (by rw [hl]; exact hC) (by rw [hl]; exact hc1) (open_pure n xs D hl hg hn)
  rw [hl] at this
  exact this
/-- One pass over the nogoods: did something change, is something left, and what. -/
def passL : List (List S29) → List (List Int) → Bool → Bool × Bool × List (List Int)
  | [], D, ch => (ch, true, D)
  | n :: L, D, ch => if (openL D n (0, 0) 0).2.2 = 0 then (false, false, D) else if (openL D n (0, 0) 0).2.2 = 1 then passL L (D.set (openL D n (0, 0) 0).1.toNat ((D.getD (openL D n (0, 0) 0).1.toNat []).filter fun u => !decide (u = (openL D n (0, 0) 0).2.1))) true else passL L D ch
theorem openL_at (D : List (List Int)) : ∀ (n : List S29) (a : Int × Int) (c : Nat), (openL D n a c).2.2 = 1 → (c = 0 ∨ (0 ≤ a.1 ∧ a.1 < D.length ∧ a.2 ∈ D.getD a.1.toNat [])) → 0 ≤ (openL D n a c).1 ∧ (openL D n a c).1 < D.length ∧ (openL D n a c).2.1 ∈ D.getD (openL D n a c).1.toNat []
  | [], a, c, h, ha => by
    unfold openL at h ⊢
    simp only at h ⊢
    rcases ha with rfl | ha
    · exact absurd h (by decide)
    · exact ha
  | x :: l, a, c, h, ha => by
    unfold openL at h ⊢
    by_cases h1 : x.f0 < 0 ∨ (D.length : Int) ≤ x.f0 ∨ x.f1 ∉ D.getD x.f0.toNat []
    · rw [if_pos h1] at h; exact absurd h (by decide)
    · rw [if_neg h1] at h ⊢
      by_cases h2 : 1 < (D.getD x.f0.toNat []).length
      · rw [if_pos h2] at h ⊢
        exact openL_at D l _ _ h (.inr ⟨by simp only; omega, by simp only; omega, Classical.byContradiction fun h9 => h1 (.inr (.inr h9))⟩)
      · rw [if_neg h2] at h ⊢
        exact openL_at D l _ _ h ha
theorem openL_02 (D : List (List Int)) : ∀ (n : List S29) (a : Int × Int) (c : Nat), (openL D n a c).2.2 = 0 ∨ (openL D n a c).2.2 = 1 ∨ (openL D n a c).2.2 = 2
  | [], a, c => by unfold openL; simp only; omega
  | x :: l, a, c => by
    unfold openL
    split
    · exact .inr (.inr rfl)
    · split
      · exact openL_02 D l _ _
      · exact openL_02 D l _ _
/-- A row of domains of the call's own, in its block. -/
def DB (base gd cap : Nat) (w : World) (D : List (List Int)) : Prop := base ≤ gd ∧ (∃ cur, w.heap[gd]? = some (.cells cur 62 (0, 0)) ∧ cur.size = cap * 5) ∧ D.length ≤ cap ∧ cap ≤ maxLen ∧ ∀ j (hj : j < D.length), DAt w gd (0 + j * 5) D[j]
theorem DB.row {base gd cap : Nat} {w : World} {D : List (List Int)} (h : DB base gd cap w D) : DRow w (some ⟨gd, 0, none⟩) D := by
  obtain ⟨_, ⟨cur, h1, _⟩, _, _, h2⟩ := h
  exact .inr ⟨gd, 0, rfl, blk_lt h1, h2⟩
theorem DB.below {base gd cap : Nat} {w w' : World} {D : List (List Int)} (h : DB base gd cap w D) (hb : Below w.heap.size w w') : DB base gd cap w' D := by
  obtain ⟨h0, ⟨cur, h1, h2⟩, h3, h4, h5⟩ := h
  have hlt := blk_lt h1
  exact ⟨h0, ⟨cur, (hb.block gd hlt).trans h1, h2⟩, h3, h4, fun j hj => (h5 j hj).below hlt hb⟩
/-- A domain's words are none of a row of domains. -/
theorem words_ne {w : World} {off : Int} {sv : Value} {ws : List Nat} {l : List Int} {gd : Nat} {cur : Array Value} (h : Go.Proofs.YtgckohmppefibaaDoor.Dm.RepX w off sv ws l) (hg : w.heap[gd]? = some (.cells cur 62 (0, 0))) : ∀ b, sv.ownBlock = some b → b ≠ gd := by
  rintro b hb rfl
  obtain ⟨_, ⟨rfl, _⟩ | ⟨b', o, c, cs, rfl, hh, _⟩⟩ := h.sl
  · cases hb
  · cases hb
    rw [hg] at hh
    injection hh with hh
    injection hh with _ hh
    exact absurd hh (by decide)
def put5 (cur : Array Value) (i : Nat) (a b c d e : Value) : Array Value := ((((cur.setIfInBounds i a).setIfInBounds (i + 1) b).setIfInBounds (i + 2) c).setIfInBounds (i + 3) d).setIfInBounds (i + 4) e
theorem put5_ne (cur : Array Value) (i k : Nat) (a b c d e : Value) (h : k < i ∨ i + 5 ≤ k) : (put5 cur i a b c d e)[k]? = cur[k]? := by
  unfold put5
  rw [Array.getElem?_setIfInBounds_ne (by omega), Array.getElem?_setIfInBounds_ne (by omega), Array.getElem?_setIfInBounds_ne (by omega), Array.getElem?_setIfInBounds_ne (by omega), Array.getElem?_setIfInBounds_ne (by omega)]
theorem put5_at (cur : Array Value) (i : Nat) (a b c d e : Value) (h : i + 5 ≤ cur.size) : (put5 cur i a b c d e)[i]? = some a ∧ (put5 cur i a b c d e)[i + 1]? = some b ∧ (put5 cur i a b c d e)[i + 2]? = some c ∧ (put5 cur i a b c d e)[i + 3]? = some d ∧ (put5 cur i a b c d e)[i + 4]? = some e := by
  unfold put5
  refine ⟨?_, ?_, ?_, ?_, ?_⟩
  · rw [Array.getElem?_setIfInBounds_ne (by omega), Array.getElem?_setIfInBounds_ne (by omega), Array.getElem?_setIfInBounds_ne (by omega), Array.getElem?_setIfInBounds_ne (by omega), Array.getElem?_setIfInBounds_self_of_lt (by omega)]
  · rw [Array.getElem?_setIfInBounds_ne (by omega), Array.getElem?_setIfInBounds_ne (by omega), Array.getElem?_setIfInBounds_ne (by omega), Array.getElem?_setIfInBounds_self_of_lt (by simp; omega)]
  · rw [Array.getElem?_setIfInBounds_ne (by omega), Array.getElem?_setIfInBounds_ne (by omega), Array.getElem?_setIfInBounds_self_of_lt (by simp; omega)]
  · rw [Array.getElem?_setIfInBounds_ne (by omega), Array.getElem?_setIfInBounds_self_of_lt (by simp; omega)]
  · rw [Array.getElem?_setIfInBounds_self_of_lt (by simp; omega)]
theorem DB.put {base gd cap : Nat} {w : World} {D : List (List Int)} (h : DB base gd cap w D) (v : Nat) (hv : v < D.length) {off' : Int} {sv' : Value} {ws' : List Nat} {l' : List Int} (hx : Go.Proofs.YtgckohmppefibaaDoor.Dm.RepX w off' sv' ws' l') :
    DB base gd cap (((((w.setCell ⟨gd, v * 5, none⟩ (.int .i64 off')).setCell ⟨gd, v * 5 + 1, none⟩ sv').setCell ⟨gd, v * 5 + 2, none⟩ (.int .i64 (l'.headD 0))).setCell ⟨gd, v * 5 + 3, none⟩ (.int .i64 (l'.getLastD 0))).setCell ⟨gd, v * 5 + 4, none⟩ (.int .i64 l'.length)) (D.set v l') := by
  obtain ⟨h0, ⟨cur, h1, h2⟩, h3, h4, h5⟩ := h
  have b : (((((w.setCell ⟨gd, v * 5, none⟩ (.int .i64 off')).setCell ⟨gd, v * 5 + 1, none⟩ sv').setCell ⟨gd, v * 5 + 2, none⟩ (.int .i64 (l'.headD 0))).setCell ⟨gd, v * 5 + 3, none⟩ (.int .i64 (l'.getLastD 0))).setCell ⟨gd, v * 5 + 4, none⟩ (.int .i64 l'.length)).heap[gd]? = some (.cells (put5 cur (v * 5) (.int .i64 off') sv' (.int .i64 (l'.headD 0)) (.int .i64 (l'.getLastD 0)) (.int .i64 l'.length)) 62 (0, 0)) := blk_set (blk_set (blk_set (blk_set (blk_set h1 (v * 5) _) (v * 5 + 1) _) (v * 5 + 2) _) (v * 5 + 3) _) (v * 5 + 4) _
  have fr : Go.Proofs.YtgckohmppefibaaDoor.Fr (fun k => k = gd) w (((((w.setCell ⟨gd, v * 5, none⟩ (.int .i64 off')).setCell ⟨gd, v * 5 + 1, none⟩ sv').setCell ⟨gd, v * 5 + 2, none⟩ (.int .i64 (l'.headD 0))).setCell ⟨gd, v * 5 + 3, none⟩ (.int .i64 (l'.getLastD 0))).setCell ⟨gd, v * 5 + 4, none⟩ (.int .i64 l'.length)) :=
    (((((Go.Proofs.YtgckohmppefibaaDoor.Fr.refl (fun k => k = gd) w).set (p := ⟨gd, v * 5, none⟩) (fun _ => rfl) _).set (p := ⟨gd, v * 5 + 1, none⟩) (fun _ => rfl) _).set (p := ⟨gd, v * 5 + 2, none⟩) (fun _ => rfl) _).set (p := ⟨gd, v * 5 + 3, none⟩) (fun _ => rfl) _).set (p := ⟨gd, v * 5 + 4, none⟩) (fun _ => rfl) _
  generalize (((((w.setCell ⟨gd, v * 5, none⟩ (.int .i64 off')).setCell ⟨gd, v * 5 + 1, none⟩ sv').setCell ⟨gd, v * 5 + 2, none⟩ (.int .i64 (l'.headD 0))).setCell ⟨gd, v * 5 + 3, none⟩ (.int .i64 (l'.getLastD 0))).setCell ⟨gd, v * 5 + 4, none⟩ (.int .i64 l'.length)) = w2 at b fr ⊢
  obtain ⟨a0, a1, a2, a3, a4⟩ := put5_at cur (v * 5) (.int .i64 off') sv' (.int .i64 (l'.headD 0)) (.int .i64 (l'.getLastD 0)) (.int .i64 l'.length) (by omega)
  refine ⟨h0, ⟨_, b, by unfold put5; simp [h2]⟩, by rw [List.length_set]; exact h3, h4, fun j hj => ?_⟩
  have hj2 : j < D.length := by rw [List.length_set] at hj; exact hj
  by_cases e : v = j
  · subst e
    rw [List.getElem_set_self, Nat.zero_add]
    exact ⟨off', sv', ws', hx.kept fr (fun b hb => words_ne hx h1 b hb), (blk_cell b _).trans a0, (blk_cell b _).trans a1, (blk_cell b _).trans a2, (blk_cell b _).trans a3, (blk_cell b _).trans a4⟩
  · rw [List.getElem_set_ne e]
    obtain ⟨off, sv, ws, g0, g1, g2, g3, g4, g5⟩ := h5 j hj2
    rw [blk_cell h1] at g1 g2 g3 g4 g5
    refine ⟨off, sv, ws, g0.kept fr (fun b hb => words_ne g0 h1 b hb), ?_, ?_, ?_, ?_, ?_⟩
    · rw [blk_cell b, put5_ne _ _ _ _ _ _ _ _ (by omega)]; exact g1
    · rw [blk_cell b, put5_ne _ _ _ _ _ _ _ _ (by omega)]; exact g2
    · rw [blk_cell b, put5_ne _ _ _ _ _ _ _ _ (by omega)]; exact g3
    · rw [blk_cell b, put5_ne _ _ _ _ _ _ _ _ (by omega)]; exact g4
    · rw [blk_cell b, put5_ne _ _ _ _ _ _ _ _ (by omega)]; exact g5
theorem Bt.put {base gd : Nat} {w w1 : World} (h : Bt base gd w w1) (hb : base ≤ gd) (i : Nat) (u : Value) : Bt base gd w (w1.setCell ⟨gd, i, none⟩ u) := ⟨h.1.setCell hb u, by have := h.2.1; simp [World.setCell]; exact this, fun k hk hn h0 => (Below.heap_setCell w1 ⟨gd, i, none⟩ u k hn).trans (h.2.2 k hk hn h0)⟩
theorem rowAt {w wr : World} {base : Nat} {ok : Nat → Prop} {b o c gd : Nat} {L : List (List S29)} (h : Kd.R (Kd.slice 29 k29) 45 w base ok (.slice (some ⟨b, o, none⟩) L.length c) L) (hF : ∀ k, ok k → k ≠ gd) (hbt : Bt base gd w wr) (j : Nat) (hj : j < L.length) :
    ∃ Aj cj, wr.cell? ⟨b, o + j, none⟩ = some (.slice Aj L[j].length cj) ∧ L[j].length ≤ cj ∧ Kd.C k29 wr Aj L[j].length L[j] := by
  have hr := Kd.R_step h (w1 := wr) (fun k hk hlt => hbt.2.2 k hlt (hF k hk) (by simp))
  obtain ⟨A2, c2, e, _, hC⟩ := Kd.R_reads hr
  cases e
  obtain ⟨b2, o2, e, _, hcell⟩ := rawL hC (by omega)
  cases e
  exact hcell j hj
theorem Bt.below2 {base gd : Nat} {w w1 w2 : World} (h : Bt base gd w w1) (hb : base ≤ w.heap.size) (k : Below w1.heap.size w1 w2) : Bt base gd w w2 :=
  ⟨h.1.trans (k.mono (Nat.le_trans hb h.2.1)), Nat.le_trans h.2.1 k.size, fun i hi hn h0 => (k.block i (Nat.lt_of_lt_of_le hi h.2.1)).trans (h.2.2 i hi hn h0)⟩
theorem Bt.fr {base gd : Nat} {w w1 : World} (h : Bt base gd w w1) : Go.Proofs.YtgckohmppefibaaDoor.Fr (fun k => k = gd) w w1 := ⟨h.1.os, h.1.tape, h.1.output, h.2.1, fun k hk hn => h.2.2 k hk hn (by simp)⟩
theorem Bt.tab {base gd : Nat} {w w1 : World} (h : Bt base gd w w1) (hT : Go.Proofs.YtgckohmppefibaaDoor.Tab w) (h0 : 0 ≠ gd) : Go.Proofs.YtgckohmppefibaaDoor.Tab w1 := hT.kept h.fr h0
set_option maxHeartbeats 4000000 in
set_option maxRecDepth 100000 in
theorem passD (base gd cap : Nat) (F : Nat → Prop) (w : World) (g : Nat) (L : List (List S29)) (D : List (List Int)) (hT : Go.Proofs.YtgckohmppefibaaDoor.Tab w) (h0d : 0 ≠ gd) (h : NB base F w g L) (hF : ¬ F gd) (hb : L.length ≤ 1000000) (hx : ∀ x ∈ L, x.length ≤ 1000000) (hD : DB base gd cap w D) (hDb : D.length ≤ 1000000) :
    Calls Tryd.prog 49 #[.pointer (some ⟨g, 0, none⟩), .slice (some ⟨gd, 0, none⟩) D.length cap] w fun e w' => ∃ D2, e = .returned (.tuple #[.bool (passL L D false).1, .bool (passL L D false).2.1]) ∧ Bt base gd w w' ∧ DB base gd cap w' D2 ∧ D2.length = D.length ∧ ((passL L D false).2.1 = true → D2 = (passL L D false).2.2) := by
  obtain ⟨v, hgb, hbg, hFg, hR⟩ := h
  obtain ⟨A, c, rfl⟩ := Kd.R_slice hR
  have hc := blk_cell hgb 0
  have hgw : g < w.heap.size := blk_lt hgb
  have hbw : base ≤ w.heap.size := by omega
  rcases Nat.eq_zero_or_pos L.length with h0 | hn
  · have e0 : L = [] := List.eq_nil_of_length_eq_zero h0
    subst e0
    have HD := Aside0.mk hD
    clear hD hR hgb hx hT
    go_enter Tryd.func49, Tryd.ntmps49
    go_wp2
    refine wp_loop_rounds 1 ?_
    rw [rounds_succ]
    go_wp2
    go_ret2
    exact ⟨D, rfl, ⟨Below.refl _ _, KeepBut.refl _ _ _⟩, HD.out, rfl, fun _ => rfl⟩
  · obtain ⟨b, o, rfl⟩ : ∃ b o, A = some ⟨b, o, none⟩ := by
      obtain ⟨A2, c2, e, _, hC⟩ := Kd.R_reads hR
      cases e
      obtain ⟨b2, o2, e, _, _⟩ := rawL hC hn
      exact ⟨b2, o2, e⟩
    have RA := Aside0.mk (fun wr (hbt : Bt base gd w wr) j (hj : j < L.length) => rowAt hR (fun k hk e => hF (by rw [← e]; exact hk.1)) hbt j hj)
    have HX := Aside0.mk hx
    have HD := Aside0.mk hD
    have HT := Aside0.mk hT
    have PL := Aside0.mk (fun j (hj : j < L.length) => List.drop_eq_getElem_cons hj)
    clear hD hR hgb hx hT hF
    go_enter Tryd.func49, Tryd.ntmps49
    go_wp2
    go_loopg [6, 8, 9, 10, 16] L.length (fun kx s6 s8 s9 s10 s16 wr => ∃ (j : Nat) (ch : Bool) (D2 : List (List Int)), s6 = .bool ch ∧ s16 = .int .i64 j ∧ j ≤ L.length ∧ L.length - j ≤ kx ∧ Aside0 (Bt base gd w wr ∧ DB base gd cap wr D2 ∧ passL L D false = passL (L.drop j) D2 ch) ∧ D2.length = D.length)
    case atStart => exact ⟨0, false, D, rfl, rfl, Nat.zero_le _, by omega, Aside0.mk ⟨⟨Below.refl _ _, KeepBut.refl _ _ _⟩, HD.out, by rw [List.drop_zero]⟩, rfl⟩
    case round =>
      obtain ⟨j, ch, D2, rfl, rfl, hjn, hg, HI, hl2⟩ := hrel
      by_cases hlt : j < L.length
      · obtain ⟨Aj, cj, e0, e1, e2⟩ := RA.out wr HI.out.1 j hlt
        have hxl := HX.out _ (List.getElem_mem hlt)
        have X := Aside0.mk (PL.out j hlt)
        generalize L[j] = n at e0 e1 e2 hxl X
        have ho := openD Aj cj n (some ⟨gd, 0, none⟩) cap D2 wr e2 e1 HI.out.2.1.row HI.out.2.1.2.2.1 hxl (by omega)
        rw [hl2] at ho
        have HO := Aside0.mk ho
        have HAT := Aside0.mk (openL_at D2 n (0, 0) 0)
        have H012 := openL_02 D2 n (0, 0) 0
        clear ho e1 e2 hc
        generalize hr : openL D2 n (0, 0) 0 = r at HO HAT H012
        obtain ⟨r1, r2, r3⟩ := r
        have HR := Aside0.mk hr
        clear hr
        simp only at H012 HO
        rcases H012 with rfl | rfl | rfl
        · go_wp2_with (go_at_call 72; ((with_reducible refine HO.out.mono ?_); rintro e w2 ⟨rfl, hb2⟩; have HB2 := Aside0.mk hb2; clear hb2))
          go_ret2
          have e3 : passL L D false = (false, false, D2) := by
            rw [HI.out.2.2, X.out]; unfold passL; rw [HR.out]; rfl
          rw [e3]
          exact ⟨D2, rfl, HI.out.1.below2 hbw (below_alloc HB2.out _), HI.out.2.1.below (below_alloc HB2.out _), hl2, fun h => by cases h⟩
        · obtain ⟨hv0, hv1, hv2⟩ := HAT.out rfl (.inl rfl)
          simp only at hv0 hv1 hv2
          go_upto_region 10 with (go_at_call 72; ((with_reducible refine HO.out.mono ?_); rintro e w2 ⟨rfl, hb2⟩; have HB2 := Aside0.mk hb2; clear hb2))
          obtain ⟨v, rfl⟩ : ∃ v : Nat, r1 = (v : Int) := ⟨r1.toNat, by omega⟩
          have hv : v < D2.length := by omega
          have HBt := Aside0.mk (HI.out.1.below2 hbw (below_alloc HB2.out (.cells #[.int .i64 (v : Int), .int .i64 r2] 29)))
          have HDB := Aside0.mk (HI.out.2.1.below (below_alloc HB2.out (.cells #[.int .i64 (v : Int), .int .i64 r2] 29)))
          have HTT := Aside0.mk ((HI.out.1.tab HT.out h0d).call (below_alloc HB2.out (.cells #[.int .i64 (v : Int), .int .i64 r2] 29)))
          have bb := Aside0.mk (blk_new w2 (.cells #[.int .i64 (v : Int), .int .i64 r2] 29))
          have hlt2 : w2.heap.size < (w2.alloc (.cells #[.int .i64 (v : Int), .int .i64 r2] 29)).heap.size := by simp
          have PLD := Aside0.mk (show passL L D false = passL (L.drop (j + 1)) (D2.set v ((D2.getD v []).filter fun u => !decide (u = r2))) true from by
            rw [HI.out.2.2, X.out]; conv => { lhs; unfold passL }; rw [HR.out, if_neg (by simp), if_pos rfl]; rfl)
          generalize w2.alloc (.cells #[.int .i64 (v : Int), .int .i64 r2] 29) = W at *
          clear HI HO HAT HB2
          have c0 := blk_cell bb.out 0
          have c1 := blk_cell bb.out 1
          obtain ⟨off, sv, ws, hx, d0, d1, d2, d3, d4⟩ := HDB.out.2.2.2.2 v hv
          rw [Nat.zero_add] at d0 d1 d2 d3 d4
          obtain ⟨Aw, cw, rfl⟩ := hx.sl.len
          have REP := Aside0.mk (show Go.Proofs.YtgckohmppefibaaDoor.Dm.Rep W (.agg #[.int .i64 off, .slice Aw ws.length cw, .int .i64 (D2[v].headD 0), .int .i64 (D2[v].getLastD 0), .int .i64 D2[v].length]) D2[v] from ⟨_, _, _, rfl, hx⟩)
          clear hx
          generalize D2[v].headD 0 = lo at *
          generalize D2[v].getLastD 0 = hi at *
          generalize D2[v].length = sz at *
          have hi0 : (0 : Int) ≤ (v : Int) := by omega
          obtain ⟨cur, hcur, hcs⟩ := HDB.out.2.1
          have hgdW : gd < W.heap.size := blk_lt hcur
          have HCU := Aside0.mk hcur
          clear hcur
          have hrr := REP.out.inr r2 (by rw [Int.toNat_natCast, List.getD_eq_getElem?_getD, List.getElem?_eq_getElem hv] at hv2; exact hv2)
          have hi1 : (v : Int) < (D.length : Int) := by omega
          go_region_law (first | (go_simp; go_at_call 73; refine (Go.Proofs.YtgckohmppefibaaDoor.dom_without _ _ r2 _ (REP.out.call (by first | exact Below.refl _ _ | exact (Below.refl _ _).drew | exact (Below.refl _ _).drew.drew)) (HTT.out.call (by first | exact Below.refl _ _ | exact (Below.refl _ _).drew | exact (Below.refl _ _).drew.drew)) (by omega) (by omega)).mono ?_; rintro e w3 ⟨v', rfl, hrep, hb3, _⟩; obtain ⟨off', sv', ws', rfl, hx'⟩ := hrep; obtain ⟨Aw', cw', rfl⟩ := hx'.sl.len; unfold Go.Proofs.YtgckohmppefibaaDoor.Dm.val; generalize hl' : D2[v].filter (fun u => !decide (u = r2)) = l' at hx' ⊢; have HL := Aside0.mk hl'; clear hl'; generalize hm0 : l'.headD 0 = m0; generalize hm1 : l'.getLastD 0 = m1; generalize hm2 : l'.length = m2; have HM := Aside0.mk (And.intro hm0 (And.intro hm1 hm2)); clear hm0 hm1 hm2; generalize Go.Proofs.YtgckohmppefibaaDoor.Dm.chg _ l' = chg; have p0 : w3.cell? ⟨gd, v * 5, none⟩ = some (.int .i64 off) := (hb3.cell (p := ⟨gd, v * 5, none⟩) hgdW).trans d0; have p1 : w3.cell? ⟨gd, v * 5 + 1, none⟩ = some (.slice Aw ws.length cw) := (hb3.cell (p := ⟨gd, v * 5 + 1, none⟩) hgdW).trans d1; have p2 : w3.cell? ⟨gd, v * 5 + 2, none⟩ = some (.int .i64 lo) := (hb3.cell (p := ⟨gd, v * 5 + 2, none⟩) hgdW).trans d2; have p3 : w3.cell? ⟨gd, v * 5 + 3, none⟩ = some (.int .i64 hi) := (hb3.cell (p := ⟨gd, v * 5 + 3, none⟩) hgdW).trans d3; have p4 : w3.cell? ⟨gd, v * 5 + 4, none⟩ = some (.int .i64 sz) := (hb3.cell (p := ⟨gd, v * 5 + 4, none⟩) hgdW).trans d4; have c03 : w3.cell? ⟨w2.heap.size, 0, none⟩ = some (.int .i64 (v : Int)) := (hb3.cell (p := ⟨w2.heap.size, 0, none⟩) hlt2).trans c0; have q0 := (hb3.block gd hgdW).trans HCU.out; have f0 := blk_frozen q0 (v * 5); have f1 := blk_frozen q0 (v * 5 + 1); have f2 := blk_frozen q0 (v * 5 + 2); have f3 := blk_frozen q0 (v * 5 + 3); have f4 := blk_frozen q0 (v * 5 + 4); have Q0 := Aside0.mk q0; have HX3 := Aside0.mk hx'; have HB3 : Aside0 (Below W.heap.size W w3) := Aside0.mk ⟨hb3.os, hb3.tape, hb3.output, hb3.size, hb3.block⟩; clear q0 hx' hb3))
          all_goals
            obtain ⟨hm0, hm1, hm2⟩ := HM.out
            have DBW := (HDB.out.below HB3.out).put v hv HX3.out
            rw [hm0, hm1, hm2] at DBW
            have DBH := Aside0.mk DBW
            clear DBW hm0 hm1 hm2
            go_wp2
            go_roundg (L.length - (j + 1))
            case measure => omega
            case rel => exact ⟨j + 1, true, _, rfl, rfl, by omega, Nat.le_refl _, Aside0.mk ⟨(((((HBt.out.below2 hbw HB3.out).put HDB.out.1 _ _).put HDB.out.1 _ _).put HDB.out.1 _ _).put HDB.out.1 _ _).put HDB.out.1 _ _, DBH.out, by rw [PLD.out, List.getD_eq_getElem?_getD, List.getElem?_eq_getElem hv, ← HL.out]; rfl⟩, by rw [List.length_set]; exact hl2⟩
        · go_wp2_with (go_at_call 72; ((with_reducible refine HO.out.mono ?_); rintro e w2 ⟨rfl, hb2⟩; have HB2 := Aside0.mk hb2; clear hb2))
          have e3 : passL L D false = passL (L.drop (j + 1)) D2 ch := by
            rw [HI.out.2.2, X.out]; conv => { lhs; unfold passL }; rw [HR.out]; rfl
          go_roundg (L.length - (j + 1))
          case measure => omega
          case rel => exact ⟨j + 1, ch, D2, rfl, rfl, by omega, Nat.le_refl _, Aside0.mk ⟨HI.out.1.below2 hbw (below_alloc HB2.out _), HI.out.2.1.below (below_alloc HB2.out _), e3⟩, hl2⟩
      · have hj : j = L.length := by omega
        subst hj
        go_wp2_with fail
        go_ret2
        have e3 : passL L D false = (ch, true, D2) := by
          rw [HI.out.2.2, List.drop_length]; rfl
        rw [e3]
        exact ⟨D2, rfl, HI.out.1, HI.out.2.1, hl2, fun _ => rfl⟩
end Go.Proofs.YtgckohmppefibaaDoorX.Hz
