import Derived.Test.YtgckohmppefibaaDoorNgDoms
import Derived.Test.YtgckohmppefibaaDoorNgAdds
import Derived.Test.YtgckohmppefibaaDoorHzx8
import Derived.Test.YtgckohmppefibaaDoorHzx9
namespace Go.Proofs.YtgckohmppefibaaDoorX.Hz
open Go.RowKit Go.Proofs.YtgckohmppefibaaDoorW.PrintWords Go.Proofs.YtgckohmppefibaaDoorW.PrintLast Go.Proofs.YtgckohmppefibaaDoorW.PrintMore
attribute [local go_sem] max2_int min2_int max_two min_two max_three min_three max_four min_four
set_option linter.unusedVariables false
set_option linter.unusedSimpArgs false
attribute [local go_sem] Go.Proofs.YtgckohmppefibaaDoor.Hook.cell_two
theorem rowsI {w : World} {okd : Nat → Prop} {A : Option Addr} {D : List (List Int)} (h : Kd.F kInts w okd A D.length D) (hn : 0 < D.length) :
    ∃ b o, A = some ⟨b, o, none⟩ ∧ ∀ wy, Below w.heap.size w wy → ∀ j (hj : j < D.length), ∃ Aj cj, wy.cell? ⟨b, o + j, none⟩ = some (.slice Aj D[j].length cj) ∧ Go.Proofs.YtgckohmppefibaaDoor.Rd wy (.slice Aj D[j].length cj) D[j] ∧ Kd.FK kInts wy (fun k => okd k ∧ k < w.heap.size) D[j] [.slice Aj D[j].length cj] := by
  have h2 := Kd.F_bound h
  have main : ∀ wy, Below w.heap.size w wy → ∀ j (hj : j < D.length), ∃ ad Aj cj, A = some ad ∧ wy.cell? (ad.add j) = some (.slice Aj D[j].length cj) ∧ Go.Proofs.YtgckohmppefibaaDoor.Rd wy (.slice Aj D[j].length cj) D[j] ∧ Kd.FK kInts wy (fun k => okd k ∧ k < w.heap.size) D[j] [.slice Aj D[j].length cj] := by
    intro wy hb j hj
    obtain ⟨ad, c, e, hcl, hK, hcc, _⟩ := Kd.F_get (Kd.F_below h2 hb) [] (j : Int) (by omega) (by omega)
    simp only [Int.toNat_natCast] at hK hcc
    have ej : D.getD j [] = D[j] := by rw [List.getD_eq_getElem?_getD, List.getElem?_eq_getElem hj]; rfl
    rw [ej] at hK
    obtain ⟨Aj, nj, cj, rfl, hR⟩ := Kd.FK_now hK
    obtain ⟨_, hnj, _⟩ := ints_reads hR
    subst hnj
    have h3 := hcc 0 _ rfl
    have e : j * kInts.sz + 0 = j := Nat.mul_one j
    rw [e] at h3
    exact ⟨ad, Aj, cj, by assumption, h3, hR, hK⟩
  obtain ⟨ad, A0, c0, e, h0, _, _⟩ := main w (Below.refl _ _) 0 hn
  obtain ⟨b, o, sp⟩ := ad
  have hsp : sp = none := by
    cases sp with
    | none => rfl
    | some x =>
      exfalso
      simp only [World.cell?, Addr.add] at h0
      simp at h0
      split at h0 <;> cases h0
  subst hsp
  have e9 : ∀ m, (⟨b, o, none⟩ : Addr).add m = ⟨b, o + m, none⟩ := by intro m; unfold Addr.add; split <;> simp_all
  refine ⟨b, o, e, fun wy hb j hj => ?_⟩
  obtain ⟨ad, Aj, cj, e2, h1, h3, h4⟩ := main wy hb j hj
  rw [e] at e2
  cases e2
  rw [e9] at h1
  exact ⟨Aj, cj, h1, h3, h4⟩
/-- What the document leaves of domains by one nogood. -/
def lv (D : List (List Int)) (P : List (Int × Int)) : Option (List (List Int)) :=
  if (openL D (P.map un29) (0, 0) 0).2.2 = 0 then none else if (openL D (P.map un29) (0, 0) 0).2.2 = 1 then some (D.set (openL D (P.map un29) (0, 0) 0).1.toNat ((D.getD (openL D (P.map un29) (0, 0) 0).1.toNat []).filter fun u => !decide (u = (openL D (P.map un29) (0, 0) 0).2.1))) else some D
/-- What a call that leaves something of lists leaves. -/
def LP (okd : Nat → Prop) (o : Option (List (List Int))) (w : World) (e : Ending) (w' : World) : Prop :=
  Below w.heap.size w w' ∧ match o with
    | none => e = .returned (.tuple #[.slice none 0 0, .bool false])
    | some D2 => ∃ A' c', e = .returned (.tuple #[.slice A' D2.length c', .bool true]) ∧ D2.length ≤ c' ∧ Kd.F kInts w' (fun k => okd k ∨ w.heap.size ≤ k) A' D2.length D2
theorem LP.same {okd : Nat → Prop} {A : Option Addr} {c : Nat} {D : List (List Int)} {w w' : World} (hD : Kd.F kInts w okd A D.length D) (hc : D.length ≤ c) (hb : Below w.heap.size w w') : LP okd (some D) w (.returned (.tuple #[.slice A D.length c, .bool true])) w' :=
  ⟨hb, A, c, rfl, hc, Kd.F_below (Kd.F_mono hD (fun k hk => .inl hk)) hb⟩
theorem rdL13 (a : List (List Int)) (i : Nat) (h : i < a.length) : rd_L13 a (i : Int) = a[i] := by
  unfold rd_L13
  rw [Int.toNat_natCast, List.getD_eq_getElem?_getD, List.getElem?_eq_getElem h]; rfl
theorem rdI (a : List Int) (i : Nat) (h : i < a.length) : rd a (i : Int) = a[i] := by
  unfold rd
  rw [Int.toNat_natCast, List.getD_eq_getElem?_getD, List.getElem?_eq_getElem h]; rfl
/-- All nogoods once, by the document. -/
def lvAll : List (List (Int × Int)) → List (List Int) → Option (List (List Int))
  | [], D => some D
  | P :: L, D => match lv D P with
    | none => none
    | some D2 => lvAll L D2
theorem passL_lv : ∀ (L : List (List (Int × Int))) (D : List (List Int)) (ch : Bool), ((passL (L.map (List.map un29)) D ch).2.1 = true ↔ (lvAll L D).isSome = true) ∧ ((passL (L.map (List.map un29)) D ch).2.1 = true → lvAll L D = some (passL (L.map (List.map un29)) D ch).2.2)
  | [], D, ch => ⟨⟨fun _ => rfl, fun _ => rfl⟩, fun _ => rfl⟩
  | P :: L, D, ch => by
    rw [List.map_cons]
    unfold passL lvAll lv
    by_cases h0 : (openL D (P.map un29) (0, 0) 0).2.2 = 0
    · rw [if_pos h0, if_pos h0]
      exact ⟨⟨fun h => (by cases h), fun h => (by cases h)⟩, fun h => (by cases h)⟩
    · rw [if_neg h0, if_neg h0]
      by_cases h1 : (openL D (P.map un29) (0, 0) 0).2.2 = 1
      · rw [if_pos h1, if_pos h1]
        exact passL_lv L _ true
      · rw [if_neg h1, if_neg h1]
        exact passL_lv L D ch
/-- The document's rounds. -/
def filtR : Nat → List (List (Int × Int)) → List (List Int) → Option (List (List Int))
  | 0, _, _ => none
  | k + 1, L, D => match lvAll L D with
    | none => none
    | some D2 => if D = D2 then some D2 else filtR k L D2
theorem pass_same : ∀ (L : List (List S29)) (D : List (List Int)) (ch : Bool), (passL L D ch).2.1 = true → (passL L D ch).1 = false → (passL L D ch).2.2 = D
  | [], D, ch, _, _ => rfl
  | n :: L, D, ch, h, hc => by
    unfold passL at h hc ⊢
    by_cases h0 : (openL D n (0, 0) 0).2.2 = 0
    · rw [if_pos h0] at h; cases h
    · by_cases h1 : (openL D n (0, 0) 0).2.2 = 1
      · rw [if_neg h0, if_pos h1] at h hc
        exfalso
        have mono : ∀ (L : List (List S29)) (D : List (List Int)), (passL L D true).2.1 = true → (passL L D true).1 = true := by
          intro L
          induction L with
          | nil => intro D _; rfl
          | cons m L ih =>
            intro D h
            unfold passL at h ⊢
            by_cases g0 : (openL D m (0, 0) 0).2.2 = 0
            · rw [if_pos g0] at h; cases h
            · by_cases g1 : (openL D m (0, 0) 0).2.2 = 1
              · rw [if_neg g0, if_pos g1] at h ⊢; exact ih _ h
              · rw [if_neg g0, if_neg g1] at h ⊢; exact ih _ h
        rw [mono L _ h] at hc
        cases hc
      · rw [if_neg h0, if_neg h1] at h hc ⊢
        exact pass_same L D ch h hc
theorem filtL_R : ∀ (k : Nat) (L : List (List (Int × Int))) (D : List (List Int)), filtL k (L.map (List.map un29)) D = filtR k L D
  | 0, _, _ => rfl
  | k + 1, L, D => by
    obtain ⟨p1, p2⟩ := passL_lv L D false
    unfold filtL filtR
    by_cases h1 : (passL (L.map (List.map un29)) D false).2.1 = true
    · rw [if_pos h1, p2 h1]
      simp only
      by_cases h2 : (passL (L.map (List.map un29)) D false).1 = true
      · rw [if_pos h2]
        have hne : ¬ D = (passL (L.map (List.map un29)) D false).2.2 := fun h => by
          obtain ⟨_, b, _⟩ := passL_total (L.map (List.map un29)) D false h1
          rcases b h2 with b | b
          · cases b
          · rw [← h] at b; omega
        rw [if_neg hne]
        exact filtL_R k L _
      · have h3 := pass_same (L.map (List.map un29)) D false h1 (by simpa using h2)
        rw [if_neg h2, if_pos h3.symm]
    · rw [if_neg h1]
      have : lvAll L D = none := by
        cases h : lvAll L D with
        | none => rfl
        | some x => exact absurd (p1.2 (by rw [h]; rfl)) h1
      rw [this]
theorem lvAll_less {L : List (List (Int × Int))} {D D2 : List (List Int)} (h : lvAll L D = some D2) (hne : ¬ D = D2) : total D2 < total D := by
  obtain ⟨p1, p2⟩ := passL_lv L D false
  have hok := p1.2 (by rw [h]; rfl)
  have e := p2 hok
  rw [h] at e
  have e2 := Option.some.inj e
  obtain ⟨t1, t2, _⟩ := passL_total (L.map (List.map un29)) D false hok
  cases hc : (passL (L.map (List.map un29)) D false).1 with
  | true =>
    rcases t2 hc with t2 | t2
    · cases t2
    · rw [e2]; exact t2
  | false => exact absurd (by rw [e2, pass_same _ _ _ hok hc]) hne
theorem F_C {w : World} {ok : Nat → Prop} {A : Option Addr} {D : List (List Int)} (h : Kd.F kInts w ok A D.length D) : Kd.C kInts w A D.length D := Kd.F_now h
/-- A row lies in a box. -/
structure InB (D : List (List Int)) (row : List Int) : Prop where
  len : row.length = D.length
  mem : ∀ i, i < D.length → row.getD i 0 ∈ D.getD i []
/-- Hasn't the row this pair? -/
def outR (row : List Int) (x : Int × Int) : Bool := decide (x.1 < 0) || (decide ((row.length : Int) ≤ x.1) || !decide (row.getD x.1.toNat 0 = x.2))
/-- Is no nogood all there? -/
def freeR (L : List (List (Int × Int))) (row : List Int) : Bool := L.all fun n => n.any (outR row)
theorem outR_sure {D : List (List Int)} {row : List Int} (h : InB D row) {x : Int × Int} (h1 : ¬ (x.1 < 0 ∨ (D.length : Int) ≤ x.1 ∨ x.2 ∉ D.getD x.1.toNat [])) (h2 : ¬ 1 < (D.getD x.1.toNat []).length) : outR row x = false := by
  obtain ⟨g1, g2⟩ := not_or.1 h1
  obtain ⟨g2, g3⟩ := not_or.1 g2
  have hm := h.mem x.1.toNat (by omega)
  have g4 : x.2 ∈ D.getD x.1.toNat [] := Classical.byContradiction g3
  have : row.getD x.1.toNat 0 = x.2 := by
    generalize D.getD x.1.toNat [] = l at hm g4 h2
    match l, h2 with
    | [], _ => cases g4
    | [a], _ => rw [List.mem_singleton.1 hm, List.mem_singleton.1 g4]
    | _ :: _ :: _, h2 => simp at h2
  unfold outR
  rw [decide_eq_false g1, decide_eq_false (by rw [h.len]; exact g2), decide_eq_true this]
  rfl
/-- What open says of a row in the box. -/
theorem open_row {D : List (List Int)} {row : List Int} (h : InB D row) : ∀ (n : List (Int × Int)) (a : Int × Int) (c : Nat),
    ((openL D (n.map un29) a c).2.2 = 0 → c = 0 ∧ ∀ x ∈ n, outR row x = false) ∧
    ((openL D (n.map un29) a c).2.2 = 1 → (c = 1 ∧ ((openL D (n.map un29) a c).1, (openL D (n.map un29) a c).2.1) = a ∧ ∀ x ∈ n, outR row x = false) ∨ (c = 0 ∧ ∃ x ∈ n, ((openL D (n.map un29) a c).1, (openL D (n.map un29) a c).2.1) = x ∧ 1 < (D.getD x.1.toNat []).length ∧ ∀ y ∈ n, y = x ∨ outR row y = false))
  | [], a, c => by
    show (((min c 2 : Nat) : Int) = 0 → _) ∧ (((min c 2 : Nat) : Int) = 1 → _)
    refine ⟨fun h0 => ⟨by omega, fun x hx => nomatch hx⟩, fun h1 => .inl ⟨by omega, rfl, fun x hx => nomatch hx⟩⟩
  | x :: n, a, c => by
    rw [List.map_cons]
    unfold openL
    by_cases h1 : x.1 < 0 ∨ (D.length : Int) ≤ x.1 ∨ x.2 ∉ D.getD x.1.toNat []
    · rw [if_pos (show (un29 x).f0 < 0 ∨ (D.length : Int) ≤ (un29 x).f0 ∨ (un29 x).f1 ∉ D.getD (un29 x).f0.toNat [] from h1)]
      exact ⟨fun h => (by cases h), fun h => (by cases h)⟩
    · rw [if_neg (show ¬ ((un29 x).f0 < 0 ∨ (D.length : Int) ≤ (un29 x).f0 ∨ (un29 x).f1 ∉ D.getD (un29 x).f0.toNat []) from h1)]
      by_cases h2 : 1 < (D.getD x.1.toNat []).length
      · rw [if_pos (show 1 < (D.getD (un29 x).f0.toNat []).length from h2)]
        obtain ⟨i0, i1⟩ := open_row h n ((un29 x).f0, (un29 x).f1) (c + 1)
        refine ⟨fun h0 => by have := (i0 h0).1; omega, fun h0 => ?_⟩
        rcases i1 h0 with ⟨e, e2, e3⟩ | ⟨e, _⟩
        · refine .inr ⟨by omega, x, List.mem_cons_self, by rw [e2]; rfl, h2, fun y hy => ?_⟩
          rcases List.mem_cons.1 hy with rfl | hy
          · exact .inl rfl
          · exact .inr (e3 y hy)
        · omega
      · rw [if_neg (show ¬ 1 < (D.getD (un29 x).f0.toNat []).length from h2)]
        have hs := outR_sure h h1 h2
        obtain ⟨i0, i1⟩ := open_row h n a c
        refine ⟨fun h0 => ⟨(i0 h0).1, fun y hy => ?_⟩, fun h0 => ?_⟩
        · rcases List.mem_cons.1 hy with rfl | hy
          · exact hs
          · exact (i0 h0).2 y hy
        · rcases i1 h0 with ⟨e, e2, e3⟩ | ⟨e, y, hy, e2, e3, e4⟩
          · refine .inl ⟨e, e2, fun y hy => ?_⟩
            rcases List.mem_cons.1 hy with rfl | hy
            · exact hs
            · exact e3 y hy
          · refine .inr ⟨e, y, List.mem_cons_of_mem _ hy, e2, e3, fun z hz => ?_⟩
            rcases List.mem_cons.1 hz with rfl | hz
            · exact .inr hs
            · exact e4 z hz
theorem lv_row {D : List (List Int)} {row : List Int} (h : InB D row) (n : List (Int × Int)) (hn : n.any (outR row) = true) : ∃ D2, lv D n = some D2 ∧ InB D2 row := by
  obtain ⟨x, hx, ho⟩ := List.any_eq_true.1 hn
  obtain ⟨i0, i1⟩ := open_row h n (0, 0) 0
  unfold lv
  by_cases h0 : (openL D (n.map un29) (0, 0) 0).2.2 = 0
  · have := (i0 h0).2 x hx
    rw [ho] at this; cases this
  · rw [if_neg h0]
    by_cases h1 : (openL D (n.map un29) (0, 0) 0).2.2 = 1
    · rw [if_pos h1]
      rcases i1 h1 with ⟨e, _⟩ | ⟨_, y, hy, e2, e3, e4⟩
      · cases e
      · have hxy : x = y := by
          rcases e4 x hx with h | h
          · exact h
          · rw [ho] at h; cases h
        subst hxy
        obtain ⟨p1, p2, _⟩ := openL_at D (n.map un29) (0, 0) 0 h1 (.inl rfl)
        generalize openL D (n.map un29) (0, 0) 0 = r at e2 p1 p2
        obtain ⟨r1, r2, r3⟩ := r
        simp only at e2 p1 p2 ⊢
        subst e2
        simp only at e3 ho
        refine ⟨_, rfl, by rw [List.length_set]; exact h.len, fun i hi => ?_⟩
        rw [List.length_set] at hi
        have hm := h.mem i hi
        by_cases hir : r1.toNat = i
        · subst hir
          rw [List.getD_eq_getElem?_getD (l := D.set _ _), List.getElem?_set_self hi, Option.getD_some, List.mem_filter]
          refine ⟨hm, ?_⟩
          have hne : ¬ row.getD r1.toNat 0 = r2 := by
            intro he
            unfold outR at ho
            simp only at ho
            have g : ¬ r1 < 0 ∧ ¬ (row.length : Int) ≤ r1 := by rw [h.len]; omega
            rw [decide_eq_false g.1, decide_eq_false g.2, decide_eq_true he] at ho
            cases ho
          rw [decide_eq_false hne]; rfl
        · rw [List.getD_eq_getElem?_getD (l := D.set _ _), List.getElem?_set_ne hir, ← List.getD_eq_getElem?_getD]
          exact hm
    · rw [if_neg h1]
      exact ⟨D, rfl, h⟩
theorem lvAll_row {row : List Int} : ∀ (L : List (List (Int × Int))) (D : List (List Int)), InB D row → freeR L row = true → ∃ D2, lvAll L D = some D2 ∧ InB D2 row
  | [], D, h, _ => ⟨D, rfl, h⟩
  | P :: L, D, h, hf => by
    unfold freeR at hf
    rw [List.all_cons, Bool.and_eq_true] at hf
    obtain ⟨D2, e, h2⟩ := lv_row h P hf.1
    obtain ⟨D3, e3, h3⟩ := lvAll_row L D2 h2 hf.2
    exact ⟨D3, by unfold lvAll; rw [e]; exact e3, h3⟩
theorem filtR_row {row : List Int} (L : List (List (Int × Int))) (hf : freeR L row = true) : ∀ (k : Nat) (D : List (List Int)), total D < k → InB D row → ∃ E, filtR k L D = some E ∧ InB E row
  | 0, _, h, _ => by omega
  | k + 1, D, hk, h => by
    obtain ⟨D2, e, h2⟩ := lvAll_row L D h hf
    unfold filtR
    rw [e]
    simp only
    by_cases hd : D = D2
    · rw [if_pos hd]; exact ⟨D2, rfl, h2⟩
    · rw [if_neg hd]
      have := lvAll_less e hd
      exact filtR_row L hf k D2 (by omega) h2
/-- Filtered again nothing changes. -/
theorem filtR_fix (L : List (List (Int × Int))) : ∀ (k : Nat) (D E : List (List Int)), filtR k L D = some E → lvAll L E = some E
  | 0, _, _, h => by cases h
  | k + 1, D, E, h => by
    unfold filtR at h
    cases hl : lvAll L D with
    | none => rw [hl] at h; cases h
    | some D2 =>
      rw [hl] at h
      simp only at h
      by_cases hd : D = D2
      · rw [if_pos hd] at h
        cases h
        rw [hd] at hl; exact hl
      · rw [if_neg hd] at h
        exact filtR_fix L k D2 E h
/-- No row of a box is empty, and none has a number twice. -/
def FullB (D : List (List Int)) : Prop := ∀ l ∈ D, l ≠ [] ∧ l.Nodup
theorem lv_full {D D2 : List (List Int)} (h : FullB D) (n : List (Int × Int)) (e : lv D n = some D2) : FullB D2 := by
  unfold lv at e
  by_cases h0 : (openL D (n.map un29) (0, 0) 0).2.2 = 0
  · rw [if_pos h0] at e; cases e
  · rw [if_neg h0] at e
    by_cases h1 : (openL D (n.map un29) (0, 0) 0).2.2 = 1
    · rw [if_pos h1] at e
      obtain ⟨a1, a2, a3⟩ := openL_at D (n.map un29) (0, 0) 0 h1 (.inl rfl)
      have a4 : 1 < (D.getD (openL D (n.map un29) (0, 0) 0).1.toNat []).length := by
        have key : ∀ (n : List S29) (a : Int × Int) (c : Nat), (openL D n a c).2.2 = 1 → (c = 0 ∨ 1 < (D.getD a.1.toNat []).length) → 1 < (D.getD (openL D n a c).1.toNat []).length := by
          intro n
          induction n with
          | nil => intro a c h ha; unfold openL at h ⊢; simp only at h ⊢; rcases ha with rfl | ha; · exact absurd h (by decide)
                   · exact ha
          | cons x l ih =>
            intro a c h ha
            unfold openL at h ⊢
            by_cases g1 : x.f0 < 0 ∨ (D.length : Int) ≤ x.f0 ∨ x.f1 ∉ D.getD x.f0.toNat []
            · rw [if_pos g1] at h; exact absurd h (by decide)
            · rw [if_neg g1] at h ⊢
              by_cases g2 : 1 < (D.getD x.f0.toNat []).length
              · rw [if_pos g2] at h ⊢; exact ih _ _ h (.inr g2)
              · rw [if_neg g2] at h ⊢; exact ih _ _ h ha
        exact key _ _ _ h1 (.inl rfl)
      generalize openL D (n.map un29) (0, 0) 0 = r at e a1 a2 a3 a4
      cases e
      intro l hl
      rcases List.mem_or_eq_of_mem_set hl with hl | rfl
      · exact h l hl
      · have hj : r.1.toNat < D.length := by omega
        have hg : D.getD r.1.toNat [] ∈ D := by rw [List.getD_eq_getElem?_getD, List.getElem?_eq_getElem hj]; exact List.getElem_mem hj
        have hq := h _ hg
        generalize D.getD r.1.toNat [] = l at a3 a4 hq
        refine ⟨fun he => ?_, hq.2.filter _⟩
        match l, a4, hq.2, he with
        | x :: y :: t, _, hn, he =>
          rw [List.filter_eq_nil_iff] at he
          have e1 := he x List.mem_cons_self
          have e2 := he y (List.mem_cons_of_mem _ List.mem_cons_self)
          simp at e1 e2
          have := (List.nodup_cons.1 hn).1
          exact this (by rw [e1, e2]; exact List.mem_cons_self)
        | [], h, _, _ => simp at h
        | [_], h, _, _ => simp at h
    · rw [if_neg h1] at e; cases e; exact h
theorem lvAll_full : ∀ (L : List (List (Int × Int))) (D D2 : List (List Int)), FullB D → lvAll L D = some D2 → FullB D2
  | [], D, D2, h, e => by cases e; exact h
  | P :: L, D, D2, h, e => by
    unfold lvAll at e
    cases hl : lv D P with
    | none => rw [hl] at e; cases e
    | some D3 => rw [hl] at e; exact lvAll_full L D3 D2 (lv_full h P hl) e
theorem filtR_full (L : List (List (Int × Int))) : ∀ (k : Nat) (D E : List (List Int)), FullB D → filtR k L D = some E → FullB E
  | 0, _, _, _, h => by cases h
  | k + 1, D, E, hD, h => by
    unfold filtR at h
    cases hl : lvAll L D with
    | none => rw [hl] at h; cases h
    | some D2 =>
      rw [hl] at h
      simp only at h
      have h2 := lvAll_full L D D2 hD hl
      by_cases hd : D = D2
      · rw [if_pos hd] at h; cases h; exact h2
      · rw [if_neg hd] at h; exact filtR_full L k D2 E h2 h
/-- What Filter leaves, plainly. -/
def fR (L : List (List (Int × Int))) (D : List (List Int)) : Option (List (List Int)) := if D.any (fun x => x.isEmpty) = true then none else filtR (total D + 1) L D
theorem full_any {D : List (List Int)} (h : FullB D) : D.any (fun x => x.isEmpty) = false := by
  cases ha : D.any (fun x => x.isEmpty) with
  | false => rfl
  | true =>
    obtain ⟨x, hx, he⟩ := List.any_eq_true.1 ha
    exact absurd (List.isEmpty_iff.1 he) (h x hx).1
theorem full_of {D : List (List Int)} (hn : ∀ l ∈ D, l.Nodup) (h : D.any (fun x => x.isEmpty) = false) : FullB D := fun l hl => ⟨fun he => by
  rw [List.any_eq_false] at h
  exact h l hl (by rw [he]; rfl), hn l hl⟩
theorem fR_again {L : List (List (Int × Int))} {D E : List (List Int)} (hn : ∀ l ∈ D, l.Nodup) (h : fR L D = some E) : fR L E = some E ∧ FullB E := by
  unfold fR at h
  split at h
  · cases h
  · rename_i ha
    have hE := filtR_full L _ D E (full_of hn (Bool.eq_false_iff.2 ha)) h
    refine ⟨?_, hE⟩
    unfold fR
    rw [full_any hE, if_neg (by decide)]
    unfold filtR
    rw [filtR_fix L _ D E h]
    simp
theorem fR_row {L : List (List (Int × Int))} {D : List (List Int)} {row : List Int} (h : InB D row) (hf : freeR L row = true) : ∃ E, fR L D = some E ∧ InB E row := by
  unfold fR
  have ha : D.any (fun x => x.isEmpty) = false := by
    rw [List.any_eq_false]
    intro x hx he
    obtain ⟨i, hi, rfl⟩ := List.getElem_of_mem hx
    have := h.mem i hi
    rw [List.getD_eq_getElem?_getD (l := D), List.getElem?_eq_getElem hi, Option.getD_some, List.isEmpty_iff.1 he] at this
    cases this
  rw [ha, if_neg (by decide)]
  exact filtR_row L hf _ D (Nat.lt_succ_self _) h
theorem lv_one (row : List Int) (n : List (Int × Int)) : lv (row.map fun x => [x]) n = if n.any (outR row) = true then some (row.map fun x => [x]) else none := by
  have hg : ∀ v : Int, 0 ≤ v → v < row.length → (row.map fun x => [x]).getD v.toNat [] = [row.getD v.toNat 0] := by
    intro v h0 h1
    have hj : v.toNat < row.length := by omega
    rw [List.getD_eq_getElem?_getD, List.getElem?_map, List.getElem?_eq_getElem hj, List.getD_eq_getElem?_getD, List.getElem?_eq_getElem hj]
    rfl
  have key : ∀ n : List (Int × Int), (openL (row.map fun x => [x]) (n.map un29) (0, 0) 0).2.2 = if n.any (outR row) = true then 2 else 0 := by
    intro n
    induction n with
    | nil => rfl
    | cons x n ih =>
      rw [List.map_cons, List.any_cons]
      unfold openL
      by_cases h1 : x.1 < 0 ∨ (row.length : Int) ≤ x.1 ∨ x.2 ∉ (row.map fun x => [x]).getD x.1.toNat []
      · rw [if_pos (by rw [List.length_map]; exact h1)]
        have : outR row x = true := by
          unfold outR
          rcases h1 with h1 | h1 | h1
          · rw [decide_eq_true h1]; rfl
          · rw [decide_eq_true h1]; simp
          · by_cases g0 : x.1 < 0
            · rw [decide_eq_true g0]; rfl
            · by_cases g1 : (row.length : Int) ≤ x.1
              · rw [decide_eq_true g1]; simp
              · rw [hg x.1 (by omega) (by omega), List.mem_singleton] at h1
                rw [decide_eq_false (p := row.getD x.1.toNat 0 = x.2) (fun h => h1 h.symm)]; simp
        rw [this]; rfl
      · rw [if_neg (by rw [List.length_map]; exact h1)]
        obtain ⟨g1, g2⟩ := not_or.1 h1
        obtain ⟨g2, g3⟩ := not_or.1 g2
        have g4 := hg x.1 (by omega) (by omega)
        rw [if_neg (by show ¬ 1 < ((row.map fun x => [x]).getD x.1.toNat []).length; rw [g4]; simp), ih]
        have : outR row x = false := by
          unfold outR
          rw [g4] at g3
          rw [decide_eq_false g1, decide_eq_false g2, decide_eq_true (by have := Classical.byContradiction g3; exact (List.mem_singleton.1 this).symm)]
          rfl
        rw [this, Bool.false_or]
  unfold lv
  rw [key n]
  by_cases hn : n.any (outR row) = true
  · rw [if_pos hn, if_pos hn, if_neg (by decide), if_neg (by decide)]
  · rw [if_neg hn, if_neg hn, if_pos rfl]
theorem lvAll_one (row : List Int) : ∀ L : List (List (Int × Int)), lvAll L (row.map fun x => [x]) = if freeR L row = true then some (row.map fun x => [x]) else none
  | [] => rfl
  | P :: L => by
    unfold lvAll
    rw [lv_one]
    unfold freeR
    rw [List.all_cons]
    by_cases hn : P.any (outR row) = true
    · rw [if_pos hn, hn, Bool.true_and]
      exact lvAll_one row L
    · rw [if_neg hn, if_neg (by rw [Bool.and_eq_true]; exact fun h => hn h.1)]
/-- Of fixed values it is told true just if no nogood is all there. -/
theorem fR_one (row : List Int) (L : List (List (Int × Int))) : fR L (row.map fun x => [x]) = if freeR L row = true then some (row.map fun x => [x]) else none := by
  unfold fR
  rw [if_neg (by rw [List.any_map]; simp)]
  unfold filtR
  rw [lvAll_one]
  by_cases hf : freeR L row = true
  · rw [if_pos hf]; simp
  · rw [if_neg hf]
theorem filt_fR (L : List (List (Int × Int))) (D : List (List Int)) : filt (L.map (List.map un29)) D = fR L D := by
  unfold filt fR
  rw [filtL_R]
/-- Something to be appended: its cells (0), a slice of it alone (1), appended (2). -/
def TX {γ : Type} (d : Kd γ) (W : World) (okF : Nat → Prop) (x : γ) (cs : List Value) : Nat → Option Addr → Prop
  | 0, _ => Kd.FK d W okF x cs
  | 1, A => Kd.F d W okF A 1 [x]
  | _, _ => True
theorem TX.step {γ : Type} {d : Kd γ} {W w1 : World} {okF : Nat → Prop} {x : γ} {cs : List Value} (hm : ∀ k, okF k → k < W.heap.size → w1.heap[k]? = W.heap[k]?) : ∀ {n : Nat} {A : Option Addr}, TX d W okF x cs n A → TX d w1 okF x cs n A
  | 0, _, h => Kd.FK_step h hm
  | 1, _, h => Kd.F_step h hm
  | _ + 2, _, _ => trivial
/-- Two rows of the call's own, apart, what is to be appended to each, and a block beside them. -/
structure TS {α β : Type} (da : Kd α) (ea : Nat) (db : Kd β) (eb : Nat) (bx : Nat) (ob : Obj) (x : α) (csx : List Value) (y : β) (csy : List Value) (w0 W : World) (xa : List α) (xb : List β) (va vb : Value) (okA okB okF okG : Nat → Prop) (nx : Nat) (Ax : Option Addr) (ny : Nat) (Ay : Option Addr) : Prop where
  below : Below w0.heap.size w0 W
  a : Kd.N da ea W w0.heap.size okA va xa
  b : Kd.N db eb W w0.heap.size okB vb xb
  ap : ∀ k, okA k → ¬ okB k
  bA : ∀ k, okA k → k < W.heap.size
  bB : ∀ k, okB k → k < W.heap.size
  blk : W.heap[bx]? = some ob
  nA : ¬ okA bx
  nB : ¬ okB bx
  X : TX da W okF x csx nx Ax
  Y : TX db W okG y csy ny Ay
  fA : ∀ k, okF k → ¬ okA k
  fB : ∀ k, okF k → ¬ okB k
  gA : ∀ k, okG k → ¬ okA k
  gB : ∀ k, okG k → ¬ okB k
  fg : ∀ k, okF k → ¬ okG k
  bF : ∀ k, okF k → k < W.heap.size
  bG : ∀ k, okG k → k < W.heap.size
  nF : ¬ okF bx
  nG : ¬ okG bx
section
variable {α β : Type} {da : Kd α} {ea : Nat} {db : Kd β} {eb : Nat} {bx : Nat} {ob : Obj} {x : α} {csx : List Value} {y : β} {csy : List Value} {w0 W w1 : World} {xa : List α} {xb : List β} {va vb va' : Value} {okA okB okF okG : Nat → Prop} {nx : Nat} {Ax : Option Addr} {ny : Nat} {Ay : Option Addr}
theorem TS.swap (h : TS da ea db eb bx ob x csx y csy w0 W xa xb va vb okA okB okF okG nx Ax ny Ay) : TS db eb da ea bx ob y csy x csx w0 W xb xa vb va okB okA okG okF ny Ay nx Ax :=
  ⟨h.below, h.b, h.a, fun k hb ha => h.ap k ha hb, h.bB, h.bA, h.blk, h.nB, h.nA, h.Y, h.X, h.gB, h.gA, h.fB, h.fA, fun k hg hf => h.fg k hf hg, h.bG, h.bF, h.nG, h.nF⟩
theorem addAt (b o m : Nat) : (⟨b, o, none⟩ : Addr).add m = ⟨b, o + m, none⟩ := by unfold Addr.add; split <;> simp_all
theorem F_one {γ : Type} {d : Kd γ} {W : World} {okF : Nat → Prop} {x : γ} {cs : List Value} (h : Kd.FK d W okF x cs) (hb : ∀ k, okF k → k < W.heap.size) (e : Nat) : Kd.F d (W.alloc (.cells cs.toArray e (0, 0))) (fun k => okF k ∨ k = W.heap.size) (some ⟨W.heap.size, 0, none⟩) 1 [x] := by
  intro W' hW
  have hg : W'.heap[W.heap.size]? = some (.cells cs.toArray e (0, 0)) := (hW _ (.inr rfl) (by simp)).trans (blk_new W _)
  have hK : d.K W' x cs := h W' (fun k hk hlt => (hW k (.inl hk) (by simp; omega)).trans ((below_alloc (Below.refl _ _) _).block k hlt))
  refine ⟨rfl, by decide, fun _ => ⟨_, rfl, fun j p hj => ?_⟩⟩
  match j, hj with
  | 0, hj =>
    cases hj
    refine ⟨cs, d.K_len hK, hK, fun i u hu => ?_⟩
    rw [addAt, blk_cell hg]
    simpa using hu
  | j + 1, hj => simp at hj
theorem TS.buildX (h : TS da ea db eb bx ob x csx y csy w0 W xa xb va vb okA okB okF okG 0 Ax ny Ay) (e : Nat) : TS da ea db eb bx ob x csx y csy w0 (W.alloc (.cells csx.toArray e (0, 0))) xa xb va vb okA okB (fun k => okF k ∨ k = W.heap.size) okG 1 (some ⟨W.heap.size, 0, none⟩) ny Ay := by
  have hb : Below W.heap.size W (W.alloc (.cells csx.toArray e (0, 0))) := below_alloc (Below.refl _ _) _
  have hs := hb.size
  have hbx := blk_lt h.blk
  refine ⟨below_alloc h.below _, Kd.N_below h.a hb, Kd.N_below h.b hb, h.ap, fun k hk => Nat.lt_of_lt_of_le (h.bA k hk) hs, fun k hk => Nat.lt_of_lt_of_le (h.bB k hk) hs, (hb.block bx hbx).trans h.blk, h.nA, h.nB, F_one h.X h.bF e, TX.step (fun k _ hlt => hb.block k hlt) h.Y, ?_, ?_, h.gA, h.gB, ?_, ?_, fun k hk => Nat.lt_of_lt_of_le (h.bG k hk) hs, ?_, h.nG⟩
  · rintro k (hk | rfl)
    · exact h.fA k hk
    · exact fun hc => absurd (h.bA _ hc) (Nat.lt_irrefl _)
  · rintro k (hk | rfl)
    · exact h.fB k hk
    · exact fun hc => absurd (h.bB _ hc) (Nat.lt_irrefl _)
  · rintro k (hk | rfl)
    · exact h.fg k hk
    · exact fun hc => absurd (h.bG _ hc) (Nat.lt_irrefl _)
  · rintro k (hk | rfl)
    · exact Nat.lt_of_lt_of_le (h.bF k hk) hs
    · simp
  · rintro (hk | hk)
    · exact h.nF hk
    · omega
theorem TS.buildY (h : TS da ea db eb bx ob x csx y csy w0 W xa xb va vb okA okB okF okG nx Ax 0 Ay) (e : Nat) : TS da ea db eb bx ob x csx y csy w0 (W.alloc (.cells csy.toArray e (0, 0))) xa xb va vb okA okB okF (fun k => okG k ∨ k = W.heap.size) nx Ax 1 (some ⟨W.heap.size, 0, none⟩) := (h.swap.buildX e).swap
/-- The row's blocks behind an append. -/
def okN (W : World) (okA okF : Nat → Prop) (k : Nat) : Prop := okA k ∨ okF k ∨ W.heap.size ≤ k
theorem TS.okp (h : TS da ea db eb bx ob x csx y csy w0 W xa xb va vb okA okB okF okG nx Ax ny Ay) : ∀ k, okF k → okN W okA okF k ∧ some k ≠ va.ownBlock := fun k hk => ⟨.inr (.inl hk), fun he => h.fA k hk (h.a.1 k he.symm)⟩
theorem TS.appX (h : TS da ea db eb bx ob x csx y csy w0 W xa xb va vb okA okB okF okG 1 Ax ny Ay) (hn : Kd.N da ea w1 w0.heap.size (okN W okA okF) va' (xa ++ [x])) (hb : Below w0.heap.size W w1) (hg : W.grownBy w1 va.ownBlock) :
    TS da ea db eb bx ob x csx y csy w0 w1 (xa ++ [x]) xb va' vb (fun k => okN W okA okF k ∧ k < w1.heap.size) okB (fun _ => False) okG 2 none ny Ay := by
  have hs := hb.size
  have hbx := blk_lt h.blk
  have hva : ∀ k, ¬ okA k → some k ≠ va.ownBlock := fun k hk he => hk (h.a.1 k he.symm)
  refine ⟨h.below.trans hb, Kd.N_bound hn, Kd.N_step h.b (fun k hk hlt => hg.block k hlt (hva k (fun ha => h.ap k ha hk))), ?_, fun k hk => hk.2, fun k hk => Nat.lt_of_lt_of_le (h.bB k hk) hs, (hg.block bx hbx (hva bx h.nA)).trans h.blk, ?_, h.nB, trivial, TX.step (fun k hk hlt => hg.block k hlt (hva k (h.gA k hk))) h.Y, fun _ hk => hk.elim, fun _ hk => hk.elim, ?_, h.gB, fun _ hk => hk.elim, fun _ hk => hk.elim, fun k hk => Nat.lt_of_lt_of_le (h.bG k hk) hs, fun hk => hk, h.nG⟩
  · rintro k ⟨hk | hk | hk, _⟩ hB
    · exact h.ap k hk hB
    · exact h.fB k hk hB
    · have := h.bB k hB; omega
  · rintro ⟨hk | hk | hk, _⟩
    · exact h.nA hk
    · exact h.nF hk
    · omega
  · rintro k hG ⟨hk | hk | hk, _⟩
    · exact h.gA k hG hk
    · exact h.fg k hk hG
    · have := h.bG k hG; omega
theorem TS.appY {vb' : Value} (h : TS da ea db eb bx ob x csx y csy w0 W xa xb va vb okA okB okF okG nx Ax 1 Ay) (hn : Kd.N db eb w1 w0.heap.size (okN W okB okG) vb' (xb ++ [y])) (hb : Below w0.heap.size W w1) (hg : W.grownBy w1 vb.ownBlock) :
    TS da ea db eb bx ob x csx y csy w0 w1 xa (xb ++ [y]) va vb' okA (fun k => okN W okB okG k ∧ k < w1.heap.size) okF (fun _ => False) nx Ax 2 none := (h.swap.appX hn hb hg).swap
end
/-- Two rows of the call's own, apart. -/
structure T2 {α β : Type} (da : Kd α) (ea : Nat) (db : Kd β) (eb : Nat) (w0 W : World) (xa : List α) (xb : List β) (va vb : Value) (okA okB : Nat → Prop) : Prop where
  below : Below w0.heap.size w0 W
  a : Kd.N da ea W w0.heap.size okA va xa
  b : Kd.N db eb W w0.heap.size okB vb xb
  ap : ∀ k, okA k → ¬ okB k
  bA : ∀ k, okA k → k < W.heap.size
  bB : ∀ k, okB k → k < W.heap.size
theorem T2.start {α β : Type} (da : Kd α) (ea : Nat) (db : Kd β) (eb : Nat) (w : World) : T2 da ea db eb w w [] [] (.slice none 0 0) (.slice none 0 0) (fun _ => False) (fun _ => False) := ⟨Below.refl _ _, Kd.N_nil _ _ _ _ _, Kd.N_nil _ _ _ _ _, fun _ h => h.elim, fun _ h => h.elim, fun _ h => h.elim⟩
section
variable {α β : Type} {da : Kd α} {ea : Nat} {db : Kd β} {eb : Nat} {bx : Nat} {ob : Obj} {x : α} {csx : List Value} {y : β} {csy : List Value} {w0 W w1 : World} {xa : List α} {xb : List β} {va vb : Value} {okA okB okF okG : Nat → Prop}
theorem T2.toTS (h : T2 da ea db eb w0 W xa xb va vb okA okB) (hb : Below W.heap.size W w1) (hbx : w1.heap[bx]? = some ob) (hle : W.heap.size ≤ bx) (hX : Kd.FK da w1 okF x csx) (hF : ∀ k, okF k → W.heap.size ≤ k ∧ k < w1.heap.size ∧ k ≠ bx) (hY : Kd.FK db w1 (fun _ => False) y csy) :
    TS da ea db eb bx ob x csx y csy w0 w1 xa xb va vb okA okB okF (fun _ => False) 0 none 0 none :=
  ⟨h.below.trans (hb.mono h.below.size), Kd.N_below h.a hb, Kd.N_below h.b hb, h.ap, fun k hk => Nat.lt_of_lt_of_le (h.bA k hk) hb.size, fun k hk => Nat.lt_of_lt_of_le (h.bB k hk) hb.size, hbx, fun hk => by have := h.bA _ hk; omega, fun hk => by have := h.bB _ hk; omega, hX, hY, fun k hk ha => by have := h.bA _ ha; have := (hF k hk).1; omega, fun k hk ha => by have := h.bB _ ha; have := (hF k hk).1; omega, fun _ h => h.elim, fun _ h => h.elim, fun _ _ h => h, fun k hk => (hF k hk).2.1, fun _ h => h.elim, fun hk => (hF _ hk).2.2 rfl, fun h => h⟩
theorem TS.toT2 {nx ny : Nat} {Ax Ay : Option Addr} (h : TS da ea db eb bx ob x csx y csy w0 W xa xb va vb okA okB okF okG nx Ax ny Ay) : T2 da ea db eb w0 W xa xb va vb okA okB := ⟨h.below, h.a, h.b, h.ap, h.bA, h.bB⟩
end
section
variable {α β : Type} {da : Kd α} {ea : Nat} {db : Kd β} {eb : Nat} {bx : Nat} {ob : Obj} {x : α} {csx : List Value} {y : β} {csy : List Value} {w0 W w1 : World} {xa : List α} {xb : List β} {va vb : Value} {okA okB okF okG : Nat → Prop} {nx ny : Nat} {Ax Ay : Option Addr}
theorem TS.step (h : TS da ea db eb bx ob x csx y csy w0 W xa xb va vb okA okB okF okG nx Ax ny Ay) (hb : Below W.heap.size W w1) : TS da ea db eb bx ob x csx y csy w0 w1 xa xb va vb okA okB okF okG nx Ax ny Ay :=
  ⟨h.below.trans (hb.mono h.below.size), Kd.N_below h.a hb, Kd.N_below h.b hb, h.ap, fun k hk => Nat.lt_of_lt_of_le (h.bA k hk) hb.size, fun k hk => Nat.lt_of_lt_of_le (h.bB k hk) hb.size, (hb.block bx (blk_lt h.blk)).trans h.blk, h.nA, h.nB, TX.step (fun k _ hlt => hb.block k hlt) h.X, TX.step (fun k _ hlt => hb.block k hlt) h.Y, h.fA, h.fB, h.gA, h.gB, h.fg, fun k hk => Nat.lt_of_lt_of_le (h.bF k hk) hb.size, fun k hk => Nat.lt_of_lt_of_le (h.bG k hk) hb.size, h.nF, h.nG⟩
theorem TS.drew (h : TS da ea db eb bx ob x csx y csy w0 W xa xb va vb okA okB okF okG nx Ax ny Ay) : TS da ea db eb bx ob x csx y csy w0 W.drew xa xb va vb okA okB okF okG nx Ax ny Ay := h.step (below_drew (Below.refl _ _))
theorem TS.atX (h : TS da ea db eb bx ob x csx y csy w0 W xa xb va vb okA okB okF okG 1 Ax ny Ay) : Kd.F da W okF Ax 1 [x] := h.X
theorem TS.atY (h : TS da ea db eb bx ob x csx y csy w0 W xa xb va vb okA okB okF okG nx Ax 1 Ay) : Kd.F db W okG Ay 1 [y] := h.Y
theorem TS.okq (h : TS da ea db eb bx ob x csx y csy w0 W xa xb va vb okA okB okF okG nx Ax ny Ay) : ∀ k, okG k → okN W okB okG k ∧ some k ≠ vb.ownBlock := h.swap.okp
theorem TS.cells {a0 a1 a2 a3 a4 : Value} {t : Nat} {b p : Nat} {v : Value} (h : TS da ea db eb bx (.cells #[a0, a1, a2, a3, a4] t (0, 0)) x csx y csy w0 W xa xb va vb okA okB okF okG nx Ax ny Ay) (hc : w0.cell? ⟨b, p, none⟩ = some v) :
    W.cell? ⟨bx, 0, none⟩ = some a0 ∧ W.cell? ⟨bx, 1, none⟩ = some a1 ∧ W.cell? ⟨bx, 2, none⟩ = some a2 ∧ W.cell? ⟨bx, 3, none⟩ = some a3 ∧ W.cell? ⟨bx, 4, none⟩ = some a4 ∧ W.cell? ⟨b, p, none⟩ = some v :=
  ⟨blk_cell h.blk 0, blk_cell h.blk 1, blk_cell h.blk 2, blk_cell h.blk 3, blk_cell h.blk 4, (h.below.cell (p := ⟨b, p, none⟩) (World.block_lt_of_cell? _ _ hc)).trans hc⟩
end
theorem wr64 (x : Int) (h : -9000000000000000000 ≤ x) (h2 : x ≤ 9000000000000000000) : wrap64 x = x := by unfold wrap64; omega
theorem prod_l2 (D : List (List Int)) (hl : D.length ≤ 1000) (hx : ∀ x ∈ D, x.length ≤ 1000) (hne : ∀ x ∈ D, x ≠ []) (n : Int) (x7 : List (List Int)) (h7 : x7.length < 5864062014805) (x8 : Int) : ∀ (j : Nat) (x9 : List Int) (x10 : Int), j ≤ D.length → x9.length = D.length → 0 ≤ x10 → x10 ≤ 2000 → (∀ i, j ≤ i → i < D.length → x9.getD i 0 ∈ D.getD i []) →
    ∃ row, InB D row ∧ ∀ k, jigsawref09_Product.l2 (k + j + 1) D n x7 x8 x9 x10 ((j : Int) - 1) = jigsawref09_Product.l1 k D n (x7 ++ [row]) (wrap64 (x8 + 1))
  | 0, x9, x10, _, h9, h0, h1, hm => ⟨x9, ⟨h9, fun i hi => hm i (Nat.zero_le _) hi⟩, fun k => by
    conv => { lhs; unfold jigsawref09_Product.l2 }
    rw [if_neg (by omega), if_pos h7]⟩
  | j + 1, x9, x10, hj, h9, h0, h1, hm => by
    have hjl : j < D.length := by omega
    have hr := rdL13 D j hjl
    have hp : 0 < D[j].length := List.length_pos_iff.2 (hne _ (List.getElem_mem hjl))
    have e0 := Int.tmod_nonneg (a := x10) (D[j].length : Int) h0
    have e1 := Int.tmod_lt_of_pos x10 (b := (D[j].length : Int)) (by omega)
    have e2 : Int.tdiv x10 (D[j].length : Int) = x10 / (D[j].length : Int) := Int.tdiv_eq_ediv_of_nonneg h0
    have e3 : 0 ≤ x10 / (D[j].length : Int) := Int.ediv_nonneg h0 (by omega)
    have e4 : x10 / (D[j].length : Int) ≤ x10 := Int.ediv_le_self _ h0
    obtain ⟨m, hm1⟩ : ∃ m : Nat, Int.tmod x10 (D[j].length : Int) = (m : Int) := ⟨(Int.tmod x10 (D[j].length : Int)).toNat, by omega⟩
    have hml : m < D[j].length := by omega
    have hrd := rdI D[j] m hml
    obtain ⟨row, hin, hk⟩ := prod_l2 D hl hx hne n x7 h7 x8 j (x9.set j D[j][m]) (x10 / (D[j].length : Int)) (by omega) (by rw [List.length_set]; exact h9) e3 (by omega) (fun i h1 h2 => by
      by_cases hij : j = i
      · subst hij
        rw [List.getD_eq_getElem?_getD (l := x9.set _ _), List.getElem?_set_self (by omega), List.getD_eq_getElem?_getD, List.getElem?_eq_getElem hjl]
        exact List.getElem_mem hml
      · rw [List.getD_eq_getElem?_getD (l := x9.set _ _), List.getElem?_set_ne hij, ← List.getD_eq_getElem?_getD]
        exact hm i (by omega) h2)
    refine ⟨row, hin, fun k => ?_⟩
    rw [← hk k]
    have ej : (((j + 1 : Nat) : Int) - 1) = (j : Int) := by omega
    rw [ej]
    conv => { lhs; unfold jigsawref09_Product.l2 }
    rw [hr, hm1, hrd, e2, wr64 _ (by omega) (by omega), wr64 _ (by omega) (by omega), Int.toNat_natCast]
    rw [if_pos (by omega), if_pos (by omega), if_pos (by omega), if_neg (by omega), if_pos (by omega), if_pos (by omega), if_pos (by omega)]
    rfl
theorem prod_l1 (D : List (List Int)) (hl : D.length ≤ 1000) (hx : ∀ x ∈ D, x.length ≤ 1000) (hne : ∀ x ∈ D, x ≠ []) (n : Nat) (hn : n ≤ 2000) : ∀ (r i : Nat) (x7 : List (List Int)), i + r = n → x7.length = i → (∀ row ∈ x7, InB D row) → ∃ k R, jigsawref09_Product.l1 k D n x7 i = some R ∧ ∀ row ∈ R, InB D row
  | 0, i, x7, h, h7, hi => ⟨1, x7, by unfold jigsawref09_Product.l1; rw [if_neg (by omega)], hi⟩
  | r + 1, i, x7, h, h7, hi => by
    obtain ⟨row, hin, hk⟩ := prod_l2 D hl hx hne n x7 (by omega) i D.length (List.replicate D.length 0) i (Nat.le_refl _) (List.length_replicate ..) (by omega) (by omega) (fun j h1 h2 => by omega)
    obtain ⟨k, R, hR, hall⟩ := prod_l1 D hl hx hne n hn r (i + 1) (x7 ++ [row]) (by omega) (by rw [List.length_append, h7]; rfl) (fun y hy => by
      rcases List.mem_append.1 hy with hy | hy
      · exact hi y hy
      · rw [List.mem_singleton.1 hy]; exact hin)
    refine ⟨k + D.length + 1 + 1, R, ?_, hall⟩
    unfold jigsawref09_Product.l1
    rw [if_pos (by omega), if_pos (by omega), if_pos (by omega), wr64 ((D.length : Int) - 1) (by omega) (by omega), Int.toNat_natCast, hk k, wr64 _ (by omega) (by omega)]
    exact hR
theorem prod_l0 (D : List (List Int)) (hl : D.length ≤ 1000) (hx : ∀ x ∈ D, x.length ≤ 1000) : ∀ (r i n : Nat), i + r = D.length → n ≤ 2000 → (0 < n → ∀ j, j < i → D.getD j [] ≠ []) → ∃ k R, jigsawref09_Product.l0 k D 2000 n i = some R ∧ ∀ row ∈ R, InB D row
  | 0, i, n, h, hn, hne => by
    have key : ∃ k R, jigsawref09_Product.l1 k D n [] 0 = some R ∧ ∀ row ∈ R, InB D row := by
      rcases Nat.eq_zero_or_pos n with h0 | hp
      · subst h0
        exact ⟨1, [], by unfold jigsawref09_Product.l1; rw [if_neg (by omega)], fun _ h => nomatch h⟩
      · exact prod_l1 D hl hx (fun x hx => by
          obtain ⟨j, hj, rfl⟩ := List.getElem_of_mem hx
          have := hne hp j (by omega)
          rwa [List.getD_eq_getElem?_getD, List.getElem?_eq_getElem hj, Option.getD_some] at this) n hn n 0 [] (by omega) rfl (fun _ h => nomatch h)
    obtain ⟨k, R, hR, hall⟩ := key
    refine ⟨k + 1, R, ?_, hall⟩
    unfold jigsawref09_Product.l0
    rw [if_neg (by omega)]
    exact hR
  | r + 1, i, n, h, hn, hne => by
    have hil : i < D.length := by omega
    have hr := rdL13 D i hil
    have hxl := hx _ (List.getElem_mem hil)
    have hmul : n * D[i].length ≤ 2000 * 1000 := Nat.mul_le_mul hn hxl
    have ecast : (n : Int) * (D[i].length : Int) = ((n * D[i].length : Nat) : Int) := by rw [Int.natCast_mul]
    by_cases hbig : n * D[i].length ≤ 2000
    · obtain ⟨k, R, hR, hall⟩ := prod_l0 D hl hx r (i + 1) (n * D[i].length) (by omega) hbig (fun hp j hj => by
        by_cases hji : j = i
        · subst hji
          rw [List.getD_eq_getElem?_getD, List.getElem?_eq_getElem hil, Option.getD_some]
          intro he
          rw [he] at hp
          simp at hp
        · exact hne (Nat.pos_of_mul_pos_right hp) j (by omega))
      refine ⟨k + 1, R, ?_, hall⟩
      unfold jigsawref09_Product.l0
      rw [hr, ecast, wr64 _ (by omega) (by omega), wr64 _ (by omega) (by omega), if_pos (by omega), if_pos (by omega), if_neg (by omega)]
      exact hR
    · refine ⟨1, [], ?_, fun _ h => nomatch h⟩
      unfold jigsawref09_Product.l0
      rw [hr, ecast, wr64 _ (by omega) (by omega), if_pos (by omega), if_pos (by omega), if_pos (by omega)]
/-- The document's Product: rows of the box, all of them or none. -/
theorem prod_rows (D : List (List Int)) (hl : D.length ≤ 1000) (hx : ∀ x ∈ D, x.length ≤ 1000) : ∃ k R, jigsawref09_Product.f k D 2000 = some R ∧ ∀ row ∈ R, InB D row :=
  prod_l0 D hl hx D.length 0 1 (by omega) (by omega) (fun _ j hj => absurd hj (Nat.not_lt_zero _))
end Go.Proofs.YtgckohmppefibaaDoorX.Hz
