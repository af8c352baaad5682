import Derived.Test.YtgckohmppefibaaDoorDomM
/- The contract of List: the numbers, in a slice of its own. -/
namespace Go.Proofs.YtgckohmppefibaaDoor
open Go.RowKit
attribute [local go_sem high] go_max_int go_min_int
set_option linter.unusedSimpArgs false
set_option linter.unusedVariables false

theorem infoInt : (Tryd.prog.info? 3).map (fun i => (i.zero, i.size, i.bytes)) = some (some (.int .i64 0), 1, 8) := by kernel_rfl
/-- A slice of numbers, in blocks from B on. -/
structure Ow (w : World) (B : Nat) (sv : Value) (l : List Int) : Prop where
  sl : Sl w 3 1 sv l.length (Iv l)
  own : ∀ b, sv.ownBlock = some b → B ≤ b
theorem Ow.nil (w : World) (B : Nat) : Ow w B (.slice none 0 0) [] := ⟨Sl.nil _ _ _, fun b h => by cases h⟩
theorem Ow.call {w w' : World} {B : Nat} {sv : Value} {l : List Int} (h : Ow w B sv l) (hb : Below w.heap.size w w') : Ow w' B sv l := ⟨h.sl.call hb, h.own⟩
theorem Ow.drew {w : World} {B : Nat} {sv : Value} {l : List Int} (h : Ow w B sv l) : Ow w.drew B sv l := ⟨h.sl.drew, h.own⟩
theorem Ow.mono {w : World} {B B' : Nat} {sv : Value} {l : List Int} (h : Ow w B sv l) (hB : B' ≤ B) : Ow w B' sv l := ⟨h.sl, fun b hb => Nat.le_trans hB (h.own b hb)⟩
theorem Ow.kept {S : Nat → Prop} {w w' : World} {B : Nat} {sv : Value} {l : List Int} (h : Ow w B sv l) (hf : Fr S w w') (hn : ∀ b, B ≤ b → ¬ S b) : Ow w' B sv l := ⟨h.sl.kept hf fun b hb => hn b (h.own b hb), h.own⟩
/-- One number more. -/
theorem Ow.snoc {w w' : World} {B : Nat} {sv : Value} {l : List Int} {b f c H : Nat} {x : Int} (h : Ow w B sv l) (hs : Sl w' 3 1 (.slice (some ⟨b, f, none⟩) (l.length + 1) c) (l.length + 1) (Iv l ++ [.int .i64 x])) (hb : sv.ownBlock = some b ∨ b = H) (hH : B ≤ H) : Ow w' B (.slice (some ⟨b, f, none⟩) (l.length + 1) c) (l ++ [x]) := by
  refine ⟨?_, fun b' hb' => ?_⟩
  · have e : Iv (l ++ [x]) = Iv l ++ [.int .i64 x] := by simp [Iv]
    rw [e, List.length_append]
    exact hs
  · cases hb'
    rcases hb with e | e
    · exact h.own _ e
    · show B ≤ b
      omega

/-- While the numbers are told. -/
structure Dm.Li (w wr : World) (box : Array Value) (s : Value) (acc : List Int) : Prop where
  box : wr.heap[w.heap.size]? = some (.cells box 62 (0, 0))
  own : Ow wr (w.heap.size + 1) s acc
  below : Below w.heap.size w wr
theorem Dm.Li.drew {w wr : World} {box : Array Value} {s : Value} {acc : List Int} (h : Dm.Li w wr box s acc) : Dm.Li w wr.drew box s acc := ⟨heap_drew h.box, h.own.drew, h.below.drew⟩
theorem Dm.Li.more {w wr w1 w2 : World} {box : Array Value} {s : Value} {acc : List Int} (h : Dm.Li w wr box s acc) {b f c H : Nat} {x : Int} (h1 : Below wr.heap.size wr w1) (hs : Sl w2 3 1 (.slice (some ⟨b, f, none⟩) (acc.length + 1) c) (acc.length + 1) (Iv acc ++ [.int .i64 x])) (hf : Fr (fun k => s.ownBlock = some k) w1 w2) (hb : s.ownBlock = some b ∨ b = H) (hH : wr.heap.size ≤ H) :
    Dm.Li w w2 box (.slice (some ⟨b, f, none⟩) (acc.length + 1) c) (acc ++ [x]) := by
  have hlt := heap_lt h.box
  refine ⟨hf.heap (heap_call h.box h1) (fun e => by have := h.own.own _ e; omega), h.own.snoc hs hb (by omega), ?_⟩
  exact Fr.below (below_call h.below h1) hf (fun i e => by have := h.own.own _ e; omega)

end Go.Proofs.YtgckohmppefibaaDoor
/- The contracts of Next and Prev. -/
namespace Go.Proofs.YtgckohmppefibaaDoor
open Go.RowKit
attribute [local go_sem high] go_max_int go_min_int
set_option linter.unusedSimpArgs false
set_option linter.unusedVariables false

/-- What is next, if anything. -/
def Dm.Op (o : Option Int) (w : World) (e : Ending) (w' : World) : Prop := e = .returned (.tuple #[.int .i64 (o.getD 0), .bool o.isSome]) ∧ Below w.heap.size w w'
/-- No number of a word. -/
theorem Dm.gap (l : List Int) (p : Int) (h : ∀ b : Nat, b < 64 → (0 : Nat).testBit b = decide (p + b ∈ l)) (u : Int) (h1 : p ≤ u) (h2 : u < p + 64) : u ∉ l := fun hm => by
  have := h (u - p).toNat (by omega)
  rw [Nat.zero_testBit, show p + ((u - p).toNat : Int) = u from by omega, decide_eq_true hm] at this
  cases this
structure Dm.Nx (w wr : World) (box : Array Value) : Prop where
  box : wr.heap[w.heap.size]? = some (.cells box 62 (0, 0))
  below : Below w.heap.size w wr
theorem Dm.Nx.call {w wr w' : World} {box : Array Value} (h : Dm.Nx w wr box) (hb : Below wr.heap.size wr w') : Dm.Nx w w' box := ⟨heap_call h.box hb, below_call h.below hb⟩
theorem Dm.Nx.drew {w wr : World} {box : Array Value} (h : Dm.Nx w wr box) : Dm.Nx w wr.drew box := ⟨heap_drew h.box, h.below.drew⟩
end Go.Proofs.YtgckohmppefibaaDoor
/- The contract of Prev; Next and Prev whole. -/
namespace Go.Proofs.YtgckohmppefibaaDoor
open Go.RowKit
attribute [local go_sem high] go_max_int go_min_int
set_option linter.unusedSimpArgs false
set_option linter.unusedVariables false

end Go.Proofs.YtgckohmppefibaaDoor
/- Slices of numbers of the call's own: one more is appended. -/
namespace Go.Proofs.YtgckohmppefibaaDoor
open Go.RowKit
attribute [local go_sem high] go_max_int go_min_int
set_option linter.unusedSimpArgs false
set_option linter.unusedVariables false

/-- What an append leaves. -/
def Ow.App (wr : World) (B : Nat) (sv : Value) (l : List Int) (y : Int) (sv' : Value) (w' : World) : Prop :=
  Ow w' B sv' (l ++ [y]) ∧ Fr (fun k => sv.ownBlock = some k) wr w' ∧ ∀ b, sv'.ownBlock = some b → sv.ownBlock = some b ∨ wr.heap.size ≤ b
theorem Ow.app {w wr w1 w' : World} {B : Nat} {sv : Value} {l : List Int} {y : Int} {b f c H : Nat} (h : Ow wr B sv l) (hB : B ≤ wr.heap.size) (hw : Below wr.heap.size wr w1) (hH : wr.heap.size ≤ H)
    (hs : Sl w' 3 1 (.slice (some ⟨b, f, none⟩) (l.length + 1) c) (l.length + 1) (Iv l ++ [.int .i64 y])) (hf : Fr (fun k => sv.ownBlock = some k) w1 w') (hb : sv.ownBlock = some b ∨ b = H ∧ H < w'.heap.size) :
    Ow.App wr B sv l y (.slice (some ⟨b, f, none⟩) (l.length + 1) c) w' :=
  ⟨h.snoc hs (hb.imp id (fun e => e.1)) (by omega), (Fr.of_below hw).trans2 hf (fun k _ e => e), fun b' hb' => by
    cases hb'
    rcases hb with e | e
    · exact Or.inl e
    · right; show wr.heap.size ≤ b; omega⟩
theorem wpList_append_int (wr : World) {ops : Array Oper} {rest : List Oper} {o : Oper} {a : Act} {Q : Exit → Act → World → Prop} (hgd : o.guard = none) (s x : Operand)
    (ho : o.op = .call { callee := .builtin .append, args := #[s, x], argTypes := #[63, 63] })
    (B : Nat) (sv : Value) (l : List Int) (hs : a.eval s = sv) (h : Ow wr B sv l) (hB : B ≤ wr.heap.size) (y : Int) (hx : a.eval x = .slice (some ⟨wr.heap.size, 0, none⟩) 1 1) (hl : l.length < 17000000000000)
    (hk : ∀ sv' w', Ow.App wr B sv l y sv' w' → wpList Tryd.prog ops Q rest (a.put o.dst sv') w') : wpList Tryd.prog ops Q (o :: rest) a (wr.alloc (.cells #[.int .i64 y] 3)) := by
  obtain ⟨i0, hi0, hz0, hz1, hz2⟩ := info_parts infoInt
  refine wpList_append_sl _ hgd s x 63 ho 3 i0 (.int .i64 0) 1 8 Tryd.underlying63 hi0 hz0 hz1 hz2 rfl (by decide) sv l.length (Iv l) hs (Sl.alloc h.sl _) ⟨wr.heap.size, 0, none⟩ 1 1 [.int .i64 y] hx rfl (World.news_of_block (heap_new wr _)) (by intro u hu; simp at hu; subst hu; rfl) (by decide) (by unfold maxLen; omega) (by omega) _ rfl ?_
  intro b f c w' hs' hf' hb'
  exact hk _ _ (h.app (w := wr) hB (below_alloc (Below.refl _ _) _) (by simp) hs' hf' hb')
theorem Ow.App.below {w wr w' : World} {sv sv' : Value} {l : List Int} {y : Int} (h : Ow.App wr w.heap.size sv l y sv' w') (ho : Ow wr w.heap.size sv l) (hb : Below w.heap.size w wr) : Below w.heap.size w w' :=
  Fr.below hb h.2.1 (fun i e => ho.own _ e)
end Go.Proofs.YtgckohmppefibaaDoor
/- The reference's Has, Next, Prev, Range, Change walked. -/
namespace Go.Proofs.YtgckohmppefibaaDoor
open Go.RowKit
attribute [local go_sem high] go_max_int go_min_int
set_option linter.unusedSimpArgs false
set_option linter.unusedVariables false

theorem mem_take_succ (l : List Int) (j : Nat) (hj : j < l.length) (u : Int) : u ∈ l.take (j + 1) ↔ u ∈ l.take j ∨ u = l.getD j 0 := by
  rw [List.take_succ_eq_append_getElem hj, List.mem_append, List.mem_singleton, List.getD_eq_getElem?_getD, List.getElem?_eq_getElem hj]
  rfl
theorem take_succ_getD (l : List Int) (j : Nat) (hj : j < l.length) : l.take (j + 1) = l.take j ++ [l.getD j 0] := by
  rw [List.take_succ_eq_append_getElem hj, List.getD_eq_getElem?_getD, List.getElem?_eq_getElem hj]
  rfl
theorem Iv.at {w : World} {A : Option Addr} {c : Nat} {l : List Int} (h : Sl w 3 1 (.slice A l.length c) l.length (Iv l)) (j : Nat) (hj : j < l.length) : ∃ b o, A = some ⟨b, o, none⟩ ∧ w.cell? ⟨b, o + j, none⟩ = some (.int .i64 (l.getD j 0)) := by
  obtain ⟨b, o, c', cs, e, _⟩ := h.form (by omega)
  cases e
  exact ⟨b, o, rfl, Iv.cell h j hj⟩
set_option maxHeartbeats 1000000 in
theorem ref_has (sv : Value) (l : List Int) (v : Int) (w : World) (h : Sl w 3 1 sv l.length (Iv l)) :
    Calls Tryd.prog 70 #[sv, .int .i64 v] w fun e w' => e = .returned (.bool (decide (v ∈ l))) ∧ w = w' := by
  obtain ⟨A, c, rfl⟩ := h.len
  have hbig := h.big
  have HS := Lib.hid h
  have HL := Lib.hid (rfl : l.length = l.length)
  generalize hm : l.length = m at *
  have HM := Lib.hid hm
  clear hm h
  go_enter Tryd.func70, Tryd.ntmps70
  go_wp2_with fail
  go_loopg [5] m (fun k s5 wr => ∃ j : Nat, s5 = .int .i64 j ∧ k + j = m ∧ Hid (v ∉ l.take j) ∧ Hid (wr = w))
  case atStart => exact ⟨0, rfl, by omega, Lib.hid (by simp), Lib.hid rfl⟩
  case round =>
    obtain ⟨j, rfl, hj, hno, hw⟩ := hrel
    obtain rfl := hw.out
    rcases Nat.lt_or_ge j m with hk | hk
    · have hjl : j < l.length := by rw [HM.out]; exact hk
      obtain ⟨b, o, rfl, hcell⟩ := Iv.at (c := c) (A := A) (by rw [HM.out]; exact HS.out) j hjl
      have TK := Lib.hid (mem_take_succ l j hjl v)
      by_cases hv : l.getD j 0 = v
      · have hin : decide (v ∈ l) = true := decide_eq_true (by rw [← hv, List.getD_eq_getElem?_getD, List.getElem?_eq_getElem hjl]; simp)
        have hb : (l.getD j 0 == v) = true := beq_iff_eq.2 hv
        have HV := Lib.hid hin
        clear hv hin
        generalize l.getD j 0 = x at *
        go_wp2_with fail
        go_ret
        exact ⟨ret_bool HV.out.symm, rfl⟩
      · have hb : (l.getD j 0 == v) = false := beq_eq_false_iff_ne.2 hv
        have NE := Lib.hid hv
        clear hv
        generalize l.getD j 0 = x at *
        go_wp2_with fail
        go_roundg (gk - 1)
        case measure => omega
        case rel => exact ⟨j + 1, by go_num, by omega, Lib.hid (fun h => (TK.out.1 h).elim hno.out (fun e => NE.out e.symm)), Lib.hid rfl⟩
    · have hjm : j = m := by omega
      subst hjm
      have hin : decide (v ∈ l) = false := decide_eq_false (by have := hno.out; rwa [List.take_of_length_le (by rw [HM.out]; omega)] at this)
      have HV := Lib.hid hin
      clear hin
      go_wp2_with fail
      go_ret
      exact ⟨ret_bool HV.out.symm, rfl⟩

end Go.Proofs.YtgckohmppefibaaDoor
/- The reference's Range, Change, Keep walked. -/
namespace Go.Proofs.YtgckohmppefibaaDoor
open Go.RowKit
attribute [local go_sem high] go_max_int go_min_int
set_option linter.unusedSimpArgs false
set_option linter.unusedVariables false

theorem Iv.first {w : World} {A : Option Addr} {c : Nat} {l : List Int} (h : Sl w 3 1 (.slice A l.length c) l.length (Iv l)) (hn : 0 < l.length) : ∃ b o, A = some ⟨b, o, none⟩ ∧ w.cell? ⟨b, o, none⟩ = some (.int .i64 (l.headD 0)) ∧ w.cell? ⟨b, o + (l.length - 1), none⟩ = some (.int .i64 (l.getLastD 0)) := by
  obtain ⟨b, o, rfl, h0⟩ := Iv.at h 0 hn
  refine ⟨b, o, rfl, ?_, ?_⟩
  · cases l with
    | nil => cases hn
    | cons x r => exact h0
  · have := Iv.cell h (l.length - 1) (by omega)
    rw [this]
    congr 2
    rw [List.getLastD_eq_getLast?, List.getLast?_eq_getElem?, List.getD_eq_getElem?_getD]
/-- Which numbers stay, by what is done. -/
def Rf.stays (what : Nat) (v : Int) (m : List Int) (u : Int) : Bool :=
  match what with
  | 0 => !decide (u = v)
  | 1 => decide (u = v)
  | 2 => decide (v ≤ u)
  | 3 => decide (u ≤ v)
  | 4 => decide (u ∈ m)
  | _ => !decide (u ∈ m)
/-- What is left, in a slice of its own, and what became of it. -/
def Rf.Kp (B : Nat) (l out : List Int) (w : World) (e : Ending) (w' : World) : Prop := ∃ so, e = .returned (.tuple #[so, .int .i64 (Dm.chg l out)]) ∧ Ow w' B so out ∧ Below w.heap.size w w'
theorem Rf.filter_take (l : List Int) (p : Int → Bool) (j : Nat) (hj : j < l.length) : (l.take (j + 1)).filter p = (l.take j).filter p ++ if p (l.getD j 0) = true then [l.getD j 0] else [] := by
  rw [take_succ_getD l j hj, List.filter_append, List.filter_cons, List.filter_nil]
structure Rf.Ke (w wr : World) (s : Value) (acc : List Int) : Prop where
  own : Ow wr w.heap.size s acc
  below : Below w.heap.size w wr
end Go.Proofs.YtgckohmppefibaaDoor
/- The reference's Of walked. -/
namespace Go.Proofs.YtgckohmppefibaaDoor
open Go.RowKit
attribute [local go_sem high] go_max_int go_min_int
set_option linter.unusedSimpArgs false
set_option linter.unusedVariables false

/-- A number put in, as the text does it: what has been told, and whether the number has. -/
def Rf.scan (u : Int) (l : List Int) : List Int × Bool := l.foldl (fun s x => if u < x ∧ s.2 = false then (s.1 ++ [u] ++ [x], true) else (s.1 ++ [x], s.2)) ([], false)
theorem Rf.scan_true (u : Int) (l : List Int) (a : List Int) : l.foldl (fun s x => if u < x ∧ s.2 = false then (s.1 ++ [u] ++ [x], true) else (s.1 ++ [x], s.2)) (a, true) = (a ++ l, true) := by
  induction l generalizing a with
  | nil => simp
  | cons x r ih =>
    rw [List.foldl_cons, if_neg (by simp)]
    show List.foldl _ (a ++ [x], true) r = _
    rw [ih]
    simp
theorem Rf.scan_put (u : Int) (l : List Int) (a : List Int) : (let s := l.foldl (fun s x => if u < x ∧ s.2 = false then (s.1 ++ [u] ++ [x], true) else (s.1 ++ [x], s.2)) (a, false); if s.2 = true then s.1 else s.1 ++ [u]) = a ++ Rf.put u l := by
  induction l generalizing a with
  | nil => simp [Rf.put]
  | cons x r ih =>
    rw [List.foldl_cons]
    by_cases h : u < x
    · rw [show Rf.put u (x :: r) = u :: x :: r from by unfold Rf.put; rw [if_pos h], show (if u < x ∧ (a, false).2 = false then ((a, false).1 ++ [u] ++ [x], true) else ((a, false).1 ++ [x], (a, false).2)) = (a ++ [u] ++ [x], true) from if_pos ⟨h, rfl⟩, Rf.scan_true]
      simp
    · rw [show Rf.put u (x :: r) = x :: Rf.put u r from by rw [Rf.put, if_neg h], show (if u < x ∧ (a, false).2 = false then ((a, false).1 ++ [u] ++ [x], true) else ((a, false).1 ++ [x], (a, false).2)) = (a ++ [x], false) from if_neg (fun e => h e.1), ih]
      simp
theorem Rf.scan_end (u : Int) (l : List Int) : (if (Rf.scan u l).2 = true then (Rf.scan u l).1 else (Rf.scan u l).1 ++ [u]) = Rf.put u l := by
  have := Rf.scan_put u l []
  simpa [Rf.scan] using this
theorem Rf.scan_step (u : Int) (l : List Int) (i : Nat) (hi : i < l.length) : Rf.scan u (l.take (i + 1)) = if u < l.getD i 0 ∧ (Rf.scan u (l.take i)).2 = false then ((Rf.scan u (l.take i)).1 ++ [u] ++ [l.getD i 0], true) else ((Rf.scan u (l.take i)).1 ++ [l.getD i 0], (Rf.scan u (l.take i)).2) := by
  unfold Rf.scan
  rw [take_succ_getD l i hi, List.foldl_append]
  rfl
theorem Rf.scan_length (u : Int) (l : List Int) : (Rf.scan u l).1.length ≤ l.length + 1 := by
  have h := Rf.scan_end u l
  have h2 := congrArg List.length h
  rw [Rf.put_length] at h2
  split at h2
  · omega
  · rw [List.length_append] at h2; simp at h2; omega
theorem Rf.Ke.app {w wr w' : World} {s s' : Value} {acc : List Int} {y : Int} (h : Rf.Ke w wr s acc) (ha : Ow.App wr w.heap.size s acc y s' w') : Rf.Ke w w' s' (acc ++ [y]) := ⟨ha.1, ha.below h.own h.below⟩
theorem Rf.Ke.drewN {w wr : World} {s : Value} {acc : List Int} (h : Rf.Ke w wr s acc) (n : Nat) : Rf.Ke w (wr.drewN n) s acc := ⟨⟨h.own.sl.drewN n, h.own.own⟩, below_drewN h.below n⟩
theorem Rf.Ke.into {w wo wr : World} {s : Value} {acc : List Int} (h : Rf.Ke wo wr s acc) (hb : Below w.heap.size w wo) : Rf.Ke w wr s acc := ⟨h.own.mono hb.size, below_call hb h.below⟩
theorem Iv.later {w w' : World} {b o c : Nat} {l : List Int} (h : Sl w 3 1 (.slice (some ⟨b, o, none⟩) l.length c) l.length (Iv l)) (hb : Below w.heap.size w w') (i : Nat) (hi : i < l.length) : w'.cell? ⟨b, o + i, none⟩ = some (.int .i64 (l.getD i 0)) := Iv.cell (h.call hb) i hi

def Rf.Od (l : List Int) (code : Int) (w : World) (e : Ending) (w' : World) : Prop := ∃ so, e = .returned (.tuple #[so, .int .i64 code]) ∧ Rf.Ke w w' so l
def Rf.loj (l : List Int) (j : Nat) : Int := (l.take j).foldl min (l.headD 0)
def Rf.hij (l : List Int) (j : Nat) : Int := (l.take j).foldl max (l.headD 0)
theorem Rf.loj_step (l : List Int) (j : Nat) (hj : j < l.length) : Rf.loj l (j + 1) = min (Rf.loj l j) (l.getD j 0) := by
  unfold Rf.loj; rw [take_succ_getD l j hj, List.foldl_append]; rfl
theorem Rf.hij_step (l : List Int) (j : Nat) (hj : j < l.length) : Rf.hij l (j + 1) = max (Rf.hij l j) (l.getD j 0) := by
  unfold Rf.hij; rw [take_succ_getD l j hj, List.foldl_append]; rfl
theorem Rf.loj_all (l : List Int) (j : Nat) (hj : l.length ≤ j) : Rf.loj l j = Rf.lo l := by unfold Rf.loj Rf.lo; rw [List.take_of_length_le hj]
theorem Rf.hij_all (l : List Int) (j : Nat) (hj : l.length ≤ j) : Rf.hij l j = Rf.hi l := by unfold Rf.hij Rf.hi; rw [List.take_of_length_le hj]
theorem Rf.sort_step (l : List Int) (j : Nat) (hj : j < l.length) : (l.take (j + 1)).foldl Rf.add [] = Rf.add ((l.take j).foldl Rf.add []) (l.getD j 0) := by
  rw [take_succ_getD l j hj, List.foldl_append]; rfl
theorem Rf.code_far (l : List Int) (u : Int) (hu : u ∈ l) (h : u < -1000000 ∨ 1000000 < u) : Rf.code l = 3 ∧ Rf.of l = [] := by
  have hi : Rf.inr l = false := by
    unfold Rf.inr
    rw [List.all_eq_false]
    exact ⟨u, hu, by simp; omega⟩
  have hn : l ≠ [] := fun e => by subst e; cases hu
  have e : Rf.code l = 3 := by unfold Rf.code; rw [if_neg hn, if_pos hi]
  exact ⟨e, by unfold Rf.of; rw [if_neg (by omega)]⟩
theorem Rf.code_in (l : List Int) (hn : l ≠ []) (h : ∀ u ∈ l, -1000000 ≤ u ∧ u ≤ 1000000) : (65536 ≤ Rf.hi l - Rf.lo l → Rf.code l = 5 ∧ Rf.of l = []) ∧ (Rf.hi l - Rf.lo l < 65536 → Rf.code l = 0 ∧ Rf.of l = Rf.sort l) := by
  have hi : ¬ Rf.inr l = false := by
    unfold Rf.inr
    rw [List.all_eq_false]
    rintro ⟨u, hu, hb⟩
    have := h u hu
    simp at hb
    omega
  refine ⟨fun hw => ?_, fun hw => ?_⟩
  · have e : Rf.code l = 5 := by unfold Rf.code; rw [if_neg hn, if_neg hi, if_pos hw]
    exact ⟨e, by unfold Rf.of; rw [if_neg (by omega)]⟩
  · have e : Rf.code l = 0 := by unfold Rf.code; rw [if_neg hn, if_neg hi, if_neg (by omega)]
    exact ⟨e, by unfold Rf.of; rw [if_pos e]⟩
set_option maxHeartbeats 1000000 in
theorem ref_of_none (A : Option Addr) (c : Nat) (w : World) : Calls Tryd.prog 45 #[.slice A 0 c] w (Rf.Od [] 4 w) := by
  go_enter Tryd.func45, Tryd.ntmps45
  go_wp2_with fail
  go_ret2
  exact ⟨_, rfl, Ow.nil _ _, Below.refl _ _⟩
set_option maxHeartbeats 4000000 in
set_option maxRecDepth 100000 in
theorem ref_of_some (sv : Value) (l : List Int) (w : World) (h : Rd w sv l) (hn : 0 < l.length) (hlim : l.length < 16000000000000) :
    Calls Tryd.prog 45 #[sv] w (Rf.Od (Rf.of l) (Rf.code l) w) := by
  obtain ⟨A, c, rfl⟩ := h.len
  have HS := Lib.hid h
  have hne : l ≠ [] := fun e => by subst e; simp at hn
  have HNE := Lib.hid hne
  obtain ⟨b, o, rfl, hc0⟩ := h.at (Below.refl _ _) 0 hn
  rw [Nat.add_zero, show l.getD 0 0 = l.headD 0 from by cases l <;> rfl] at hc0
  have L0 := Lib.hid (show Rf.loj l 0 = l.headD 0 from rfl)
  have G0 := Lib.hid (show Rf.hij l 0 = l.headD 0 from rfl)
  have hb0 : ((l.length : Int) == 0) = false := beq_eq_false_iff_ne.2 (by omega)
  have hq1 : (0 : Int) < (l.length : Int) := by omega
  generalize l.headD 0 = x0 at *
  generalize hm : l.length = m at *
  have HM := Lib.hid hm
  clear hm h hne
  go_enter Tryd.func45, Tryd.ntmps45
  go_wp2_with fail
  go_loopg [4, 5, 6] m (fun k s4 s5 s6 wr => ∃ j : Nat, s6 = .int .i64 j ∧ k + j = m ∧ s4 = .int .i64 (Rf.loj l j) ∧ s5 = .int .i64 (Rf.hij l j) ∧ Hid (∀ u ∈ l.take j, -1000000 ≤ u ∧ u ≤ 1000000) ∧ Hid (wr = w))
  case atStart => exact ⟨0, rfl, by omega, by rw [L0.out], by rw [G0.out], Lib.hid (by simp), Lib.hid rfl⟩
  case round =>
    obtain ⟨j, rfl, hj, rfl, rfl, hin, hw⟩ := hrel
    obtain rfl := hw.out
    rcases Nat.lt_or_ge j m with hk | hk
    · have hjl : j < l.length := by rw [HM.out]; exact hk
      have hcell : wr.cell? ⟨b, o + j, none⟩ = some (.int .i64 (l.getD j 0)) := HS.out.later (Below.refl _ _) j hjl
      have hmem : l.getD j 0 ∈ l := by rw [List.getD_eq_getElem?_getD, List.getElem?_eq_getElem hjl]; simp
      have LS := Lib.hid (Rf.loj_step l j hjl)
      have GS := Lib.hid (Rf.hij_step l j hjl)
      have TK := Lib.hid (mem_take_succ l j hjl)
      have FAR := Lib.hid (Rf.code_far l _ hmem)
      generalize l.getD j 0 = u at *
      generalize Rf.loj l j = lo at *
      generalize Rf.hij l j = hi at *
      by_cases hu : u < -1000000 ∨ 1000000 < u
      · have hf := Lib.hid (FAR.out hu)
        rcases hu with hu | hu
        · go_wp2_with fail
          go_ret2
          rw [hf.out.1, hf.out.2]
          exact ⟨_, rfl, Ow.nil _ _, Below.refl _ _⟩
        · have hu2 : -1000000 ≤ u := by omega
          go_wp2_with fail
          go_ret2
          rw [hf.out.1, hf.out.2]
          exact ⟨_, rfl, Ow.nil _ _, Below.refl _ _⟩
      · have hu1 : -1000000 ≤ u := by omega
        have hu2 : u ≤ 1000000 := by omega
        clear hu
        have HU := Lib.hid (show ∀ z ∈ l.take (j + 1), -1000000 ≤ z ∧ z ≤ 1000000 from fun z hz => ((TK.out z).1 hz).elim (hin.out z) (fun e => by rw [e]; exact ⟨hu1, hu2⟩))
        go_wp2_with fail
        all_goals
          go_roundg (gk - 1)
          case measure => omega
          case rel => exact ⟨j + 1, by go_num, by omega, by rw [LS.out]; congr 1; omega, by rw [GS.out]; congr 1; omega, HU, Lib.hid rfl⟩
    · have hjm : j = m := by omega
      subst hjm
      have hall : ∀ u ∈ l, -1000000 ≤ u ∧ u ≤ 1000000 := by have := hin.out; rwa [List.take_of_length_le (by rw [HM.out]; omega)] at this
      have HC := Lib.hid (Rf.code_in l HNE.out hall)
      rw [Rf.loj_all l j (by rw [HM.out]; omega), Rf.hij_all l j (by rw [HM.out]; omega)]
      have r1 := hall _ (Rf.lo_is l HNE.out).1
      have r2 := hall _ (Rf.hi_is l HNE.out).1
      clear hall hin
      generalize Rf.lo l = lo at *
      generalize Rf.hi l = hi at *
      by_cases hwd : 65536 ≤ hi - lo
      · have hf := Lib.hid (HC.out.1 hwd)
        go_wp2_with fail
        go_ret2
        rw [hf.out.1, hf.out.2]
        exact ⟨_, rfl, Ow.nil _ _, Below.refl _ _⟩
      · have hf := Lib.hid (HC.out.2 (by omega))
        have hwd2 : hi - lo < 65536 := by omega
        have HI : Hid (Rf.Ke wr wr (.slice none 0 0) ((l.take 0).foldl Rf.add [])) := ⟨Ow.nil _ _, Below.refl _ _⟩
        rw [hf.out.1, hf.out.2]
        clear hwd L0 G0 HC
        obtain ⟨w, rfl⟩ : ∃ wo : World, wo = wr := ⟨_, rfl⟩
        go_wp2_with fail
        go_loopg [7, 8] j (fun k s7 s8 wr => ∃ i : Nat, s8 = .int .i64 i ∧ k + i = j ∧ Rf.Ke w wr s7 ((l.take i).foldl Rf.add []))
        case atStart => exact ⟨0, rfl, by omega, HI.out⟩
        case round =>
          obtain ⟨i, rfl, hi2, hinv⟩ := hrel
          have H := Lib.hid hinv
          clear hinv
          rcases Nat.lt_or_ge i j with hk2 | hk2
          · have hil : i < l.length := by rw [HM.out]; exact hk2
            obtain ⟨wo, rfl⟩ : ∃ wo : World, wo = wr := ⟨_, rfl⟩
            obtain ⟨gko, rfl⟩ : ∃ g : Nat, g = gk := ⟨_, rfl⟩
            obtain ⟨A7, c7, rfl⟩ := H.out.own.sl.len
            have HCL : Hid (∀ w', Below wo.heap.size wo w' → w'.cell? ⟨b, o + i, none⟩ = some (.int .i64 (l.getD i 0))) := fun w' hb => HS.out.later (below_call H.out.below hb) i hil
            have hcell := HCL.out wo (Below.refl _ _)
            have SS := Lib.hid (Rf.sort_step l i hil)
            have hacl : ((l.take i).foldl Rf.add []).length ≤ i := by
              have := Rf.fold_length (l.take i) []
              have h2 := List.length_take_le i l
              simp at this
              omega
            generalize (l.take i).foldl Rf.add [] = acc at *
            generalize l.getD i 0 = u at *
            have HH := Lib.hid (ref_has _ acc u wo H.out.own.sl)
            by_cases hu : u ∈ acc
            · rw [decide_eq_true hu] at HH
              have AE := Lib.hid (show Rf.add acc u = acc from by unfold Rf.add; rw [if_pos hu])
              clear hu
              go_wp2_with fail
              refine HH.out.mono ?_
              rintro e w2 ⟨rfl, rfl⟩
              go_wp2_with fail
              go_roundg (gko - 1)
              case measure => omega
              case rel => exact ⟨i + 1, by go_num, by omega, by rw [SS.out, AE.out]; exact H.out⟩
            · rw [decide_eq_false hu] at HH
              have AE := Lib.hid (show Rf.add acc u = Rf.put u acc from by unfold Rf.add; rw [if_neg hu])
              have HI3 : Hid (Rf.Ke wo wo (.slice none 0 0) (Rf.scan u (acc.take 0)).1) := ⟨Ow.nil _ _, Below.refl _ _⟩
              have HS7 := Lib.hid H.out.own.sl
              clear hu
              generalize hL7 : acc.length = n7 at *
              have L7 := Lib.hid hL7
              clear hL7
              go_wp2_with fail
              refine HH.out.mono ?_
              rintro e w2 ⟨rfl, rfl⟩
              go_wp2_with fail
              go_loopg [10, 11, 12] n7 (fun k s10 s11 s12 wr => ∃ q : Nat, s12 = .int .i64 q ∧ k + q = n7 ∧ s11 = .bool (Rf.scan u (acc.take q)).2 ∧ Rf.Ke wo wr s10 (Rf.scan u (acc.take q)).1)
              case atStart => exact ⟨0, rfl, by omega, rfl, HI3.out⟩
              case round =>
                obtain ⟨q, rfl, hq0, rfl, hinv⟩ := hrel
                have H3 := Lib.hid hinv
                clear hinv hcell
                rcases Nat.lt_or_ge q n7 with hq | hq
                · have hql : q < acc.length := by rw [L7.out]; exact hq
                  obtain ⟨b7, o7, rfl, -⟩ := Iv.at (c := c7) (A := A7) (by rw [L7.out]; exact HS7.out) q hql
                  have HC7 : Hid (∀ w', Below wo.heap.size wo w' → w'.cell? ⟨b7, o7 + q, none⟩ = some (.int .i64 (acc.getD q 0))) := fun w' hb => Iv.later (c := c7) (by rw [L7.out]; exact HS7.out) hb q hql
                  have ST := Lib.hid (Rf.scan_step u acc q hql)
                  have hsl : (Rf.scan u (acc.take q)).1.length ≤ q + 1 := Nat.le_trans (Rf.scan_length _ _) (by have := List.length_take_le q acc; omega)
                  have k1 := HC7.out wr H3.out.below
                  have k2 := HCL.out wr H3.out.below
                  generalize Rf.scan u (acc.take q) = sc at *
                  obtain ⟨nx, dn⟩ := sc
                  simp only at hsl
                  generalize acc.getD q 0 = x at *
                  have hnx : nx.length < 17000000000000 := by omega
                  have hnx2 : (nx ++ [u]).length < 17000000000000 := by rw [List.length_append]; simp; omega
                  by_cases hx : u < x
                  · have hd1 : decide (u < x) = true := decide_eq_true hx
                    cases dn with
                    | false =>
                      have E := Lib.hid (ST.out.trans (if_pos ⟨hx, rfl⟩))
                      clear ST
                      go_wp2_with fail
                      go_quiet (fail)
                      go_wp2_with (first
                        | (at_builtin; refine wpList_append_int _ rfl (.tmp 96) (.tmp 101) rfl wo.heap.size _ _ rfl (by exact (H3.out.drewN _).own) (by exact (H3.out.drewN _).below.size) _ rfl (by exact hnx) ?_; intro s2 w2 happ; have H4 := Lib.hid ((H3.out.drewN _).app happ); have k3 := HC7.out w2 H4.out.below; clear happ)
                        | (at_builtin; refine wpList_append_int _ rfl (.tmp 103) (.tmp 108) rfl wo.heap.size _ _ rfl (by exact H4.out.own) (by exact H4.out.below.size) _ rfl (by exact hnx2) ?_; intro s3 w3 happ3; have H5 := Lib.hid (H4.out.app happ3); clear happ3))
                      go_roundg (gk - 1)
                      case measure => omega
                      case rel => exact ⟨q + 1, by go_num, by omega, by rw [E.out], by rw [E.out]; exact H5.out⟩
                    | true =>
                      have E := Lib.hid (ST.out.trans (if_neg (by simp)))
                      clear ST
                      go_wp2_with fail
                      go_quiet (fail)
                      go_wp2_with (first
                        | (at_builtin; refine wpList_append_int _ rfl (.tmp 103) (.tmp 108) rfl wo.heap.size _ _ rfl (by exact (H3.out.drewN _).own) (by exact (H3.out.drewN _).below.size) _ rfl (by exact hnx) ?_; intro s2 w2 happ; have H4 := Lib.hid ((H3.out.drewN _).app happ); clear happ))
                      go_roundg (gk - 1)
                      case measure => omega
                      case rel => exact ⟨q + 1, by go_num, by omega, by rw [E.out], by rw [E.out]; exact H4.out⟩
                  · have hd1 : decide (u < x) = false := decide_eq_false hx
                    have E := Lib.hid (ST.out.trans (if_neg (fun e => hx e.1)))
                    clear ST
                    go_wp2_with fail
                    go_quiet (fail)
                    go_wp2_with (first
                      | (at_builtin; refine wpList_append_int _ rfl (.tmp 103) (.tmp 108) rfl wo.heap.size _ _ rfl (by exact (H3.out.drewN _).own) (by exact (H3.out.drewN _).below.size) _ rfl (by exact hnx) ?_; intro s2 w2 happ; have H4 := Lib.hid ((H3.out.drewN _).app happ); clear happ))
                    go_roundg (gk - 1)
                    case measure => omega
                    case rel => exact ⟨q + 1, by go_num, by omega, by rw [E.out], by rw [E.out]; exact H4.out⟩
                · have hqn : q = n7 := by omega
                  subst hqn
                  have e : acc.take q = acc := List.take_of_length_le (by rw [L7.out]; omega)
                  rw [e] at H3 ⊢
                  have EN := Lib.hid (Rf.scan_end u acc)
                  have hsl : (Rf.scan u acc).1.length ≤ q + 1 := by have := Rf.scan_length u acc; rw [L7.out] at this; exact this
                  have k2 := HCL.out wr H3.out.below
                  generalize Rf.scan u acc = sc at *
                  obtain ⟨nx, dn⟩ := sc
                  simp only at hsl
                  have hnx : nx.length < 17000000000000 := by omega
                  clear e
                  cases dn with
                  | true =>
                    go_wp2_with fail
                    go_roundg (gko - 1)
                    case measure => omega
                    case rel => exact ⟨i + 1, by go_num, by omega, by rw [SS.out, AE.out, ← EN.out]; simpa using H3.out.into H.out.below⟩
                  | false =>
                    go_wp2_with (first
                      | (at_builtin; refine wpList_append_int _ rfl (.tmp 112) (.tmp 117) rfl wo.heap.size _ _ rfl (by exact H3.out.own) (by exact H3.out.below.size) _ rfl (by exact hnx) ?_; intro s2 w2 happ; have H4 := Lib.hid (H3.out.app happ); clear happ))
                    go_roundg (gko - 1)
                    case measure => omega
                    case rel => exact ⟨i + 1, by go_num, by omega, by rw [SS.out, AE.out, ← EN.out]; simpa using H4.out.into H.out.below⟩
          · have hij : i = j := by omega
            subst hij
            have e : l.take i = l := List.take_of_length_le (by rw [HM.out]; omega)
            rw [e] at H
            clear e
            go_wp2_with fail
            go_ret2
            rw [hf.out.1, hf.out.2]
            exact ⟨_, rfl, H.out⟩
theorem ref_of_rd (sv : Value) (l : List Int) (w : World) (h : Rd w sv l) (hlim : l.length < 16000000000000) :
    Calls Tryd.prog 45 #[sv] w (Rf.Od (Rf.of l) (Rf.code l) w) := by
  by_cases hn : l = []
  · subst hn
    obtain ⟨A, c, rfl⟩ := h.len
    exact ref_of_none A c w
  · exact ref_of_some sv l w h (List.length_pos_iff.2 hn) hlim
end Go.Proofs.YtgckohmppefibaaDoor
/- Has, Change, Keep of the reference, at slices that are known by their cells. -/
namespace Go.Proofs.YtgckohmppefibaaDoor
open Go.RowKit
attribute [local go_sem high] go_max_int go_min_int
set_option linter.unusedSimpArgs false
set_option linter.unusedVariables false

theorem Rd.ends {w : World} {A : Option Addr} {n c : Nat} {l : List Int} (h : Rd w (.slice A n c) l) (hn : 0 < l.length) : ∃ b o, A = some ⟨b, o, none⟩ ∧ w.cell? ⟨b, o, none⟩ = some (.int .i64 (l.headD 0)) ∧ w.cell? ⟨b, o + (l.length - 1), none⟩ = some (.int .i64 (l.getLastD 0)) := by
  obtain ⟨b, o, c', e, _, h2⟩ := h.form hn
  cases e
  refine ⟨b, o, rfl, ?_, ?_⟩
  · have := h2 0 hn
    cases l with
    | nil => cases hn
    | cons x r => exact this
  · rw [h2 (l.length - 1) (by omega)]
    congr 2
    rw [List.getLastD_eq_getLast?, List.getLast?_eq_getElem?, List.getD_eq_getElem?_getD]
end Go.Proofs.YtgckohmppefibaaDoor
