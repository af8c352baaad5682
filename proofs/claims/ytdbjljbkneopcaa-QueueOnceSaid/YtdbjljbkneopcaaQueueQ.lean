/- The contracts of package queue: New, is, Has, Len. -/
import Derived.Test.YtdbjljbkneopcaaQueueM
import Derived.Laws.MakeOwn
namespace Go.Proofs.Ytdbjljbkneopcaa
open Go.RowKit
set_option linter.unusedSimpArgs false
set_option linter.unusedVariables false

/-- A queue of n at block g: what it holds is l, in memory of S alone. -/
structure Qu.AtX (w : World) (g n : Nat) (l : List (Int × Int)) (S : Nat → Prop) (ib : Nat) (vs : Nat → Value) (ins : Array Value) : Prop where
  blk : w.heap[g]? = some (.cells #[.slice (some ⟨ib, 0, none⟩) n n, vs 0, vs 1, vs 2, vs 3] 59 (0, 0))
  inb : w.heap[ib]? = some (.cells ins 4 (0, 0))
  insz : ins.size = n
  has : ∀ i : Nat, i < n → ins[i]? = some (.bool (decide ((i : Int) ∈ l.map Prod.fst)))
  rows : ∀ b : Nat, b < 4 → Sl w 3 1 (vs b) (Qu.ids b l).length ((Qu.ids b l).map (Value.int .i64))
  own : ∀ b : Nat, b < 4 → ∀ k, (vs b).ownBlock = some k → S k
  sg : S g
  si : S ib
  lt : ∀ k, S k → k < w.heap.size
  apart : ∀ b c : Nat, b < 4 → c < 4 → b ≠ c → ∀ k, (vs b).ownBlock = some k → (vs c).ownBlock ≠ some k
  nodup : (l.map Prod.fst).Nodup
  range : ∀ x ∈ l, 0 ≤ x.1 ∧ x.1 < n ∧ 0 ≤ x.2 ∧ x.2 ≤ 3
def Qu.At (w : World) (g n : Nat) (l : List (Int × Int)) (S : Nat → Prop) : Prop := ∃ ib vs ins, Qu.AtX w g n l S ib vs ins

theorem Qu.AtX.kept {T : Nat → Prop} {w w' : World} {g n : Nat} {l : List (Int × Int)} {S : Nat → Prop} {ib : Nat} {vs : Nat → Value} {ins : Array Value} (h : Qu.AtX w g n l S ib vs ins) (hf : Fr T w w') (hn : ∀ k, S k → ¬ T k) : Qu.AtX w' g n l S ib vs ins :=
  ⟨hf.heap h.blk (hn _ h.sg), hf.heap h.inb (hn _ h.si), h.insz, h.has, fun b hb => (h.rows b hb).kept hf (fun k hk => hn _ (h.own b hb k hk)), h.own, h.sg, h.si, fun k hk => Nat.lt_of_lt_of_le (h.lt k hk) hf.size, h.apart, h.nodup, h.range⟩
theorem Qu.At.kept {T : Nat → Prop} {w w' : World} {g n : Nat} {l : List (Int × Int)} {S : Nat → Prop} (h : Qu.At w g n l S) (hf : Fr T w w') (hn : ∀ k, S k → ¬ T k) : Qu.At w' g n l S := by
  obtain ⟨ib, vs, ins, h⟩ := h
  exact ⟨ib, vs, ins, h.kept hf hn⟩
theorem Qu.At.call {w w' : World} {g n : Nat} {l : List (Int × Int)} {S : Nat → Prop} (h : Qu.At w g n l S) (hf : Below w.heap.size w w') : Qu.At w' g n l S :=
  h.kept (T := fun _ => False) (Fr.of_below hf) (fun _ _ => id)
theorem Qu.AtX.out {w : World} {g n : Nat} {l : List (Int × Int)} {S : Nat → Prop} {ib : Nat} {vs : Nat → Value} {ins : Array Value} (h : Qu.AtX w g n l S ib vs ins) (id : Int) (hr : ¬ (0 ≤ id ∧ id < n)) : id ∉ l.map Prod.fst := by
  intro hm
  obtain ⟨x, hx, rfl⟩ := List.mem_map.1 hm
  have := h.range x hx
  omega

set_option maxHeartbeats 400000 in
theorem queue_is_nil (id : Int) (w : World) : Calls Try.prog 30 #[.pointer none, .int .i64 id] w fun e w' => e = .returned (.bool false) ∧ w = w' := by
  go_enter Try.func30, Try.ntmps30
  go_wp2
  go_ret
  exact ⟨rfl, rfl⟩
set_option maxHeartbeats 400000 in
theorem queue_is (g : Nat) (id : Int) (w : World) (A : Option Addr) (n c : Nat) (hn : n ≤ 1000000) (hc : w.cell? ⟨g, 0, none⟩ = some (.slice A n c)) :
    Calls Try.prog 30 #[.pointer (some ⟨g, 0, none⟩), .int .i64 id] w fun e w' => e = .returned (.bool (decide (0 ≤ id ∧ id < n))) ∧ w = w' := by
  by_cases h : 0 ≤ id
  · have e : decide (0 ≤ id ∧ id < (n : Int)) = decide (id < (n : Int)) := by simp [h]
    rw [e]
    go_enter Try.func30, Try.ntmps30
    go_wp2
    go_ret
    exact ⟨rfl, rfl⟩
  · have e : decide (0 ≤ id ∧ id < (n : Int)) = false := by simp; omega
    rw [e]
    go_enter Try.func30, Try.ntmps30
    go_wp2
    go_ret
    exact ⟨rfl, rfl⟩

theorem infoBool : (Try.prog.info? 4).map (fun i => (i.zero, i.size, i.bytes)) = some (some (.bool false), 1, 1) := by kernel_rfl
def Qu.New (w : World) (n : Nat) (e : Ending) (w' : World) : Prop := ∃ g S, e = .returned (.pointer (some ⟨g, 0, none⟩)) ∧ Qu.At w' g n [] S ∧ (∀ k, S k → w.heap.size ≤ k) ∧ Below w.heap.size w w'
set_option maxHeartbeats 400000 in
theorem queue_new (n : Int) (w : World) (hn : n ≤ 1000000) :
    Calls Try.prog 10 #[.int .i64 n] w (Qu.New w n.toNat) := by
  have hmk : ∀ w : World, (Instr.makeSlice 56 (.int .i64 (max 0 n)) (.int .i64 (max 0 n))).run Try.prog w = .ok (.slice (some ⟨w.heap.size, 0, none⟩) n.toNat n.toNat) (w.alloc (.cells (madeCells #[.bool false] n.toNat) 4)) := by
    intro w
    obtain ⟨i0, hi, hz0, hz1, hz2⟩ := info_parts infoBool
    have := run_makeSlice (P := Try.prog) w 56 4 i0 (.bool false) Try.underlying56 hi hz0 .i64 .i64 (max 0 n) (max 0 n) (by omega) (by omega) (by rw [hz1]; omega) (by rw [hz2]; omega) (by omega)
    rw [this, hz1, show (max 0 n).toNat = n.toNat from by omega, Nat.mul_one]
    rfl
  go_enter Try.func10, Try.ntmps10
  go_wp2
  go_ret
  have HB := heap_alloc (heap_new w (.cells (madeCells #[.bool false] n.toNat) 4)) (.cells #[.slice (some ⟨w.heap.size, 0, none⟩) n.toNat n.toNat, .slice none 0 0, .slice none 0 0, .slice none 0 0, .slice none 0 0] 59)
  have HQ := heap_new (w.alloc (.cells (madeCells #[.bool false] n.toNat) 4)) (.cells #[.slice (some ⟨w.heap.size, 0, none⟩) n.toNat n.toNat, .slice none 0 0, .slice none 0 0, .slice none 0 0, .slice none 0 0] 59)
  have hz : (w.alloc (.cells (madeCells #[.bool false] n.toNat) 4)).heap.size = w.heap.size + 1 := by simp
  rw [hz] at HQ
  refine ⟨w.heap.size + 1, fun k => k = w.heap.size ∨ k = w.heap.size + 1, rfl, ⟨w.heap.size, fun _ => .slice none 0 0, _, ⟨HQ, HB, size_madeCells _ _, ?_, fun b _ => Sl.nil _ _ _, (fun b _ k hk => by cases hk), Or.inr rfl, Or.inl rfl, ?_, (fun b c _ _ _ k hk => by cases hk), List.nodup_nil, (fun x hx => by cases hx)⟩⟩, (fun k hk => by omega), below_alloc (below_alloc (Below.refl _ _) _) _⟩
  · intro i hi
    have := toList_madeCells_one (.bool false) n.toNat
    rw [← Array.getElem?_toList, this, List.getElem?_replicate, if_pos hi]
    simp
  · intro k hk
    have h1 := heap_lt HB
    have h2 := heap_lt HQ
    rcases hk with rfl | rfl
    · exact h1
    · exact h2

theorem Qu.AtX.forms {w : World} {g n : Nat} {l : List (Int × Int)} {S : Nat → Prop} {ib : Nat} {vs : Nat → Value} {ins : Array Value} (h : Qu.AtX w g n l S ib vs ins) :
    ∃ (A : Nat → Option Addr) (c : Nat → Nat), (∀ b, b < 4 → vs b = .slice (A b) (Qu.ids b l).length (c b)) ∧
      w.heap[g]? = some (.cells #[.slice (some ⟨ib, 0, none⟩) n n, .slice (A 0) (Qu.ids 0 l).length (c 0), .slice (A 1) (Qu.ids 1 l).length (c 1), .slice (A 2) (Qu.ids 2 l).length (c 2), .slice (A 3) (Qu.ids 3 l).length (c 3)] 59 (0, 0)) := by
  obtain ⟨A0, c0, e0⟩ := (h.rows 0 (by omega)).len
  obtain ⟨A1, c1, e1⟩ := (h.rows 1 (by omega)).len
  obtain ⟨A2, c2, e2⟩ := (h.rows 2 (by omega)).len
  obtain ⟨A3, c3, e3⟩ := (h.rows 3 (by omega)).len
  refine ⟨fun b => if b = 0 then A0 else if b = 1 then A1 else if b = 2 then A2 else A3, fun b => if b = 0 then c0 else if b = 1 then c1 else if b = 2 then c2 else c3, ?_, ?_⟩
  · intro b hb
    have hc : b = 0 ∨ b = 1 ∨ b = 2 ∨ b = 3 := by omega
    rcases hc with rfl | rfl | rfl | rfl
    · exact e0
    · exact e1
    · exact e2
    · exact e3
  · have := h.blk
    rw [e0, e1, e2, e3] at this
    exact this

theorem Qu.sum (l : List (Int × Int)) (h : ∀ x ∈ l, 0 ≤ x.2 ∧ x.2 ≤ 3) : (Qu.ids 0 l).length + (Qu.ids 1 l).length + (Qu.ids 2 l).length + (Qu.ids 3 l).length = l.length := by
  induction l with
  | nil => rfl
  | cons x l ih =>
    have hx := h x (by simp)
    have := ih (fun y hy => h y (by simp [hy]))
    simp only [Qu.ids_cons, List.length_cons]
    have hc : x.2 = 0 ∨ x.2 = 1 ∨ x.2 = 2 ∨ x.2 = 3 := by omega
    rcases hc with e | e | e | e <;> simp [e] <;> omega

set_option maxHeartbeats 400000 in
theorem queue_has {g n : Nat} {l : List (Int × Int)} {S : Nat → Prop} (id : Int) (w : World) (hn : n ≤ 1000000) (h : Qu.At w g n l S) :
    Calls Try.prog 13 #[.pointer (some ⟨g, 0, none⟩), .int .i64 id] w fun e w' => e = .returned (.bool (decide (id ∈ l.map Prod.fst))) ∧ w = w' := by
  obtain ⟨ib, vs, ins, h⟩ := h
  have hc := cell_of h.blk 0
  have his := queue_is g id w _ n n hn hc
  have HIS := Lib.hid his
  clear his
  by_cases hr : 0 ≤ id ∧ id < n
  · have HR := Lib.hid hr
    obtain ⟨i, rfl⟩ := Int.eq_ofNat_of_zero_le hr.1
    have hv := h.has i (by omega)
    have hi := (cell_of h.inb i).trans hv
    generalize decide ((i : Int) ∈ l.map Prod.fst) = t at *
    have q1 : (0 : Int) ≤ (i : Int) := by omega
    have q2 : (i : Int) < (n : Int) := hr.2
    clear hv h hr
    go_enter Try.func13, Try.ntmps13
    go_wp2_with (go_at_call 30; refine HIS.out.mono ?_; rintro e w1 ⟨rfl, rfl⟩; rw [decide_eq_true HR.out])
    go_ret
    exact ⟨rfl, rfl⟩
  · have hm := h.out id hr
    have HR := Lib.hid hr
    rw [decide_eq_false hm]
    clear h hr hm
    go_enter Try.func13, Try.ntmps13
    go_wp2_with (go_at_call 30; refine HIS.out.mono ?_; rintro e w1 ⟨rfl, rfl⟩; rw [decide_eq_false HR.out])
    go_ret
    exact ⟨rfl, rfl⟩

set_option maxHeartbeats 400000 in
theorem queue_len {g n : Nat} {l : List (Int × Int)} {S : Nat → Prop} (w : World) (hl : l.length ≤ 1000000) (h : Qu.At w g n l S) :
    Calls Try.prog 15 #[.pointer (some ⟨g, 0, none⟩)] w fun e w' => e = .returned (.int .i64 l.length) ∧ w = w' := by
  obtain ⟨ib, vs, ins, h⟩ := h
  obtain ⟨A, c, -, hf⟩ := h.forms
  have hs := Qu.sum l (fun x hx => ⟨(h.range x hx).2.2.1, (h.range x hx).2.2.2⟩)
  have HF := Lib.hid hf
  generalize (Qu.ids 0 l).length = n0 at *
  generalize (Qu.ids 1 l).length = n1 at *
  generalize (Qu.ids 2 l).length = n2 at *
  generalize (Qu.ids 3 l).length = n3 at *
  have HS := Lib.hid hs
  have b0 : n0 ≤ 1000000 ∧ n1 ≤ 1000000 ∧ n2 ≤ 1000000 ∧ n3 ≤ 1000000 := by omega
  obtain ⟨b0, b1, b2, b3⟩ := b0
  clear hf h hs
  have e1 := cell_of HF.out 1
  have e2 := cell_of HF.out 2
  have e3 := cell_of HF.out 3
  have e4 := cell_of HF.out 4
  go_enter Try.func15, Try.ntmps15
  go_wp2
  go_loop [3, 5] (fun s3 s5 => (s5 = .int .i64 0 ∧ s3 = .int .i64 0) ∨ (s5 = .int .i64 1 ∧ s3 = .int .i64 n0) ∨ (s5 = .int .i64 2 ∧ s3 = .int .i64 (n0 + n1)) ∨ (s5 = .int .i64 3 ∧ s3 = .int .i64 (n0 + n1 + n2)) ∨ (s5 = .int .i64 4 ∧ s3 = .int .i64 (n0 + n1 + n2 + n3))) (fun _ s5 => 4 - (intOf s5).toNat)
  case atStart => exact Or.inl ⟨rfl, rfl⟩
  case round =>
    rcases hrel with ⟨rfl, rfl⟩ | ⟨rfl, rfl⟩ | ⟨rfl, rfl⟩ | ⟨rfl, rfl⟩ | ⟨rfl, rfl⟩
    · go_wp2
      exact ⟨Or.inr (Or.inl ⟨rfl, rfl⟩), by simp [intOf]⟩
    · go_wp2
      exact ⟨Or.inr (Or.inr (Or.inl ⟨rfl, rfl⟩)), by simp [intOf]⟩
    · go_wp2
      exact ⟨Or.inr (Or.inr (Or.inr (Or.inl ⟨rfl, rfl⟩))), by simp [intOf]⟩
    · go_wp2
      exact ⟨Or.inr (Or.inr (Or.inr (Or.inr ⟨rfl, rfl⟩))), by simp [intOf]⟩
    · go_wp2
      go_ret
      exact ⟨ret_int (by have := HS.out; omega), rfl⟩
end Go.Proofs.Ytdbjljbkneopcaa
