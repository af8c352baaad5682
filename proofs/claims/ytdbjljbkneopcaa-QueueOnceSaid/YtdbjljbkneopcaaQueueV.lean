/- The contracts of (*Queue).Pop and Clear at any list. -/
import Derived.Test.YtdbjljbkneopcaaQueueU
import Derived.Test.YtdbjljbkneopcaaQueueP
import Derived.Deep.LoopGhost
namespace Go.Proofs.Ytdbjljbkneopcaa
open Go.RowKit
set_option linter.unusedSimpArgs false
set_option linter.unusedVariables false

theorem Qu.exists_at (l : List (Int × Int)) (h : l ≠ []) : ∃ a, Qu.IsAt l a := by
  have step : ∀ j : Nat, j + 1 ≤ l.length → ∃ a : Nat, Qu.Lead l (j + 1) a := by
    intro j
    induction j with
    | zero => intro _; exact ⟨0, Or.inr ⟨0, rfl, by omega, (fun k hk => by rw [show k = 0 from by omega]; exact Int.le_refl _), (fun k hk => by omega)⟩⟩
    | succ j ih =>
      intro hj
      obtain ⟨a, ha⟩ := ih (by omega)
      by_cases hb : Qu.bk l (j + 1) < Qu.bk l a
      · exact ⟨j + 1, Qu.lead_new ha hb⟩
      · exact ⟨a, Qu.lead_old ha hb⟩
  have hp : 0 < l.length := List.length_pos_iff.2 h
  obtain ⟨a, ha⟩ := step (l.length - 1) (by omega)
  rw [show l.length - 1 + 1 = l.length from by omega] at ha
  exact ⟨a, Qu.lead_at ha⟩

theorem queue_pop {g n : Nat} {l : List (Int × Int)} {S : Nat → Prop} (w : World) (hn : n ≤ 1000000) (hl : l.length ≤ 1000000) (h : Qu.At w g n l S) (a : Nat) (ha : Qu.IsAt l a) :
    Calls Try.prog 12 #[.pointer (some ⟨g, 0, none⟩)] w (Qu.Gives w g n S (l.eraseIdx a) (.tuple #[.int .i64 (l.getD a (0, 0)).1, .bool true])) := by
  obtain ⟨hal, h2, h3⟩ := ha
  obtain ⟨ib, vs, ins, hx⟩ := h
  have h : Qu.At w g n l S := ⟨ib, vs, ins, hx⟩
  have hr := hx.range l[a] (List.getElem_mem _)
  have hnd := hx.nodup
  have e : (l.getD a (0, 0)).1 = l[a].1 := by rw [List.getD_eq_getElem?_getD, List.getElem?_eq_getElem hal]; rfl
  rw [e]
  obtain ⟨hids, hoth⟩ := Qu.at_ids l[a].2 l a hal rfl (fun j hj => by have := h3 j hj; omega)
  have hmem := Qu.erase_mem l a hal hnd
  have hnd2 := Qu.erase_nodup l a hnd
  have hsub : ∀ x ∈ l.eraseIdx a, x ∈ l := fun x hx => List.mem_of_mem_eraseIdx hx
  have hlow : ∀ c : Int, c < l[a].2 → Qu.ids c l = [] := fun c hc => Qu.ids_nil c l (fun j hj => by have := h2 j hj; omega)
  obtain ⟨i, hi⟩ := Int.eq_ofNat_of_zero_le hr.1
  rw [hi] at hids hmem ⊢
  have hin : i < n := by omega
  have hc : l[a].2 = 0 ∨ l[a].2 = 1 ∨ l[a].2 = 2 ∨ l[a].2 = 3 := by omega
  rcases hc with e | e | e | e <;> rw [e] at hids hoth hlow
  · exact queue_pop_0 w hn hl h i hin hids hoth hmem hnd2 hsub hlow
  · exact queue_pop_1 w hn hl h i hin hids hoth hmem hnd2 hsub hlow
  · exact queue_pop_2 w hn hl h i hin hids hoth hmem hnd2 hsub hlow
  · exact queue_pop_3 w hn hl h i hin hids hoth hmem hnd2 hsub hlow

theorem Qu.then_trans {w w1 w2 : World} {g n : Nat} {S T : Nat → Prop} {l2 : List (Int × Int)} (hS : ∀ k, S k → k < w.heap.size) (h1 : Fr S w w1) (hT : ∀ k, T k → S k ∨ w.heap.size ≤ k) (h2 : Qu.Then w1 g n T l2 w2) : Qu.Then w g n S l2 w2 := by
  obtain ⟨U, a, b, c⟩ := h2
  refine ⟨U, a, h1.trans2 b (fun k hk ht => ?_), fun k hk => ?_⟩
  · rcases hT k ht with h | h
    · exact h
    · omega
  · rcases c k hk with h | h
    · exact hT k h
    · exact Or.inr (Nat.le_trans h1.size h)

/-- The other result of a pop is not looked at. -/
def Qu.Pops (w : World) (g n : Nat) (S : Nat → Prop) (l : List (Int × Int)) (e : Ending) (w' : World) : Prop :=
  (l = [] ∧ e = .returned (.tuple #[.int .i64 0, .bool false]) ∧ w = w') ∨ ∃ (x : Int) (l' : List (Int × Int)), e = .returned (.tuple #[.int .i64 x, .bool true]) ∧ l'.length + 1 ≤ l.length ∧ Qu.Then w g n S l' w'
theorem queue_pops {g n : Nat} {l : List (Int × Int)} {S : Nat → Prop} (w : World) (hn : n ≤ 1000000) (hl : l.length ≤ 1000000) (h : Qu.At w g n l S) :
    Calls Try.prog 12 #[.pointer (some ⟨g, 0, none⟩)] w (Qu.Pops w g n S l) := by
  by_cases hl0 : l = []
  · subst hl0
    exact (queue_pop_none w h).mono fun e w' hh => Or.inl ⟨rfl, hh.1, hh.2⟩
  · obtain ⟨a, ha⟩ := Qu.exists_at l hl0
    refine (queue_pop w hn hl h a ha).mono fun e w' hh => Or.inr ⟨_, _, hh.1, ?_, hh.2⟩
    obtain ⟨hal, _⟩ := ha
    rw [List.length_eraseIdx, if_pos hal]
    omega

set_option maxHeartbeats 400000 in
theorem queue_clear_nil (w : World) : Calls Try.prog 17 #[.pointer none] w fun e w' => e = .returned (.tuple #[]) ∧ w = w' := by
  go_enter Try.func17, Try.ntmps17
  go_wp2_with (go_at_call 12; refine (queue_pop_nil _).mono ?_; rintro e w1 ⟨rfl, rfl⟩)
  go_loop [3] (fun s => s = .bool false) (fun _ => 0)
  case atStart => rfl
  case round =>
    obtain rfl := hrel
    go_wp2
    go_end0
    exact ⟨rfl, rfl⟩

set_option maxHeartbeats 400000 in
theorem queue_clear {g n : Nat} {l : List (Int × Int)} {S : Nat → Prop} (w : World) (hn : n ≤ 1000000) (hl : l.length ≤ 1000000) (h : Qu.At w g n l S) :
    Calls Try.prog 17 #[.pointer (some ⟨g, 0, none⟩)] w (Qu.Gives w g n S [] (.tuple #[])) := by
  have hS : ∀ k, S k → k < w.heap.size := by obtain ⟨_, _, _, hx⟩ := h; exact hx.lt
  have HS := Lib.hid hS
  have H0 := Lib.hid h
  clear h hS
  go_enter Try.func17, Try.ntmps17
  go_wp2_with fail
  refine (queue_pops _ hn hl H0.out).mono ?_
  rintro e w1 (⟨rfl, rfl, rfl⟩ | ⟨x, l', rfl, hl', ht⟩)
  · go_wp2_with fail
    go_loop [3] (fun s => s = .bool false) (fun _ => 0)
    case atStart => rfl
    case round =>
      obtain rfl := hrel
      go_wp2
      go_end0
      exact ⟨rfl, Qu.then_same H0.out⟩
  · go_wp2_with fail
    go_loopg [3] l.length (fun k s wr => ∃ q : List (Int × Int), Qu.Then w g n S q wr ∧ q.length ≤ 1000000 ∧ ((s = .bool true ∧ q.length + 1 ≤ k) ∨ (s = .bool false ∧ q = [])))
    case atStart => exact ⟨l', ht, by omega, Or.inl ⟨rfl, hl'⟩⟩
    case round =>
      obtain ⟨q, hq, hql, ⟨rfl, hk⟩ | ⟨rfl, rfl⟩⟩ := hrel
      · obtain ⟨T, a, b, c⟩ := hq
        have HA := Lib.hid a
        have HB := Lib.hid b
        have HC := Lib.hid c
        clear a b c
        go_wp2_with fail
        refine (queue_pops _ hn (by omega) HA.out).mono ?_
        rintro e w2 (⟨rfl, rfl, rfl⟩ | ⟨y, q2, rfl, hq2, ht2⟩)
        · go_wp2_with fail
          go_roundg 0
          case measure => simp at hk; omega
          case rel => exact ⟨[], ⟨T, HA.out, HB.out, HC.out⟩, by simp, Or.inr ⟨rfl, rfl⟩⟩
        · have HT := Lib.hid (Qu.then_trans HS.out HB.out HC.out ht2)
          clear ht2
          go_wp2_with fail
          go_roundg q.length
          case measure => omega
          case rel => exact ⟨q2, HT.out, by omega, Or.inl ⟨rfl, hq2⟩⟩
      · have HQ := Lib.hid hq
        clear hq
        go_wp2
        go_end0
        exact ⟨rfl, HQ.out⟩
end Go.Proofs.Ytdbjljbkneopcaa
