-- Printed by wip/tools/hp.sh (functions of the translation, out of Lean's print of them).
import Derived.Test.YtgckohmppefibaaDoorHzx0
namespace Go.Proofs.YtgckohmppefibaaDoorX.Hz
open Go.RowKit Go.Proofs.YtgckohmppefibaaDoorW.PrintWords Go.Proofs.YtgckohmppefibaaDoorW.PrintLast Go.Proofs.YtgckohmppefibaaDoorW.PrintMore
attribute [local go_sem] max2_int min2_int max_two min_two max_three min_three max_four min_four   -- for this text's walks alone
set_option linter.unusedVariables false
set_option linter.unusedSimpArgs false
attribute [local go_sem] Go.Proofs.YtgckohmppefibaaDoor.Hook.cell_two

/-! ### search_order: function 69 -/
theorem info29c : (Tryd.prog.info? 29).map (fun i => (i.zero, i.size, i.bytes)) = some (some (.agg #[(.int .i64 0), (.int .i64 0)]), 2, 16) := by kernel_rfl
set_option maxHeartbeats 2000000 in
set_option maxRecDepth 100000 in
theorem clone29 (A0 : Option Addr) (c0 : Nat) (l0 : List S29) (w : World) (hr0 : Kd.C k29 w A0 l0.length l0) (hb : l0.length ≤ 1000000) :
    Calls Tryd.prog 38 #[.slice A0 l0.length c0] w fun e w' => ∃ v0_ : Value, e = .returned v0_ ∧ Kd.R k29 29 w' w.heap.size (fun _ => True) v0_ l0 ∧ Below w.heap.size w w' := by
  have hq : ∀ (w : World) (a : Option Addr) (n c n' c' : Nat), (binOp .eql 45 (.slice a n c) (.slice none n' c')).run Tryd.prog w = .ok (.bool a.isNone) w := fun w a n c n' c' => Go.Lib.run_eql_slice_nil w _ _ a n c n' c' Tryd.underlying45
  cases A0 with
  | none =>
    have h0 : l0 = [] := by
      cases l0 with
      | nil => rfl
      | cons x l => obtain ⟨ad, e, _⟩ := hr0.2.2 (by simp); cases e
    subst h0
    clear hr0
    go_enter Tryd.func38, Tryd.ntmps38
    go_wp2
    go_ret
    exact ⟨_, rfl, Kd.R_nil _ _ _ _ _, Below.refl _ _⟩
  | some ad =>
    have HR := Aside0.mk hr0
    clear hr0
    go_enter Tryd.func38, Tryd.ntmps38
    go_wp2_with (first | ((with_reducible refine gate_builtin (b := .append) (xs := #[.tmp 5, .tmp 6]) rfl ?_); at_builtin; refine Kd.R_append_rows k29 (w0 := w) w.heap.size rfl (.tmp 5) (.tmp 6) 45 29 (.agg #[.int .i64 0, .int .i64 0]) 16 rfl Tryd.underlying45 info29c rfl (by decide) (by decide) (.slice (some ⟨w.heap.size, 0, none⟩) 0 0) [] l0 (some ad) l0.length c0 (fun _ => True) (fun _ => False) rfl rfl ⟨fun _ _ => trivial, OwnRow.lit (inner := []) w w.heap.size (Reps.none _ _) (Nat.le_refl _) (by simp)⟩ (Kd.C_below HR.out (below_alloc (Below.refl _ _) _)) (fun x cs h => by obtain rfl := k29_open h; exact k29_mkM _ _ _ x) (fun _ h => h.elim) (fun _ _ => trivial) (below_alloc (Below.refl _ _) _) (below_size (below_alloc (Below.refl _ _) _)) (by simp; omega) ?_; intro v1 w1 ho hbel hg hat; have HO := Aside0.mk ho; have HB := Aside0.mk hbel; clear ho hbel hg hat))
    go_ret
    exact ⟨_, rfl, by have h := HO.out; rwa [List.nil_append] at h, HB.out⟩

def pr29 (x : S29) : Int × Int := (x.f0, x.f1)
def un29 (p : Int × Int) : S29 := ⟨p.1, p.2⟩
/-- What nogood.made makes. -/
def madeL (l : List S29) : List S29 := (Go.Proofs.YtgckohmppefibaaDoor.Ng.made (l.map pr29)).map un29
theorem fl_of_reps {w : World} {base : Nat} {ok : Nat → Prop} {l : List S29} {cs : List Value} (h : Reps (k29.M w base ok) 2 l cs) : Go.Proofs.YtgckohmppefibaaDoor.Ng.Fl (l.map pr29) cs := by
  refine ⟨by rw [h.1, List.length_map], fun j hj => ?_⟩
  have hj2 : j < l.length := by rw [List.length_map] at hj; exact hj
  have h2 := k29_openM (h.2 j l[j] (List.getElem?_eq_getElem hj2))
  have a0 := congrArg (fun c : List Value => c[0]?) h2
  have a1 := congrArg (fun c : List Value => c[1]?) h2
  simp only [List.getElem?_take, List.getElem?_drop] at a0 a1
  rw [List.getElem_map]
  exact ⟨a0, a1⟩
theorem reps_of_fl (w : World) (base : Nat) (ok : Nat → Prop) {L : List (Int × Int)} {cs : List Value} (h : Go.Proofs.YtgckohmppefibaaDoor.Ng.Fl L cs) : Reps (k29.M w base ok) 2 (L.map un29) cs := by
  refine ⟨by rw [h.1, List.length_map], fun j p hp => ?_⟩
  obtain ⟨hj, rfl⟩ := List.getElem?_eq_some_iff.1 hp
  have hj2 : j < L.length := by rw [List.length_map] at hj; exact hj
  have h2 := h.2 j hj2
  rw [List.getElem_map]
  have e : (cs.drop (j * 2)).take 2 = [.int .i64 (un29 L[j]).f0, .int .i64 (un29 L[j]).f1] := by
    apply List.ext_getElem?
    intro i
    rw [List.getElem?_take, List.getElem?_drop]
    match i with
    | 0 => exact h2.1
    | 1 => exact h2.2
    | i + 2 => rw [if_neg (by omega)]; rfl
  rw [e]
  exact k29_mkM _ _ _ (un29 L[j])
/-- A clone of some literals: a row of the call's own, its block told. -/
def Cl (l0 : List S29) (w : World) (e : Ending) (w' : World) : Prop := ∃ (g cap : Nat) (cur : Array Value) (cs : List Value), e = .returned (.slice (some ⟨g, 0, none⟩) l0.length cap) ∧ w.heap.size ≤ g ∧ w'.heap[g]? = some (.cells cur 29 (0, 0)) ∧ l0.length ≤ cap ∧ cap ≤ maxLen ∧ cur.size = cap * 2 ∧ cur.toList.take (l0.length * 2) = cs ∧ Go.Proofs.YtgckohmppefibaaDoor.Ng.Fl (l0.map pr29) cs ∧ Below w.heap.size w w'
theorem clone29_pos (A0 : Option Addr) (c0 : Nat) (l0 : List S29) (w : World) (hr0 : Kd.C k29 w A0 l0.length l0) (hb : l0.length ≤ 1000000) (hn : 0 < l0.length) : Calls Tryd.prog 38 #[.slice A0 l0.length c0] w (Cl l0 w) := by
  refine (clone29 A0 c0 l0 w hr0 hb).mono ?_
  rintro e w' ⟨v, rfl, ⟨hok, cs, ⟨hlen, hown⟩, hreps⟩, hbel⟩
  rcases hown with ⟨_, h0⟩ | ⟨g, cap, cur, rfl, hbase, hheap, h1, h2, h3, h4⟩
  · omega
  · exact ⟨g, cap, cur, cs, rfl, hbase, hheap, h1, h2, h3, h4, fl_of_reps hreps, hbel⟩
set_option maxHeartbeats 2000000 in
set_option maxRecDepth 100000 in
theorem compact_small (A : Option Addr) (c : Nat) (w : World) : Calls Tryd.prog 67 #[.slice A 0 c] w fun e w' => e = .returned (.slice A 0 c) ∧ w = w' := by
  go_enter Tryd.func67, Tryd.ntmps67
  go_wp2
  go_ret
  exact ⟨rfl, rfl⟩
set_option maxHeartbeats 4000000 in
set_option maxRecDepth 100000 in
theorem made29 (A0 : Option Addr) (c0 : Nat) (l0 : List S29) (w : World) (hr0 : Kd.C k29 w A0 l0.length l0) (hb : l0.length ≤ 1000000) :
    Calls Tryd.prog 37 #[.slice A0 l0.length c0] w fun e w' => ∃ v0_ : Value, e = .returned v0_ ∧ Kd.R k29 29 w' w.heap.size (fun _ => True) v0_ (madeL l0) ∧ Below w.heap.size w w' := by
  rcases Nat.eq_zero_or_pos l0.length with h0 | hn
  · have e0 : l0 = [] := List.eq_nil_of_length_eq_zero h0
    subst e0
    have HC := Aside0.mk (clone29 A0 c0 [] w hr0 hb)
    clear hr0 h0 hb
    go_enter Tryd.func37, Tryd.ntmps37
    go_wp2_with fail
    refine HC.out.mono ?_
    rintro e w1 ⟨v, rfl, ho, hbel⟩
    obtain ⟨A, c, rfl, _⟩ := OwnRow.slice_ ho.2
    have HO := Aside0.mk ho
    have HB := Aside0.mk hbel
    clear ho hbel
    go_wp2_with fail
    have hs := AnyF.slices_SortFunc_none Tryd.sortLit A c (.func (.func 66) #[] #[]) w1
    refine hs.mono ?_
    rintro e w2 ⟨rfl, rfl⟩
    go_wp2_with fail
    refine (compact_small A c w2).mono ?_
    rintro e w3 ⟨rfl, rfl⟩
    go_wp2_with fail
    go_ret
    refine ⟨_, rfl, ?_, HB.out⟩
    have e1 : madeL [] = [] := by unfold madeL; rw [List.map_nil, Go.Proofs.YtgckohmppefibaaDoor.Ng.made_nil, List.map_nil]
    rw [e1]; exact HO.out
  · have HC := Aside0.mk (clone29_pos A0 c0 l0 w hr0 hb hn)
    clear hr0
    go_enter Tryd.func37, Tryd.ntmps37
    go_wp2_with fail
    refine HC.out.mono ?_
    rintro e w1 ⟨g, cap, cur, cs, rfl, hbase, hheap, h1, h2, h3, h4, hfl, hbel⟩
    have hsz : (l0.map pr29).length = l0.length := List.length_map _
    have hH := Go.Proofs.YtgckohmppefibaaDoor.Ng.holds_own hheap (by rw [hsz]; exact h4) hfl
    have hg : g < w1.heap.size := (Array.getElem?_eq_some_iff.1 hheap).1
    have F1 := Aside0.mk (And.intro hbase (And.intro hheap (And.intro h1 (And.intro h2 (And.intro h3 (And.intro hbel hg))))))
    have FH := Aside0.mk hH
    clear hbase hheap h2 h3 h4 hfl hbel hH
    go_wp2_with fail
    have hs := Go.Proofs.YtgckohmppefibaaDoor.ng_sort g cap (l0.map pr29).toArray w1 FH.out hg (by simp; omega)
    rw [show (l0.map pr29).toArray.size = l0.length from by simp] at hs
    refine hs.mono ?_
    rintro e w2 ⟨rfl, n, os, hw2⟩
    have hH2 := Go.Proofs.YtgckohmppefibaaDoor.Ng.holds_after hg FH.out hw2
    have W2 := Aside0.mk hw2
    have H2 := Aside0.mk hH2
    clear hw2 hH2 hs
    go_wp2_with fail
    have hsz2 : (Go.Proofs.YtgckohmppefibaaDoor.Ng.sorted (l0.map pr29).toArray).size = l0.length := by rw [Go.Proofs.YtgckohmppefibaaDoor.Ng.sorted_size]; simp
    have hc := Go.Proofs.YtgckohmppefibaaDoor.ng_compact g 0 cap (Go.Proofs.YtgckohmppefibaaDoor.Ng.sorted (l0.map pr29).toArray) w2 H2.out (by rw [hsz2]; omega) (by rw [hsz2]; omega)
    rw [hsz2] at hc
    refine hc.mono ?_
    rintro e w3 ⟨F, q, rfl, hw3, hF, hFv⟩
    have W3 := Aside0.mk (And.intro hw3 (And.intro hF hFv))
    clear hw3 hF hFv hc hsz2
    go_wp2_with fail
    go_ret
    obtain ⟨hbase, hheap, h1, h2, h3, hbel, hg⟩ := F1.out
    obtain ⟨hw3, hF, hFv⟩ := W3.out
    have hF2 : F.size = (l0.map pr29).length * 2 := by rw [hF, Go.Proofs.YtgckohmppefibaaDoor.Ng.sorted_size]; simp
    obtain ⟨cs3, hown, hfl3⟩ := Go.Proofs.YtgckohmppefibaaDoor.Ng.own_after (base := w.heap.size) hbase hheap (by rw [hsz]; exact h1) h2 h3 W2.out hw3 hF2 hFv
    have hgr := Go.Proofs.YtgckohmppefibaaDoor.Ng.grown_after hg W2.out hw3
    have hlen : (madeL l0).length = (Go.Proofs.YtgckohmppefibaaDoor.Ng.made (l0.map pr29)).length := by unfold madeL; rw [List.length_map]
    refine ⟨_, rfl, ⟨fun _ _ => trivial, cs3, ?_, reps_of_fl _ _ _ hfl3⟩, hbel.grown hgr hbel.size (fun j hj => by cases hj; exact hbase)⟩
    rw [hlen]
    exact hown

theorem raw29 {w : World} {A : Option Addr} {xs : List S29} (h : Kd.C k29 w A xs.length xs) (hn : 0 < xs.length) : ∃ b o, A = some ⟨b, o, none⟩ ∧ b < w.heap.size ∧ ∀ j (hj : j < xs.length), w.cell? ⟨b, o + j * 2, none⟩ = some (.int .i64 xs[j].f0) ∧ w.cell? ⟨b, o + j * 2 + 1, none⟩ = some (.int .i64 xs[j].f1) := by
  obtain ⟨ad, hA, hc⟩ := h.2.2 hn
  have get : ∀ j (hj : j < xs.length), w.cell? (ad.add (j * 2)) = some (.int .i64 xs[j].f0) ∧ w.cell? (ad.add (j * 2 + 1)) = some (.int .i64 xs[j].f1) := by
    intro j hj
    obtain ⟨c, _, hK, hcell⟩ := hc j xs[j] (List.getElem?_eq_getElem hj)
    obtain rfl := k29_open hK
    exact ⟨hcell 0 _ rfl, hcell 1 _ rfl⟩
  obtain ⟨b, o, sp⟩ := ad
  have h0 := (get 0 hn).1
  have h1 := (get 0 hn).2
  have hsp : sp = none := by
    cases sp with
    | none => rfl
    | some x =>
      exfalso
      simp only [World.cell?, Addr.add] at h0
      simp at h0
      split at h0 <;> cases h0
  subst hsp
  refine ⟨b, o, hA, ?_, fun j hj => ?_⟩
  · have e : (⟨b, o, none⟩ : Addr).add (0 * 2) = ⟨b, o, none⟩ := by simp [Addr.add]
    rw [e] at h0
    exact World.block_lt_of_cell? w _ h0
  · have e : ∀ m, (⟨b, o, none⟩ : Addr).add m = ⟨b, o + m, none⟩ := by intro m; unfold Addr.add; split <;> simp_all
    have g := get j hj
    rw [e, e] at g
    exact ⟨g.1, by rw [Nat.add_assoc]; exact g.2⟩
theorem below_gr {W w : World} (h : Go.Proofs.YtgckohmppefibaaDoor.Ng.Gr W w) : Below W.heap.size W w := by
  obtain ⟨q, os, rfl⟩ := h
  refine ⟨rfl, rfl, rfl, ?_, fun k hk => ?_⟩
  · show W.heap.size ≤ (W.heap ++ os).size
    simp
  · show (W.heap ++ os)[k]? = W.heap[k]?
    rw [Array.getElem?_append_left hk]
theorem ord_at {xs : List S29} (h : Go.Proofs.YtgckohmppefibaaDoor.Ng.Ord (xs.map pr29)) (q m : Nat) (hqm : q < m) (hm : m < xs.length) : Go.Proofs.YtgckohmppefibaaDoor.Ng.lt (pr29 (xs[q]'(Nat.lt_trans hqm hm))) (pr29 xs[m]) := by
  unfold Go.Proofs.YtgckohmppefibaaDoor.Ng.Ord at h
  rw [List.pairwise_iff_getElem] at h
  have h1 := h q m (by rw [List.length_map]; omega) (by rw [List.length_map]; exact hm) hqm
  rw [List.getElem_map, List.getElem_map] at h1
  exact h1
theorem count_bound (p : Int × Int → Bool) : ∀ (l : List (Int × Int)) (i : Nat), i ≤ l.length → (∀ q (hq : q < l.length), q < i → p l[q] = true) → (∀ q (hq : q < l.length), i ≤ q → p l[q] = false) → l.countP p = i
  | [], i, h, _, _ => by simp at h; subst h; rfl
  | a :: l, 0, _, _, h2 => by
    have ha : p a = false := h2 0 (Nat.zero_lt_succ _) (Nat.le_refl _)
    rw [List.countP_cons_of_neg (by rw [ha]; decide)]
    exact count_bound p l 0 (Nat.zero_le _) (fun q hq h => absurd h (Nat.not_lt_zero _)) (fun q hq h => h2 (q + 1) (by simp; omega) (Nat.zero_le _))
  | a :: l, i + 1, h, h1, h2 => by
    have ha : p a = true := h1 0 (Nat.zero_lt_succ _) (Nat.zero_lt_succ _)
    rw [List.countP_cons_of_pos ha, count_bound p l i (by simpa using h) (fun q hq h3 => h1 (q + 1) (by simp; omega) (by omega)) (fun q hq h3 => h2 (q + 1) (by simp; omega) (by omega))]
/-- Where a literal would stand. -/
def plc (xs : List S29) (t : Int × Int) : Nat := (xs.map pr29).countP fun y => decide (Go.Proofs.YtgckohmppefibaaDoor.Ng.cf y t < 0)
theorem plc_at {xs : List S29} {t : Int × Int} {i : Nat} (hi : i ≤ xs.length) (h1 : ∀ q (hq : q < xs.length), q < i → Go.Proofs.YtgckohmppefibaaDoor.Ng.lt (pr29 xs[q]) t) (h2 : ∀ q (hq : q < xs.length), i ≤ q → ¬ Go.Proofs.YtgckohmppefibaaDoor.Ng.lt (pr29 xs[q]) t) : plc xs t = i := by
  refine count_bound _ _ i (by rw [List.length_map]; exact hi) (fun q hq h => ?_) (fun q hq h => ?_)
  · rw [List.length_map] at hq
    rw [List.getElem_map]
    exact decide_eq_true ((Go.Proofs.YtgckohmppefibaaDoor.Ng.cf_lt _ _).2 (h1 q hq h))
  · rw [List.length_map] at hq
    rw [List.getElem_map]
    exact decide_eq_false fun h3 => h2 q hq h ((Go.Proofs.YtgckohmppefibaaDoor.Ng.cf_lt _ _).1 h3)
/-- In order, by a test. -/
def ordB : List (Int × Int) → Bool
  | [] => true
  | x :: l => l.all (fun y => decide (Go.Proofs.YtgckohmppefibaaDoor.Ng.cf x y < 0)) && ordB l
theorem ordB_ord : ∀ l, ordB l = true ↔ Go.Proofs.YtgckohmppefibaaDoor.Ng.Ord l
  | [] => ⟨fun _ => List.Pairwise.nil, fun _ => rfl⟩
  | x :: l => by
    unfold ordB Go.Proofs.YtgckohmppefibaaDoor.Ng.Ord
    rw [Bool.and_eq_true, List.all_eq_true, List.pairwise_cons, ordB_ord l]
    exact ⟨fun h => ⟨fun y hy => (Go.Proofs.YtgckohmppefibaaDoor.Ng.cf_lt x y).1 (of_decide_eq_true (h.1 y hy)), h.2⟩, fun h => ⟨fun y hy => decide_eq_true ((Go.Proofs.YtgckohmppefibaaDoor.Ng.cf_lt x y).2 (h.1 y hy)), h.2⟩⟩
theorem cf_zero (x y : Int × Int) : Go.Proofs.YtgckohmppefibaaDoor.Ng.cf x y = 0 ↔ x = y := by
  have e : x = y ↔ x.1 = y.1 ∧ x.2 = y.2 := ⟨fun h => by rw [h]; exact ⟨rfl, rfl⟩, fun h => Prod.ext h.1 h.2⟩
  rw [e]
  unfold Go.Proofs.YtgckohmppefibaaDoor.Ng.cf Go.Proofs.YtgckohmppefibaaDoor.Ng.or Go.Proofs.YtgckohmppefibaaDoor.Ng.cmp
  repeat' split
  all_goals omega
set_option maxHeartbeats 4000000 in
set_option maxRecDepth 1000000 in
theorem bs29 (A : Option Addr) (c : Nat) (xs : List S29) (t : Int × Int) (w : World) (hr : Kd.C k29 w A xs.length xs) (hb : xs.length ≤ 1000000) (hO : Go.Proofs.YtgckohmppefibaaDoor.Ng.Ord (xs.map pr29)) :
    Calls Tryd.prog 69 #[.slice A xs.length c, .agg #[.int .i64 t.1, .int .i64 t.2], .func (.func 66) #[] #[]] w fun e w' => e = .returned (.tuple #[.int .i64 (plc xs t : Nat), .bool (decide (t ∈ xs.map pr29))]) ∧ Below w.heap.size w w' := by
  obtain ⟨t1, t2⟩ := t
  rcases Nat.eq_zero_or_pos xs.length with h0 | hn
  · have e0 : xs = [] := List.eq_nil_of_length_eq_zero h0
    subst e0
    clear hr hO h0 hb
    go_enter Tryd.func69, Tryd.ntmps69
    go_wp2
    refine wp_loop_rounds 1 ?_
    rw [rounds_succ]
    go_wp2
    go_quiet (fail)
    go_wp2
    go_ret2
    exact ⟨rfl, by repeat (first | exact Below.refl _ _ | apply pw_below_drewN | apply below_drew1 | apply below_alloc)⟩
  · obtain ⟨b, o, rfl, hbw, hcell⟩ := raw29 hr hn
    have HC := Aside0.mk hcell
    have HO := Aside0.mk hO
    have HT : ∀ j (hj : j < xs.length) (w : World), Aside0 (Calls Tryd.prog 66 #[.agg #[.int .i64 xs[j].f0, .int .i64 xs[j].f1], .agg #[.int .i64 t1, .int .i64 t2]] w fun e w' => e = .returned (.int .i64 (Go.Proofs.YtgckohmppefibaaDoor.Ng.cf (pr29 xs[j]) (t1, t2))) ∧ Go.Proofs.YtgckohmppefibaaDoor.Ng.Gr w w') := fun j hj w => Aside0.mk (Go.Proofs.YtgckohmppefibaaDoor.ng_order (pr29 xs[j]) (t1, t2) w)
    clear hr hcell hO
    go_enter Tryd.func69, Tryd.ntmps69
    go_wp2
    go_loopg [9, 10] xs.length (fun kx s9 s10 wr => ∃ lo hi : Nat, s9 = .int .i64 lo ∧ s10 = .int .i64 hi ∧ lo ≤ hi ∧ hi ≤ xs.length ∧ hi - lo ≤ kx ∧ Aside0 (Below (w.alloc (.cells #[.int .i64 t1, .int .i64 t2] 29 (0, 0))).heap.size (w.alloc (.cells #[.int .i64 t1, .int .i64 t2] 29 (0, 0))) wr) ∧
      Aside0 ((∀ q (hq : q < xs.length), q < lo → Go.Proofs.YtgckohmppefibaaDoor.Ng.lt (pr29 xs[q]) (t1, t2)) ∧ (∀ q (hq : q < xs.length), hi ≤ q → ¬ Go.Proofs.YtgckohmppefibaaDoor.Ng.lt (pr29 xs[q]) (t1, t2))))
    case atStart => exact ⟨0, xs.length, rfl, rfl, Nat.zero_le _, Nat.le_refl _, by omega, Aside0.mk (Below.refl _ _), Aside0.mk ⟨fun q hq h => absurd h (Nat.not_lt_zero _), fun q hq h => by omega⟩⟩
    case round =>
      obtain ⟨lo, hi, rfl, rfl, hlh, hin, hg, HB, HI⟩ := hrel
      have hbx : wr.heap[w.heap.size]? = some (.cells #[.int .i64 t1, .int .i64 t2] 29 (0, 0)) := by
        rw [HB.out.block w.heap.size (by simp)]; exact blk_new w _
      have b0 : wr.cell? ⟨w.heap.size, 0, none⟩ = some (.int .i64 t1) := by simp [World.cell?, hbx]
      have b1 : wr.cell? ⟨w.heap.size, 1, none⟩ = some (.int .i64 t2) := by simp [World.cell?, hbx]
      have hel : ∀ j (hj : j < xs.length), wr.cell? ⟨b, o + j * 2, none⟩ = some (.int .i64 xs[j].f0) ∧ wr.cell? ⟨b, o + j * 2 + 1, none⟩ = some (.int .i64 xs[j].f1) := by
        intro j hj
        have h1 : ∀ u, wr.cell? ⟨b, u, none⟩ = w.cell? ⟨b, u, none⟩ := by
          intro u
          rw [HB.out.cell (p := ⟨b, u, none⟩) (by simp; omega)]
          exact (below_alloc (Below.refl w.heap.size w) _).cell (p := ⟨b, u, none⟩) hbw
        rw [h1, h1]
        exact HC.out j hj
      clear hbx
      by_cases hlt : lo < hi
      · have hI0 : (0 : Int) ≤ ((lo : Int) + (hi : Int)) / 2 := by omega
        have hI1 : ((lo : Int) + (hi : Int)) / 2 < (xs.length : Int) := by omega
        have hI2 : (((lo : Int) + (hi : Int)) / 2).toNat = (lo + hi) / 2 := by omega
        obtain ⟨e0, e1⟩ := hel ((lo + hi) / 2) (by omega)
        have hc := HT ((lo + hi) / 2) (by omega)
        have hcf := Go.Proofs.YtgckohmppefibaaDoor.Ng.cf_lt (pr29 xs[(lo + hi) / 2]) (t1, t2)
        have X := Aside0.mk (show xs[(lo + hi) / 2]? = some xs[(lo + hi) / 2] from List.getElem?_eq_getElem (by omega))
        clear hel
        generalize xs[(lo + hi) / 2] = y at e0 e1 hc hcf X
        obtain ⟨y1, y2⟩ := y
        generalize Go.Proofs.YtgckohmppefibaaDoor.Ng.cf (pr29 ⟨y1, y2⟩) (t1, t2) = cc at hc hcf
        have CF := Aside0.mk hcf
        have HCC := Aside0.mk hc
        clear hcf hc
        by_cases hyx : cc < 0
        · have hd : decide (cc < 0) = true := decide_eq_true hyx
          go_wp2_with fail
          go_region_held3 (fun w' => w'.cell? ⟨b, o + (lo + hi) / 2 * 2, none⟩ = some (.int .i64 y1) ∧ w'.cell? ⟨b, o + (lo + hi) / 2 * 2 + 1, none⟩ = some (.int .i64 y2) ∧ w'.cell? ⟨w.heap.size, 0, none⟩ = some (.int .i64 t1) ∧ w'.cell? ⟨w.heap.size, 1, none⟩ = some (.int .i64 t2) ∧ Below wr.heap.size wr w')
            (first | exact ⟨by simp [go_sem, e0], by simp [go_sem, e1], by simp [go_sem, b0], by simp [go_sem, b1], (Below.refl _ _).drew⟩ | exact ⟨hs0, hs1, hs2, hs3, hs4⟩)
            (first | (go_at_call 66; ((with_reducible refine ((HCC.out _).out).mono ?_); rintro e w2 ⟨rfl, hgr⟩; have hb2 := below_gr hgr; have hs0 := (hb2.cell (p := ⟨b, o + (lo + hi) / 2 * 2, none⟩) (World.block_lt_of_cell? _ _ (by simpa [go_sem] using e0))).trans (by simpa [go_sem] using e0); have hs1 := (hb2.cell (p := ⟨b, o + (lo + hi) / 2 * 2 + 1, none⟩) (World.block_lt_of_cell? _ _ (by simpa [go_sem] using e1))).trans (by simpa [go_sem] using e1); have hs2 := (hb2.cell (p := ⟨w.heap.size, 0, none⟩) (World.block_lt_of_cell? _ _ (by simpa [go_sem] using b0))).trans (by simpa [go_sem] using b0); have hs3 := (hb2.cell (p := ⟨w.heap.size, 1, none⟩) (World.block_lt_of_cell? _ _ (by simpa [go_sem] using b1))).trans (by simpa [go_sem] using b1); have hs4 := (Below.refl wr.heap.size wr).drew.trans hb2)))
          have HB2 := Aside0.mk (below_step HB.out hs4)
          clear hs0 hs1 hs2 hs3 hs4 e0 e1 b0 b1
          have hI2 : Aside0 ((∀ q (hq : q < xs.length), q < (lo + hi) / 2 + 1 → Go.Proofs.YtgckohmppefibaaDoor.Ng.lt (pr29 xs[q]) (t1, t2)) ∧ (∀ q (hq : q < xs.length), hi ≤ q → ¬ Go.Proofs.YtgckohmppefibaaDoor.Ng.lt (pr29 xs[q]) (t1, t2))) := Aside0.mk ⟨fun q hq h => by
            obtain ⟨hm, hx⟩ := List.getElem?_eq_some_iff.1 X.out
            have hl := CF.out.1 hyx
            rcases Nat.lt_or_ge q ((lo + hi) / 2) with h5 | h5
            · have h6 := ord_at HO.out q ((lo + hi) / 2) h5 hm
              rw [hx] at h6
              exact Go.Proofs.YtgckohmppefibaaDoor.Ng.lt_trans h6 hl
            · have h7 : q = (lo + hi) / 2 := by omega
              subst h7
              rw [hx]; exact hl, HI.out.2⟩
          clear HI X CF hyx
          go_wp2_with fail
          go_roundg (hi - ((lo + hi) / 2 + 1))
          case measure => omega
          case rel => exact ⟨(lo + hi) / 2 + 1, hi, by rw [show ((lo : Int) + (hi : Int)) / 2 + 1 = (((lo + hi) / 2 + 1 : Nat) : Int) from by omega], rfl, by omega, hin, Nat.le_refl _, HB2, hI2⟩
        · have hd : decide (cc < 0) = false := decide_eq_false hyx
          have HY := Aside0.mk hyx
          clear hyx
          go_wp2_with fail
          go_region_held3 (fun w' => w'.cell? ⟨b, o + (lo + hi) / 2 * 2, none⟩ = some (.int .i64 y1) ∧ w'.cell? ⟨b, o + (lo + hi) / 2 * 2 + 1, none⟩ = some (.int .i64 y2) ∧ w'.cell? ⟨w.heap.size, 0, none⟩ = some (.int .i64 t1) ∧ w'.cell? ⟨w.heap.size, 1, none⟩ = some (.int .i64 t2) ∧ Below wr.heap.size wr w')
            (first | exact ⟨by simp [go_sem, e0], by simp [go_sem, e1], by simp [go_sem, b0], by simp [go_sem, b1], (Below.refl _ _).drew⟩ | exact ⟨hs0, hs1, hs2, hs3, hs4⟩)
            (first | (go_at_call 66; ((with_reducible refine ((HCC.out _).out).mono ?_); rintro e w2 ⟨rfl, hgr⟩; have hb2 := below_gr hgr; have hs0 := (hb2.cell (p := ⟨b, o + (lo + hi) / 2 * 2, none⟩) (World.block_lt_of_cell? _ _ (by simpa [go_sem] using e0))).trans (by simpa [go_sem] using e0); have hs1 := (hb2.cell (p := ⟨b, o + (lo + hi) / 2 * 2 + 1, none⟩) (World.block_lt_of_cell? _ _ (by simpa [go_sem] using e1))).trans (by simpa [go_sem] using e1); have hs2 := (hb2.cell (p := ⟨w.heap.size, 0, none⟩) (World.block_lt_of_cell? _ _ (by simpa [go_sem] using b0))).trans (by simpa [go_sem] using b0); have hs3 := (hb2.cell (p := ⟨w.heap.size, 1, none⟩) (World.block_lt_of_cell? _ _ (by simpa [go_sem] using b1))).trans (by simpa [go_sem] using b1); have hs4 := (Below.refl wr.heap.size wr).drew.trans hb2)))
          have HB2 := Aside0.mk (below_step HB.out hs4)
          clear hs0 hs1 hs2 hs3 hs4 e0 e1 b0 b1
          have hI2 : Aside0 ((∀ q (hq : q < xs.length), q < lo → Go.Proofs.YtgckohmppefibaaDoor.Ng.lt (pr29 xs[q]) (t1, t2)) ∧ (∀ q (hq : q < xs.length), (lo + hi) / 2 ≤ q → ¬ Go.Proofs.YtgckohmppefibaaDoor.Ng.lt (pr29 xs[q]) (t1, t2))) := Aside0.mk ⟨HI.out.1, fun q hq h h8 => by
            obtain ⟨hm, hx⟩ := List.getElem?_eq_some_iff.1 X.out
            rcases Nat.lt_or_ge ((lo + hi) / 2) q with h5 | h5
            · have h6 := ord_at HO.out ((lo + hi) / 2) q h5 hq
              rw [hx] at h6
              exact absurd (CF.out.2 (Go.Proofs.YtgckohmppefibaaDoor.Ng.lt_trans h6 h8)) (by have := HY.out; omega)
            · have h7 : q = (lo + hi) / 2 := by omega
              subst h7
              rw [hx] at h8
              exact absurd (CF.out.2 h8) (by have := HY.out; omega)⟩
          clear HI X CF HY
          go_wp2_with fail
          go_roundg ((lo + hi) / 2 - lo)
          case measure => omega
          case rel => exact ⟨lo, (lo + hi) / 2, rfl, by rw [show ((lo : Int) + (hi : Int)) / 2 = (((lo + hi) / 2 : Nat) : Int) from by omega], by omega, by omega, Nat.le_refl _, HB2, hI2⟩
      · have hlh2 : hi = lo := by omega
        subst hlh2
        have PL := Aside0.mk (plc_at hin HI.out.1 HI.out.2)
        by_cases hn2 : hi < xs.length
        · obtain ⟨e0, e1⟩ := hel hi hn2
          have hc := HT hi hn2
          have hcf := cf_zero (pr29 xs[hi]) (t1, t2)
          have HM : Aside0 ((pr29 xs[hi] = (t1, t2)) ↔ (t1, t2) ∈ xs.map pr29) := Aside0.mk ⟨fun h => by rw [← h]; exact List.mem_map_of_mem (List.getElem_mem hn2), fun h => by
            obtain ⟨z, hz, he⟩ := List.mem_map.1 h
            obtain ⟨q, hq, rfl⟩ := List.getElem_of_mem hz
            rcases Nat.lt_trichotomy q hi with h5 | h5 | h5
            · exact absurd (he ▸ HI.out.1 q hq h5) (Go.Proofs.YtgckohmppefibaaDoor.Ng.lt_irr _)
            · subst h5; exact he
            · exact absurd (he ▸ ord_at HO.out hi q h5 hq) (HI.out.2 hi hn2 (Nat.le_refl _))⟩
          clear hel
          generalize xs[hi] = y at e0 e1 hc hcf HM
          obtain ⟨y1, y2⟩ := y
          generalize Go.Proofs.YtgckohmppefibaaDoor.Ng.cf (pr29 ⟨y1, y2⟩) (t1, t2) = cc at hc hcf
          have CF := Aside0.mk hcf
          have HCC := Aside0.mk hc
          clear hcf hc
          by_cases hcz : cc = 0
          · have hd : (cc == 0) = true := beq_iff_eq.2 hcz
            have RES : Aside0 (decide ((t1, t2) ∈ xs.map pr29) = true) := Aside0.mk (decide_eq_true (HM.out.1 (CF.out.1 hcz)))
            clear hcz
            go_wp2_with fail
            go_region_held3 (fun w' => w'.cell? ⟨b, o + hi * 2, none⟩ = some (.int .i64 y1) ∧ w'.cell? ⟨b, o + hi * 2 + 1, none⟩ = some (.int .i64 y2) ∧ w'.cell? ⟨w.heap.size, 0, none⟩ = some (.int .i64 t1) ∧ w'.cell? ⟨w.heap.size, 1, none⟩ = some (.int .i64 t2) ∧ Below wr.heap.size wr w')
              (first | exact ⟨by simp [go_sem, e0], by simp [go_sem, e1], by simp [go_sem, b0], by simp [go_sem, b1], (Below.refl _ _).drew⟩ | exact ⟨hs0, hs1, hs2, hs3, hs4⟩)
              (first | (go_at_call 66; ((with_reducible refine ((HCC.out _).out).mono ?_); rintro e w2 ⟨rfl, hgr⟩; have hb2 := below_gr hgr; have hs0 := (hb2.cell (p := ⟨b, o + hi * 2, none⟩) (World.block_lt_of_cell? _ _ (by simpa [go_sem] using e0))).trans (by simpa [go_sem] using e0); have hs1 := (hb2.cell (p := ⟨b, o + hi * 2 + 1, none⟩) (World.block_lt_of_cell? _ _ (by simpa [go_sem] using e1))).trans (by simpa [go_sem] using e1); have hs2 := (hb2.cell (p := ⟨w.heap.size, 0, none⟩) (World.block_lt_of_cell? _ _ (by simpa [go_sem] using b0))).trans (by simpa [go_sem] using b0); have hs3 := (hb2.cell (p := ⟨w.heap.size, 1, none⟩) (World.block_lt_of_cell? _ _ (by simpa [go_sem] using b1))).trans (by simpa [go_sem] using b1); have hs4 := (Below.refl wr.heap.size wr).drew.trans hb2)))
            go_wp2_with fail
            go_ret2
            rw [RES.out, PL.out]
            exact ⟨rfl, below_step (below_alloc (Below.refl w.heap.size w) _) (below_step HB.out hs4)⟩
          · have hd : (cc == 0) = false := beq_eq_false_iff_ne.2 hcz
            have RES : Aside0 (decide ((t1, t2) ∈ xs.map pr29) = false) := Aside0.mk (decide_eq_false fun h => hcz (CF.out.2 (HM.out.2 h)))
            clear hcz
            go_wp2_with fail
            go_region_held3 (fun w' => w'.cell? ⟨b, o + hi * 2, none⟩ = some (.int .i64 y1) ∧ w'.cell? ⟨b, o + hi * 2 + 1, none⟩ = some (.int .i64 y2) ∧ w'.cell? ⟨w.heap.size, 0, none⟩ = some (.int .i64 t1) ∧ w'.cell? ⟨w.heap.size, 1, none⟩ = some (.int .i64 t2) ∧ Below wr.heap.size wr w')
              (first | exact ⟨by simp [go_sem, e0], by simp [go_sem, e1], by simp [go_sem, b0], by simp [go_sem, b1], (Below.refl _ _).drew⟩ | exact ⟨hs0, hs1, hs2, hs3, hs4⟩)
              (first | (go_at_call 66; ((with_reducible refine ((HCC.out _).out).mono ?_); rintro e w2 ⟨rfl, hgr⟩; have hb2 := below_gr hgr; have hs0 := (hb2.cell (p := ⟨b, o + hi * 2, none⟩) (World.block_lt_of_cell? _ _ (by simpa [go_sem] using e0))).trans (by simpa [go_sem] using e0); have hs1 := (hb2.cell (p := ⟨b, o + hi * 2 + 1, none⟩) (World.block_lt_of_cell? _ _ (by simpa [go_sem] using e1))).trans (by simpa [go_sem] using e1); have hs2 := (hb2.cell (p := ⟨w.heap.size, 0, none⟩) (World.block_lt_of_cell? _ _ (by simpa [go_sem] using b0))).trans (by simpa [go_sem] using b0); have hs3 := (hb2.cell (p := ⟨w.heap.size, 1, none⟩) (World.block_lt_of_cell? _ _ (by simpa [go_sem] using b1))).trans (by simpa [go_sem] using b1); have hs4 := (Below.refl wr.heap.size wr).drew.trans hb2)))
            go_wp2_with fail
            go_ret2
            rw [RES.out, PL.out]
            exact ⟨rfl, below_step (below_alloc (Below.refl w.heap.size w) _) (below_step HB.out hs4)⟩
        · have RES : Aside0 (decide ((t1, t2) ∈ xs.map pr29) = false) := Aside0.mk (decide_eq_false fun h => by
            obtain ⟨z, hz, he⟩ := List.mem_map.1 h
            obtain ⟨q, hq, rfl⟩ := List.getElem_of_mem hz
            exact absurd (he ▸ HI.out.1 q hq (by omega)) (Go.Proofs.YtgckohmppefibaaDoor.Ng.lt_irr _))
          clear hel HI
          go_wp2_with fail
          go_quiet (fail)
          go_wp2
          go_ret2
          rw [RES.out, PL.out]
          exact ⟨rfl, by repeat (first | exact below_step (below_alloc (Below.refl w.heap.size w) _) HB.out | apply pw_below_drewN | apply below_drew1)⟩

def search_order.f (l0 : List (S29)) (a1_0 : Int) (a1_1 : Int) : Option (Int × Bool) := if l0.length ≤ 1000000 ∧ ordB (l0.map pr29) = true then some ((plc l0 (a1_0, a1_1) : Nat), decide ((a1_0, a1_1) ∈ l0.map pr29)) else none
theorem search_order.calls (A0 : Option Addr) (c0 : Nat) (l0 : List (S29)) (a1_0 : Int) (a1_1 : Int) (r1 : Int) (r2 : Bool) (w : World) (hr0 : Kd.C k29 w A0 l0.length l0) (hc0 : l0.length ≤ c0) (h : search_order.f l0 a1_0 a1_1 = some (r1, r2)) :
    Calls Tryd.prog 69 #[.slice A0 l0.length c0, .agg #[.int .i64 a1_0, .int .i64 a1_1], .func (.func 66) #[] #[]] w fun e w' => e = .returned (.tuple #[.int .i64 r1, .bool r2]) ∧ Below w.heap.size w w' := by
  unfold search_order.f at h
  split at h
  · rename_i hs
    cases h
    exact bs29 A0 c0 l0 (a1_0, a1_1) w hr0 hs.1 ((ordB_ord _).1 hs.2)
  · cases h

/-! ### cmp_Or_int: function 82 -/
def cmp_Or_int.l0 : Nat → Int → List Int → Int → Int → Option (Int)
  | 0, _, _, _, _ => none
  | k + 1, x3, x6, x7, x8 => if x8 < x7 then (if 0 ≤ x8 then (if x8 < (x6.length : Int) then (if (rd x6 x8) = x3 then (cmp_Or_int.l0 k x3 x6 x7 (wrap64 (x8 + 1))) else (some (rd x6 x8))) else (none)) else (none)) else (some x3)
def cmp_Or_int.f (k : Nat) (l0 : List Int) : Option (Int) := cmp_Or_int.l0 k 0 l0 (l0.length : Int) 0
theorem cmp_Or_int.mono_l : ∀ k, (∀ y0 y1 y2 y3, LeO (cmp_Or_int.l0 k y0 y1 y2 y3) (cmp_Or_int.l0 (k + 1) y0 y1 y2 y3))
  | 0 => fun _ _ _ _ r h => by simp [cmp_Or_int.l0] at h
  | k + 1 => by
    have ih0 := cmp_Or_int.mono_l k
    · intro y0 y1 y2 y3
      unfold cmp_Or_int.l0
      repeat' first
      | (with_reducible exact ih0 _ _ _ _)
      | (with_reducible exact LeO.refl _)
      | (with_reducible exact LeO.none _)
      | (with_reducible refine LeO.ite ?_ ?_)
      | (with_reducible refine LeO.bind ?_ (fun _ => ?_))
      | exact ih0 _ _ _ _
      | exact LeO.none _
      | refine LeO.ite ?_ ?_
      | refine LeO.bind ?_ (fun _ => ?_)
theorem cmp_Or_int.mono : ∀ a0 k, LeO (cmp_Or_int.f k a0) (cmp_Or_int.f (k + 1) a0) := by
  intro a0 k
  have ih0 := cmp_Or_int.mono_l k
  unfold cmp_Or_int.f
  repeat' first
      | (with_reducible exact ih0 _ _ _ _)
      | (with_reducible exact LeO.refl _)
      | (with_reducible exact LeO.none _)
      | (with_reducible refine LeO.ite ?_ ?_)
      | (with_reducible refine LeO.bind ?_ (fun _ => ?_))
      | exact ih0 _ _ _ _
      | exact LeO.none _
      | refine LeO.ite ?_ ?_
      | refine LeO.bind ?_ (fun _ => ?_)
set_option maxHeartbeats 8000000 in
set_option maxRecDepth 100000 in
theorem cmp_Or_int.calls (k : Nat) (A0 : Option Addr) (c0 : Nat) (l0 : List Int) (r : Int) (w : World) (hr0 : Kd.C (Kd.int .i64) w A0 l0.length l0) (hc0 : l0.length ≤ c0) (h : cmp_Or_int.f k l0 = some r) :
    Calls Tryd.prog 82 #[.slice A0 l0.length c0] w fun e w' => e = .returned (.int .i64 r) ∧ Drawn0 w w' := by
  have HR0 := Aside0.mk hr0
  have HC0 := Aside0.mk hc0
  clear hr0 hc0
  have H : (cmp_Or_int.l0 k 0 l0 (l0.length : Int) 0) = some r := h
  clear h
  have H' := Aside0.mk H
  clear H
  go_enter Tryd.func82, Tryd.ntmps82
  go_wp2
  go_loopg [8] k (fun kq v8 w' => ∃ (x8_1 : Int), v8 = .int .i64 x8_1 ∧ Aside0 (cmp_Or_int.l0 kq 0 l0 (l0.length : Int) x8_1 = some r) ∧ Aside0 (kq ≤ k) ∧ Drawn0 w w')
  case atStart => exact ⟨(0), (by first | rfl | (simp; done) | (simp [*]; done)), H', ⟨Nat.le_refl _⟩, by repeat (first | exact Drawn0.refl _ | apply Drawn0.step)⟩
  case round =>
    clear H'
    obtain ⟨x8_1, rfl, HA, HK1, ⟨m1, rfl⟩⟩ := hrel
    cases gk with
    | zero => exact absurd HA.out (by simp [cmp_Or_int.l0])
    | succ k1 =>
      have H := HA.out
      clear HA
      simp only [cmp_Or_int.l0] at H
      by_cases c2 : x8_1 < (l0.length : Int)
      · rw [if_pos c2] at H
        have c2b0 : decide (x8_1 < (l0.length : Int)) = true := decide_eq_true c2
        clear c2
        by_cases c3 : 0 ≤ x8_1
        · rw [if_pos c3] at H
          have c3b0 : decide (0 ≤ x8_1) = true := decide_eq_true c3
          clear c3
          by_cases c4 : x8_1 < (l0.length : Int)
          · rw [if_pos c4] at H
            have c4b0 : decide (x8_1 < (l0.length : Int)) = true := decide_eq_true c4
            clear c4
            by_cases c5 : (rd l0 x8_1) = 0
            · rw [if_pos c5] at H
              have c5b0 : ((rd l0 x8_1) == 0) = true := beq_iff_eq.mpr c5
              have c5b1 : ((rd l0 x8_1) != 0) = false := bne_eq_false_iff_eq.mpr c5
              clear c5
              have H' := Aside0.mk H
              clear H
              have p101 : 0 ≤ (x8_1 : Int) := of_decide_eq_true (by first | (with_reducible assumption) | assumption)
              have q101 : x8_1 < (l0.length : Int) := of_decide_eq_true (by first | (with_reducible assumption) | assumption)
              obtain ⟨ad101, e101, hx101_0⟩ := Kd.at_int HR0.out x8_1 p101 q101
              cases e101
              replace p101 := eq_true p101
              replace q101 := eq_true q101
              go_wp2
              go_roundg k1
              case measure => have := HK1.out; omega
              case rel => exact ⟨(wrap64 (x8_1 + 1)), (by first | rfl | (simp; done) | (simp [*]; done)), H', ⟨by have := HK1.out; omega⟩, by repeat (first | exact Drawn0.refl _ | apply Drawn0.step)⟩
            · rw [if_neg c5] at H
              have c5b0 : ((rd l0 x8_1) == 0) = false := beq_eq_false_iff_ne.mpr c5
              have c5b1 : ((rd l0 x8_1) != 0) = true := bne_iff_ne.mpr c5
              obtain rfl := Option.some.inj H
              have p101 : 0 ≤ (x8_1 : Int) := of_decide_eq_true (by first | (with_reducible assumption) | assumption)
              have q101 : x8_1 < (l0.length : Int) := of_decide_eq_true (by first | (with_reducible assumption) | assumption)
              obtain ⟨ad101, e101, hx101_0⟩ := Kd.at_int HR0.out x8_1 p101 q101
              cases e101
              replace p101 := eq_true p101
              replace q101 := eq_true q101
              go_wp2
              go_ret
              exact ⟨by first | rfl | (simp; done) | (simp [*]; done), by repeat (first | exact Drawn0.refl _ | apply Drawn0.step)⟩
          · rw [if_neg c4] at H
            exact absurd H (by simp)
        · rw [if_neg c3] at H
          exact absurd H (by simp)
      · rw [if_neg c2] at H
        have c2b0 : decide (x8_1 < (l0.length : Int)) = false := decide_eq_false c2
        clear c2
        obtain rfl := Option.some.inj H
        go_wp2
        go_ret
        exact ⟨by first | rfl | (simp; done) | (simp [*]; done), by repeat (first | exact Drawn0.refl _ | apply Drawn0.step)⟩

/-! ### cmp_isNaN_int: function 97 -/
def cmp_isNaN_int.f (a0 : Int) : Option (Bool) := some (a0 != a0)
set_option maxHeartbeats 8000000 in
set_option maxRecDepth 100000 in
theorem cmp_isNaN_int.calls (a0 : Int) (r : Bool) (w : World) (h : cmp_isNaN_int.f a0 = some r) :
    Calls Tryd.prog 97 #[.int .i64 a0] w fun e w' => e = .returned (.bool r) ∧ Drawn0 w w' := by
  have H : (some (a0 != a0)) = some r := h
  clear h
  obtain rfl := Option.some.inj H
  go_enter Tryd.func97, Tryd.ntmps97
  go_wp2
  go_ret
  exact ⟨by first | rfl | (simp; done) | (simp [*]; done), by repeat (first | exact Drawn0.refl _ | apply Drawn0.step)⟩

/-! ### cmp_Compare_int: function 83 -/
def cmp_Compare_int.f (a0 : Int) (a1 : Int) : Option (Int) := (cmp_isNaN_int.f a0).bind fun t102 => ((cmp_isNaN_int.f a1).bind fun t103 => (if t102 = true then (if t103 = true then (some 0) else (some (-1))) else (if t103 = true then (some 1) else (if a0 < a1 then (some (-1)) else (if a0 > a1 then (some 1) else (some 0))))))
set_option maxHeartbeats 8000000 in
set_option maxRecDepth 100000 in
theorem cmp_Compare_int.calls (a0 : Int) (a1 : Int) (r : Int) (w : World) (h : cmp_Compare_int.f a0 a1 = some r) :
    Calls Tryd.prog 83 #[.int .i64 a0, .int .i64 a1] w fun e w' => e = .returned (.int .i64 r) ∧ Drawn0 w w' := by
  have H : ((cmp_isNaN_int.f a0).bind fun t102 => ((cmp_isNaN_int.f a1).bind fun t103 => (if t102 = true then (if t103 = true then (some 0) else (some (-1))) else (if t103 = true then (some 1) else (if a0 < a1 then (some (-1)) else (if a0 > a1 then (some 1) else (some 0))))))) = some r := h
  clear h
  replace H := Option.bind_eq_some_iff.mp H
  obtain ⟨t102, A30, H⟩ := H
  replace H : ((cmp_isNaN_int.f a1).bind fun t103 => (if t102 = true then (if t103 = true then (some 0) else (some (-1))) else (if t103 = true then (some 1) else (if a0 < a1 then (some (-1)) else (if a0 > a1 then (some 1) else (some 0)))))) = some r := H
  have A3 := Aside0.mk A30
  clear A30
  replace H := Option.bind_eq_some_iff.mp H
  obtain ⟨t103, A40, H⟩ := H
  replace H : (if t102 = true then (if t103 = true then (some 0) else (some (-1))) else (if t103 = true then (some 1) else (if a0 < a1 then (some (-1)) else (if a0 > a1 then (some 1) else (some 0))))) = some r := H
  have A4 := Aside0.mk A40
  clear A40
  by_cases c5 : t102 = true
  · subst c5
    have H1 : (if t103 = true then (some 0) else (some (-1))) = some r := by rw [if_pos rfl] at H; exact H
    clear H
    have H := H1
    clear H1
    by_cases c6 : t103 = true
    · subst c6
      have H1 : (some 0) = some r := by rw [if_pos rfl] at H; exact H
      clear H
      have H := H1
      clear H1
      obtain rfl := Option.some.inj H
      go_enter Tryd.func83, Tryd.ntmps83
      go_wp2_with (first | ((with_reducible refine gate_callee (f := 97) rfl ?_); refine goesL_ (some 8) rfl rfl Tryd.func97 (by kernel_rfl) rfl #[.int .i64 a0] rfl (by (try simp only [List.map_toArray, List.map_cons, List.map_nil]); first | done | rfl | (simp only [List.length_drop, List.length_take]; rfl)) ?_; (with_reducible refine (cmp_isNaN_int.calls a0 true _ A3.out).mono ?_); rintro e w' ⟨rfl, ⟨nd, rfl⟩⟩; refine ⟨_, rfl, ?_⟩) | ((with_reducible refine gate_callee (f := 97) rfl ?_); refine goesL_ (some 10) rfl rfl Tryd.func97 (by kernel_rfl) rfl #[.int .i64 a1] rfl (by (try simp only [List.map_toArray, List.map_cons, List.map_nil]); first | done | rfl | (simp only [List.length_drop, List.length_take]; rfl)) ?_; (with_reducible refine (cmp_isNaN_int.calls a1 true _ A4.out).mono ?_); rintro e w' ⟨rfl, ⟨nd, rfl⟩⟩; refine ⟨_, rfl, ?_⟩))
      go_ret
      exact ⟨by first | rfl | (simp; done) | (simp [*]; done), by repeat (first | exact Drawn0.refl _ | apply Drawn0.step)⟩
    · replace c6 := Bool.eq_false_iff.mpr c6
      subst c6
      have H1 : (some (-1)) = some r := by rw [if_neg (show ¬ (false = true) by decide)] at H; exact H
      clear H
      have H := H1
      clear H1
      obtain rfl := Option.some.inj H
      go_enter Tryd.func83, Tryd.ntmps83
      go_wp2_with (first | ((with_reducible refine gate_callee (f := 97) rfl ?_); refine goesL_ (some 8) rfl rfl Tryd.func97 (by kernel_rfl) rfl #[.int .i64 a0] rfl (by (try simp only [List.map_toArray, List.map_cons, List.map_nil]); first | done | rfl | (simp only [List.length_drop, List.length_take]; rfl)) ?_; (with_reducible refine (cmp_isNaN_int.calls a0 true _ A3.out).mono ?_); rintro e w' ⟨rfl, ⟨nd, rfl⟩⟩; refine ⟨_, rfl, ?_⟩) | ((with_reducible refine gate_callee (f := 97) rfl ?_); refine goesL_ (some 10) rfl rfl Tryd.func97 (by kernel_rfl) rfl #[.int .i64 a1] rfl (by (try simp only [List.map_toArray, List.map_cons, List.map_nil]); first | done | rfl | (simp only [List.length_drop, List.length_take]; rfl)) ?_; (with_reducible refine (cmp_isNaN_int.calls a1 false _ A4.out).mono ?_); rintro e w' ⟨rfl, ⟨nd, rfl⟩⟩; refine ⟨_, rfl, ?_⟩))
      go_ret
      exact ⟨by first | rfl | (simp; done) | (simp [*]; done), by repeat (first | exact Drawn0.refl _ | apply Drawn0.step)⟩
  · replace c5 := Bool.eq_false_iff.mpr c5
    subst c5
    have H1 : (if t103 = true then (some 1) else (if a0 < a1 then (some (-1)) else (if a0 > a1 then (some 1) else (some 0)))) = some r := by rw [if_neg (show ¬ (false = true) by decide)] at H; exact H
    clear H
    have H := H1
    clear H1
    by_cases c7 : t103 = true
    · subst c7
      have H1 : (some 1) = some r := by rw [if_pos rfl] at H; exact H
      clear H
      have H := H1
      clear H1
      obtain rfl := Option.some.inj H
      go_enter Tryd.func83, Tryd.ntmps83
      go_wp2_with (first | ((with_reducible refine gate_callee (f := 97) rfl ?_); refine goesL_ (some 8) rfl rfl Tryd.func97 (by kernel_rfl) rfl #[.int .i64 a0] rfl (by (try simp only [List.map_toArray, List.map_cons, List.map_nil]); first | done | rfl | (simp only [List.length_drop, List.length_take]; rfl)) ?_; (with_reducible refine (cmp_isNaN_int.calls a0 false _ A3.out).mono ?_); rintro e w' ⟨rfl, ⟨nd, rfl⟩⟩; refine ⟨_, rfl, ?_⟩) | ((with_reducible refine gate_callee (f := 97) rfl ?_); refine goesL_ (some 10) rfl rfl Tryd.func97 (by kernel_rfl) rfl #[.int .i64 a1] rfl (by (try simp only [List.map_toArray, List.map_cons, List.map_nil]); first | done | rfl | (simp only [List.length_drop, List.length_take]; rfl)) ?_; (with_reducible refine (cmp_isNaN_int.calls a1 true _ A4.out).mono ?_); rintro e w' ⟨rfl, ⟨nd, rfl⟩⟩; refine ⟨_, rfl, ?_⟩))
      go_ret
      exact ⟨by first | rfl | (simp; done) | (simp [*]; done), by repeat (first | exact Drawn0.refl _ | apply Drawn0.step)⟩
    · replace c7 := Bool.eq_false_iff.mpr c7
      subst c7
      have H1 : (if a0 < a1 then (some (-1)) else (if a0 > a1 then (some 1) else (some 0))) = some r := by rw [if_neg (show ¬ (false = true) by decide)] at H; exact H
      clear H
      have H := H1
      clear H1
      by_cases c8 : a0 < a1
      · rw [if_pos c8] at H
        have c8b0 : decide (a0 < a1) = true := decide_eq_true c8
        clear c8
        obtain rfl := Option.some.inj H
        go_enter Tryd.func83, Tryd.ntmps83
        go_wp2_with (first | ((with_reducible refine gate_callee (f := 97) rfl ?_); refine goesL_ (some 8) rfl rfl Tryd.func97 (by kernel_rfl) rfl #[.int .i64 a0] rfl (by (try simp only [List.map_toArray, List.map_cons, List.map_nil]); first | done | rfl | (simp only [List.length_drop, List.length_take]; rfl)) ?_; (with_reducible refine (cmp_isNaN_int.calls a0 false _ A3.out).mono ?_); rintro e w' ⟨rfl, ⟨nd, rfl⟩⟩; refine ⟨_, rfl, ?_⟩) | ((with_reducible refine gate_callee (f := 97) rfl ?_); refine goesL_ (some 10) rfl rfl Tryd.func97 (by kernel_rfl) rfl #[.int .i64 a1] rfl (by (try simp only [List.map_toArray, List.map_cons, List.map_nil]); first | done | rfl | (simp only [List.length_drop, List.length_take]; rfl)) ?_; (with_reducible refine (cmp_isNaN_int.calls a1 false _ A4.out).mono ?_); rintro e w' ⟨rfl, ⟨nd, rfl⟩⟩; refine ⟨_, rfl, ?_⟩))
        go_ret
        exact ⟨by first | rfl | (simp; done) | (simp [*]; done), by repeat (first | exact Drawn0.refl _ | apply Drawn0.step)⟩
      · rw [if_neg c8] at H
        have c8b0 : decide (a0 < a1) = false := decide_eq_false c8
        clear c8
        by_cases c9 : a0 > a1
        · rw [if_pos c9] at H
          have c9b0 : decide (a1 < a0) = true := decide_eq_true c9
          clear c9
          obtain rfl := Option.some.inj H
          go_enter Tryd.func83, Tryd.ntmps83
          go_wp2_with (first | ((with_reducible refine gate_callee (f := 97) rfl ?_); refine goesL_ (some 8) rfl rfl Tryd.func97 (by kernel_rfl) rfl #[.int .i64 a0] rfl (by (try simp only [List.map_toArray, List.map_cons, List.map_nil]); first | done | rfl | (simp only [List.length_drop, List.length_take]; rfl)) ?_; (with_reducible refine (cmp_isNaN_int.calls a0 false _ A3.out).mono ?_); rintro e w' ⟨rfl, ⟨nd, rfl⟩⟩; refine ⟨_, rfl, ?_⟩) | ((with_reducible refine gate_callee (f := 97) rfl ?_); refine goesL_ (some 10) rfl rfl Tryd.func97 (by kernel_rfl) rfl #[.int .i64 a1] rfl (by (try simp only [List.map_toArray, List.map_cons, List.map_nil]); first | done | rfl | (simp only [List.length_drop, List.length_take]; rfl)) ?_; (with_reducible refine (cmp_isNaN_int.calls a1 false _ A4.out).mono ?_); rintro e w' ⟨rfl, ⟨nd, rfl⟩⟩; refine ⟨_, rfl, ?_⟩))
          go_ret
          exact ⟨by first | rfl | (simp; done) | (simp [*]; done), by repeat (first | exact Drawn0.refl _ | apply Drawn0.step)⟩
        · rw [if_neg c9] at H
          have c9b0 : decide (a1 < a0) = false := decide_eq_false c9
          clear c9
          obtain rfl := Option.some.inj H
          go_enter Tryd.func83, Tryd.ntmps83
          go_wp2_with (first | ((with_reducible refine gate_callee (f := 97) rfl ?_); refine goesL_ (some 8) rfl rfl Tryd.func97 (by kernel_rfl) rfl #[.int .i64 a0] rfl (by (try simp only [List.map_toArray, List.map_cons, List.map_nil]); first | done | rfl | (simp only [List.length_drop, List.length_take]; rfl)) ?_; (with_reducible refine (cmp_isNaN_int.calls a0 false _ A3.out).mono ?_); rintro e w' ⟨rfl, ⟨nd, rfl⟩⟩; refine ⟨_, rfl, ?_⟩) | ((with_reducible refine gate_callee (f := 97) rfl ?_); refine goesL_ (some 10) rfl rfl Tryd.func97 (by kernel_rfl) rfl #[.int .i64 a1] rfl (by (try simp only [List.map_toArray, List.map_cons, List.map_nil]); first | done | rfl | (simp only [List.length_drop, List.length_take]; rfl)) ?_; (with_reducible refine (cmp_isNaN_int.calls a1 false _ A4.out).mono ?_); rintro e w' ⟨rfl, ⟨nd, rfl⟩⟩; refine ⟨_, rfl, ?_⟩))
          go_ret
          exact ⟨by first | rfl | (simp; done) | (simp [*]; done), by repeat (first | exact Drawn0.refl _ | apply Drawn0.step)⟩

/-! ### nogood_order: function 66 -/
def nogood_order.f (k : Nat) (a0_0 : Int) (a0_1 : Int) (a1_0 : Int) (a1_1 : Int) : Option (Int) := (cmp_Compare_int.f a0_0 a1_0).bind fun t106 => ((cmp_Compare_int.f a0_1 a1_1).bind fun t107 => ((cmp_Or_int.f k (([t106, t107] : List Int))).bind fun t111 => (some t111)))
theorem nogood_order.mono : ∀ a0 a1 a2 a3 k, LeO (nogood_order.f k a0 a1 a2 a3) (nogood_order.f (k + 1) a0 a1 a2 a3) := by
  intro a0 a1 a2 a3 k
  unfold nogood_order.f
  repeat' first
      | (with_reducible exact cmp_Or_int.mono _ _)
      | (with_reducible exact LeO.refl _)
      | (with_reducible exact LeO.none _)
      | (with_reducible refine LeO.ite ?_ ?_)
      | (with_reducible refine LeO.bind ?_ (fun _ => ?_))
      | exact cmp_Or_int.mono _ _
      | exact LeO.none _
      | refine LeO.ite ?_ ?_
      | refine LeO.bind ?_ (fun _ => ?_)
def nogood_order.T1 : Bool × List (List Nat × List Nat) := (true, [([], []), ([0], [0]), ([], []), ([2], [2]), ([1, 3], [1, 3]), ([], []), ([5], [5]), ([], []), ([7], [7]), ([6, 8, 4], [6, 8]), ([4, 9], [4, 9]), ([10, 9], [10]), ([11, 11, 0, 1, 2, 3, 4, 5, 6, 7, 8, 9, 10, 11], [11])])
def nogood_order.B1 : List Nat := [0, 1, 0, 4, 15, 0, 32, 0, 128, 511, 1023, 2047, 4095]
theorem nogood_order.tab1 : rtab .any (opsOf Tryd.f66 1) = nogood_order.T1 := by kernel_rfl
theorem nogood_order.bits1 : waitsOk nogood_order.T1.2 nogood_order.B1 = true := by kernel_rfl
set_option maxHeartbeats 8000000 in
set_option maxRecDepth 100000 in
theorem nogood_order.calls (k : Nat) (a0_0 : Int) (a0_1 : Int) (a1_0 : Int) (a1_1 : Int) (r : Int) (w : World) (h : nogood_order.f k a0_0 a0_1 a1_0 a1_1 = some r) :
    Calls Tryd.prog 66 #[.agg #[.int .i64 a0_0, .int .i64 a0_1], .agg #[.int .i64 a1_0, .int .i64 a1_1]] w fun e w' => e = .returned (.int .i64 r) ∧ Below w.heap.size w w' := by
  have hu29 := Tryd.underlying29
  have HB := Aside0.mk (Below.refl w.heap.size w)
  have H : ((cmp_Compare_int.f a0_0 a1_0).bind fun t106 => ((cmp_Compare_int.f a0_1 a1_1).bind fun t107 => ((cmp_Or_int.f k (([t106, t107] : List Int))).bind fun t111 => (some t111)))) = some r := h
  clear h
  replace H := Option.bind_eq_some_iff.mp H
  obtain ⟨t106, A30, H⟩ := H
  replace H : ((cmp_Compare_int.f a0_1 a1_1).bind fun t107 => ((cmp_Or_int.f k (([t106, t107] : List Int))).bind fun t111 => (some t111))) = some r := H
  have A3 := Aside0.mk A30
  clear A30
  replace H := Option.bind_eq_some_iff.mp H
  obtain ⟨t107, A40, H⟩ := H
  replace H : ((cmp_Or_int.f k (([t106, t107] : List Int))).bind fun t111 => (some t111)) = some r := H
  have A4 := Aside0.mk A40
  clear A40
  obtain ⟨y108, hy108⟩ : ∃ y_ : List Int, y_ = (([t106, t107] : List Int)) := ⟨_, rfl⟩
  replace H : ((cmp_Or_int.f k y108).bind fun t111 => (some t111)) = some r := by first | (rw [hy108]; with_reducible exact H) | (have H2_ := (Option.bind_some _ _).symm.trans H; rw [hy108]; with_reducible exact H2_) | (have H2_ := (Option.bind_some _ _).symm.trans H; with_reducible exact H2_) | with_reducible exact H | (rw [hy108]; exact H) | exact H
  have Ny108 := Aside0.mk hy108
  clear hy108
  replace H := Option.bind_eq_some_iff.mp H
  obtain ⟨t111, A50, H⟩ := H
  replace H : (some t111) = some r := H
  have A5 := Aside0.mk A50
  clear A50
  obtain rfl := Option.some.inj H
  go_enter Tryd.func66, Tryd.ntmps66
  try go_wp2_with (first | ((with_reducible refine gate_dst (N := 2) rfl ?_); refine box_event ?hg (N := 2) ?hd (cs := #[.int .i64 a0_0, .int .i64 a0_1]) (t := 29) ?hr ?_; (case hd => rfl); (case hg => rfl); (case hr => first | (go_simp; done) | (go_simp; rfl)); intro gb104 hg w6 hbox hb; have n0_ := Aside0.mk (below_step (by repeat (first | (with_reducible first | exact HB.out | apply below_alloc | apply pw_below_drewN | apply below_drew1) | exact HB.out)) hb); have n1_ := Aside0.mk (hbox); have n2_ := Aside0.mk ((by rw [hg]; exact (below_size (by repeat (first | (with_reducible first | exact HB.out | apply below_alloc | apply pw_below_drewN | apply below_drew1) | exact HB.out))) : w.heap.size ≤ gb104)); have n3_ := Aside0.mk ((by rw [hg]; exact (below_size (by repeat (first | (with_reducible first | exact HB.out | apply below_alloc | apply pw_below_drewN | apply below_drew1) | exact HB.out))) : w.heap.size ≤ gb104)); clear HB; have HB := n0_; have BK104 := n1_; have GW104 := n2_; have GE104 := n3_; clear n0_ n1_ n2_ n3_; clear hb hbox hg) | ((with_reducible refine gate_dst (N := 3) rfl ?_); refine box_event ?hg (N := 3) ?hd (cs := #[.int .i64 a1_0, .int .i64 a1_1]) (t := 29) ?hr ?_; (case hd => rfl); (case hg => rfl); (case hr => first | (go_simp; done) | (go_simp; rfl)); intro gb105 hg w7 hbox hb; have n0_ := Aside0.mk (blk_below (g := gb104) (o := .cells #[.int .i64 a0_0, .int .i64 a0_1] 29 (0, 0)) (by (with_reducible repeat (first | refine blk_drewN ?_ _ | refine blk_drew ?_ | refine blk_alloc ?_ _)); exact BK104.out) hb); have n1_ := Aside0.mk (below_step (by repeat (first | (with_reducible first | exact HB.out | apply below_alloc | apply pw_below_drewN | apply below_drew1 | refine below_set ?_ GE104.out) | exact HB.out)) hb); have n2_ := Aside0.mk (hbox); have n3_ := Aside0.mk ((by rw [hg]; exact (below_size (by repeat (first | (with_reducible first | exact HB.out | apply below_alloc | apply pw_below_drewN | apply below_drew1 | refine below_set ?_ GE104.out) | exact HB.out))) : w.heap.size ≤ gb105)); have n4_ := Aside0.mk ((by rw [hg]; exact (below_size (by repeat (first | (with_reducible first | exact HB.out | apply below_alloc | apply pw_below_drewN | apply below_drew1 | refine below_set ?_ GE104.out) | exact HB.out))) : w.heap.size ≤ gb105)); have n5_ := Aside0.mk ((by rw [hg]; exact Nat.ne_of_lt (blk_lt (g := gb104) (o := .cells #[.int .i64 a0_0, .int .i64 a0_1] 29 (0, 0)) (by (with_reducible repeat (first | refine blk_drewN ?_ _ | refine blk_drew ?_ | refine blk_alloc ?_ _)); exact BK104.out)) : gb104 ≠ gb105)); have n6_ := Aside0.mk ((by rw [hg]; exact Nat.ne_of_gt (blk_lt (g := gb104) (o := .cells #[.int .i64 a0_0, .int .i64 a0_1] 29 (0, 0)) (by (with_reducible repeat (first | refine blk_drewN ?_ _ | refine blk_drew ?_ | refine blk_alloc ?_ _)); exact BK104.out)) : gb105 ≠ gb104)); clear BK104; clear HB; have BK104 := n0_; have HB := n1_; have BK105 := n2_; have GW105 := n3_; have GE105 := n4_; have NB104_105 := n5_; have NB105_104 := n6_; clear n0_ n1_ n2_ n3_ n4_ n5_ n6_; clear hb hbox hg))
  have n0_ := Aside0.mk (blk_drew BK104.out)
  have n1_ := Aside0.mk (blk_drew BK105.out)
  have n2_ := Aside0.mk (below_drew1 HB.out)
  clear BK104
  clear BK105
  clear HB
  have BK104 := n0_
  have BK105 := n1_
  have HB := n2_
  clear n0_ n1_ n2_
  refine start_ (n := 13) (S := fun w' => w'.cell? ⟨gb104, 0, none⟩ = some (.int .i64 a0_0) ∧ w'.cell? ⟨gb104, 1, none⟩ = some (.int .i64 a0_1) ∧ w'.cell? ⟨gb105, 0, none⟩ = some (.int .i64 a1_0) ∧ w'.cell? ⟨gb105, 1, none⟩ = some (.int .i64 a1_1)) (ds := []) #[false, false, false, false, false, false, false, false, false, false, false, false, false] (by kernel_rfl) rfl rfl ⟨(blk_cell BK104.out 0).trans rfl, (blk_cell BK104.out 1).trans rfl, (blk_cell BK105.out 0).trans rfl, (blk_cell BK105.out 1).trans rfl⟩ (fun hHeld => ?_); refine with_tabW nogood_order.tab1 nogood_order.bits1 (fun HT_ HW_ => ?_)
  generalize w7.drew = w8 at BK104 BK105 HB hHeld ⊢
  refine pure_ (i := 0) (N := some 5) (v := ?_) (a' := ?_) #[true, false, false, false, false, false, false, false, false, false, false, false, false] rfl rfl (any_of HT_.out (by kernel_rfl)) (fun _ _ _ h => h) (Or.inl ⟨by rfl, ?_⟩) ?_ ?_
  rotate_left
  · intro w'
    go_simp
    with_reducible rfl
  rotate_left
  · simp only [Act.put, List.setIfInBounds_toArray, List.set_cons_zero, List.set_cons_succ, i64_w, i32_w]
    rfl
  refine pure_ (i := 2) (N := some 7) (v := ?_) (a' := ?_) #[true, false, true, false, false, false, false, false, false, false, false, false, false] rfl rfl (any_of HT_.out (by kernel_rfl)) (fun _ _ _ h => h) (Or.inl ⟨by rfl, ?_⟩) ?_ ?_
  rotate_left
  · intro w'
    go_simp
    with_reducible rfl
  rotate_left
  · simp only [Act.put, List.setIfInBounds_toArray, List.set_cons_zero, List.set_cons_succ, i64_w, i32_w]
    rfl
  refine pure_ (i := 5) (N := some 10) (v := ?_) (a' := ?_) #[true, false, true, false, false, true, false, false, false, false, false, false, false] rfl rfl (any_of HT_.out (by kernel_rfl)) (fun _ _ _ h => h) (Or.inl ⟨by rfl, ?_⟩) ?_ ?_
  rotate_left
  · intro w'
    go_simp
    with_reducible rfl
  rotate_left
  · simp only [Act.put, List.setIfInBounds_toArray, List.set_cons_zero, List.set_cons_succ, i64_w, i32_w]
    rfl
  refine pure_ (i := 7) (N := some 12) (v := ?_) (a' := ?_) #[true, false, true, false, false, true, false, true, false, false, false, false, false] rfl rfl (any_of HT_.out (by kernel_rfl)) (fun _ _ _ h => h) (Or.inl ⟨by rfl, ?_⟩) ?_ ?_
  rotate_left
  · intro w'
    go_simp
    with_reducible rfl
  rotate_left
  · simp only [Act.put, List.setIfInBounds_toArray, List.set_cons_zero, List.set_cons_succ, i64_w, i32_w]
    rfl
  refine take_ (i := 1) (N := some 6) (v := ?_) (a' := ?_) #[true, true, true, false, false, true, false, true, false, false, false, false, false] rfl rfl (take_ofW HT_.out HW_.out (by kernel_rfl)) (fun _ _ _ h => h) (Or.inl ⟨by rfl, ?_⟩) hHeld ?_ ?_
  rotate_left
  · rintro w' ⟨s0, s1, s2, s3⟩
    go_simp
    with_reducible rfl
  rotate_left
  · simp only [Act.put, List.setIfInBounds_toArray, List.set_cons_zero, List.set_cons_succ, i64_w, i32_w]
    rfl
  refine take_ (i := 3) (N := some 8) (v := ?_) (a' := ?_) #[true, true, true, true, false, true, false, true, false, false, false, false, false] rfl rfl (take_ofW HT_.out HW_.out (by kernel_rfl)) (fun _ _ _ h => h) (Or.inl ⟨by rfl, ?_⟩) hHeld ?_ ?_
  rotate_left
  · rintro w' ⟨s0, s1, s2, s3⟩
    go_simp
    with_reducible rfl
  rotate_left
  · simp only [Act.put, List.setIfInBounds_toArray, List.set_cons_zero, List.set_cons_succ, i64_w, i32_w]
    rfl
  refine take_ (i := 6) (N := some 11) (v := ?_) (a' := ?_) #[true, true, true, true, false, true, true, true, false, false, false, false, false] rfl rfl (take_ofW HT_.out HW_.out (by kernel_rfl)) (fun _ _ _ h => h) (Or.inl ⟨by rfl, ?_⟩) hHeld ?_ ?_
  rotate_left
  · rintro w' ⟨s0, s1, s2, s3⟩
    go_simp
    with_reducible rfl
  rotate_left
  · simp only [Act.put, List.setIfInBounds_toArray, List.set_cons_zero, List.set_cons_succ, i64_w, i32_w]
    rfl
  refine take_ (i := 8) (N := some 13) (v := ?_) (a' := ?_) #[true, true, true, true, false, true, true, true, true, false, false, false, false] rfl rfl (take_ofW HT_.out HW_.out (by kernel_rfl)) (fun _ _ _ h => h) (Or.inl ⟨by rfl, ?_⟩) hHeld ?_ ?_
  rotate_left
  · rintro w' ⟨s0, s1, s2, s3⟩
    go_simp
    with_reducible rfl
  rotate_left
  · simp only [Act.put, List.setIfInBounds_toArray, List.set_cons_zero, List.set_cons_succ, i64_w, i32_w]
    rfl
  refine one_ (i := 4) (N := some 9) #[true, true, true, true, true, true, true, true, true, false, false, false, false] rfl rfl (one_of HT_.out (by kernel_rfl)) (by decide) (fun K hK => ?_)
  refine goes_ Tryd.func83 (by kernel_rfl) rfl #[.int .i64 a0_0, .int .i64 a1_0] (by rfl) rfl rfl (by (try simp only [List.map_toArray, List.map_cons, List.map_nil]); first | done | rfl | (simp only [List.length_drop, List.length_take]; rfl)) ?_
  with_reducible refine (cmp_Compare_int.calls a0_0 a1_0 t106 _ A3.out).mono ?_
  rintro e w' ⟨rfl, ⟨nd, rfl⟩⟩
  refine ⟨_, rfl, ?_⟩
  refine hK.out _ _ ⟨(blk_cell BK104.out 0).trans rfl, (blk_cell BK104.out 1).trans rfl, (blk_cell BK105.out 0).trans rfl, (blk_cell BK105.out 1).trans rfl⟩ (fun hHeld => ?_)
  clear hK K
  refine norm_ (a' := ?_) ?_ ?_
  rotate_left
  · show Act.put _ (some 9) _ = _
    simp only [Act.put, List.setIfInBounds_toArray, List.set_cons_zero, List.set_cons_succ, i64_w, i32_w]
    rfl
  refine one_ (i := 9) (N := some 14) #[true, true, true, true, true, true, true, true, true, true, false, false, false] rfl rfl (one_of HT_.out (by kernel_rfl)) (by decide) (fun K hK => ?_)
  refine goes_ Tryd.func83 (by kernel_rfl) rfl #[.int .i64 a0_1, .int .i64 a1_1] (by rfl) rfl rfl (by (try simp only [List.map_toArray, List.map_cons, List.map_nil]); first | done | rfl | (simp only [List.length_drop, List.length_take]; rfl)) ?_
  with_reducible refine (cmp_Compare_int.calls a0_1 a1_1 t107 _ A4.out).mono ?_
  rintro e w' ⟨rfl, ⟨nd, rfl⟩⟩
  refine ⟨_, rfl, ?_⟩
  refine hK.out _ _ ⟨(blk_cell BK104.out 0).trans rfl, (blk_cell BK104.out 1).trans rfl, (blk_cell BK105.out 0).trans rfl, (blk_cell BK105.out 1).trans rfl⟩ (fun hHeld => ?_)
  clear hK K
  refine norm_ (a' := ?_) ?_ ?_
  rotate_left
  · show Act.put _ (some 14) _ = _
    simp only [Act.put, List.setIfInBounds_toArray, List.set_cons_zero, List.set_cons_succ, i64_w, i32_w]
    rfl
  refine one_ (i := 10) (N := some 15) #[true, true, true, true, true, true, true, true, true, true, true, false, false] rfl rfl (one_of HT_.out (by kernel_rfl)) (by decide) (fun K hK => ?_)
  refine Kd.R_lit_step (Kd.int .i64) _ 3 ?hg (N := 15) ?hd (xs := ([t106, t107] : List Int)) (inner := [.int .i64 t106, .int .i64 t107]) (ok := fun _ => True) (okp := fun _ => True) ?hr ?hp (fun _ hk => hk) trivial (Below.refl _ _) (Nat.le_refl _) (by simp) ?_; (case hd => rfl); (case hg => rfl); (case hr => first | (go_simp; done) | (go_simp; rfl)); (case hp => exact (Reps.one (show Kd.M (Kd.int .i64) _ _ _ t106 [.int .i64 t106] from rfl) (Reps.one (show Kd.M (Kd.int .i64) _ _ _ t107 [.int .i64 t107] from rfl) (Reps.none _ _))))
  intro v109 w9 ho10 hb hg_ hnew_
  clear hg_ hnew_
  (first | rw [← Ny108.out] at ho10 | (simp only [Int.reduceToNat] at ho10; rw [← Ny108.out] at ho10))
  have n0_ := Aside0.mk (Kd.R_lower ho10 (below_size (by repeat (first | (with_reducible first | exact HB.out | apply below_alloc | apply pw_below_drewN | apply below_drew1 | refine below_set ?_ GE104.out | refine below_set ?_ GE105.out) | exact HB.out))))
  have n1_ := Aside0.mk (blk_below (g := gb104) (o := .cells #[.int .i64 a0_0, .int .i64 a0_1] 29 (0, 0)) (by (with_reducible repeat (first | refine blk_drewN ?_ _ | refine blk_drew ?_ | refine blk_alloc ?_ _)); exact BK104.out) hb)
  have n2_ := Aside0.mk (blk_below (g := gb105) (o := .cells #[.int .i64 a1_0, .int .i64 a1_1] 29 (0, 0)) (by (with_reducible repeat (first | refine blk_drewN ?_ _ | refine blk_drew ?_ | refine blk_alloc ?_ _)); exact BK105.out) hb)
  have n3_ := Aside0.mk (below_step (by repeat (first | (with_reducible first | exact HB.out | apply below_alloc | apply pw_below_drewN | apply below_drew1 | refine below_set ?_ GE104.out | refine below_set ?_ GE105.out) | exact HB.out)) hb)
  clear BK104
  clear BK105
  clear HB
  have HO110 := n0_
  have BK104 := n1_
  have BK105 := n2_
  have HB := n3_
  clear n0_ n1_ n2_ n3_
  clear hb ho10
  obtain ⟨Ao11, co11, eo11⟩ := Kd.R_slice HO110.out
  (first | subst eo11 | (injection eo11 with f1_ f2_ f3_; have f4_ := f1_.symm; have f5_ := f3_.symm; clear f1_ f2_ f3_; subst f4_; subst f5_))
  refine hK.out _ _ ⟨(blk_cell BK104.out 0).trans rfl, (blk_cell BK104.out 1).trans rfl, (blk_cell BK105.out 0).trans rfl, (blk_cell BK105.out 1).trans rfl⟩ (fun hHeld => ?_)
  clear hK K
  refine norm_ (a' := ?_) ?_ ?_
  rotate_left
  · show Act.put _ (some 15) _ = _
    simp only [Act.put, List.setIfInBounds_toArray, List.set_cons_zero, List.set_cons_succ, i64_w, i32_w]
    rfl
  refine one_ (i := 11) (N := some 16) #[true, true, true, true, true, true, true, true, true, true, true, true, false] rfl rfl (one_of HT_.out (by kernel_rfl)) (by decide) (fun K hK => ?_)
  refine goes_ Tryd.func82 (by kernel_rfl) rfl #[.slice Ao11 y108.length co11] (by rfl) rfl rfl (by (try simp only [List.map_toArray, List.map_cons, List.map_nil]); first | done | rfl | (simp only [List.length_drop, List.length_take]; rfl)) ?_
  with_reducible refine (cmp_Or_int.calls k _ _ y108 t111 _ ?side1 ?side2 A5.out).mono ?_
  (case side1 => repeat (first | exact (Kd.R_reads' HO110.out).2.2 | (with_reducible refine Kd.C_alloc ?_ _) | (with_reducible refine Kd.C_drewN ?_ _) | (with_reducible refine Kd.C_drew ?_)))
  (case side2 => exact (Kd.R_reads' HO110.out).2.1)
  rintro e w' ⟨rfl, ⟨nd, rfl⟩⟩
  refine ⟨_, rfl, ?_⟩
  refine hK.out _ _ ⟨(blk_cell BK104.out 0).trans rfl, (blk_cell BK104.out 1).trans rfl, (blk_cell BK105.out 0).trans rfl, (blk_cell BK105.out 1).trans rfl⟩ (fun hHeld => ?_)
  clear hK K
  refine norm_ (a' := ?_) ?_ ?_
  rotate_left
  · show Act.put _ (some 16) _ = _
    simp only [Act.put, List.setIfInBounds_toArray, List.set_cons_zero, List.set_cons_succ, i64_w, i32_w]
    rfl
  refine pure_ (i := 12) (N := some 4) (v := ?_) (a' := ?_) #[true, true, true, true, true, true, true, true, true, true, true, true, true] rfl rfl (any_of HT_.out (by kernel_rfl)) (fun _ _ _ h => h) (Or.inl ⟨by rfl, ?_⟩) ?_ ?_
  rotate_left
  · intro w'
    go_simp
    with_reducible rfl
  rotate_left
  · simp only [Act.put, List.setIfInBounds_toArray, List.set_cons_zero, List.set_cons_succ, i64_w, i32_w]
    rfl
  refine done_ (done_of HT_.out (by kernel_rfl)) ?_
  try go_wp2
  go_ret
  exact ⟨by first | rfl | (simp [errW_none, errW_some] <;> rfl) | (simp [*, errW_none, errW_some] <;> rfl), by repeat (first | (with_reducible first | exact HB.out | apply below_alloc | apply pw_below_drewN | apply below_drew1 | refine below_set ?_ GE104.out | refine below_set ?_ GE105.out) | exact HB.out)⟩

-- NOT PRINTED: function 69 (nogood_Lit_69)

end Go.Proofs.YtgckohmppefibaaDoorX.Hz
