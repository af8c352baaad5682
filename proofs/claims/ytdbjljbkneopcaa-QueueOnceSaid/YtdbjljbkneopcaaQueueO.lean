/- The law QueueOnce, walked: it tells true. -/
import Derived.Test.YtdbjljbkneopcaaQueueL
import Derived.Maps.OwnSet
import Derived.Maps.OwnOps
import Derived.Maps.Views
import Derived.Carry
namespace Go.Proofs.Ytdbjljbkneopcaa
open Go.RowKit Go.Maps
set_option linter.unusedSimpArgs false
set_option linter.unusedVariables false

theorem mapKey : Keyed Try.prog 3 := int_keyed Try.underlying3
theorem zeroInt (w : World) : (zeroValue 3).run Try.prog w = .ok (.int .i64 0) w := by kernel_rfl

/-- The map's entries are what l has. -/
structure Qu.MapD (D : DataW Unit) (l : List (Int × Int)) : Prop where
  size : Maps.size D = l.length
  has : ∀ i : Int, Maps.has D (.int .i64 i) = decide (i ∈ l.map Prod.fst)
  at_ : ∀ x ∈ l, D.atKey (.int .i64 x.1) (.lit (.int .i64 0)) = .lit (.int .i64 x.2)
def Qu.Own (w : World) (mb : Nat) (D : DataW Unit) : Prop := w.ownsMap Try.prog 3 (plainElem Try.prog 3) mb (Maps.size D) D
theorem owns_tight {w : World} {P : Program} {k : TypeId} {R : Value → Option (DataW Unit × List MemPlace)} {b n : Nat} {D : DataW Unit} (h : w.ownsMap P k R b n D) : w.ownsMap P k R b (Maps.size D) D := by
  obtain ⟨es, clock, hb, F, _, rfl⟩ := h
  exact ⟨es, clock, hb, F, by simp [Maps.size, length_sorted], rfl⟩
theorem owns_kept {S : Nat → Prop} {w w' : World} {P : Program} {k : TypeId} {R : Value → Option (DataW Unit × List MemPlace)} {b n : Nat} {D : DataW Unit} (h : w.ownsMap P k R b n D) (hf : Fr S w w') (hn : ¬ S b) : w'.ownsMap P k R b n D := by
  obtain ⟨es, clock, hb, r⟩ := h
  exact ⟨es, clock, hf.heap hb hn, r⟩
theorem lit_ne {i j : Int} (h : i ≠ j) : (Lit.int .i64 i) ≠ .int .i64 j := by intro e; cases e; exact h rfl
theorem Qu.MapD.push {D : DataW Unit} {l : List (Int × Int)} (h : Qu.MapD D l) (hD : Maps.Tidy D) (i b : Int) (hi : i ∉ l.map Prod.fst) : Qu.MapD (D.put (.int .i64 i) (.lit (.int .i64 b))) (l ++ [(i, b)]) := by
  refine ⟨?_, fun j => ?_, fun x hx => ?_⟩
  · rw [Maps.size_put hD, h.has, decide_eq_false hi]
    simp [h.size]
  · by_cases e : j = i
    · subst e
      rw [Maps.has_put_same hD.isMap (show WideAt.IsKeyLit (.int .i64 _) from trivial)]
      simp
    · rw [Maps.has_put_other (lit_ne e), h.has]
      simp [e]
  · rcases List.mem_append.1 hx with h1 | h1
    · have : x.1 ≠ i := fun e => hi (e ▸ List.mem_map.2 ⟨x, h1, rfl⟩)
      rw [Maps.atKey_put_other (lit_ne this)]
      exact h.at_ x h1
    · obtain rfl : x = (i, b) := by simpa using h1
      exact Maps.atKey_put_same hD.isMap (show WideAt.IsKeyLit (.int .i64 _) from trivial) _ _
theorem Qu.MapD.pop {D : DataW Unit} {l : List (Int × Int)} (h : Qu.MapD D l) (hD : Maps.Tidy D) (hl : (l.map Prod.fst).Nodup) (a : Nat) (ha : a < l.length) : Qu.MapD (D.del (.int .i64 l[a].1)) (l.eraseIdx a) := by
  have hm := Qu.erase_mem l a ha hl
  have hin : l[a].1 ∈ l.map Prod.fst := List.mem_map.2 ⟨l[a], List.getElem_mem _, rfl⟩
  refine ⟨?_, fun j => ?_, fun x hx => ?_⟩
  · have := Maps.size_del (k := .int .i64 l[a].1) hD
    rw [h.has, decide_eq_true hin, h.size] at this
    rw [List.length_eraseIdx, if_pos ha]
    simp at this
    omega
  · by_cases e : j = l[a].1
    · subst e
      rw [Maps.has_del_same]
      exact (decide_eq_false (fun hh => ((hm _).1 hh).2 rfl)).symm
    · rw [Maps.has_del_other (lit_ne e), h.has]
      have := hm j
      by_cases e2 : j ∈ l.map Prod.fst
      · rw [decide_eq_true e2, decide_eq_true (this.2 ⟨e2, e⟩)]
      · rw [decide_eq_false e2, decide_eq_false (fun hh => e2 (this.1 hh).1)]
  · have h1 : x.1 ∈ (l.eraseIdx a).map Prod.fst := List.mem_map.2 ⟨x, hx, rfl⟩
    have h2 := ((hm _).1 h1).2
    rw [Maps.atKey_del_other (lit_ne h2)]
    exact h.at_ x (List.mem_of_mem_eraseIdx hx)

theorem lit_inj {i j : Int} (h : DataW.lit (H := Unit) (.int .i64 i) = .lit (.int .i64 j)) : j = i := by injection h with h; injection h with _ h; exact h.symm
/-- No bucket is below b. -/
def Qu.Last (l : List (Int × Int)) (b : Int) : Prop := b ≤ 3 ∧ ∀ x ∈ l, b ≤ x.2
theorem Qu.at_range {w : World} {g n : Nat} {l : List (Int × Int)} {S : Nat → Prop} (h : Qu.At w g n l S) : ∀ x ∈ l, 0 ≤ x.1 ∧ x.1 < n ∧ 0 ≤ x.2 ∧ x.2 ≤ 3 := by
  obtain ⟨_, _, _, hx⟩ := h
  exact hx.range
theorem Qu.at_nodup {w : World} {g n : Nat} {l : List (Int × Int)} {S : Nat → Prop} (h : Qu.At w g n l S) : (l.map Prod.fst).Nodup := by
  obtain ⟨_, _, _, hx⟩ := h
  exact hx.nodup
/-- What holds between two acts. -/
structure Qu.Onc (w wr : World) (g mb : Nat) (l : List (Int × Int)) (q : Nat) : Prop where
  at_ : ∃ S, Qu.At wr g 20 l S ∧ (∀ k, S k → w.heap.size ≤ k) ∧ ¬ S mb
  map : ∃ D, Qu.Own wr mb D ∧ Qu.MapD D l
  base : w.heap.size ≤ mb
  len : l.length ≤ q
  below : Below w.heap.size w wr

/-- Behind the queue's call: the map is as it was. -/
theorem Qu.Onc.queue {w wr w2 : World} {g mb : Nat} {l2 : List (Int × Int)} {S : Nat → Prop} {D : DataW Unit} (hmb : mb < wr.heap.size) (ns : ∀ k, S k → w.heap.size ≤ k) (nm : ¬ S mb) (hb : Below w.heap.size w wr) (hD : Qu.Own wr mb D) (ht : Qu.Then wr g 20 S l2 w2) :
    (∃ T, Qu.At w2 g 20 l2 T ∧ (∀ k, T k → w.heap.size ≤ k) ∧ ¬ T mb) ∧ Qu.Own w2 mb D ∧ Below w.heap.size w w2 := by
  obtain ⟨T, a, b, c⟩ := ht
  refine ⟨⟨T, a, fun k hk => (c k hk).elim (ns k) (fun e => Nat.le_trans hb.size e), fun ht => ?_⟩, owns_kept hD b nm, Fr.below hb b ns⟩
  rcases c _ ht with h | h
  · exact nm h
  · omega
/-- Behind a write into the map: the queue is as it was. -/
theorem Qu.Onc.map_ {w wr w2 : World} {g mb q n : Nat} {l2 : List (Int × Int)} {D2 : DataW Unit} (hat : ∃ T, Qu.At wr g 20 l2 T ∧ (∀ k, T k → w.heap.size ≤ k) ∧ ¬ T mb) (hmb : w.heap.size ≤ mb) (hb : Below w.heap.size w wr) (hown : w2.ownsMap Try.prog 3 (plainElem Try.prog 3) mb n D2) (hg : wr.grownBy w2 (some mb)) (hd : Qu.MapD D2 l2) (hq : l2.length ≤ q) :
    Qu.Onc w w2 g mb l2 q := by
  obtain ⟨T, a, b, c⟩ := hat
  have hf := Fr.of_grown hg
  exact ⟨⟨T, a.kept hf (fun k hk e => by cases e; exact c hk), b, c⟩, ⟨D2, owns_tight hown, hd⟩, hmb, hq, Fr.below hb hf (fun i e => by cases e; exact hmb)⟩

set_option maxHeartbeats 1000000 in
set_option maxRecDepth 100000 in
theorem law_queue_once (A : Option Addr) (len cap : Nat) (D I B M : Nat → Int) (w : World) (hlen : len ≤ cap) (hcap : cap ≤ 9223372036854775807) (ha : Qu.Acts w A len D I B M) :
    Calls Try.prog 3 #[.slice A len cap] w fun e w' => e = .returned (.bool true) ∧ Below w.heap.size w w' := by
  have HA := Lib.hid ha
  have hmm := @run_makeMap Try.prog
  clear ha
  go_enter Try.func3, Try.ntmps3
  go_wp2_with fail
  refine (queue_new _ _ (by omega)).mono ?_
  rintro e w1 ⟨g, S1, rfl, a1, n1, b1⟩
  go_wp2_with fail
  rw [show max (min (len : Int) 40) 0 = ((min (len : Int) 40).toNat : Int) from by omega]
  have hm : (min (len : Int) 40).toNat ≤ len ∧ (min (len : Int) 40).toNat ≤ 40 := by omega
  generalize (min (len : Int) 40).toNat = m at *
  obtain ⟨hm1, hm2⟩ := hm
  have HI : Hid (Qu.Onc w (w1.alloc (.map #[] 0)) g w1.heap.size [] 0) :=
    ⟨⟨S1, a1.call (below_alloc (Below.refl _ _) _), n1, fun h => by obtain ⟨_, _, _, hx⟩ := a1; have := hx.lt _ h; omega⟩, ⟨.map [], World.ownsMap_made _ _ _ _, ⟨rfl, fun i => by simp [Maps.has], fun x hx => by cases hx⟩⟩, b1.size, by simp, below_alloc b1 _⟩
  generalize w1.heap.size = mb at *
  clear a1 n1 b1 hmm
  go_loopg [25] m (fun k s25 wr => ∃ (j : Nat) (l : List (Int × Int)), s25 = .int .i64 j ∧ j + k = m ∧ Qu.Onc w wr g mb l j)
  case atStart => exact ⟨0, [], rfl, by omega, HI.out⟩
  case round =>
    obtain ⟨j, l, rfl, hj, hinv⟩ := hrel
    have H := Lib.hid hinv
    obtain ⟨S, a2, ns2, nm2⟩ := hinv.at_
    obtain ⟨DM, ho2, hd2⟩ := hinv.map
    have hmb := ho2.lt
    have HO := Lib.hid ho2
    have HD := Lib.hid hd2
    have A2 := Lib.hid a2
    have NS := Lib.hid ns2
    have NM := Lib.hid nm2
    have hl := hinv.len
    clear hinv a2 ns2 nm2 ho2 hd2
    rcases Nat.eq_zero_or_pos gk with hk | hk
    · obtain rfl : j = m := by omega
      have hsz := HD.out.size
      go_wp2_with (first
        | (at_len; refine wpList_len_own _ rfl _ 25 rfl 3 3 Try.underlying25 _ mb _ DM rfl HO.out ?_)
        | fail)
      clear hsz
      obtain ⟨wo, rfl⟩ : ∃ wo : World, wo = wr := ⟨_, rfl⟩
      obtain ⟨gq, rfl⟩ : ∃ gq : Nat, gq = gk := ⟨_, rfl⟩
      have HL : Hid (Qu.Last l 0) := ⟨by omega, fun x hx => ((Qu.at_range A2.out) x hx).2.2.1⟩
      go_loopg [10, 57] l.length (fun k s10 s57 wr => ∃ (i : Nat) (l3 : List (Int × Int)) (b : Int), s57 = .int .i64 i ∧ s10 = .int .i64 b ∧ i + k = l.length ∧ k = l3.length ∧ Qu.Last l3 b ∧ Qu.Onc w wr g mb l3 40)
      case atStart => exact ⟨0, l, 0, rfl, rfl, by omega, rfl, HL.out, ⟨⟨S, A2.out, NS.out, NM.out⟩, ⟨DM, HO.out, HD.out⟩, H.out.base, by omega, H.out.below⟩⟩
      case round =>
        obtain ⟨i, l3, lb, rfl, rfl, hi, hk3, hlast, hinv⟩ := hrel
        have H := Lib.hid hinv
        have LA := Lib.hid hlast
        obtain ⟨S, a2, ns2, nm2⟩ := hinv.at_
        obtain ⟨DM, ho2, hd2⟩ := hinv.map
        have hmb := ho2.lt
        have HO := Lib.hid ho2
        have HD := Lib.hid hd2
        have A2 := Lib.hid a2
        have NS := Lib.hid ns2
        have NM := Lib.hid nm2
        have hl := hinv.len
        clear hinv a2 ns2 nm2 ho2 hd2 hlast HL
        rcases Nat.eq_zero_or_pos gk with hk | hk
        · obtain rfl : l3 = [] := List.length_eq_zero_iff.1 (by omega)
          have hsz := HD.out.size
          simp only [List.length_nil] at hsz
          go_wp2_with fail
          refine (queue_pop_none _ A2.out).mono ?_
          rintro e w3 ⟨rfl, rfl⟩
          go_wp2_with fail
          refine (queue_wakes _).mono ?_
          rintro e w5 ⟨rfl, hb5⟩
          have A5 := Lib.hid (A2.out.call hb5)
          have HO5 := Lib.hid (owns_kept (S := fun _ => False) HO.out (Fr.of_below hb5) id)
          have HB5 := Lib.hid (below_call H.out.below hb5)
          clear hb5
          go_wp2_with fail
          refine (queue_len _ (by simp) A5.out).mono ?_
          rintro e w6 ⟨rfl, rfl⟩
          have hlr := fun ty => (HO5.out.len Try.underlying25 ty)
          rw [hsz] at hlr
          go_wp2_with fail
          go_ret
          exact ⟨rfl, HB5.out⟩
        · have hil : i < l.length := by omega
          have hne : l3 ≠ [] := fun e => by subst e; simp at hk3; omega
          obtain ⟨a, hat⟩ := Qu.exists_at l3 hne
          have HAT := Lib.hid hat
          have hal : a < l3.length := by obtain ⟨h, _⟩ := hat; exact h
          have hge : (l3.getD a (0, 0)) = l3[a] := by rw [List.getD_eq_getElem?_getD, List.getElem?_eq_getElem hal]; rfl
          have hr := Qu.at_range A2.out l3[a] (List.getElem_mem _)
          have hx2 := LA.out.2 l3[a] (List.getElem_mem _)
          have hatk := HD.out.at_ l3[a] (List.getElem_mem _)
          have hhas := HD.out.has l3[a].1
          rw [decide_eq_true (List.mem_map.2 ⟨l3[a], List.getElem_mem _, rfl⟩)] at hhas
          have HX : Hid (Qu.Last (l3.eraseIdx a) l3[a].2) := ⟨hr.2.2.2, fun x hx => by
            obtain ⟨_, h2, _⟩ := hat
            obtain ⟨jx, hjx, rfl⟩ := List.mem_iff_getElem.1 (List.mem_of_mem_eraseIdx hx)
            exact h2 jx hjx⟩
          have hno : l3[a].1 ∉ (l3.eraseIdx a).map Prod.fst := fun hh => ((Qu.erase_mem l3 a hal (Qu.at_nodup A2.out) _).1 hh).2 rfl
          have hpop := HD.out.pop (HO.out.tidy mapKey) (Qu.at_nodup A2.out) a hal
          have hlen2 : (l3.eraseIdx a).length = l3.length - 1 := by rw [List.length_eraseIdx, if_pos hal]
          have hq := queue_pop (g := g) (n := 20) (S := S) wr (by omega) (by omega) A2.out a hat
          rw [hge] at hq
          have HQ := Lib.hid hq
          have HE := Lib.hid hatk
          have HH := Lib.hid hhas
          have HNO := Lib.hid hno
          have HP := Lib.hid hpop
          have HL2 := Lib.hid hlen2
          clear hq hatk hhas hno hpop hat hge hlen2
          generalize l3[a] = x at *
          generalize l3.eraseIdx a = l4 at *
          obtain ⟨x, y⟩ := x
          simp only at hr hx2
          have HQ : Hid (Calls Try.prog 12 #[.pointer (some ⟨g, 0, none⟩)] wr (Qu.Gives wr g 20 S l4 (.tuple #[.int .i64 x, .bool true]))) := HQ
          have HE : Hid (DM.atKey (.int .i64 x) (.lit (.int .i64 0)) = .lit (.int .i64 y)) := HE
          have HH : Hid (Maps.has DM (.int .i64 x) = true) := HH
          have HNO : Hid (x ∉ l4.map Prod.fst) := HNO
          have HP : Hid (Qu.MapD (DM.del (.int .i64 x)) l4) := HP
          have HX : Hid (Qu.Last l4 y) := HX
          obtain ⟨hx1, hx3, hy1, hy3⟩ := hr
          have HK := Lib.hid (keyOf_int_mk Try.underlying3 (WalkArith.wf_i64 (n := x) (by omega)))
          have hlb := LA.out.1
          go_wp2_with fail
          refine HQ.out.mono ?_
          rintro e w3 ⟨rfl, ht⟩
          have HR := Lib.hid (Qu.Onc.queue hmb NS.out NM.out H.out.below (show Qu.Own _ _ _ from HO.out) ht)
          clear ht
          obtain ⟨T, t1, t2, t3⟩ := HR.out.1
          have A4 := Lib.hid t1
          have T2 := Lib.hid t2
          have T3 := Lib.hid t3
          clear t1 t2 t3
          have hll : l4.length = l3.length - 1 := HL2.out
          go_wp2_with (first
            | (at_lookup; refine wpList_lookup_own_ok_int _ rfl _ _ 25 rfl 3 3 .i64 mapKey Try.underlying25 Try.underlying3 (zeroInt _) mb _ DM rfl HR.out.2.1 _ _ rfl HK.out ?_; intro c hat hwc; rw [HH.out]; have hcy := lit_inj (HE.out.symm.trans hat); have hcl : lb ≤ c := (by omega); have HC := Lib.hid hcy; clear hat hcy)
            | fail)
          refine (queue_has _ _ (by omega) A4.out).mono ?_
          rintro e w5 ⟨rfl, rfl⟩
          rw [decide_eq_false HNO.out]
          have hsz := HD.out.size
          go_wp2_with (first
            | (at_delete; refine wpList_delete_own _ rfl _ _ 25 3 rfl 3 mapKey Try.underlying25 _ mb _ DM rfl HR.out.2.1 _ _ rfl HK.out ?_; intro w6 hown6 hturn6; have HO6 := Lib.hid hown6; have HT6 := Lib.hid hturn6; clear hown6 hturn6)
            | fail)
          go_roundg (gk - 1)
          case measure => omega
          case rel => exact ⟨i + 1, l4, c, by go_num, rfl, by omega, by omega, (by rw [HC.out]; exact HX.out), Qu.Onc.map_ ⟨T, A4.out, T2.out, T3.out⟩ H.out.base HR.out.2.2 HO6.out HT6.out.grown HP.out (by omega)⟩
    · have hjm : j < m := by omega
      obtain ⟨b, o, hAb, hbl, c0, c1, c2, c3⟩ := HA.out.at_ j (by omega)
      subst hAb
      have hI := HA.out.i j (by omega)
      have hB := HA.out.b j (by omega)
      have hcc := (bcell H.out.below).1 b
      rw [← hcc _ hbl] at c0 c1 c2 c3
      clear hcc
      generalize D j = d at *
      generalize I j = id at *
      generalize B j = bk at *
      generalize M j = mm at *
      obtain ⟨hI1, hI2⟩ := hI
      obtain ⟨hB1, hB2⟩ := hB
      have hy2 : max 0 id % 20 ≤ 19 := by omega
      have hy1 : 0 ≤ max 0 id % 20 := by omega
      have hkey := keyOf_int_mk Try.underlying3 (WalkArith.wf_i64 (n := max 0 id % 20) (by omega))
      have HK := Lib.hid hkey
      clear hkey
      have HW := Lib.hid (heap_new wr (.cells #[.int .u8 d, .int .i64 id, .int .i64 bk, .int .u8 mm] 27))
      have HB2 := Lib.hid (below_alloc H.out.below (.cells #[.int .u8 d, .int .i64 id, .int .i64 bk, .int .u8 mm] 27))
      have A3 := Lib.hid (A2.out.call (below_alloc (Below.refl _ _) (.cells #[.int .u8 d, .int .i64 id, .int .i64 bk, .int .u8 mm] 27)))
      have NB := Lib.hid (show ¬ S wr.heap.size from fun hk => by obtain ⟨_, _, _, hx⟩ := A2.out; have := hx.lt _ hk; omega)
      have HO3 := Lib.hid (HO.out.alloc (.cells #[.int .u8 d, .int .i64 id, .int .i64 bk, .int .u8 mm] 27))
      have e1 := cell_of HW.out 1
      have e2 := cell_of HW.out 2
      have hhas := HD.out.has (max 0 id % 20)
      by_cases hin : max 0 id % 20 ∈ l.map Prod.fst
      · rw [decide_eq_true hin] at hhas
        have HH := Lib.hid hhas
        have HN := Lib.hid hin
        clear hhas hin
        go_wp2_with (first
          | (at_lookup; refine wpList_lookup_own_ok_int _ rfl _ _ 25 rfl 3 3 .i64 mapKey Try.underlying25 Try.underlying3 (zeroInt _) mb _ DM rfl HO3.out _ _ rfl HK.out ?_; intro c hat hwc; rw [HH.out]; have HAT := Lib.hid hat; clear hat)
          | fail)
        refine (queue_push_no _ _ _ (by omega) A3.out (Or.inr HN.out)).mono ?_
        rintro e w3 ⟨rfl, rfl⟩
        go_wp2_with fail
        go_roundg (gk - 1)
        case measure => omega
        case rel => exact ⟨j + 1, l, by go_num, by omega, ⟨⟨S, A3.out, NS.out, NM.out⟩, ⟨DM, HO3.out, HD.out⟩, H.out.base, by omega, HB2.out⟩⟩
      · rw [decide_eq_false hin] at hhas
        have HH := Lib.hid hhas
        have HN := Lib.hid hin
        clear hhas hin
        go_wp2_with (first
          | (at_lookup; refine wpList_lookup_own_ok_int _ rfl _ _ 25 rfl 3 3 .i64 mapKey Try.underlying25 Try.underlying3 (zeroInt _) mb _ DM rfl HO3.out _ _ rfl HK.out ?_; intro c hat hwc; rw [HH.out]; have HAT := Lib.hid hat; clear hat)
          | fail)
        refine (queue_push _ _ _ (by omega) (by omega) A3.out ⟨hy1, by omega⟩ HN.out).mono ?_
        rintro e w3 ⟨rfl, ht⟩
        have HT := Lib.hid ht
        have HR := Lib.hid (Qu.Onc.queue (by simp; omega) NS.out NM.out HB2.out (show Qu.Own _ _ _ from HO3.out) ht)
        have HW3 := Lib.hid (show w3.heap[wr.heap.size]? = _ from by obtain ⟨_, _, hfr, _⟩ := HT.out; exact hfr.heap HW.out NB.out)
        have e3 := cell_of HW3.out 2
        clear ht e1 e2
        have hsz := HD.out.size
        go_wp2_with (first
          | (at_mapUpdate; refine wpList_mapUpdate_own _ rfl _ _ _ 25 rfl 3 3 mapKey Try.underlying25 _ mb _ DM rfl HR.out.2.1 (by unfold maxLen; omega) _ _ _ rfl rfl HK.out _ [] (plainElem_int Try.underlying3 (WalkArith.wf_i64 (by omega))) ?_; intro w4 hown4 hg4; have HG := Lib.hid hg4; have HO4 := Lib.hid hown4; clear hg4 hown4)
          | fail)
        go_roundg (gk - 1)
        case measure => omega
        case rel => exact ⟨j + 1, _, by go_num, by omega, Qu.Onc.map_ HR.out.1 H.out.base HR.out.2.2 HO4.out HG.out (HD.out.push (HO.out.tidy mapKey) _ _ HN.out) (by simp; omega)⟩
end Go.Proofs.Ytdbjljbkneopcaa
