/- The contract of Range. -/
import Derived.Test.YtdbjljbkneopcaaDoorDomK
namespace Go.Proofs.YtdbjljbkneopcaaDoor
open Go.RowKit
set_option linter.unusedSimpArgs false
set_option linter.unusedVariables false

/-- What holds while a domain is filled. -/
structure Dm.Fl (w wr : World) (off : Int) (dB b n : Nat) (cur : List Nat) (S : Int → Prop) : Prop where
  res : wr.heap[w.heap.size]? = some (.cells #[.int .i64 0, .slice none 0 0, .int .i64 0, .int .i64 0, .int .i64 0] 25 (0, 0))
  d : wr.heap[dB]? = some (.cells #[.int .i64 off, .slice (some ⟨b, 0, none⟩) n n, .int .i64 0, .int .i64 0, .int .i64 0] 25 (0, 0))
  len : cur.length = n
  sl : Sl wr 140 1 (.slice (some ⟨b, 0, none⟩) n n) n (Dm.u64s cur)
  lt : ∀ x ∈ cur, x < 18446744073709551616
  has : ∀ u, u ∈ Bt.els off cur ↔ S u
  b1 : w.heap.size < b
  b2 : dB ≠ b
  b3 : w.heap.size < dB
  below : Below w.heap.size w wr
theorem Dm.Fl.step {w wr : World} {off : Int} {dB b n : Nat} {cur : List Nat} {S : Int → Prop} (h : Dm.Fl w wr off dB b n cur S) (i r : Nat) (hi : i < n) (hr : r < 64) (u : Int) (hu : u = off + 64 * i + r) :
    Dm.Fl w (wr.setCell ⟨b, i, none⟩ (.int .u64 ((cur.getD i 0 ||| 2 ^ r * 1 % 2 ^ 64 : Nat) : Int))) off dB b n (cur.set i (cur.getD i 0 ||| 2 ^ r * 1 % 2 ^ 64)) (fun z => S z ∨ z = u) := by
  have h1 := h.b1
  have h2 := h.b2
  refine ⟨heap_far h.res (by simp; omega) _, heap_far h.d (by simpa using h2) _, by rw [List.length_set]; exact h.len, ?_, ?_, ?_, h.b1, h.b2, h.b3, below_set h.below (by simp; omega) _⟩
  · have := h.sl.set i hi (.int .u64 ((cur.getD i 0 ||| 2 ^ r * 1 % 2 ^ 64 : Nat) : Int))
    rw [Nat.zero_add] at this
    unfold Dm.u64s at this ⊢
    rwa [← List.map_set] at this
  · intro x hx
    rcases List.mem_or_eq_of_mem_set hx with hx | hx
    · exact h.lt x hx
    · rw [hx]
      refine Nat.or_lt_two_pow (n := 64) ?_ (Nat.mod_lt _ (by decide))
      exact h.lt _ (by rw [List.getD_eq_getElem?_getD, List.getElem?_eq_getElem (by rw [h.len]; exact hi)]; simp)
  · intro z
    rw [Bt.els_set off cur i r (by rw [h.len]; exact hi) hr z, h.has, hu]
theorem Dm.Fl.drew_ {w wr : World} {off : Int} {dB b n : Nat} {cur : List Nat} {S T : Int → Prop} (h : Dm.Fl w wr off dB b n cur S) (ht : ∀ u, S u ↔ T u) : Dm.Fl w wr.drew off dB b n cur T :=
  ⟨heap_drew h.res, heap_drew h.d, h.len, h.sl.drew, h.lt, fun u => (h.has u).trans (ht u), h.b1, h.b2, h.b3, h.below.drew⟩

/-- What Range answers. -/
def Dm.Rg (S : Int → Prop) (w : World) (e : Ending) (w' : World) : Prop :=
  ∃ v l, e = .returned (.tuple #[v, .int .i64 0]) ∧ Dm.Rep w' v l ∧ (∀ u, u ∈ l ↔ S u) ∧ Below w.heap.size w w' ∧ ∀ b, Dm.wb v = some b → w.heap.size ≤ b
set_option maxHeartbeats 1000000 in
theorem dom_range_ok (low high : Int) (w : World) (h1 : -1000000 ≤ low) (h2 : low ≤ high) (h3 : high ≤ 1000000) (h4 : high - low < 65536) (hT : Tab w) :
    Calls Tryd.prog 26 #[.int .i64 low, .int .i64 high] w (Dm.Rg (fun u => low ≤ u ∧ u ≤ high) w) := by
  have d1 : decide (-1000000 ≤ low ∧ low ≤ 1000000) = true := decide_eq_true (by omega)
  have d2 : decide (-1000000 ≤ high ∧ high ≤ 1000000) = true := decide_eq_true (by omega)
  have HT := Lib.hid hT
  have D1 := Lib.hid d1
  have D2 := Lib.hid d2
  clear hT d1 d2
  go_enter Tryd.func26, Tryd.ntmps26
  go_wp2_with fail
  refine (dom_in _ _).mono ?_
  rintro e w1 ⟨rfl, rfl⟩
  rw [D1.out]
  go_wp2_with fail
  refine (dom_in _ _).mono ?_
  rintro e w1 ⟨rfl, rfl⟩
  rw [D2.out]
  go_wp2_with fail
  refine (dom_room low high _ h1 h2 h3).mono ?_
  rintro e w2 ⟨b, n, rfl, hn, hs, hb, hbe⟩
  go_wp2_with fail
  have hoff : (low - low % 64) % 64 = 0 ∧ low - low % 64 ≤ low ∧ -1000000 ≤ low - low % 64 ∧ high < low - low % 64 + 64 * n := by omega
  have HI : Hid (Dm.Fl w (w2.alloc (.cells #[.int .i64 (low - low % 64), .slice (some ⟨b, 0, none⟩) n n, .int .i64 0, .int .i64 0, .int .i64 0] 25)) (low - low % 64) w2.heap.size b n (List.replicate n 0) (fun u => low ≤ u ∧ u < low)) := by
    have hsz : w.heap.size + 1 ≤ w2.heap.size := by have := hbe.size; simpa using this
    have hb1 : w.heap.size + 1 ≤ b := by simpa using hb
    have hb2 : b < w2.heap.size := Sl.lt hs rfl
    refine ⟨heap_alloc (heap_call (heap_new _ _) hbe) _, heap_new _ _, by simp, Sl.alloc hs _, fun x hx => by rw [(List.mem_replicate.1 hx).2]; decide, fun u => ?_, by omega, by omega, by omega, below_alloc (below_call (below_alloc (Below.refl _ _) _) hbe) _⟩
    rw [Bt.els_zero]
    constructor
    · intro h; cases h
    · intro h; omega
  generalize low - low % 64 = off at *
  generalize w2.heap.size = dB at *
  clear hs hb hbe
  go_loopg [7] (high - low + 1).toNat (fun k s7 wr => ∃ (v : Int) (cur : List Nat), s7 = .int .i64 v ∧ (k : Int) = high + 1 - v ∧ low ≤ v ∧ Dm.Fl w wr off dB b n cur (fun u => low ≤ u ∧ u < v))
  case atStart => exact ⟨low, _, rfl, by omega, by omega, HI.out⟩
  case round =>
    obtain ⟨v, cur, rfl, hv, hlv, hinv⟩ := hrel
    have H := Lib.hid hinv
    clear hinv
    have x0 := cell_of H.out.d 0
    have x1 := cell_of H.out.d 1
    rcases Int.lt_or_le high v with hk | hk
    · obtain ⟨ho1, ho2, ho3, ho4⟩ := hoff
      have hcl := H.out.len
      have hsl : Sl wr 140 1 (.slice (some ⟨b, 0, none⟩) n n) cur.length (Dm.u64s cur) := by rw [hcl]; exact H.out.sl
      have hrep : Dm.RepX wr off (.slice (some ⟨b, 0, none⟩) n n) cur (Bt.els off cur) := ⟨hsl, H.out.lt, ho1, ho3, by rw [hcl]; omega, rfl, fun u hu => by have := (H.out.has u).1 hu; omega⟩
      have HR := Lib.hid hrep
      have HM := Lib.hid (dom_made off (.slice (some ⟨b, 0, none⟩) n n) cur wr hsl H.out.lt (by omega) (by rw [hcl]; omega) (HT.out.call H.out.below))
      clear hsl hrep hcl
      go_wp2_with fail
      refine HM.out.mono ?_
      rintro e w4 ⟨rfl, hb4⟩
      unfold Dm.val
      have hr2 := heap_call H.out.res hb4
      have HB4 := Lib.hid hb4
      generalize e1 : (Bt.els off cur).headD 0 = lo at *
      generalize e2 : (Bt.els off cur).getLastD 0 = hi at *
      generalize e3 : (Bt.els off cur).length = sz at *
      have E1 := Lib.hid e1
      have E2 := Lib.hid e2
      have E3 := Lib.hid e3
      clear e1 e2 e3 hb4
      have r0 := cell_of hr2 0
      have f0 := frozen_of hr2 0
      have r1 := cell_of hr2 1
      have f1 := frozen_of hr2 1
      have r2 := cell_of hr2 2
      have f2 := frozen_of hr2 2
      have r3 := cell_of hr2 3
      have f3 := frozen_of hr2 3
      have r4 := cell_of hr2 4
      have f4 := frozen_of hr2 4
      clear hr2
      go_wp2_with fail
      refine bodyPost_ret (v := .tuple #[.agg #[.int .i64 off, .slice (some ⟨b, 0, none⟩) n n, .int .i64 lo, .int .i64 hi, .int .i64 sz], .int .i64 0]) (by simp [results, Tryd.results26, go_sem, r0, r1, r2, r3, r4]) rfl ?_
      have hb1 := H.out.b1
      have hfr : ∀ wf, Fr (fun k => k = w.heap.size) w4 wf → Dm.Rg (fun u => low ≤ u ∧ u ≤ high) w (.returned (.tuple #[.agg #[.int .i64 off, .slice (some ⟨b, 0, none⟩) n n, .int .i64 lo, .int .i64 hi, .int .i64 sz], .int .i64 0])) wf := fun wf hf =>
        ⟨_, Bt.els off cur, rfl, ⟨off, _, cur, by rw [← E1.out, ← E2.out, ← E3.out]; rfl, (HR.out.call HB4.out).kept hf (fun k hk e => by have h9 : b = k := Option.some.inj hk; have h8 : k = w.heap.size := e; omega)⟩, fun u => (H.out.has u).trans ⟨fun h => ⟨h.1, by omega⟩, fun h => ⟨h.1, by omega⟩⟩, Fr.below (below_call H.out.below HB4.out) hf (fun i e => by have h8 : i = w.heap.size := e; omega), fun k hk => by have h9 : b = k := Option.some.inj hk; omega⟩
      refine hfr _ ?_
      refine Fr.set (Fr.set (Fr.set (Fr.set (Fr.set (Fr.refl _ _) ?_ _) ?_ _) ?_ _) ?_ _) ?_ _
      all_goals exact fun _ => rfl
    · obtain ⟨ho1, ho2, ho3, ho4⟩ := hoff
      obtain ⟨i, hi⟩ : ∃ i : Nat, (i : Int) = (v - off) / 64 := ⟨((v - off) / 64).toNat, by omega⟩
      obtain ⟨r, hr⟩ : ∃ r : Nat, (r : Int) = (v - off) % 64 := ⟨((v - off) % 64).toNat, by omega⟩
      have hin : i < n := by omega
      have hr64 : r < 64 := by omega
      have e1 : (v - off) / 64 = (i : Int) := hi.symm
      have e2 : (v - off) % 64 = (r : Int) := hr.symm
      have e3 : 0 ≤ v - off := by omega
      have hcell : wr.cell? ⟨b, 0 + i, none⟩ = some (.int .u64 (cur.getD i 0 : Nat)) := Dm.cell_u64 (o := 0) (by rw [H.out.len]; exact H.out.sl) i (by rw [H.out.len]; exact hin)
      rw [Nat.zero_add] at hcell
      have fz := H.out.sl.frozen i
      have hii : (i : Int) < (n : Int) := by omega
      have hvr : v = off + 64 * i + r := by omega
      have hxl : cur.getD i 0 < 18446744073709551616 := H.out.lt _ (by rw [List.getD_eq_getElem?_getD, List.getElem?_eq_getElem (by rw [H.out.len]; exact hin)]; simp)
      have ST := Lib.hid (H.out.step i r hin hr64 v hvr)
      generalize cur.getD i 0 = x at *
      have hsh : IntKind.u64.wrap (2 ^ r : Int) = ((2 ^ r * 1 % 2 ^ 64 : Nat) : Int) := by rw [← Bt.shl 1 r]; simp
      have hor : bits .or .u64 (x : Int) (IntKind.u64.wrap (2 ^ r : Int)) = ((x ||| 2 ^ r * 1 % 2 ^ 64 : Nat) : Int) := by
        rw [hsh]; exact bits_or_u64_nat x _ hxl (Nat.mod_lt _ (by decide))
      have hE : 2 ^ r * 1 % 2 ^ 64 = 2 ^ r % 18446744073709551616 := by simp
      rw [hE] at ST hor
      clear hi hr hvr hsh hE
      go_wp2_with fail
      go_region
      go_wp2_with fail
      go_roundg (gk - 1)
      case measure => omega
      case rel => exact ⟨v + 1, _, by go_num, by omega, by omega, (by first | (rw [hor]; exact ST.out.drew_ (fun u => by show (low ≤ u ∧ u < v) ∨ u = v ↔ low ≤ u ∧ u < v + 1; omega)) | exact ST.out.drew_ (fun u => by show (low ≤ u ∧ u < v) ∨ u = v ↔ low ≤ u ∧ u < v + 1; omega))⟩
end Go.Proofs.YtdbjljbkneopcaaDoor
