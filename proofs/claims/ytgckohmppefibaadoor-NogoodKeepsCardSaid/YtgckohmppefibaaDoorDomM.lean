/- The contract of Of: some numbers, or the error. -/
import Derived.Test.YtgckohmppefibaaDoorDomL
import Derived.Test.YtgckohmppefibaaDoorRefA
namespace Go.Proofs.YtgckohmppefibaaDoor
open Go.RowKit
attribute [local go_sem high] go_max_int go_min_int
set_option linter.unusedSimpArgs false
set_option linter.unusedVariables false

def Iv (l : List Int) : List Value := l.map fun x : Int => .int .i64 x
theorem Iv.length (l : List Int) : (Iv l).length = l.length := by simp [Iv]
theorem Iv.cell {w : World} {b o c : Nat} {l : List Int} (h : Sl w 3 1 (.slice (some ⟨b, o, none⟩) l.length c) l.length (Iv l)) (i : Nat) (hi : i < l.length) : w.cell? ⟨b, o + i, none⟩ = some (.int .i64 (l.getD i 0)) := by
  rw [h.cell i (by omega)]
  unfold Iv
  rw [List.getElem?_map, List.getElem?_eq_getElem hi]
  simp [List.getD_eq_getElem?_getD, List.getElem?_eq_getElem hi]
theorem Sl.big {w : World} {e size n : Nat} {v : Value} {xs : List Value} (h : Sl w e size v n xs) : n ≤ 9223372036854775807 := by
  obtain ⟨_, ⟨_, rfl⟩ | ⟨b, o, c, cs, rfl, _, h3, h4, _⟩⟩ := h
  · exact Nat.zero_le _
  · unfold maxLen at h4; omega
/-- A slice of numbers that is read: its cells. -/
structure Rd (w : World) (sv : Value) (l : List Int) : Prop where
  len : ∃ A c, sv = .slice A l.length c
  big : l.length ≤ 9223372036854775807
  cap : ∀ A n c, sv = .slice A n c → n ≤ c ∧ (A = none → n = 0 ∧ c = 0)
  form : 0 < l.length → ∃ b o c, sv = .slice (some ⟨b, o, none⟩) l.length c ∧ b < w.heap.size ∧ ∀ j, j < l.length → w.cell? ⟨b, o + j, none⟩ = some (.int .i64 (l.getD j 0))
theorem Rd.call {w w' : World} {sv : Value} {l : List Int} (h : Rd w sv l) (hb : Below w.heap.size w w') : Rd w' sv l :=
  ⟨h.len, h.big, h.cap, fun h0 => by
    obtain ⟨b, o, c, e, h1, h2⟩ := h.form h0
    exact ⟨b, o, c, e, Nat.lt_of_lt_of_le h1 hb.size, fun j hj => by rw [(bcell hb).1 b (o + j) h1]; exact h2 j hj⟩⟩
theorem Rd.alloc {w : World} {sv : Value} {l : List Int} (h : Rd w sv l) (o : Obj) : Rd (w.alloc o) sv l := h.call (below_alloc (Below.refl _ _) o)
theorem Rd.drewN {w : World} {sv : Value} {l : List Int} (h : Rd w sv l) (n : Nat) : Rd (w.drewN n) sv l := h.call (below_drewN (Below.refl _ _) n)
theorem Rd.at {w w' : World} {A : Option Addr} {n c : Nat} {l : List Int} (h : Rd w (.slice A n c) l) (hb : Below w.heap.size w w') (j : Nat) (hj : j < l.length) : ∃ b o, A = some ⟨b, o, none⟩ ∧ w'.cell? ⟨b, o + j, none⟩ = some (.int .i64 (l.getD j 0)) := by
  obtain ⟨b, o, c', e, _, h2⟩ := (h.call hb).form (by omega)
  cases e
  exact ⟨b, o, rfl, h2 j hj⟩
theorem Rd.later {w w' : World} {b o n c : Nat} {l : List Int} (h : Rd w (.slice (some ⟨b, o, none⟩) n c) l) (hb : Below w.heap.size w w') (j : Nat) (hj : j < l.length) : w'.cell? ⟨b, o + j, none⟩ = some (.int .i64 (l.getD j 0)) := by
  obtain ⟨b', o', e, h2⟩ := h.at hb j hj
  cases e
  exact h2
theorem Sl.rd {w : World} {sv : Value} {l : List Int} (h : Sl w 3 1 sv l.length (Iv l)) : Rd w sv l := by
  refine ⟨h.len, h.big, ?_, fun h0 => ?_⟩
  · obtain ⟨_, ⟨rfl, h2⟩ | ⟨b, o, c', cs, rfl, _, h3, _⟩⟩ := h
    · intro A n c e
      cases e
      exact ⟨Nat.le_refl _, fun _ => ⟨rfl, rfl⟩⟩
    · intro A n c e
      cases e
      exact ⟨h3, fun e => by cases e⟩
  · obtain ⟨b, o, c', cs, rfl, hc, _⟩ := h.form h0
    exact ⟨b, o, c', rfl, heap_lt hc, fun j hj => Iv.cell h j hj⟩
theorem bang_getD (l : List Int) (j : Nat) : l[j]! = l.getD j 0 := by
  rw [List.getElem!_eq_getElem?_getD, List.getD_eq_getElem?_getD]
  rfl
theorem dom_of_1 (v : Int) (w : World) : Calls Tryd.prog 58 #[.int .i64 v] w fun e w' => e = .returned (.bool (!decide (-1000000 ≤ v ∧ v ≤ 1000000))) ∧ w = w' := by
  have H := Lib.hid (dom_in v w)
  generalize decide (-1000000 ≤ v ∧ v ≤ 1000000) = b at *
  go_enter Tryd.func58, Tryd.ntmps58
  go_wp2_with fail
  refine H.out.mono ?_
  rintro e w2 ⟨rfl, rfl⟩
  go_wp2_with fail
  go_ret
  exact ⟨rfl, rfl⟩
theorem enters_of_1 : ∀ args w, (callFunc 58 args).run Tryd.prog w = .ok (.enter 58 args) w := enters_of Tryd.func58 (by kernel_rfl) rfl
/-- Are there numbers that may not be? -/
def Dm.Draw (x : Value) (w : World) (e : Ending) (w' : World) : Prop := e = .returned x ∧ ∃ q, w' = w.drewN q
theorem dom_of_any (sv : Value) (l : List Int) (w : World) (h : Rd w sv l) :
    Calls Tryd.prog 57 #[sv, .func (.func 58) #[] #[]] w (Dm.Draw (.bool (!Rf.inr l)) w) := by
  have hany : (!Rf.inr l) = l.any fun v => !decide (-1000000 ≤ v ∧ v ≤ 1000000) := by
    unfold Rf.inr; simp [List.not_all_eq_any_not]
  obtain ⟨A, c, rfl⟩ := h.len
  by_cases hn : l = []
  · subst hn
    exact (Tryd.slices_ContainsFunc_empty (α := Int) A c (.func (.func 58) #[] #[]) w).mono fun e w' h => ⟨h.1, 0, by rw [h.2]; rfl⟩
  · have hp : 0 < l.length := List.length_pos_iff.2 hn
    obtain ⟨b, o, c', e, hlt, hcl⟩ := h.form hp
    cases e
    refine (Tryd.slices_ContainsFunc (Value.int .i64) (fun v => !decide (-1000000 ≤ v ∧ v ≤ 1000000)) 58 #[] enters_of_1 b o l.length c l w ?_ (Nat.le_refl _) h.big ?_).mono ?_
    · intro W x hb
      refine (dom_of_1 x W).mono ?_
      rintro e w' ⟨rfl, rfl⟩
      exact ⟨rfl, 0, rfl⟩
    · intro j hj
      rw [hcl j hj, bang_getD]
    · rintro e w' ⟨rfl, q, rfl⟩
      rw [List.take_length, hany]
      exact ⟨rfl, q, rfl⟩
theorem go_max (sv : Value) (l : List Int) (w : World) (h : Rd w sv l) (hn : 0 < l.length) : Calls Tryd.prog 59 #[sv] w fun e w' => e = .returned (.int .i64 (Rf.hi l)) ∧ w = w' := by
  obtain ⟨b, o, c, rfl, _, hcl⟩ := h.form hn
  refine (Tryd.slices_Max_int b o l.length c l w hn (Nat.le_refl _) h.big hcl).mono ?_
  rintro e w' ⟨rfl, rfl⟩
  rw [List.take_length]
  exact ⟨rfl, rfl⟩
theorem go_min (sv : Value) (l : List Int) (w : World) (h : Rd w sv l) (hn : 0 < l.length) : Calls Tryd.prog 60 #[sv] w fun e w' => e = .returned (.int .i64 (Rf.lo l)) ∧ w = w' := by
  obtain ⟨b, o, c, rfl, _, hcl⟩ := h.form hn
  refine (Tryd.slices_Min_int b o l.length c l w hn (Nat.le_refl _) h.big hcl).mono ?_
  rintro e w' ⟨rfl, rfl⟩
  rw [List.take_length]
  exact ⟨rfl, rfl⟩

/-- A domain of its own, and a code. -/
def Dm.New (l : List Int) (code : Int) (w : World) (e : Ending) (w' : World) : Prop :=
  ∃ v, e = .returned (.tuple #[v, .int .i64 code]) ∧ Dm.Rep w' v l ∧ Below w.heap.size w w' ∧ ∀ b, Dm.wb v = some b → w.heap.size ≤ b
theorem Dm.new_none {w w' : World} {code : Int} (hb : Below w.heap.size w w') : Dm.New [] code w (.returned (.tuple #[.agg #[.int .i64 0, .slice none 0 0, .int .i64 0, .int .i64 0, .int .i64 0], .int .i64 code])) w' :=
  ⟨_, rfl, Dm.none_ _, hb, fun b h => by cases h⟩
set_option maxHeartbeats 1000000 in
theorem dom_of_none (A : Option Addr) (c : Nat) (w : World) : Calls Tryd.prog 30 #[.slice A 0 c] w (Dm.New [] 4 w) := by
  go_enter Tryd.func30, Tryd.ntmps30
  go_wp2_with fail
  refine bodyPost_ret (v := .tuple #[.agg #[.int .i64 0, .slice none 0 0, .int .i64 0, .int .i64 0, .int .i64 0], .int .i64 4]) (by simp [results, Tryd.results30, go_sem]) rfl ?_
  exact Dm.new_none (by repeat (first | exact Below.refl _ _ | refine below_set ?_ (by simp) _ | refine below_alloc ?_ _))
set_option maxHeartbeats 1000000 in
theorem dom_of_far (sv : Value) (l : List Int) (w : World) (h : Rd w sv l) (hn : 0 < l.length) (hi : Rf.inr l = false) : Calls Tryd.prog 30 #[sv] w (Dm.New [] 3 w) := by
  have hx := fun o => dom_of_any sv l (w.alloc o) (h.alloc o)
  rw [hi] at hx
  have HX := Lib.hid hx
  obtain ⟨A, c, rfl⟩ := h.len
  have h0 : ((l.length : Int) == 0) = false := beq_eq_false_iff_ne.2 (by omega)
  clear hx hi h
  go_enter Tryd.func30, Tryd.ntmps30
  go_wp2_with fail
  refine (HX.out _).mono ?_
  rintro e w2 ⟨rfl, q, rfl⟩
  go_wp2_with fail
  refine bodyPost_ret (v := .tuple #[.agg #[.int .i64 0, .slice none 0 0, .int .i64 0, .int .i64 0, .int .i64 0], .int .i64 3]) (by simp [results, Tryd.results30, go_sem]) rfl ?_
  exact Dm.new_none (by repeat (first | exact Below.refl _ _ | refine below_set ?_ (by simp) _ | refine below_drewN ?_ _ | refine below_alloc ?_ _))
set_option maxHeartbeats 1000000 in
theorem dom_of_wide (sv : Value) (l : List Int) (w : World) (h : Rd w sv l) (hn : 0 < l.length) (hi : Rf.inr l = true) (h1 : -1000000 ≤ Rf.lo l) (h2 : Rf.hi l ≤ 1000000) (h3 : 65536 ≤ Rf.hi l - Rf.lo l) : Calls Tryd.prog 30 #[sv] w (Dm.New [] 5 w) := by
  have hx := fun o => dom_of_any sv l (w.alloc o) (h.alloc o)
  rw [hi] at hx
  have HX := Lib.hid hx
  have HM := Lib.hid (fun o q => go_max sv l ((w.alloc o).drewN q) ((h.alloc o).drewN q) hn)
  have HN := Lib.hid (fun o q => go_min sv l ((w.alloc o).drewN q) ((h.alloc o).drewN q) hn)
  obtain ⟨A, c, rfl⟩ := h.len
  have h0 : ((l.length : Int) == 0) = false := beq_eq_false_iff_ne.2 (by omega)
  clear hx hi h
  generalize Rf.lo l = lo at *
  generalize Rf.hi l = hi at *
  go_enter Tryd.func30, Tryd.ntmps30
  go_wp2_with fail
  refine (HX.out _).mono ?_
  rintro e w2 ⟨rfl, q, rfl⟩
  go_wp2_with fail
  refine (HM.out _ _).mono ?_
  rintro e w2 ⟨rfl, rfl⟩
  go_wp2_with fail
  refine (HN.out _ _).mono ?_
  rintro e w2 ⟨rfl, rfl⟩
  go_wp2_with fail
  refine bodyPost_ret (v := .tuple #[.agg #[.int .i64 0, .slice none 0 0, .int .i64 0, .int .i64 0, .int .i64 0], .int .i64 5]) (by simp [results, Tryd.results30, go_sem]) rfl ?_
  exact Dm.new_none (by repeat (first | exact Below.refl _ _ | refine below_set ?_ (by simp) _ | refine below_drewN ?_ _ | refine below_alloc ?_ _))
set_option maxHeartbeats 2000000 in
theorem dom_of_ok (sv : Value) (l : List Int) (w : World) (h : Rd w sv l) (hn : 0 < l.length) (hi : Rf.inr l = true) (h1 : -1000000 ≤ Rf.lo l) (h2 : Rf.hi l ≤ 1000000) (h3 : Rf.hi l - Rf.lo l < 65536) (h4 : ∀ v ∈ l, Rf.lo l ≤ v ∧ v ≤ Rf.hi l) (hT : Tab w) :
    Calls Tryd.prog 30 #[sv] w (Dm.New (Rf.sort l) 0 w) := by
  have hx := fun o => dom_of_any sv l (w.alloc o) (h.alloc o)
  rw [hi] at hx
  have HX := Lib.hid hx
  have HM := Lib.hid (fun o q => go_max sv l ((w.alloc o).drewN q) ((h.alloc o).drewN q) hn)
  have HN := Lib.hid (fun o q => go_min sv l ((w.alloc o).drewN q) ((h.alloc o).drewN q) hn)
  have HS := Lib.hid h
  have HE := Lib.hid (Rf.sort_eq l)
  have HT := Lib.hid hT
  have hbig := h.big
  have H4 := Lib.hid h4
  have hlh : Rf.lo l ≤ Rf.hi l := by
    have := h4 (l.getD 0 0) (by rw [List.getD_eq_getElem?_getD, List.getElem?_eq_getElem hn]; simp)
    omega
  obtain ⟨A, c, rfl⟩ := h.len
  have h0 : ((l.length : Int) == 0) = false := beq_eq_false_iff_ne.2 (by omega)
  clear hx hi h h4 hT
  generalize Rf.lo l = low at *
  generalize Rf.hi l = high at *
  generalize hm : l.length = m at *
  have HL := Lib.hid hm
  clear hm
  go_enter Tryd.func30, Tryd.ntmps30
  go_wp2_with fail
  refine (HX.out _).mono ?_
  rintro e w2 ⟨rfl, q, rfl⟩
  go_wp2_with fail
  refine (HM.out _ _).mono ?_
  rintro e w2 ⟨rfl, rfl⟩
  go_wp2_with fail
  refine (HN.out _ _).mono ?_
  rintro e w2 ⟨rfl, rfl⟩
  go_wp2_with fail
  refine (HN.out _ _).mono ?_
  rintro e w2 ⟨rfl, rfl⟩
  go_wp2_with fail
  refine (HM.out _ _).mono ?_
  rintro e w2 ⟨rfl, rfl⟩
  go_wp2_with fail
  refine (dom_room low high _ h1 hlh h2).mono ?_
  rintro e w2 ⟨b, n, rfl, hn2, hs, hb, hbe⟩
  go_wp2_with fail
  have hoff : (low - low % 64) % 64 = 0 ∧ low - low % 64 ≤ low ∧ -1000000 ≤ low - low % 64 ∧ high < low - low % 64 + 64 * n := by omega
  have hbel := below_drewN (below_alloc (Below.refl _ w) (.cells #[.int .i64 0, .slice none 0 0, .int .i64 0, .int .i64 0, .int .i64 0] 62)) q
  have HI : Hid (Dm.Fl w (w2.alloc (.cells #[.int .i64 (low - low % 64), .slice (some ⟨b, 0, none⟩) n n, .int .i64 0, .int .i64 0, .int .i64 0] 62)) (low - low % 64) w2.heap.size b n (List.replicate n 0) (fun u => u ∈ l.take 0)) := by
    have hsz : w.heap.size + 1 ≤ w2.heap.size := by have := hbe.size; simpa using this
    have hb1 : w.heap.size + 1 ≤ b := by simpa using hb
    have hb2 : b < w2.heap.size := Sl.lt hs rfl
    refine ⟨heap_alloc (heap_call (heap_drewN (heap_new _ _) q) hbe) _, heap_new _ _, by simp, Sl.alloc hs _, fun x hx => by rw [(List.mem_replicate.1 hx).2]; decide, fun u => ?_, by omega, by omega, by omega, below_alloc (below_call hbel hbe) _⟩
    rw [Bt.els_zero]
    simp
  generalize low - low % 64 = off at *
  generalize w2.heap.size = dB at *
  clear hs hb hbe hbel
  go_loopg [31] m (fun k s31 wr => ∃ (j : Nat) (cur : List Nat), s31 = .int .i64 j ∧ k + j = m ∧ Dm.Fl w wr off dB b n cur (fun u => u ∈ l.take j))
  case atStart => exact ⟨0, _, rfl, by omega, HI.out⟩
  case round =>
    obtain ⟨j, cur, rfl, hj, hinv⟩ := hrel
    have H := Lib.hid hinv
    clear hinv
    have x0 := cell_of H.out.d 0
    have x1 := cell_of H.out.d 1
    rcases Nat.lt_or_ge j m with hk | hk
    · obtain ⟨ho1, ho2, ho3, ho4⟩ := hoff
      have hjl : j < l.length := by rw [HL.out]; exact hk
      obtain ⟨bl, ol, rfl, hlc⟩ := HS.out.at H.out.below j hjl
      have hmem : l.getD j 0 ∈ l := by rw [List.getD_eq_getElem?_getD, List.getElem?_eq_getElem hjl]; simp
      have hv1 := (H4.out _ hmem).1
      have hv2 := (H4.out _ hmem).2
      have htk : ∀ u, (u ∈ l.take j ∨ u = l.getD j 0) ↔ u ∈ l.take (j + 1) := fun u => by
        rw [List.take_succ_eq_append_getElem hjl, List.mem_append, List.mem_singleton, List.getD_eq_getElem?_getD, List.getElem?_eq_getElem hjl]
        rfl
      have TK := Lib.hid htk
      clear htk hmem hjl
      generalize l.getD j 0 = v at *
      obtain ⟨i, hi⟩ : ∃ i : Nat, (i : Int) = (v - off) / 64 := ⟨((v - off) / 64).toNat, by omega⟩
      obtain ⟨r, hr⟩ : ∃ r : Nat, (r : Int) = (v - off) % 64 := ⟨((v - off) % 64).toNat, by omega⟩
      have hin : i < n := by omega
      have hr64 : r < 64 := by omega
      have e1 : (v - off) / 64 = (i : Int) := hi.symm
      have e2 : (v - off) % 64 = (r : Int) := hr.symm
      have e3 : 0 ≤ v - off := by omega
      have hcell : wr.cell? ⟨b, 0 + i, none⟩ = some (.int .u64 (cur.getD i 0 : Nat)) := Dm.cell_u64 (o := 0) (by rw [H.out.len]; exact H.out.sl) i (by rw [H.out.len]; exact hin)
      rw [Nat.zero_add] at hcell
      have fz := H.out.sl.frozen i
      have hii : (i : Int) < (n : Int) := by omega
      have hvr : v = off + 64 * i + r := by omega
      have hxl : cur.getD i 0 < 18446744073709551616 := H.out.lt _ (by rw [List.getD_eq_getElem?_getD, List.getElem?_eq_getElem (by rw [H.out.len]; exact hin)]; simp)
      have ST := Lib.hid (H.out.step i r hin hr64 v hvr)
      generalize cur.getD i 0 = x at *
      have hsh : IntKind.u64.wrap (2 ^ r : Int) = ((2 ^ r * 1 % 2 ^ 64 : Nat) : Int) := by rw [← Bt.shl 1 r]; simp
      have hor : bits .or .u64 (x : Int) (IntKind.u64.wrap (2 ^ r : Int)) = ((x ||| 2 ^ r * 1 % 2 ^ 64 : Nat) : Int) := by
        rw [hsh]; exact bits_or_u64_nat x _ hxl (Nat.mod_lt _ (by decide))
      have hE : 2 ^ r * 1 % 2 ^ 64 = 2 ^ r % 18446744073709551616 := by simp
      rw [hE] at ST hor
      clear hi hr hvr hsh hE
      go_wp2_with fail
      go_region
      go_wp2_with fail
      go_roundg (gk - 1)
      case measure => omega
      case rel => exact ⟨j + 1, _, by go_num, by omega, (by first | (rw [hor]; exact ST.out.drew_ TK.out) | exact ST.out.drew_ TK.out)⟩
    · obtain ⟨ho1, ho2, ho3, ho4⟩ := hoff
      have hjm : j = m := by omega
      subst hjm
      have hcl := H.out.len
      have hsl : Sl wr 99 1 (.slice (some ⟨b, 0, none⟩) n n) cur.length (Dm.u64s cur) := by rw [hcl]; exact H.out.sl
      have hall : ∀ u, u ∈ Bt.els off cur ↔ u ∈ l := fun u => by rw [H.out.has u, List.take_of_length_le (by rw [HL.out]; omega)]
      have hrep : Dm.RepX wr off (.slice (some ⟨b, 0, none⟩) n n) cur (Bt.els off cur) := ⟨hsl, H.out.lt, ho1, ho3, by rw [hcl]; omega, rfl, fun u hu => by have := H4.out u ((hall u).1 hu); omega⟩
      have heq := HE.out _ hrep.sorted hall
      have HR := Lib.hid hrep
      have HQ := Lib.hid heq
      have HM2 := Lib.hid (dom_made off (.slice (some ⟨b, 0, none⟩) n n) cur wr hsl H.out.lt (by omega) (by rw [hcl]; omega) (HT.out.call H.out.below))
      clear hsl hrep hcl hall heq
      go_wp2_with fail
      refine HM2.out.mono ?_
      rintro e w4 ⟨rfl, hb4⟩
      unfold Dm.val
      have hr2 := heap_call H.out.res hb4
      have HB4 := Lib.hid hb4
      generalize e1 : (Bt.els off cur).headD 0 = lo at *
      generalize e2 : (Bt.els off cur).getLastD 0 = hi at *
      generalize e3 : (Bt.els off cur).length = sz at *
      have E1 := Lib.hid e1
      have E2 := Lib.hid e2
      have E3 := Lib.hid e3
      clear e1 e2 e3 hb4
      have r0 := cell_of hr2 0
      have f0 := frozen_of hr2 0
      have r1 := cell_of hr2 1
      have f1 := frozen_of hr2 1
      have r2 := cell_of hr2 2
      have f2 := frozen_of hr2 2
      have r3 := cell_of hr2 3
      have f3 := frozen_of hr2 3
      have r4 := cell_of hr2 4
      have f4 := frozen_of hr2 4
      clear hr2
      go_wp2_with fail
      refine bodyPost_ret (v := .tuple #[.agg #[.int .i64 off, .slice (some ⟨b, 0, none⟩) n n, .int .i64 lo, .int .i64 hi, .int .i64 sz], .int .i64 0]) (by simp [results, Tryd.results30, go_sem, r0, r1, r2, r3, r4]) rfl ?_
      have hb1 := H.out.b1
      rw [← HQ.out]
      have hfr : ∀ wf, Fr (fun k => k = w.heap.size) w4 wf → Dm.New (Bt.els off cur) 0 w (.returned (.tuple #[.agg #[.int .i64 off, .slice (some ⟨b, 0, none⟩) n n, .int .i64 lo, .int .i64 hi, .int .i64 sz], .int .i64 0])) wf := fun wf hf =>
        ⟨_, rfl, ⟨off, _, cur, by rw [← E1.out, ← E2.out, ← E3.out]; rfl, (HR.out.call HB4.out).kept hf (fun k hk e => by have h9 : b = k := Option.some.inj hk; have h8 : k = w.heap.size := e; omega)⟩, Fr.below (below_call H.out.below HB4.out) hf (fun i e => by have h8 : i = w.heap.size := e; omega), fun k hk => by have h9 : b = k := Option.some.inj hk; omega⟩
      refine hfr _ ?_
      refine Fr.set (Fr.set (Fr.set (Fr.set (Fr.set (Fr.refl _ _) ?_ _) ?_ _) ?_ _) ?_ _) ?_ _
      all_goals exact fun _ => rfl
theorem dom_of_rd (sv : Value) (l : List Int) (w : World) (h : Rd w sv l) (hT : Tab w) :
    Calls Tryd.prog 30 #[sv] w (Dm.New (Rf.of l) (Rf.code l) w) := by
  by_cases hn : l = []
  · subst hn
    obtain ⟨A, c, rfl⟩ := h.len
    exact dom_of_none A c w
  · have hp : 0 < l.length := List.length_pos_iff.2 hn
    cases hi : Rf.inr l with
    | false =>
      have e : Rf.code l = 3 := by unfold Rf.code; rw [if_neg hn, if_pos hi]
      have e2 : Rf.of l = [] := by unfold Rf.of; rw [if_neg (by omega)]
      rw [e, e2]
      exact dom_of_far sv l w h hp hi
    | true =>
      have hin : ∀ v ∈ l, -1000000 ≤ v ∧ v ≤ 1000000 := fun v hv => by
        unfold Rf.inr at hi
        exact of_decide_eq_true (List.all_eq_true.1 hi v hv)
      obtain ⟨l1, l2⟩ := Rf.lo_is l hn
      obtain ⟨g1, g2⟩ := Rf.hi_is l hn
      have b1 := hin _ l1
      have b2 := hin _ g1
      by_cases hw : 65536 ≤ Rf.hi l - Rf.lo l
      · have e : Rf.code l = 5 := by unfold Rf.code; rw [if_neg hn, if_neg (by rw [hi]; simp), if_pos hw]
        have e2 : Rf.of l = [] := by unfold Rf.of; rw [if_neg (by omega)]
        rw [e, e2]
        exact dom_of_wide sv l w h hp hi (by omega) (by omega) hw
      · have e : Rf.code l = 0 := by unfold Rf.code; rw [if_neg hn, if_neg (by rw [hi]; simp), if_neg hw]
        have e2 : Rf.of l = Rf.sort l := by unfold Rf.of; rw [if_pos e]
        rw [e, e2]
        exact dom_of_ok sv l w h hp hi (by omega) (by omega) (by omega) (fun v hv => ⟨l2 v hv, g2 v hv⟩) hT
end Go.Proofs.YtgckohmppefibaaDoor
