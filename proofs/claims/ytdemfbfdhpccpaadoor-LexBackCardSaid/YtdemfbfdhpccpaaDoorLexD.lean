/- Chapter 05: blanks; how many bytes from the beginning on are of a kind (run); skip. -/
import Derived.Test.YtdemfbfdhpccpaaDoorLexC
namespace Go.Proofs.YtdemfbfdhpccpaaDoor
open Go.RowKit
set_option linter.unusedSimpArgs false
set_option linter.unusedVariables false

theorem str_indexRune_all (s : ByteArray) (r : Int) (w : World) (h1 : 128 ≤ r) (h2 : r ≤ 1114111) (hs : 4 ≤ s.size) (hs2 : s.size ≤ 1000) (hA : ∀ c ∈ s.data.toList, c.toNat < 128) :
    Calls Tryd.prog 58 #[.string s, .int .i32 r] w (Lx.Tells (-1) w) := by
  by_cases h3 : r = 65533
  · rw [h3]; exact str_indexRune_err s w hs2 hA
  · cases hv : Lib.validRune r with
    | false => exact str_indexRune_bad s r w h1 h2 h3 hv
    | true => exact str_indexRune_high s r w h1 h2 h3 hv hs hs2 hA
theorem str_containsRune_high (s : ByteArray) (r : Int) (w : World) (h1 : 128 ≤ r) (h2 : r ≤ 1114111) (hs : 4 ≤ s.size) (hs2 : s.size ≤ 1000) (hA : ∀ c ∈ s.data.toList, c.toNat < 128) :
    Calls Tryd.prog 38 #[.string s, .int .i32 r] w (Lx.Says false w) := by
  have H := Lib.hid (str_indexRune_all s r w h1 h2 hs hs2 hA)
  clear hA
  go_enter Tryd.func38, Tryd.ntmps38
  go_wp2_with fail
  refine H.out.mono ?_
  rintro e w' ⟨rfl, hb⟩
  go_wp2_with fail
  go_ret
  exact ⟨rfl, hb⟩
theorem Lx.ix_ge : ∀ (l : List UInt8) (c : UInt8), -1 ≤ Lib.indexByte l c
  | [], c => by show (-1 : Int) ≤ -1; omega
  | b :: l, c => by
    have h := Lx.ix_ge l c
    unfold Lib.indexByte
    repeat' split
    all_goals omega
theorem Lx.ix_nonneg : ∀ (l : List UInt8) (c : UInt8), decide (0 ≤ Lib.indexByte l c) = decide (c ∈ l)
  | [], c => by simp [Lib.indexByte]
  | b :: l, c => by
    have h := Lx.ix_nonneg l c
    unfold Lib.indexByte
    by_cases hb : (b == c) = true
    · rw [if_pos hb, beq_iff_eq.1 hb]; simp
    · rw [if_neg hb]
      have hne : b ≠ c := fun e => hb (beq_iff_eq.2 e)
      have hm : (c ∈ b :: l) ↔ c ∈ l := by simp [hne.symm]
      rw [decide_eq_decide.2 hm, ← h]
      by_cases h1 : (Lib.indexByte l c == -1) = true
      · rw [if_pos h1, beq_iff_eq.1 h1]
      · rw [if_neg h1]
        have h2 : Lib.indexByte l c ≠ -1 := fun e => h1 (beq_iff_eq.2 e)
        have h3 : -1 ≤ Lib.indexByte l c := Lx.ix_ge l c
        exact decide_eq_decide.2 (by omega)
theorem lex_blank (c : Int) (w : World) (h0 : 0 ≤ c) (h1 : c ≤ 1114111) : Calls Tryd.prog 32 #[.int .i32 c] w (Lx.Says (Lx.blI c) w) := by
  have H : Hid (Calls Tryd.prog 38 #[.string ⟨#[32, 9, 13, 10]⟩, .int .i32 c] w (Lx.Says (Lx.blI c) w)) := Lib.hid (by
    by_cases h : c < 128
    · have h2 := Tryd.strings_ContainsRune_ascii ⟨#[32, 9, 13, 10]⟩ c w h0 h
      rw [Lx.ix_nonneg] at h2
      refine h2.mono fun e w' h3 => ⟨h3.1.trans (ret_bool ?_), by rw [h3.2]; exact Below.refl _ _⟩
      unfold Lx.blI
      obtain ⟨n, rfl⟩ := Int.eq_ofNat_of_zero_le h0
      refine decide_eq_decide.2 ?_
      simp only [List.mem_cons, List.not_mem_nil, or_false, ← UInt8.toNat_inj, Int.toNat_natCast]
      simp
      omega
    · have h2 := str_containsRune_high ⟨#[32, 9, 13, 10]⟩ c w (by omega) h1 (by decide) (by decide) (by decide)
      have h3 : Lx.blI c = false := by unfold Lx.blI; exact decide_eq_false (by omega)
      rwa [h3])
  go_enter Tryd.func32, Tryd.ntmps32
  go_wp2_with fail
  refine H.out.mono ?_
  rintro e w' ⟨rfl, hb⟩
  go_wp2_with fail
  go_ret
  exact ⟨rfl, hb⟩
/-- A rune that is no ASCII letter: its bytes are none either. -/
theorem Lx.conts (s : ByteArray) (pos : Nat) (h : pos < s.size) (hh : 128 ≤ s[pos].toNat) : ∀ i, i < (Utf8.decode s pos).2 → ∃ c, s.data.toList[pos + i]? = some c ∧ 128 ≤ c.toNat := by
  intro i hi
  rw [Lib.decode_N] at hi
  have hc := Lib.decodeN_conts (s.data.toList.length - pos) (s.data.toList.getD pos 0).toNat (s.data.toList.getD (pos + 1) 0).toNat (s.data.toList.getD (pos + 2) 0).toNat (s.data.toList.getD (pos + 3) 0).toNat
  obtain ⟨c2, c3, c4, c5⟩ := hc
  have hl : s.data.toList.length = s.size := by rw [Array.length_toList]; rfl
  have K : ∀ j, pos + j < s.data.toList.length → (s.data.toList.getD (pos + j) 0).toNat / 64 = 2 → ∃ c, s.data.toList[pos + j]? = some c ∧ 128 ≤ c.toNat := by
    intro j hj hd
    rw [List.getD_eq_getElem?_getD, List.getElem?_eq_getElem hj] at hd
    exact ⟨_, List.getElem?_eq_getElem hj, by simp only [Option.getD_some] at hd; omega⟩
  have h4 : i = 0 ∨ i = 1 ∨ i = 2 ∨ i = 3 := by omega
  rcases h4 with rfl | rfl | rfl | rfl
  · refine ⟨s[pos], ?_, hh⟩
    rw [Nat.add_zero, List.getElem?_eq_getElem (by omega)]
    rfl
  · have := c2 (by omega)
    exact K 1 (by omega) this.1
  · have := c3 (by omega)
    exact K 2 (by omega) this.1
  · have := c4 (by omega)
    exact K 3 (by omega) this.1
theorem Lx.iter_heap {w : World} {k : Nat} {s : ByteArray} {pos : Nat} (h : w.heap[k]? = some (.stringIter s pos)) (p2 : Nat) : (w.iterAt k s p2).heap[k]? = some (.stringIter s p2) := by
  show (w.heap.setIfInBounds k _)[k]? = _
  rw [Array.getElem?_setIfInBounds_self_of_lt (heap_lt h)]
theorem Lx.iter_below {w0 w : World} (h : Below w0.heap.size w0 w) (k : Nat) (hk : w0.heap.size ≤ k) (s : ByteArray) (p2 : Nat) : Below w0.heap.size w0 (w.iterAt k s p2) :=
  h.trans ⟨rfl, rfl, rfl, by simp [World.iterAt], fun b hb => by
    show (w.heap.setIfInBounds k _)[b]? = _
    rw [Array.getElem?_setIfInBounds_ne (by omega)]⟩
set_option maxRecDepth 100000 in
set_option maxHeartbeats 1000000 in
/-- run: at whatever function of runes that tells a kind of ASCII bytes, and one answer at all others. -/
theorem lex_run (F : Nat) (P : Int → Bool) (p : UInt8 → Bool) (q : Bool) (s : ByteArray) (w : World) (hs : s.size ≤ 9223372036854775807)
    (hF : ∀ (c : Int) w, 0 ≤ c → c ≤ 1114111 → Calls Tryd.prog F #[.int .i32 c] w (Lx.Says (P c) w))
    (hcf : ∀ (args : Array Value) (w : World), (callFunc F args).run Tryd.prog w = .ok (.enter F args) w) (hP : ∀ b : UInt8, b.toNat < 128 → P b.toNat = p b) (hQ : ∀ c : Int, 128 ≤ c → P c = q) (hq : ∀ b : UInt8, 128 ≤ b.toNat → p b = q) :
    Calls Tryd.prog 21 #[.string s, .func (.func F) #[] #[]] w (Lx.Tells (Lx.run p s.data.toList) w) := by
  have HF := Lib.hid hF
  have HP := Lib.hid hP
  have HQ := Lib.hid hQ
  have Hq := Lib.hid hq
  have hl : Hid (s.data.toList.length = s.size) := Lib.hid (by rw [Array.length_toList]; rfl)
  clear hF hP hQ hq
  go_enter Tryd.func21, Tryd.ntmps21
  go_wp2_with fail
  go_loopg [4] s.size (fun k s4 wr => ∃ pos : Nat, s.size ≤ k + pos ∧ s4 = .int .i64 0 ∧ Hid (wr.heap[w.heap.size]? = some (.stringIter s pos)) ∧ Hid (Below w.heap.size w wr) ∧ Hid (∀ i, i < pos → ∃ c, s.data.toList[i]? = some c ∧ p c = true))
  case atStart => exact ⟨0, by omega, rfl, Lib.hid (World.iter_heap _ _ _), Lib.hid (below_alloc (Below.refl _ _) _), Lib.hid (fun i hi => by omega)⟩
  case round =>
    obtain ⟨pos, hpk, rfl, hit, hbel, hall⟩ := hrel
    by_cases hp : pos < s.size
    · have hnx : ∀ ty, (Instr.next (.pointer (some ⟨w.heap.size, 0, none⟩)) true ty).run Tryd.prog wr = _ := fun ty => Lib.run_next_any_at wr w.heap.size s pos ty hit.out hp
      have hit2 := Lib.hid (Lx.iter_heap hit.out (pos + (Utf8.decode s pos).2))
      have hbel2 := Lib.hid (Lx.iter_below hbel.out w.heap.size (Nat.le_refl _) s (pos + (Utf8.decode s pos).2))
      have hr := Lib.rune_le s pos
      have hw1 := Lib.width_pos s pos
      have RA : Hid (s[pos].toNat < 128 → Utf8.decode s pos = (s[pos].toNat, 1)) := Lib.hid fun ha => decode_ascii s pos hp ha
      have RH : Hid (128 ≤ s[pos].toNat → 128 ≤ (Utf8.decode s pos).1 ∧ ∀ i, i < (Utf8.decode s pos).2 → ∃ c, s.data.toList[pos + i]? = some c ∧ 128 ≤ c.toNat) := Lib.hid fun hh => ⟨(decode_high s pos hp hh).1, Lx.conts s pos hp hh⟩
      have CF := Lib.hid (HF.out ((Utf8.decode s pos).1 : Int) (wr.iterAt w.heap.size s (pos + (Utf8.decode s pos).2)) (by omega) (by omega))
      have hbyte : Hid (s.data.toList[pos]? = some s[pos]) := Lib.hid (by rw [List.getElem?_eq_getElem (by have := hl.out; omega)]; rfl)
      have PB : Hid (P ((Utf8.decode s pos).1 : Int) = p s[pos]) := Lib.hid (by
        by_cases ha : s[pos].toNat < 128
        · rw [RA.out ha]; exact HP.out _ ha
        · rw [HQ.out _ (by have := (RH.out (by omega)).1; omega), Hq.out _ (by omega)])
      have PN : Hid (p s[pos] = true → ∀ i, i < pos + (Utf8.decode s pos).2 → ∃ c, s.data.toList[i]? = some c ∧ p c = true) := Lib.hid fun hpt i hi => by
        by_cases h1 : i < pos
        · exact hall.out i h1
        · by_cases ha : s[pos].toNat < 128
          · rw [RA.out ha] at hi
            obtain rfl : i = pos := by simp only at hi; omega
            exact ⟨_, hbyte.out, hpt⟩
          · obtain ⟨c, hc, hc2⟩ := (RH.out (by omega)).2 (i - pos) (by omega)
            rw [show pos + (i - pos) = i from by omega] at hc
            exact ⟨c, hc, by rw [Hq.out c hc2, ← Hq.out s[pos] (by omega)]; exact hpt⟩
      rw [PB.out] at CF
      generalize (Utf8.decode s pos).2 = wd at *
      generalize (Utf8.decode s pos).1 = rr at *
      clear RA RH PB hr
      go_wp2_with fail
      refine CF.out.mono ?_
      rintro e w2 ⟨rfl, hb⟩
      have hit3 := Lib.hid (heap_call hit2.out hb)
      have hbel3 := Lib.hid (below_call hbel2.out hb)
      clear hb CF
      cases hpc : p s[pos] with
      | true =>
        have PN2 := Lib.hid (PN.out hpc)
        clear hpc PN
        go_wp2_with fail
        go_roundg (gk - wd)
        case measure => omega
        case rel => exact ⟨pos + wd, by omega, rfl, hit3, hbel3, PN2⟩
      | false =>
        have R : Hid (Lx.run p s.data.toList = pos) := Lib.hid (Lx.run_at p _ pos hall.out fun c hc => by
          rw [hbyte.out] at hc
          cases hc
          exact hpc)
        clear hpc PN
        go_wp2_with fail
        go_ret
        exact ⟨ret_int (by rw [R.out]), hbel3.out⟩
    · have hnx : ∀ ty, (Instr.next (.pointer (some ⟨w.heap.size, 0, none⟩)) true ty).run Tryd.prog wr = _ := fun ty => Lib.run_next_end_at wr w.heap.size s pos ty hit.out hp
      have R : Hid (Lx.run p s.data.toList = s.size) := Lib.hid (Lx.run_at p _ s.size (fun i hi => hall.out i (by omega)) fun c hc => by
        rw [List.getElem?_eq_none (by have := hl.out; omega)] at hc
        cases hc)
      go_wp2_with fail
      go_ret
      exact ⟨ret_int (by rw [R.out]), hbel.out⟩
end Go.Proofs.YtdemfbfdhpccpaaDoor
