/- Chapter 05: a rune that is no ASCII letter in a text of ASCII letters. -/
import Derived.Test.YtdemfbfdhpccpaaDoorLexB
import Derived.IntWalk
namespace Go.Proofs.YtdemfbfdhpccpaaDoor
open Go.RowKit
set_option linter.unusedSimpArgs false
set_option linter.unusedVariables false

theorem Lx.indexByte_none : ∀ (l : List UInt8) (c : UInt8), c ∉ l → Lib.indexByte l c = -1
  | [], _, _ => rfl
  | b :: l, c, h => by
    have h1 := Lx.indexByte_none l c (fun e => h (List.mem_cons_of_mem _ e))
    have h2 : (b == c) = false := beq_eq_false_iff_ne.2 (fun e => h (by rw [e]; exact List.mem_cons_self))
    unfold Lib.indexByte
    rw [h2, h1]
    rfl
set_option maxRecDepth 100000 in
set_option maxHeartbeats 1000000 in
theorem str_indexRune_err (s : ByteArray) (w : World) (hs2 : s.size ≤ 1000) (hA : ∀ c ∈ s.data.toList, c.toNat < 128) :
    Calls Tryd.prog 58 #[.string s, .int .i32 65533] w (Lx.Tells (-1) w) := by
  have HA := Lib.hid hA
  clear hA
  go_enter Tryd.func58, Tryd.ntmps58
  go_wp2_with fail
  go_loopw [4] (fun s4 wr => ∃ pos : Nat, wr = w.iter s pos ∧ s4 = .int .i64 0) (fun _ wr => s.size - wr.iterPos w.heap.size)
  case atStart => exact ⟨0, rfl, rfl⟩
  case round =>
    obtain ⟨pos, rfl, rfl⟩ := hrel
    by_cases hp : pos < s.size
    · have ha := HA.out s[pos] (by rw [ByteArray.getElem_eq_getElem_data]; simp)
      have hd := decode_ascii s pos hp ha
      have hnx : ∀ ty, (Instr.next (.pointer (some ⟨w.heap.size, 0, none⟩)) true ty).run Tryd.prog (w.iter s pos) = _ := fun ty => run_next_ascii w s pos ty hp ha
      have hb : ((s[pos].toNat : Int) == 65533) = false := beq_eq_false_iff_ne.2 (by omega)
      clear hd
      go_wp2_with fail
      go_roundw
      case rel => exact ⟨pos + 1, rfl, rfl⟩
      case measure => simp; omega
    · have hnx : ∀ ty, (Instr.next (.pointer (some ⟨w.heap.size, 0, none⟩)) true ty).run Tryd.prog (w.iter s pos) = _ := fun ty => run_next_end w s pos ty hp
      go_wp2_with fail
      go_ret
      exact ⟨rfl, below_alloc (Below.refl _ _) _⟩
set_option maxRecDepth 100000 in
set_option maxHeartbeats 1000000 in
theorem str_indexRune_bad (s : ByteArray) (r : Int) (w : World) (h1 : 128 ≤ r) (h2 : r ≤ 1114111) (h3 : r ≠ 65533) (hv : Lib.validRune r = false) :
    Calls Tryd.prog 58 #[.string s, .int .i32 r] w (Lx.Tells (-1) w) := by
  have e1 : (r == 65533) = false := beq_eq_false_iff_ne.2 h3
  have e2 : decide (r < 128) = false := decide_eq_false (by omega)
  have CV := Lib.hid ((Tryd.utf8_ValidRune r w).mono fun e w' h => (⟨h.1, h.2.symm⟩ : e = .returned (.bool (Lib.validRune r)) ∧ w = w'))
  rw [hv] at CV
  clear hv h3
  go_enter Tryd.func58, Tryd.ntmps58
  go_wp2_with fail
  refine CV.out.mono ?_
  rintro e w' ⟨rfl, rfl⟩
  go_wp2_with fail
  go_ret
  exact ⟨rfl, Below.refl _ _⟩
set_option maxRecDepth 100000 in
set_option maxHeartbeats 1000000 in
theorem str_indexRune_high (s : ByteArray) (r : Int) (w : World) (h1 : 128 ≤ r) (h2 : r ≤ 1114111) (h3 : r ≠ 65533) (hv : Lib.validRune r = true) (hs : 4 ≤ s.size) (hs2 : s.size ≤ 1000) (hA : ∀ c ∈ s.data.toList, c.toNat < 128) :
    Calls Tryd.prog 58 #[.string s, .int .i32 r] w (Lx.Tells (-1) w) := by
  have e1 : (r == 65533) = false := beq_eq_false_iff_ne.2 h3
  have e2 : decide (r < 128) = false := decide_eq_false (by omega)
  have CV := Lib.hid ((Tryd.utf8_ValidRune r w).mono fun e w' h => (⟨h.1, h.2.symm⟩ : e = .returned (.bool (Lib.validRune r)) ∧ w = w'))
  rw [hv] at CV
  have HA := Lib.hid hA
  have hvv : Utf8.valid r = true := by
    unfold Lib.validRune at hv
    rw [decide_eq_true_eq] at hv
    unfold Utf8.valid
    simp only [Bool.or_eq_true, Bool.and_eq_true, decide_eq_true_eq]
    omega
  have EF := encode_facts r hvv h1
  have hcv : ∀ w, (convert 21 9 (.int .i32 r)).run Tryd.prog w = .ok (.string (Utf8.encode r)) w := fun w => run_convert_int_string w _ _ .i32 r (by kernel_rfl) (by kernel_rfl)
  generalize Utf8.encode r = rs at *
  obtain ⟨z1, z2, z3⟩ := EF
  have HL := Lib.hid z3
  clear hv h3 hA hvv z3
  go_enter Tryd.func58, Tryd.ntmps58
  go_wp2_with fail
  refine CV.out.mono ?_
  rintro e w' ⟨rfl, rfl⟩
  go_wp2_with fail
  go_step3
  go_wp2_with fail
  go_loopw [9] (fun s9 wr => w = wr ∧ s9 = .int .i64 ((rs.size : Int) - 1)) (fun _ _ => 0)
  case atStart => exact ⟨rfl, rfl⟩
  case round =>
    obtain ⟨rfl, rfl⟩ := hrel
    have i0 : rs.size - 1 < s.size := by omega
    have i1 : (rs.size : Int) - 1 = ((rs.size - 1 : Nat) : Int) := by omega
    have i2 : rs.size - 1 < rs.size := by omega
    have hne : (s[rs.size - 1].toNat != rs[rs.size - 1].toNat) = true := by
      have ha := HA.out s[rs.size - 1] (by rw [ByteArray.getElem_eq_getElem_data]; simp)
      have hb := HL.out i2
      rw [bne_iff_ne]; omega
    have hnn : s.data.toList.drop (rs.size - 1 + 1) = s.data.toList.drop (rs.size - 1 + 1) := rfl
    clear hnn
    rw [i1]
    go_wp2_with fail
    go_step3
    go_wp2_with fail
    go_quiet (fail)
    go_wp2_with fail
    have BD := Lib.hid (below_drewN (Below.refl w.heap.size w) nq)
    generalize w.drewN nq = wd at *
    have i3 : IntKind.i64.wrap (((rs.size - 1 : Nat) : Int) + 1) = ((rs.size - 1 : Nat) : Int) + 1 := IntWalk.i64_in _ (by omega)
    have i4 : 0 ≤ ((rs.size - 1 : Nat) : Int) + 1 := by omega
    have i5 : (((rs.size - 1 : Nat) : Int) + 1).toNat = rs.size - 1 + 1 := by omega
    have i6 : ((rs.size - 1 : Nat) : Int) + 1 ≤ (s.size : Int) := by omega
    have CI : Hid (∀ w', Calls Tryd.prog 30 #[.string (s.extract (rs.size - 1 + 1) s.size), .int .u8 (rs[rs.size - 1].toNat : Int)] w' fun e w'' => e = .returned (.int .i64 (-1)) ∧ w'' = w') := Lib.hid fun w' => by
      have h1 := Tryd.strings_IndexByte (s.extract (rs.size - 1 + 1) s.size) (rs[rs.size - 1].toNat : Int) w'
      rwa [Lx.indexByte_none] at h1
      intro hm
      have hm2 : (rs[rs.size - 1].toNat : Int).toNat.toUInt8 ∈ s.data.toList := by
        rw [show (s.extract (rs.size - 1 + 1) s.size).data.toList = (s.data.toList.drop (rs.size - 1 + 1)).take (s.size - (rs.size - 1 + 1)) from by simp [ByteArray.data_extract, List.extract_eq_take_drop]] at hm
        exact List.mem_of_mem_drop (List.mem_of_mem_take hm)
      have h3 := HA.out _ hm2
      have h4 := HL.out i2
      simp at h3
      omega
    go_quiet ((go_at_call 30; exact Calls.quiet_of_same (CI.out _)))
    have j1 : decide ((-1 : Int) < 0) = true := rfl
    go_wp2_with fail
    rw [Exit.noGoto_ret]
    go_wp2_with fail
    try rw [Exit.noGoto_ret]
    go_ret
    exact ⟨rfl, below_drewN BD.out _⟩
end Go.Proofs.YtdemfbfdhpccpaaDoor
