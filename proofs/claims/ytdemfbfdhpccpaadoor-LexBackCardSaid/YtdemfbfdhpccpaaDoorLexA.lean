/- The plain model of chapter 05: the tokens of a text, as lists of bytes; no program in sight. -/
namespace Go.Proofs.YtdemfbfdhpccpaaDoor
set_option linter.unusedSimpArgs false
set_option linter.unusedVariables false

/-- A letter, a digit, what may stand within a word, a blank. -/
def Lx.lt (c : UInt8) : Bool := decide (97 ≤ c.toNat ∧ c.toNat ≤ 122 ∨ 65 ≤ c.toNat ∧ c.toNat ≤ 90)
def Lx.dg (c : UInt8) : Bool := decide (48 ≤ c.toNat ∧ c.toNat ≤ 57)
def Lx.inn (c : UInt8) : Bool := Lx.lt c || Lx.dg c || decide (c.toNat = 95)
def Lx.bl (c : UInt8) : Bool := decide (c.toNat = 32 ∨ c.toNat = 9 ∨ c.toNat = 13 ∨ c.toNat = 10)
def Lx.nl (c : UInt8) : Bool := decide (c.toNat ≠ 10)
/-- How many bytes at the beginning are of a kind. -/
def Lx.run (p : UInt8 → Bool) (l : List UInt8) : Nat := (l.takeWhile p).length
theorem Lx.run_le (p : UInt8 → Bool) (l : List UInt8) : Lx.run p l ≤ l.length := (List.takeWhile_sublist p).length_le
theorem Lx.run_nil (p : UInt8 → Bool) : Lx.run p [] = 0 := rfl
theorem Lx.run_cons (p : UInt8 → Bool) (c : UInt8) (l : List UInt8) : Lx.run p (c :: l) = if p c then Lx.run p l + 1 else 0 := by
  unfold Lx.run
  rw [List.takeWhile_cons]
  split <;> simp
/-- Up to a place all are of a kind, and that place is not. -/
theorem Lx.run_at (p : UInt8 → Bool) : ∀ (l : List UInt8) (k : Nat), (∀ i, i < k → ∃ c, l[i]? = some c ∧ p c = true) → (∀ c, l[k]? = some c → p c = false) → Lx.run p l = k
  | [], k, h, _ => by
    cases k with
    | zero => rfl
    | succ k => obtain ⟨c, hc, _⟩ := h 0 (by omega); cases hc
  | c :: l, 0, _, h => by
    rw [Lx.run_cons, h c rfl]; rfl
  | c :: l, k + 1, h, h2 => by
    obtain ⟨d, hd, hp⟩ := h 0 (by omega)
    cases hd
    rw [Lx.run_cons, hp, Lx.run_at p l k (fun i hi => h (i + 1) (by omega)) (fun d hd => h2 d hd)]
    rfl
theorem Lx.run_lt (p : UInt8 → Bool) : ∀ (l : List UInt8) (i : Nat), i < Lx.run p l → ∃ c, l[i]? = some c ∧ p c = true
  | [], i, h => by cases h
  | c :: l, i, h => by
    rw [Lx.run_cons] at h
    split at h
    · rename_i hp
      cases i with
      | zero => exact ⟨c, rfl, hp⟩
      | succ i => exact Lx.run_lt p l i (by omega)
    · omega
theorem Lx.run_end (p : UInt8 → Bool) : ∀ (l : List UInt8) (c : UInt8), l[Lx.run p l]? = some c → p c = false
  | [], c, h => by cases h
  | d :: l, c, h => by
    rw [Lx.run_cons] at h
    split at h
    · exact Lx.run_end p l c h
    · rename_i hp
      cases h
      simpa using hp
/-- Blanks and comments at the beginning. -/
def Lx.sk : Bool → List UInt8 → Nat
  | _, [] => 0
  | true, c :: l => if c.toNat = 10 then Lx.sk false l + 1 else Lx.sk true l + 1
  | false, c :: l => if Lx.bl c then Lx.sk false l + 1 else if c.toNat = 37 then Lx.sk true l + 1 else 0
theorem Lx.sk_le : ∀ (b : Bool) (l : List UInt8), Lx.sk b l ≤ l.length
  | true, [] => Nat.le_refl _
  | false, [] => Nat.le_refl _
  | true, c :: l => by
    unfold Lx.sk
    have := Lx.sk_le false l
    have := Lx.sk_le true l
    split <;> simp <;> omega
  | false, c :: l => by
    unfold Lx.sk
    have := Lx.sk_le false l
    have := Lx.sk_le true l
    repeat' split
    all_goals simp
    all_goals omega
/-- A run of blanks, then what is behind it. -/
theorem Lx.sk_run : ∀ (l : List UInt8), Lx.sk false l = Lx.run Lx.bl l + Lx.sk false (l.drop (Lx.run Lx.bl l))
  | [] => rfl
  | c :: l => by
    rw [Lx.run_cons]
    by_cases h : Lx.bl c = true
    · rw [if_pos h, List.drop_succ_cons]
      show (if Lx.bl c = true then _ else _) = _
      rw [if_pos h]
      have := Lx.sk_run l
      omega
    · rw [if_neg h]; simp
/-- Within a comment: all up to the line's end. -/
theorem Lx.sk_com : ∀ (l : List UInt8), Lx.sk true l = Lx.run Lx.nl l + Lx.sk false (l.drop (Lx.run Lx.nl l))
  | [] => rfl
  | c :: l => by
    rw [Lx.run_cons]
    show (if c.toNat = 10 then _ else _) = _
    by_cases h : c.toNat = 10
    · rw [if_pos h, if_neg (by unfold Lx.nl; simp [h])]
      rw [List.drop_zero, Nat.zero_add]
      show _ = (if Lx.bl c then _ else _)
      rw [if_pos (by unfold Lx.bl; simp [h])]
    · rw [if_neg h, if_pos (by unfold Lx.nl; simp [h]), List.drop_succ_cons]
      have := Lx.sk_com l
      omega
/-- A comment begins. -/
theorem Lx.sk_hash (c : UInt8) (l : List UInt8) (h : c.toNat = 37) : Lx.sk false (c :: l) = Lx.run Lx.nl (c :: l) + Lx.sk false ((c :: l).drop (Lx.run Lx.nl (c :: l))) := by
  rw [Lx.run_cons, if_pos (by unfold Lx.nl; simp [h]), List.drop_succ_cons]
  show (if Lx.bl c then _ else if _ then _ else _) = _
  rw [if_neg (by unfold Lx.bl; simp [h]), if_pos h, Lx.sk_com]
  omega
/-- Nothing to be skipped. -/
theorem Lx.sk_zero (c : UInt8) (l : List UInt8) (h1 : Lx.bl c = false) (h2 : c.toNat ≠ 37) : Lx.sk false (c :: l) = 0 := by
  show (if Lx.bl c then _ else if _ then _ else _) = _
  rw [if_neg (by simp [h1]), if_neg h2]
/-- A word at the beginning. -/
def Lx.word : List UInt8 → Nat
  | [] => 0
  | c :: l => if Lx.lt c then Lx.run Lx.inn l + 1 else 0
theorem Lx.word_le : ∀ (l : List UInt8), Lx.word l ≤ l.length
  | [] => Nat.le_refl _
  | c :: l => by
    have := Lx.run_le Lx.inn l
    show (if Lx.lt c then _ else _) ≤ _
    split <;> simp <;> omega
/-- A number at the beginning: a sign, digits. -/
def Lx.neg (l : List UInt8) : Bool := [45].isPrefixOf l
def Lx.digs (l : List UInt8) : List UInt8 := if Lx.neg l then l.drop 1 else l
def Lx.cnt (l : List UInt8) : Nat := Lx.run Lx.dg (Lx.digs l)
def Lx.nlen (l : List UInt8) : Nat := Lx.cnt l + if Lx.neg l then 1 else 0
def Lx.bad (l : List UInt8) : Bool := decide (10 < Lx.cnt l ∨ 1 < Lx.cnt l ∧ (Lx.digs l).head? = some 48 ∨ Lx.neg l = true ∧ Lx.cnt l = 1 ∧ (Lx.digs l).head? = some 48)
def Lx.val (ds : List UInt8) : Nat := ds.foldl (fun v c => 10 * v + (c.toNat - 48)) 0
def Lx.num (l : List UInt8) : Int := (if Lx.neg l then -1 else 1) * (Lx.val ((Lx.digs l).take (Lx.cnt l)) : Int)
theorem Lx.digs_len (l : List UInt8) : (Lx.digs l).length + (if Lx.neg l then 1 else 0) = l.length := by
  unfold Lx.digs Lx.neg
  cases l with
  | nil => rfl
  | cons c l =>
    by_cases h : [45].isPrefixOf (c :: l) = true
    · rw [if_pos h, if_pos h]; simp
    · rw [if_neg h, if_neg h]; simp
theorem Lx.nlen_le (l : List UInt8) : Lx.nlen l ≤ l.length := by
  unfold Lx.nlen
  have h1 := Lx.run_le Lx.dg (Lx.digs l)
  have h2 := Lx.digs_len l
  unfold Lx.cnt
  split
  · rename_i h; rw [if_pos h] at h2; omega
  · rename_i h; rw [if_neg h] at h2; omega
/-- A sign at the beginning. -/
def Lx.sign : List UInt8 → Nat
  | [] => 0
  | c :: l => if [46, 46].isPrefixOf (c :: l) then 2 else if [40, 41, 91, 93, 123, 125, 44, 59, 58].contains c then 1 else 0
/-- The first token: its kind, its length, its number; or the error. -/
def Lx.tok (l : List UInt8) : Except Int (Int × Nat × Int) :=
  if Lx.word l > 0 then .ok (1, Lx.word l, 0)
  else if Lx.cnt l > 0 then if Lx.bad l then .error 15 else .ok (2, Lx.nlen l, Lx.num l)
  else if Lx.sign l > 0 then .ok (3, Lx.sign l, 0) else .error 6
theorem Lx.sign_le : ∀ (l : List UInt8), Lx.sign l ≤ l.length
  | [] => Nat.le_refl _
  | c :: l => by
    show (if [46, 46].isPrefixOf (c :: l) then 2 else if [40, 41, 91, 93, 123, 125, 44, 59, 58].contains c then 1 else 0) ≤ _
    split
    · rename_i h
      have := (List.isPrefixOf_iff_prefix.1 h).length_le
      simpa using this
    · generalize [40, 41, 91, 93, 123, 125, 44, 59, 58].contains c = x
      cases x <;> simp
theorem Lx.tok_le {l : List UInt8} {k : Int} {n : Nat} {v : Int} (h : Lx.tok l = .ok (k, n, v)) : 0 < n ∧ n ≤ l.length := by
  unfold Lx.tok at h
  split at h
  · cases h; exact ⟨by assumption, Lx.word_le l⟩
  · split at h
    · split at h
      · cases h
      · cases h; exact ⟨by unfold Lx.nlen; omega, Lx.nlen_le l⟩
    · split at h
      · cases h; exact ⟨by assumption, Lx.sign_le l⟩
      · cases h
/-- A token: its kind, its text, its number, its place. -/
structure Lx.T where
  k : Int
  s : List UInt8
  n : Int
  a : Nat
/-- The tokens from a place on, blanks skipped; or the place of what is wrong, and the error. -/
def Lx.go (t : List UInt8) : Nat → Nat → Except (Nat × Int) (List Lx.T)
  | 0, _ => .ok []
  | f + 1, at_ =>
    if at_ < t.length then
      match Lx.tok (t.drop at_) with
      | .error e => .error (at_, e)
      | .ok (k, n, v) =>
        match Lx.go t f (at_ + n + Lx.sk false (t.drop (at_ + n))) with
        | .error e => .error e
        | .ok l => .ok (⟨k, (t.drop at_).take n, v, at_⟩ :: l)
    else .ok []
def Lx.lex (t : List UInt8) : Except (Nat × Int) (List Lx.T) := Lx.go t (t.length + 1) (Lx.sk false t)
/-- More rounds than needed make no difference. -/
theorem Lx.go_more (t : List UInt8) : ∀ (f f' a : Nat), t.length < f + a → f ≤ f' → Lx.go t f' a = Lx.go t f a
  | 0, f', a, h, _ => by
    cases f' with
    | zero => rfl
    | succ f' => unfold Lx.go; rw [if_neg (by omega)]
  | f + 1, 0, a, h, h2 => by omega
  | f + 1, f' + 1, a, h, h2 => by
    unfold Lx.go
    split
    · cases ht : Lx.tok (t.drop a) with
      | error e => rfl
      | ok x =>
        obtain ⟨k, n, v⟩ := x
        have := Lx.tok_le ht
        simp only
        rw [Lx.go_more t f f' _ (by omega) (by omega)]
    · rfl
/-- The next step, wherever it begins. -/
theorem Lx.go_ok (t : List UInt8) (f a : Nat) {k : Int} {n : Nat} {v : Int} (h : t.length < f + a) (ha : a < t.length) (ht : Lx.tok (t.drop a) = .ok (k, n, v)) :
    Lx.go t f a = match Lx.go t f (a + n + Lx.sk false (t.drop (a + n))) with | .error e => .error e | .ok l => .ok (⟨k, (t.drop a).take n, v, a⟩ :: l) := by
  cases f with
  | zero => omega
  | succ f =>
    have hn := Lx.tok_le ht
    rw [Lx.go_more t f (f + 1) (a + n + Lx.sk false (t.drop (a + n))) (by omega) (by omega)]
    show (if a < t.length then _ else _) = _
    rw [if_pos ha, ht]
theorem Lx.go_err (t : List UInt8) (f a : Nat) {e : Int} (h : t.length < f + a) (ha : a < t.length) (ht : Lx.tok (t.drop a) = .error e) : Lx.go t f a = .error (a, e) := by
  cases f with
  | zero => omega
  | succ f =>
    show (if a < t.length then _ else _) = _
    rw [if_pos ha, ht]
theorem Lx.go_end (t : List UInt8) (f a : Nat) (ha : ¬ a < t.length) : Lx.go t f a = .ok [] := by
  cases f with
  | zero => rfl
  | succ f =>
    show (if a < t.length then _ else _) = _
    rw [if_neg ha]
/-- Whether a text may be a name. -/
def Lx.name (l : List UInt8) : Bool := decide (0 < Lx.word l ∧ Lx.word l = l.length ∧ l.length ≤ 32)
end Go.Proofs.YtdemfbfdhpccpaaDoor
