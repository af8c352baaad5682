import Derived.Test.YtdnllmngaljflaaGreatDoorHox0
import Derived.Test.YtdnllmngaljflaaGreatDoorHook
import Derived.Test.YtdnllmngaljflaaGreatDoorShelf
namespace Go.Proofs.YtdnllmngaljflaaGreatDoorX.Ho
open Go.RowKit Go.Proofs.YtdnllmngaljflaaGreatDoorW.PrintWords Go.Proofs.YtdnllmngaljflaaGreatDoorW.PrintLast Go.Proofs.YtdnllmngaljflaaGreatDoorW.PrintMore
attribute [local go_sem] max2_int min2_int max_two min_two max_three min_three max_four min_four
set_option linter.unusedVariables false
set_option linter.unusedSimpArgs false
attribute [local go_sem] Go.Proofs.YtdnllmngaljflaaGreatDoor.Hook.cell_two
/-! ### Options and their words, plainly -/
abbrev Bs := List UInt8
/-- Options: as both sides have them. -/
structure Ov where
  rule : Int
  gr : Bool
  la : Bool
  ph : Bool
  ng : Bool
  kind : Int
  unit : Int
  num : Int
  den : Int
  steps : Int
def kRule : Bs := [114, 117, 108, 101]
def kValue : Bs := [118, 97, 108, 117, 101]
def kLast : Bs := [108, 97, 115, 116]
def kPhase : Bs := [112, 104, 97, 115, 101]
def kNogoods : Bs := [110, 111, 103, 111, 111, 100, 115]
def kRestart : Bs := [114, 101, 115, 116, 97, 114, 116]
def kSteps : Bs := [115, 116, 101, 112, 115]
def bOn : Bs := [111, 110]
def bOff : Bs := [111, 102, 102]
def bLeast : Bs := [108, 101, 97, 115, 116]
def bGreatest : Bs := [103, 114, 101, 97, 116, 101, 115, 116]
def rulesL : List Bs := [[105, 110, 112, 117, 116], [115, 109, 97, 108, 108, 101, 115, 116], [119, 101, 105, 103, 104, 116, 101, 100], [97, 99, 116, 105, 118, 105, 116, 121], [105, 109, 112, 97, 99, 116], [102, 97, 105, 108, 117, 114, 101]]
def schedsL : List Bs := [[110, 111, 110, 101], [108, 117, 98, 121], [103, 101, 111, 109, 101, 116, 114, 105, 99], [108, 100, 115], [100, 100, 115]]
/-- The place of a text among some. -/
def plc (s : Bs) : List Bs → Option Nat
  | [] => none
  | x :: l => if x = s then some 0 else (plc s l).map (· + 1)
def isDg (c : UInt8) : Bool := 48 ≤ c.toNat && c.toNat ≤ 57
def valD (s : Bs) (n : Nat) : Nat := s.foldl (fun n c => 10 * n + (c.toNat - 48)) n
/-- A number's text. -/
def numL (s : Bs) : Option Nat := if 1 ≤ s.length ∧ s.length ≤ 7 ∧ s.all isDg = true ∧ (s = [48] ∨ s.head? ≠ some 48) then some (valD s 0) else none
/-- A text cut at each c. -/
def splitC (c : UInt8) : Bs → List Bs
  | [] => [[]]
  | b :: s => if b = c then [] :: splitC c s else match splitC c s with
    | [] => [[b]]
    | p :: l => (b :: p) :: l
/-- The schedule of a text. -/
def schP (k : Nat) (ps : List Bs) : Option (Int × Int × Int) :=
  if k = 1 then (match ps with | [a] => (numL a).map fun n => ((n : Int), 0, 0) | _ => none)
  else if k = 2 then (match ps with | [a, b, c] => (numL a).bind fun x => (numL b).bind fun y => (numL c).map fun z => ((x : Int), (y : Int), (z : Int)) | _ => none)
  else (match ps with | [] => some (0, 0, 0) | _ => none)
def schL (s : Bs) : Option (Int × Int × Int × Int) := match splitC 58 s with
  | [] => none
  | p :: ps => (plc p schedsL).bind fun k => (schP k ps).map fun x => ((k : Int), x)
/-- A flag's text. -/
def flagL (s no yes : Bs) : Option Bool := if s = no then some false else if s = yes then some true else none
/-- The options with a word's. -/
def setL (o : Ov) (key s : Bs) : Option Ov :=
  if key = kRule then (plc s rulesL).map fun (i : Nat) => { o with rule := i }
  else if key = kValue then (flagL s bLeast bGreatest).map fun b => { o with gr := b }
  else if key = kLast then (flagL s bOff bOn).map fun b => { o with la := b }
  else if key = kPhase then (flagL s bOff bOn).map fun b => { o with ph := b }
  else if key = kNogoods then (flagL s bOff bOn).map fun b => { o with ng := b }
  else if key = kRestart then (schL s).map fun x => { o with kind := x.1, unit := x.2.1, num := x.2.2.1, den := x.2.2.2 }
  else if key = kSteps then (numL s).map fun (n : Nat) => { o with steps := n }
  else none
/-- May a schedule be? -/
def schOk (kind unit num den : Int) : Bool :=
  if kind = 0 ∨ kind = 3 ∨ kind = 4 then decide (unit = 0 ∧ num = 0 ∧ den = 0)
  else if unit < 1 ∨ 1000000 < unit then false
  else if kind = 1 then decide (num = 0 ∧ den = 0)
  else decide (kind = 2 ∧ 1 ≤ den ∧ den < num ∧ num ≤ 1000)
/-- May options be? -/
def goodL (o : Ov) : Bool := schOk o.kind o.unit o.num o.den && decide (0 ≤ o.rule ∧ o.rule ≤ 5 ∧ 0 ≤ o.steps ∧ o.steps ≤ 1000000)
/-- A word's key and text. -/
def cutE : Bs → Option (Bs × Bs)
  | [] => none
  | c :: s => if c = 61 then some ([], s) else (cutE s).map fun x => (c :: x.1, x.2)
def ov0 : Ov := ⟨0, false, false, false, false, 0, 0, 0, 0, 0⟩
def ov1 : Ov := ⟨0, false, false, false, false, 0, 0, 0, 0, 1000000⟩
/-- Options of words: the place and the error. -/
def runL : List Bs → Int → Ov → List Bs → Ov × Int × Int
  | [], _, o, _ => (o, 0, 0)
  | w :: ws, i, o, met => match cutE w with
    | none => (ov0, i, 14)
    | some (k, v) => match setL o k v with
      | none => (ov0, i, 14)
      | some p => if k ∈ met then (ov0, i, 8) else if goodL p = true then runL ws (i + 1) p (met ++ [k]) else (ov0, i, 2)
def isBl (c : UInt8) : Bool := c == 32 || c == 9 || c == 10 || c == 13
/-- The words of a text. -/
def wordsF : Bs → Bs → List Bs
  | [], w => if w = [] then [] else [w]
  | c :: s, w => if isBl c = true then (if w = [] then wordsF s [] else w :: wordsF s []) else wordsF s (w ++ [c])
def parseL (s : Bs) : Ov × Int × Int := runL (wordsF s []) 0 ov1 []
/-- What the calls read of the variables. -/
structure Env (w : World) : Prop where
  lt : 8 ≤ w.heap.size
  mx : ∃ m, w.cell? ⟨0, 0, none⟩ = some (.int .i64 m)
  e4 : ∃ t p, w.cell? ⟨4, 0, none⟩ = some (.iface t p)
  e5 : ∃ t p, w.cell? ⟨5, 0, none⟩ = some (.iface t p)
  tab : Lib.TabIs Tryz.prog w "internal/strconv.uint64pow10" .u64 Lib.pow10Tab
theorem gPow : Tryz.prog.globalNamed "internal/strconv.uint64pow10" = some 1 := by kernel_rfl
theorem Env.keep {w w1 : World} (h : Env w) (hs : w.heap.size ≤ w1.heap.size) (hb : ∀ k, k < 8 → w1.heap[k]? = w.heap[k]?) : Env w1 := by
  have c : ∀ k, k < 8 → w1.cell? ⟨k, 0, none⟩ = w.cell? ⟨k, 0, none⟩ := fun k hk => by simp only [World.cell?, hb k hk]
  refine ⟨Nat.le_trans h.lt hs, ?_, ?_, ?_, ?_⟩
  · rw [c 0 (by decide)]; exact h.mx
  · rw [c 4 (by decide)]; exact h.e4
  · rw [c 5 (by decide)]; exact h.e5
  · have := h.tab
    unfold Lib.TabIs World.var? at this ⊢
    rw [gPow] at this ⊢
    simp only [Option.bind_some] at this ⊢
    rw [hb 1 (by decide)]
    exact this
theorem Env.below {w w1 : World} (h : Env w) (hb : Below w.heap.size w w1) : Env w1 := h.keep hb.size (fun k hk => hb.block k (Nat.lt_of_lt_of_le hk h.lt))
/-- Nothing but block g has turned. -/
structure FrG (g : Nat) (w w' : World) : Prop where
  os : w'.os = w.os
  tape : w'.tape = w.tape
  output : w'.output = w.output
  size : w.heap.size ≤ w'.heap.size
  block : ∀ k, k < w.heap.size → k ≠ g → w'.heap[k]? = w.heap[k]?
theorem FrG.refl (g : Nat) (w : World) : FrG g w w := ⟨rfl, rfl, rfl, Nat.le_refl _, fun _ _ _ => rfl⟩
theorem FrG.of_below {g : Nat} {a b : World} (h : Below a.heap.size a b) : FrG g a b := ⟨h.os, h.tape, h.output, h.size, fun i hi _ => h.block i hi⟩
theorem FrG.trans {g : Nat} {a b c : World} (h : FrG g a b) (k : FrG g b c) : FrG g a c := ⟨k.os.trans h.os, k.tape.trans h.tape, k.output.trans h.output, Nat.le_trans h.size k.size, fun i hi hn => (k.block i (Nat.lt_of_lt_of_le hi h.size) hn).trans (h.block i hi hn)⟩
theorem FrG.set {g : Nat} {a b : World} (h : FrG g a b) (i : Nat) (u : Value) : FrG g a (b.setCell ⟨g, i, none⟩ u) :=
  ⟨h.os, h.tape, h.output, by simpa [World.setCell] using h.size, fun k hk hn => (Below.heap_setCell b ⟨g, i, none⟩ u k hn).trans (h.block k hk hn)⟩
theorem FrG.below {g B : Nat} {a b c : World} (h : Below B a b) (hB : B ≤ b.heap.size) (k : FrG g b c) (hs : B ≤ g) : Below B a c := h.trans ⟨k.os, k.tape, k.output, k.size, fun i hi => k.block i (by omega) (by omega)⟩
theorem Env.fr {g : Nat} {w w1 : World} (h : Env w) (hb : FrG g w w1) (hg : 8 ≤ g) : Env w1 := h.keep hb.size (fun k hk => hb.block k (Nat.lt_of_lt_of_le hk h.lt) (by omega))
/-- The program's options, in their ten cells. -/
def Ov.pc (o : Ov) : Array Value := #[.int .i64 o.rule, .bool o.la, .bool o.ph, .bool o.gr, .int .i64 o.kind, .int .i64 o.unit, .int .i64 o.num, .int .i64 o.den, .bool o.ng, .int .i64 o.steps]
def OB (w : World) (g : Nat) (o : Ov) : Prop := w.heap[g]? = some (.cells o.pc 29 (0, 0))
theorem heap_set {w : World} {b : Nat} {cs : Array Value} {t : TypeId} {fr : Nat × Nat} (h : w.heap[b]? = some (.cells cs t fr)) (i : Nat) (u : Value) :
    (w.setCell ⟨b, i, none⟩ u).heap[b]? = some (.cells (cs.setIfInBounds i u) t fr) := by
  simp only [World.setCell, Array.getElem?_modify, if_true]
  rw [h]
  rfl
/-- Behind a setter: whether it says something, and the options then. -/
def SP (g : Nat) (r : Option Ov) (w : World) (e : Ending) (w' : World) : Prop := ∃ o', e = .returned (.bool r.isSome) ∧ OB w' g o' ∧ (∀ p, r = some p → o' = p) ∧ FrG g w w'
def btL (l : List Bs) : List ByteArray := l.map fun x => ⟨x.toArray⟩
theorem bt_data (x : Bs) : (⟨x.toArray⟩ : ByteArray).data.toList = x := by simp
theorem ba_ext {a b : ByteArray} (h : a.data.toList = b.data.toList) : a = b := by
  cases a; cases b
  congr 1
  exact Array.toList_inj.1 h
end Go.Proofs.YtdnllmngaljflaaGreatDoorX.Ho
