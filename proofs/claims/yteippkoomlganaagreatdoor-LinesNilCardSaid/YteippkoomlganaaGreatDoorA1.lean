import Derived.Test.YteippkoomlganaaGreatDoorShelf
import Derived.WalkKit
import Derived.WalkSpells
import Derived.WalkLawsBesides
import Derived.Laws.RangeAny
import Derived.Lib.RuneCountTail
import Derived.Deep.LoopGhost
import Derived.Deep.QuietTactic
import Derived.BigQuiet
set_option linter.unusedVariables false
set_option linter.unusedSimpArgs false
namespace Go.Proofs.YteippkoomlganaaGreatDoor
open Go.RowKit

structure Aside1 (p : Prop) : Prop where mk :: (out : p)
theorem decodeGo_tl (s : ByteArray) (i : Nat) (h : i < s.size) : Lib.decodeGo (s.extract i s.size) = Utf8.decode s i := by
  unfold Lib.decodeGo
  rw [Lib.tail_size, if_neg (by omega), Lib.tail_decode, Nat.add_zero]

theorem tabs_below {w w' : World} {B : Nat} (h : Lib.Utf8Tabs 1 2 w) (hB : 3 ≤ B) (hb : Below B w w') : Lib.Utf8Tabs 1 2 w' :=
  ⟨fun c hc => (hb.cell (p := ⟨1, c, none⟩) (by show 1 < B; omega)).trans (h.1 c hc),
   fun i hi => ⟨(hb.cell (p := ⟨2, 2 * i, none⟩) (by show 2 < B; omega)).trans (h.2 i hi).1, (hb.cell (p := ⟨2, 2 * i + 1, none⟩) (by show 2 < B; omega)).trans (h.2 i hi).2⟩⟩

/-- No character that begins from place i on, ahead of a, goes on beyond a. -/
def clearFrom (s : ByteArray) (a : Nat) (i : Nat) : Bool := decide (∀ j, j < a → i ≤ j → j + (Utf8.decode s j).2 ≤ a)
def borderB (s : ByteArray) (a : Int) : Bool := decide (0 ≤ a ∧ a ≤ s.size) && clearFrom s a.toNat (a - 3).toNat

theorem clearFrom_end (s : ByteArray) (a i : Nat) (h : a ≤ i) : clearFrom s a i = true := by
  unfold clearFrom; rw [decide_eq_true_iff]; intro j h1 h2; omega
theorem clearFrom_yes (s : ByteArray) (a i : Nat) (h : i + (Utf8.decode s i).2 ≤ a) : clearFrom s a i = clearFrom s a (i + 1) := by
  unfold clearFrom
  rw [decide_eq_decide]
  constructor
  · intro q j h1 h2; exact q j h1 (by omega)
  · intro q j h1 h2
    by_cases e : j = i
    · rw [e]; exact h
    · exact q j h1 (by omega)
theorem clearFrom_no (s : ByteArray) (a i : Nat) (h0 : i < a) (h : a < i + (Utf8.decode s i).2) : clearFrom s a i = false := by
  unfold clearFrom
  rw [decide_eq_false_iff_not]
  intro q
  have := q i h0 (Nat.le_refl _)
  omega
theorem decode_two (s : ByteArray) (i : Nat) : 1 ≤ (Utf8.decode s i).2 ∧ (Utf8.decode s i).2 ≤ 4 := by
  simp only [Utf8.decode]
  repeat' split
  all_goals simp
theorem borderB_in (s : ByteArray) (n : Nat) (h : n ≤ s.size) : borderB s n = clearFrom s n (n - 3) := by
  unfold borderB
  rw [decide_eq_true (by omega), Bool.true_and, Int.toNat_natCast, show ((n : Int) - 3).toNat = n - 3 from by omega]
theorem ret_bool {a b : Bool} (h : a = b) : Ending.returned (.bool a) = .returned (.bool b) := by rw [h]
end Go.Proofs.YteippkoomlganaaGreatDoor
