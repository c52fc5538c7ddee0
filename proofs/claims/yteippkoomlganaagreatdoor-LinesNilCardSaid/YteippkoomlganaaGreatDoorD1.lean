import Derived.Test.YteippkoomlganaaGreatDoorA5
import Derived.RangeFuncNested
import Derived.RangeFuncBound
import Derived.RangeFuncCalls
import Derived.RangeFuncLeaves
import Derived.RangeFuncBox
import Derived.Shelf.Abstract
import Derived.OwnWalkIn
import Derived.TacticsInMore
import Derived.LoopNIn
import Derived.LoopIn
import Derived.Maps.AppendAt
import Derived.Deep.QuietTactic
import Derived.BigQuiet
set_option linter.unusedVariables false
set_option linter.unusedSimpArgs false
namespace Go.Proofs.YteippkoomlganaaGreatDoor
open Go.RowKit Go.Shelf

/-! strings.Cut at one byte 10: what stands ahead of it, and whether there is one. -/
def cutTo (t : ByteArray) : ByteArray := if Lib.indexByte t.data.toList 10 < 0 then t else t.extract 0 (Lib.indexByte t.data.toList 10).toNat
def cutBehind (t : ByteArray) : ByteArray := if Lib.indexByte t.data.toList 10 < 0 then ⟨#[]⟩ else t.extract ((Lib.indexByte t.data.toList 10).toNat + 1) t.size
def cutHit (t : ByteArray) : Bool := decide (0 ≤ Lib.indexByte t.data.toList 10)

theorem ret3_ssb {a a' b b' : ByteArray} {c c' : Bool} (h : a = a') (h' : b = b') (h'' : c = c') : Ending.returned (.tuple #[.string a, .string b, .bool c]) = .returned (.tuple #[.string a', .string b', .bool c']) := by rw [h, h', h'']

set_option maxHeartbeats 400000 in
theorem slcut_any (t : ByteArray) (w : World) (ht : t.size ≤ 140737488351232) :
    Calls Tryz.prog 37 #[.string t, .string ⟨#[10]⟩] w fun e w' => e = .returned (.tuple #[.string (cutTo t), .string (cutBehind t), .bool (cutHit t)]) ∧ ∃ n, w' = w.drewN n := by
  have hc := Tryz.stringslite_Index_one t 10 w
  have hge := Lib.indexByte_ge t.data.toList 10
  have hlt := indexByte_lt t.data.toList 10
  rw [← Lib.size_eq] at hlt
  unfold cutTo cutBehind cutHit
  generalize Lib.indexByte t.data.toList 10 = i at *
  by_cases hi : i < 0
  · rw [if_pos hi, if_pos hi, decide_eq_false (by omega)]
    clear hlt
    go_enter Tryz.func37, Tryz.ntmps37
    go_wp2_with fail
    refine hc.mono ?_
    rintro e w' ⟨rfl, rfl⟩
    clear hc
    go_wp2_with fail
    go_ret3
    exact ⟨rfl, 0, rfl⟩
  · rw [if_neg hi, if_neg hi, decide_eq_true (by omega)]
    obtain ⟨k, rfl⟩ := Int.eq_ofNat_of_zero_le (show 0 ≤ i by omega)
    have hk : (k : Int) < t.size := by omega
    clear hlt hge
    go_enter Tryz.func37, Tryz.ntmps37
    go_wp2_with fail
    refine hc.mono ?_
    rintro e w' ⟨rfl, rfl⟩
    clear hc
    go_wp2_with fail
    go_quiet (fail)
    go_wp2
    go_ret3
    exact ⟨ret3_ssb (by simp) (by simp) rfl, _, rfl⟩
theorem cut_any (t : ByteArray) (w : World) (ht : t.size ≤ 140737488351232) :
    Calls Tryz.prog 22 #[.string t, .string ⟨#[10]⟩] w fun e w' => e = .returned (.tuple #[.string (cutTo t), .string (cutBehind t), .bool (cutHit t)]) ∧ ∃ n, w' = w.drewN n := by
  have hc := slcut_any t w ht
  generalize cutTo t = a at *
  generalize cutBehind t = b at *
  generalize cutHit t = c at *
  go_enter Tryz.func22, Tryz.ntmps22
  go_wp2_with fail
  refine hc.mono ?_
  rintro e w' ⟨rfl, n, rfl⟩
  clear hc
  go_wp2_with fail
  go_ret3
  exact ⟨rfl, n, rfl⟩

/-! The lines from a place on. -/
def lineText (s : ByteArray) (f : Nat) : ByteArray := cutTo (s.extract f s.size)
def lineEnded (s : ByteArray) (f : Nat) : Bool := cutHit (s.extract f s.size)
def lineNext (s : ByteArray) (f : Nat) : Nat := f + (lineText s f).size + (if lineEnded s f = true then 1 else 0)
def linesF (s : ByteArray) : Nat → Nat → List (Nat × ByteArray)
  | 0, _ => []
  | k + 1, f => if f < s.size then (f, lineText s f) :: linesF s k (lineNext s f) else []
def linesL (s : ByteArray) : List (Nat × ByteArray) := linesF s s.size 0
theorem linesF_end (s : ByteArray) (k f : Nat) (h : ¬ f < s.size) : linesF s k f = [] := by cases k <;> simp [linesF, h]
theorem line_fits (s : ByteArray) (f : Nat) (h : f < s.size) : f < lineNext s f ∧ lineNext s f ≤ s.size ∧ f + (lineText s f).size ≤ s.size := by
  have hge := Lib.indexByte_ge (s.extract f s.size).data.toList 10
  have hlt := indexByte_lt (s.extract f s.size).data.toList 10
  rw [← Lib.size_eq, Lib.tail_size] at hlt
  unfold lineNext lineText lineEnded cutTo cutHit
  generalize Lib.indexByte (s.extract f s.size).data.toList 10 = i at *
  by_cases hi : i < 0
  · rw [if_pos hi, if_neg (by simp; omega), Lib.tail_size]
    omega
  · rw [if_neg hi, if_pos (by simp; omega), ByteArray.size_extract, Lib.tail_size]
    omega
end Go.Proofs.YteippkoomlganaaGreatDoor
