import Derived.Test.YteippkoomlganaaGreatDoorA3
set_option linter.unusedVariables false
set_option linter.unusedSimpArgs false
namespace Go.Proofs.YteippkoomlganaaGreatDoor
open Go.RowKit

/-- The place behind the k-th byte 10 from place f on. -/
def beginF (s : ByteArray) : Nat → Nat → Option Nat
  | 0, f => some f
  | k + 1, f => if Lib.indexByte (s.extract f s.size).data.toList 10 < 0 then none else beginF s k (f + (Lib.indexByte (s.extract f s.size).data.toList 10).toNat + 1)

theorem indexByte_lt (l : List UInt8) (c : UInt8) : Lib.indexByte l c < l.length ∨ Lib.indexByte l c = -1 := by
  induction l with
  | nil => exact .inr rfl
  | cons b l ih =>
    have := Lib.indexByte_ge l c
    unfold Lib.indexByte
    simp only [List.length_cons]
    split
    · left; omega
    · split
      · exact .inr rfl
      · left
        rename_i h
        rcases ih with h1 | h1
        · omega
        · rw [h1] at h; simp at h

theorem ret_ib {a a' : Int} {b b' : Bool} (h : a = a') (h' : b = b') : Ending.returned (.tuple #[.int .i64 a, .bool b]) = .returned (.tuple #[.int .i64 a', .bool b']) := by rw [h, h']

end Go.Proofs.YteippkoomlganaaGreatDoor
