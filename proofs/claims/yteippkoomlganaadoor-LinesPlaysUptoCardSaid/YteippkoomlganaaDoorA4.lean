import Derived.Test.YteippkoomlganaaDoorA3
set_option linter.unusedVariables false
set_option linter.unusedSimpArgs false
namespace Go.Proofs.YteippkoomlganaaDoor
open Go.RowKit

/-- The place behind the k-th byte 10 from place f on. -/
def beginF (s : ByteArray) : Nat → Nat → Option Nat
  | 0, f => some f
  | k + 1, f => if Lib.indexByte (s.extract f s.size).data.toList 10 < 0 then none else beginF s k (f + (Lib.indexByte (s.extract f s.size).data.toList 10).toNat + 1)

theorem indexByte_lt (l : List UInt8) (c : UInt8) : Lib.indexByte l c < l.length ∨ Lib.indexByte l c = -1 := by
  induction l with
  | nil => exact .inr rfl
  | cons b l ih =>
    have := Lib.indexByte_ge l c
    unfold Lib.indexByte
    simp only [List.length_cons]
    split
    · left; omega
    · split
      · exact .inr rfl
      · left
        rename_i h
        rcases ih with h1 | h1
        · omega
        · rw [h1] at h; simp at h

theorem ret_ib {a a' : Int} {b b' : Bool} (h : a = a') (h' : b = b') : Ending.returned (.tuple #[.int .i64 a, .bool b]) = .returned (.tuple #[.int .i64 a', .bool b']) := by rw [h, h']

set_option maxHeartbeats 400000 in
theorem begin_any (s : ByteArray) (l : Int) (w : World) (hs : s.size ≤ 140737488351232) (hl : 1 ≤ l) (hl2 : l ≤ 9223372036854775807) :
    Calls Tryd.prog 35 #[.string s, .int .i64 l] w fun e w' => e = .returned (.tuple #[.int .i64 ((beginF s (l - 1).toNat 0).getD 0 : Nat), .bool (beginF s (l - 1).toNat 0).isSome]) ∧ Below w.heap.size w w' := by
  obtain ⟨R, hR⟩ : ∃ R, beginF s (l - 1).toNat 0 = R := ⟨_, rfl⟩
  rw [hR]
  have HR := Aside1.mk hR
  clear hR
  go_enter Tryd.func35, Tryd.ntmps35
  go_wp2
  go_loopw [6, 7] (fun v6 v7 wr => ∃ (f : Nat) (m : Int), f ≤ s.size ∧ 1 ≤ m ∧ m ≤ l ∧ v6 = .int .i64 f ∧ v7 = .int .i64 m ∧ beginF s (l - m).toNat f = R ∧ wr = w) (fun _ v7 _ => (l - intOf v7).toNat)
  case atStart => exact ⟨0, 1, by omega, by omega, hl, rfl, rfl, HR.out, rfl⟩
  case round =>
    obtain ⟨f, m, hf, hm1, hm2, rfl, rfl, hb, rfl⟩ := hrel
    have HB := Aside1.mk hb
    clear hb
    by_cases hlt : m < l
    · have hf1 : (f : Int) ≤ s.size := by omega
      go_wp2_with fail
      refine (Tryd.strings_IndexByte _ _ _).mono ?_
      rintro e w2 ⟨rfl, rfl⟩
      have hge := Lib.indexByte_ge (s.extract f s.size).data.toList 10
      have hle := indexByte_lt (s.extract f s.size).data.toList 10
      rw [← Lib.size_eq, Lib.tail_size] at hle
      have hstep : Hid (beginF s (l - m).toNat f = if Lib.indexByte (s.extract f s.size).data.toList 10 < 0 then none else beginF s (l - (m + 1)).toNat (f + (Lib.indexByte (s.extract f s.size).data.toList 10).toNat + 1)) := by
        show beginF s (l - m).toNat f = _
        obtain ⟨k, hk⟩ : ∃ k, (l - m).toNat = k + 1 := ⟨(l - m).toNat - 1, by omega⟩
        rw [hk, show (l - (m + 1)).toNat = k from by omega]
        rfl
      simp only [show (Int.toNat 10).toUInt8 = (10 : UInt8) from rfl]
      generalize Lib.indexByte (s.extract f s.size).data.toList 10 = ib at hge hle hstep ⊢
      by_cases hib : ib < 0
      · have hnone : Hid (R = none) := by
          show R = none
          rw [← HB.out, hstep.out, if_pos hib]
        clear hle
        go_wp2_with fail
        go_ret2
        exact ⟨by rw [hnone.out]; rfl, Below.refl _ _⟩
      · have hsome : Hid (beginF s (l - (m + 1)).toNat (f + ib.toNat + 1) = R) := by
          show _ = R
          rw [← HB.out, hstep.out, if_neg hib]
        have hib2 : ib < (s.size - f : Nat) := by omega
        clear hle
        go_wp2_with fail
        go_roundw
        case rel => exact ⟨f + ib.toNat + 1, m + 1, by omega, by omega, by omega, by congr 1; omega, by go_num, hsome.out, trivial⟩
        case measure => simp [intOf]; omega
    · have hfin : Hid (R = some f) := by
        show R = some f
        rw [← HB.out, show (l - m).toNat = 0 from by omega]
        rfl
      go_wp2_with fail
      go_ret2
      exact ⟨by rw [hfin.out]; rfl, Below.refl _ _⟩
end Go.Proofs.YteippkoomlganaaDoor
