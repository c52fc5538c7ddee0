import Derived.Test.YteippkoomlganaaDoorE2
set_option linter.unusedVariables false
set_option linter.unusedSimpArgs false
namespace Go.Proofs.YteippkoomlganaaDoor
open Go.RowKit Go.Proofs.YteippkoomlganaaDoorW.PrintWords

theorem charP_gt (s : ByteArray) (j n : Nat) (hn : 1 ≤ n) : (charP s j).2 > (n : Int) ↔ n < (Utf8.decode s j).2 := by
  unfold charP offP
  split
  · rename_i h
    rw [h]
    simp
    omega
  · simp
theorem charP_zero (s : ByteArray) (j : Nat) (h : (charP s j).2 = 0) : (Utf8.decode s j).2 = 1 := by
  unfold charP offP at h
  split at h
  · rename_i h2; rw [h2]
  · have := (decode_two s j).1
    simp at h
    omega
theorem charP_width (s : ByteArray) (j : Nat) (h : ¬ (charP s j).2 = 0) : (charP s j).2 = ((Utf8.decode s j).2 : Int) := by
  unfold charP offP at *
  split at h
  · exact absurd rfl h
  · rename_i h2
    rw [if_neg h2]

theorem border_l0 (s : ByteArray) (a : Nat) (ha : a ≤ s.size) (hs : s.size ≤ 140737488351232) : ∀ d n k : Nat, d + n = 4 → 1 ≤ n → 2 * d + 12 ≤ k →
    thistleref01_Border.l0 k s a (n : Int) = some (decide (∀ j : Nat, j < a → a - 3 ≤ j → j + n ≤ a → j + (Utf8.decode s j).2 ≤ a)) := by
  intro d
  induction d with
  | zero =>
    intro n k h1 h2 h3
    obtain ⟨m, rfl⟩ : ∃ m, k = m + 2 := ⟨k - 2, by omega⟩
    rw [thistleref01_Border.l0, if_neg (by omega), thistleref01_Border.j2, if_neg (by simp), decide_eq_true]
    intro j hj h4 h5; omega
  | succ d ih =>
    intro n k h1 h2 h3
    obtain ⟨m, rfl⟩ : ∃ m, k = m + 2 := ⟨k - 2, by omega⟩
    rw [thistleref01_Border.l0, if_pos (by omega), thistleref01_Border.j2]
    by_cases hna : n ≤ a
    · rw [if_pos (by simp; omega), w64 (by omega) (by omega), show (a : Int) - (n : Int) = ((a - n : Nat) : Int) by omega]
      obtain ⟨m', rfl⟩ : ∃ m', m = m' + 9 := ⟨m - 9, by omega⟩
      rw [char_eq s (a - n) m' (by omega) hs, Option.bind_some, w64 (by omega) (by omega), show (n : Int) + 1 = ((n + 1 : Nat) : Int) by omega, ih (n + 1) (m' + 9) (by omega) (by omega) (by omega)]
      by_cases hw : n < (Utf8.decode s (a - n)).2
      · rw [if_pos ((charP_gt s _ n h2).2 hw), decide_eq_false]
        intro q
        have := q (a - n) (by omega) (by omega) (by omega)
        omega
      · rw [if_neg (fun h => hw ((charP_gt s _ n h2).1 h))]
        congr 1
        rw [decide_eq_decide]
        constructor
        · intro q j hj h4 h5
          by_cases e : j + n = a
          · obtain rfl : j = a - n := by omega
            omega
          · exact q j hj h4 (by omega)
        · intro q j hj h4 h5
          exact q j hj h4 (by omega)
    · rw [if_neg (by simp; omega), decide_eq_true]
      intro j hj h4 h5; omega
theorem border_ref (s : ByteArray) (a : Int) (m : Nat) (hs : s.size ≤ 140737488351232) : thistleref01_Border.f (m + 20) s a = some (borderB s a) := by
  unfold thistleref01_Border.f borderB
  by_cases h1 : a < 0
  · rw [if_pos h1, thistleref01_Border.j0, if_pos rfl, decide_eq_false (by omega), Bool.false_and]
  · rw [if_neg h1, thistleref01_Border.j0]
    by_cases h2 : a > s.size
    · rw [if_pos (by simp; omega), decide_eq_false (by omega), Bool.false_and]
    · obtain ⟨n, rfl⟩ := Int.eq_ofNat_of_zero_le (show 0 ≤ a by omega)
      rw [if_neg (by simp; omega), decide_eq_true (by omega), Bool.true_and, show (1 : Int) = ((1 : Nat) : Int) from rfl, show (n : Int) = Int.ofNat n from rfl]
      have := border_l0 s n (by omega) hs 3 1 (m + 19) rfl (by omega) (by omega)
      rw [show (Int.ofNat n) = (n : Int) from rfl, this]
      unfold clearFrom
      congr 1
      rw [decide_eq_decide]
      rw [Int.toNat_natCast, show ((n : Int) - 3).toNat = n - 3 by omega]
      constructor
      · intro q j hj h4; exact q j hj h4 (by omega)
      · intro q j hj h4 _; exact q j hj h4

/-- The unit that begins at a place, as the reference tells it. -/
def unitR (s : ByteArray) (n : Nat) : Int := if (charP s n).2 = 0 then wrap32 (wrap64 (1114112 + wrap64 (bt s n))) else (charP s n).1
theorem unit_ref (s : ByteArray) (n m : Nat) (h : n < s.size) (hs : s.size ≤ 140737488351232) : thistleref01_unit.f (m + 9) s n = some (unitR s n, ((Utf8.decode s n).2 : Int)) := by
  unfold thistleref01_unit.f unitR
  rw [char_eq s n m h hs, Option.bind_some]
  by_cases h0 : (charP s n).2 = 0
  · rw [if_pos h0, if_pos h0, if_pos (by omega), if_pos (by omega), charP_zero s n h0]
    rfl
  · rw [if_neg h0, if_neg h0, charP_width s n h0]
theorem next_ref (s : ByteArray) (n m : Nat) (h : n < s.size) (hs : s.size ≤ 140737488351232) : thistleref01_Next.f (m + 10) s n = some (unitR s n, ((Utf8.decode s n).2 : Int), 0) := by
  unfold thistleref01_Next.f
  rw [if_neg (by omega), thistleref01_Next.j0, if_neg (by simp; omega), if_neg (by omega), unit_ref s n m h hs]
  rfl
end Go.Proofs.YteippkoomlganaaDoor
