import Derived.Test.YteippkoomlganaaDoorA5
set_option linter.unusedVariables false
set_option linter.unusedSimpArgs false
namespace Go.Proofs.YteippkoomlganaaDoor
open Go.RowKit

set_option maxHeartbeats 4000000 in
set_option maxRecDepth 100000 in
theorem decodeN_cut (n N b0 b1 b2 b3 c1 c2 c3 : Nat) (h1 : 1 < n → c1 = b1) (h2 : 2 < n → c2 = b2) (h3 : 3 < n → c3 = b3) (hn : n ≤ N) (hw : (Lib.decodeN N b0 b1 b2 b3).2 ≤ n) :
    Lib.decodeN n b0 c1 c2 c3 = Lib.decodeN N b0 b1 b2 b3 := by
  have d1 : 1 < n ∨ n ≤ 1 := by omega
  rcases d1 with d1 | d1
  · obtain rfl := h1 d1
    rcases (show 2 < n ∨ n ≤ 2 by omega) with d2 | d2
    · obtain rfl := h2 d2
      rcases (show 3 < n ∨ n ≤ 3 by omega) with d3 | d3
      · obtain rfl := h3 d3
        unfold Lib.decodeN
        repeat' split
        all_goals first | rfl | (exfalso; omega)
      · unfold Lib.decodeN at hw ⊢
        repeat' split at hw
        all_goals repeat' split
        all_goals first | rfl | (exfalso; omega) | (exfalso; simp only at hw; omega)
    · unfold Lib.decodeN at hw ⊢
      repeat' split at hw
      all_goals repeat' split
      all_goals first | rfl | (exfalso; omega) | (exfalso; simp only at hw; omega)
  · unfold Lib.decodeN at hw ⊢
    repeat' split at hw
    all_goals repeat' split
    all_goals first | rfl | (exfalso; omega) | (exfalso; simp only at hw; omega)

theorem decodeN_cont (n b0 b1 b2 b3 : Nat) (h : b0 / 64 = 2) : Lib.decodeN n b0 b1 b2 b3 = (65533, 1) := by
  unfold Lib.decodeN
  repeat' split
  all_goals first | rfl | (exfalso; omega)
theorem decodeN_in (n b0 b1 b2 b3 : Nat) : (1 < (Lib.decodeN n b0 b1 b2 b3).2 → b1 / 64 = 2) ∧ (2 < (Lib.decodeN n b0 b1 b2 b3).2 → b2 / 64 = 2) ∧ (3 < (Lib.decodeN n b0 b1 b2 b3).2 → b3 / 64 = 2) := by
  unfold Lib.decodeN
  repeat' split
  all_goals simp only
  all_goals omega

theorem head_get! (s : ByteArray) (n j : Nat) (h : j < n) : (s.extract 0 n).get! j = s.get! j := by
  rw [← Lib.getD_get!', ← Lib.getD_get!', Lib.extract_data]
  simp [List.getD_eq_getElem?_getD, List.getElem?_take, h]

/-- Ahead of a border a text cut there reads as it did. -/
theorem decode_head (s : ByteArray) (n i : Nat) (hn : n ≤ s.size) (hi : i < n) (h : i + (Utf8.decode s i).2 ≤ n) : Utf8.decode (s.extract 0 n) i = Utf8.decode s i := by
  rw [Lib.decode_at s i] at h
  rw [Lib.decode_at, Lib.decode_at s i, extract0_size s n hn, head_get! s n i hi]
  refine decodeN_cut _ _ _ _ _ _ _ _ _ ?_ ?_ ?_ (by omega) (by omega)
  · intro _; rw [head_get! s n (i + 1) (by omega)]
  · intro _; rw [head_get! s n (i + 2) (by omega)]
  · intro _; rw [head_get! s n (i + 3) (by omega)]

/-- A border, said whole. -/
def Bd (s : ByteArray) (a : Nat) : Prop := a ≤ s.size ∧ ∀ j, j < a → j + (Utf8.decode s j).2 ≤ a
theorem bd_iff (s : ByteArray) (a : Nat) : borderB s a = true ↔ Bd s a := by
  unfold borderB Bd clearFrom
  rw [Bool.and_eq_true, decide_eq_true_iff, decide_eq_true_iff, Int.toNat_natCast]
  constructor
  · rintro ⟨h1, h2⟩
    refine ⟨by omega, fun j hj => ?_⟩
    have hd := decode_two s j
    by_cases hk : ((a : Int) - 3).toNat ≤ j
    · exact h2 j hj hk
    · omega
  · rintro ⟨h1, h2⟩
    exact ⟨by omega, fun j hj _ => h2 j hj⟩
theorem bd_zero (s : ByteArray) : Bd s 0 := ⟨Nat.zero_le _, fun j hj => by omega⟩
theorem bd_end (s : ByteArray) : Bd s s.size := ⟨Nat.le_refl _, fun j hj => decode_in s j hj⟩
/-- Within a unit all is a unit of one byte. -/
theorem decode_within (s : ByteArray) (q j : Nat) (h1 : q < j) (h2 : j < q + (Utf8.decode s q).2) : (Utf8.decode s j).2 = 1 := by
  have hd := decode_two s q
  rw [Lib.decode_at s q] at h2 hd
  have hin := decodeN_in (s.size - q) (s.get! q).toNat (s.get! (q + 1)).toNat (s.get! (q + 2)).toNat (s.get! (q + 3)).toNat
  have hc : (s.get! j).toNat / 64 = 2 := by
    rcases (show j = q + 1 ∨ j = q + 2 ∨ j = q + 3 by omega) with rfl | rfl | rfl
    · exact hin.1 (by omega)
    · exact hin.2.1 (by omega)
    · exact hin.2.2 (by omega)
  rw [Lib.decode_at s j, decodeN_cont _ _ _ _ _ hc]
theorem bd_step (s : ByteArray) (q : Nat) (h : Bd s q) (hq : q < s.size) : Bd s (q + (Utf8.decode s q).2) := by
  refine ⟨decode_in s q hq, fun j hj => ?_⟩
  rcases Nat.lt_trichotomy j q with h1 | h1 | h1
  · have := h.2 j h1; omega
  · rw [h1]; exact Nat.le_refl _
  · rw [decode_within s q j h1 hj]; omega
/-- A border behind another lies behind its unit. -/
theorem bd_next (s : ByteArray) (q a : Nat) (ha : Bd s a) (h : q < a) : q + (Utf8.decode s q).2 ≤ a := ha.2 q h
end Go.Proofs.YteippkoomlganaaDoor
