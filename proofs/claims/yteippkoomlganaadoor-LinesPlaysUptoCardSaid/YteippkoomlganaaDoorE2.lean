import Derived.Test.YteippkoomlganaaDoorE1
import Derived.Test.YteippkoomlganaaDoorC3
set_option linter.unusedVariables false
set_option linter.unusedSimpArgs false
namespace Go.Proofs.YteippkoomlganaaDoor
open Go.RowKit Go.Proofs.YteippkoomlganaaDoorW.PrintWords

theorem w64 {n : Int} (h0 : -9223372036854775808 ≤ n) (h1 : n < 9223372036854775808) : wrap64 n = n := by unfold wrap64; omega
theorem w32 {n : Int} (h0 : -2147483648 ≤ n) (h1 : n < 2147483648) : wrap32 n = n := by unfold wrap32; omega
theorem bt_nat (s : ByteArray) (n : Nat) (h : n < s.size) : bt s (n : Int) = ((s.get! n).toNat : Int) := by
  unfold bt
  rw [dif_pos (by simpa using h)]
  have e : s[n]'h = s.get! n := by
    show s.data[n]'_ = _
    rw [← get_data, getElem!_pos s.data n (by simpa using h)]
  simp only [Int.toNat_natCast]
  rw [e]

/-- What begins at a place: a character and its width, or (0, 0). -/
def offP (d : Nat × Nat) : Int × Int := if d = (65533, 1) then (0, 0) else ((d.1 : Int), (d.2 : Int))
theorem offP_bad : offP (65533, 1) = (0, 0) := rfl
theorem offP_ok {v w : Nat} (h : w ≠ 1 ∨ v ≠ 65533) : offP (v, w) = ((v : Int), (w : Int)) := by
  unfold offP
  rw [if_neg]
  intro e
  injection e with e1 e2
  omega
def charP (s : ByteArray) (n : Nat) : Int × Int := offP (Utf8.decode s n)

theorem char_l0 (k : Nat) (s : ByteArray) (n i w : Nat) (least v : Int) (hn : n < s.size) (hs : s.size ≤ 140737488351232) (hi : i < w) (hw : w ≤ 4) (hin : n + i < s.size) (hv : 0 ≤ v) (hv2 : v ≤ 1048576) :
    thistleref01_char.l0 (k + 1) s n w least v i = if (s.get! (n + i)).toNat < 128 ∨ 191 < (s.get! (n + i)).toNat then some (0, 0) else thistleref01_char.l0 k s n w least (v * 64 + (s.get! (n + i)).toNat - 128) ((i + 1 : Nat) : Int) := by
  have hb : (s.get! (n + i)).toNat < 256 := (s.get! (n + i)).toNat_lt
  have e1 : wrap64 ((n : Int) + (i : Int)) = ((n + i : Nat) : Int) := by rw [w64 (by omega) (by omega)]; omega
  have e2 := bt_nat s (n + i) hin
  rw [thistleref01_char.l0]
  rw [e1, e2]
  generalize (s.get! (n + i)).toNat = b at *
  rw [if_pos (by omega), if_pos (by omega), if_pos (by omega), w64 (n := (b : Int)) (by omega) (by omega), w64 (n := v * 64) (by omega) (by omega), w64 (n := v * 64 + (b : Int)) (by omega) (by omega), w64 (n := v * 64 + (b : Int) - 128) (by omega) (by omega), w64 (n := (i : Int) + 1) (by omega) (by omega)]
  by_cases h1 : b < 128
  · rw [if_pos (by omega), if_pos (by omega)]
  · rw [if_neg (by omega)]
    by_cases h2 : 191 < b
    · rw [if_pos (by omega), if_pos (by omega)]
    · rw [if_neg (by omega), if_neg (by omega)]
      rfl
theorem char_l0_end (k : Nat) (s : ByteArray) (n w : Nat) (least v : Int) (hv : 0 ≤ v) (hv2 : v ≤ 134217728) :
    thistleref01_char.l0 (k + 1) s n w least v w = if v < least ∨ 1114111 < v ∨ (55296 ≤ v ∧ v ≤ 57343) then some (0, 0) else some (v, (w : Int)) := by
  rw [thistleref01_char.l0]
  rw [if_neg (by omega), w32 (by omega) (by omega)]
  by_cases h1 : v < least
  · rw [if_pos h1, if_pos (by omega)]
  · rw [if_neg h1]
    by_cases h2 : v > 1114111
    · rw [if_pos h2, if_pos (by omega)]
    · rw [if_neg h2]
      by_cases h3 : v ≥ 55296
      · rw [if_pos h3]
        by_cases h4 : v ≤ 57343
        · rw [if_pos h4, if_pos (by omega)]
        · rw [if_neg h4, if_neg (by omega)]
      · rw [if_neg h3, if_neg (by omega)]

theorem char_j (k : Nat) (s : ByteArray) (n w b : Nat) (least v : Int) (hn : n < s.size) (hs : s.size ≤ 140737488351232) (hw : w ≤ 4) (hb : 192 ≤ b) (hb2 : b < 240 ∨ w = 4 ∧ least = 65536 ∧ v = wrap64 ((b : Int) - 240)) :
    thistleref01_char.j0 (k + 3) s n b w least v = if 248 ≤ b ∨ s.size < n + w then some (0, 0) else thistleref01_char.l0 k s n w least v ((1 : Nat) : Int) := by
  have key : thistleref01_char.j1 (k + 2) s n b w least v = if 248 ≤ b ∨ s.size < n + w then some (0, 0) else thistleref01_char.l0 k s n w least v ((1 : Nat) : Int) := by
    rw [thistleref01_char.j1, if_neg (by omega), w64 (n := (n : Int) + (w : Int)) (by omega) (by omega)]
    by_cases h1 : 248 ≤ b
    · rw [if_pos (by omega), thistleref01_char.j2, if_pos rfl, if_pos (by omega)]
    · rw [if_neg (by omega), thistleref01_char.j2]
      by_cases h2 : s.size < n + w
      · rw [if_pos (by simp; omega), if_pos (by omega)]
      · rw [if_neg (by simp; omega), if_neg (by omega)]
        rfl
  rw [thistleref01_char.j0]
  by_cases h : 240 ≤ b
  · rcases hb2 with hb2 | ⟨rfl, rfl, rfl⟩
    · omega
    · rw [if_pos (by omega)]
      exact key
  · rw [if_neg (by omega)]
    exact key

/-- The decoding of a character by its bytes. -/
def decB (z n b0 b1 b2 b3 : Nat) : Nat × Nat :=
  if b0 < 0x80 then (b0, 1)
  else if b0 / 32 == 6 && (n + 1 < z && b1 / 64 == 2) then
    (if (b0 % 32) * 64 + b1 % 64 ≥ 0x80 then ((b0 % 32) * 64 + b1 % 64, 2) else (Utf8.runeError, 1))
  else if b0 / 16 == 14 && (n + 1 < z && b1 / 64 == 2) && (n + 2 < z && b2 / 64 == 2) then
    (if (b0 % 16) * 4096 + (b1 % 64) * 64 + b2 % 64 ≥ 0x800 && Utf8.valid ((b0 % 16) * 4096 + (b1 % 64) * 64 + b2 % 64 : Nat) then ((b0 % 16) * 4096 + (b1 % 64) * 64 + b2 % 64, 3) else (Utf8.runeError, 1))
  else if b0 / 8 == 30 && (n + 1 < z && b1 / 64 == 2) && (n + 2 < z && b2 / 64 == 2) && (n + 3 < z && b3 / 64 == 2) then
    (if (b0 % 8) * 262144 + (b1 % 64) * 4096 + (b2 % 64) * 64 + b3 % 64 ≥ 0x10000 && Utf8.valid ((b0 % 8) * 262144 + (b1 % 64) * 4096 + (b2 % 64) * 64 + b3 % 64 : Nat) then ((b0 % 8) * 262144 + (b1 % 64) * 4096 + (b2 % 64) * 64 + b3 % 64, 4) else (Utf8.runeError, 1))
  else (Utf8.runeError, 1)
theorem decode_B (s : ByteArray) (n : Nat) : Utf8.decode s n = decB s.size n (s.get! n).toNat (s.get! (n + 1)).toNat (s.get! (n + 2)).toNat (s.get! (n + 3)).toNat := rfl
theorem decB_1 {z n b0 b1 b2 b3 : Nat} (h : b0 < 128) : decB z n b0 b1 b2 b3 = (b0, 1) := by unfold decB; rw [if_pos h]
theorem decB_bad {z n b0 b1 b2 b3 : Nat} (h : 128 ≤ b0) (h2 : b0 < 192 ∨ 248 ≤ b0) (h3 : b0 < 256) : decB z n b0 b1 b2 b3 = (65533, 1) := by
  unfold decB
  rw [if_neg (by omega), if_neg (by simp; omega), if_neg (by simp; omega), if_neg (by simp; omega)]
  rfl
theorem decB_2 {z n b0 b1 b2 b3 : Nat} (h : 192 ≤ b0) (h2 : b0 < 224) (h3 : b1 < 256) : decB z n b0 b1 b2 b3 = if n + 1 < z ∧ 128 ≤ b1 ∧ b1 ≤ 191 ∧ 128 ≤ (b0 - 192) * 64 + (b1 - 128) then ((b0 - 192) * 64 + (b1 - 128), 2) else (65533, 1) := by
  unfold decB
  rw [if_neg (by omega)]
  by_cases c : n + 1 < z ∧ 128 ≤ b1 ∧ b1 ≤ 191
  · rw [if_pos (by simp; omega)]
    have e : b0 % 32 * 64 + b1 % 64 = (b0 - 192) * 64 + (b1 - 128) := by omega
    rw [e]
    by_cases d : 128 ≤ (b0 - 192) * 64 + (b1 - 128)
    · rw [if_pos d, if_pos (by omega)]
    · rw [if_neg d, if_neg (by omega)]; rfl
  · rw [if_neg (by simp; omega), if_neg (by simp; omega), if_neg (by simp; omega), if_neg (by omega)]; rfl
theorem valid_iff (c : Nat) : Utf8.valid (c : Int) = true ↔ (c < 55296 ∨ (57344 ≤ c ∧ c ≤ 1114111)) := by
  unfold Utf8.valid
  simp
  omega
theorem decB_3 {z n b0 b1 b2 b3 : Nat} (h : 224 ≤ b0) (h2 : b0 < 240) (h3 : b1 < 256) (h4 : b2 < 256) : decB z n b0 b1 b2 b3 = if n + 2 < z ∧ (128 ≤ b1 ∧ b1 ≤ 191) ∧ (128 ≤ b2 ∧ b2 ≤ 191) ∧ 2048 ≤ ((b0 - 224) * 64 + (b1 - 128)) * 64 + (b2 - 128) ∧ ¬ (55296 ≤ ((b0 - 224) * 64 + (b1 - 128)) * 64 + (b2 - 128) ∧ ((b0 - 224) * 64 + (b1 - 128)) * 64 + (b2 - 128) ≤ 57343) then (((b0 - 224) * 64 + (b1 - 128)) * 64 + (b2 - 128), 3) else (65533, 1) := by
  unfold decB
  rw [if_neg (by omega), if_neg (by simp; omega)]
  by_cases c : n + 2 < z ∧ (128 ≤ b1 ∧ b1 ≤ 191) ∧ (128 ≤ b2 ∧ b2 ≤ 191)
  · rw [if_pos (by simp; omega)]
    have e : b0 % 16 * 4096 + b1 % 64 * 64 + b2 % 64 = ((b0 - 224) * 64 + (b1 - 128)) * 64 + (b2 - 128) := by omega
    rw [e]
    generalize hv : ((b0 - 224) * 64 + (b1 - 128)) * 64 + (b2 - 128) = v
    have hv2 : v < 65536 := by omega
    by_cases d : 2048 ≤ v ∧ ¬ (55296 ≤ v ∧ v ≤ 57343)
    · rw [if_pos (by rw [Bool.and_eq_true, valid_iff]; simp; omega), if_pos (by omega)]
    · rw [if_neg (by rw [Bool.and_eq_true, valid_iff]; simp; omega), if_neg (by omega)]; rfl
  · rw [if_neg (by simp; omega), if_neg (by simp; omega), if_neg (by omega)]; rfl
theorem decB_4 {z n b0 b1 b2 b3 : Nat} (h : 240 ≤ b0) (h2 : b0 < 248) (h3 : b1 < 256) (h4 : b2 < 256) (h5 : b3 < 256) : decB z n b0 b1 b2 b3 = if n + 3 < z ∧ (128 ≤ b1 ∧ b1 ≤ 191) ∧ (128 ≤ b2 ∧ b2 ≤ 191) ∧ (128 ≤ b3 ∧ b3 ≤ 191) ∧ 65536 ≤ (((b0 - 240) * 64 + (b1 - 128)) * 64 + (b2 - 128)) * 64 + (b3 - 128) ∧ (((b0 - 240) * 64 + (b1 - 128)) * 64 + (b2 - 128)) * 64 + (b3 - 128) ≤ 1114111 then ((((b0 - 240) * 64 + (b1 - 128)) * 64 + (b2 - 128)) * 64 + (b3 - 128), 4) else (65533, 1) := by
  unfold decB
  rw [if_neg (by omega), if_neg (by simp; omega), if_neg (by simp; omega)]
  by_cases c : n + 3 < z ∧ (128 ≤ b1 ∧ b1 ≤ 191) ∧ (128 ≤ b2 ∧ b2 ≤ 191) ∧ (128 ≤ b3 ∧ b3 ≤ 191)
  · rw [if_pos (by simp; omega)]
    have e : b0 % 8 * 262144 + b1 % 64 * 4096 + b2 % 64 * 64 + b3 % 64 = (((b0 - 240) * 64 + (b1 - 128)) * 64 + (b2 - 128)) * 64 + (b3 - 128) := by omega
    rw [e]
    generalize hv : (((b0 - 240) * 64 + (b1 - 128)) * 64 + (b2 - 128)) * 64 + (b3 - 128) = v
    by_cases d : 65536 ≤ v ∧ v ≤ 1114111
    · rw [if_pos (by rw [Bool.and_eq_true, valid_iff]; simp; omega), if_pos (by omega)]
    · rw [if_neg (by rw [Bool.and_eq_true, valid_iff]; simp; omega), if_neg (by omega)]; rfl
  · rw [if_neg (by simp; omega), if_neg (by omega)]; rfl

theorem char_eq (s : ByteArray) (n m : Nat) (h : n < s.size) (hs : s.size ≤ 140737488351232) : thistleref01_char.f (m + 9) s n = some (charP s n) := by
  have hb : ∀ j, (s.get! j).toNat < 256 := fun j => (s.get! j).toNat_lt
  have h0 := hb n
  have h1 := hb (n + 1)
  have h2 := hb (n + 2)
  have h3 := hb (n + 3)
  have l1 := fun (k w : Nat) (least v : Int) => char_l0 k s n 1 w least v h hs
  have l2 := fun (k w : Nat) (least v : Int) => char_l0 k s n 2 w least v h hs
  have l3 := fun (k w : Nat) (least v : Int) => char_l0 k s n 3 w least v h hs
  unfold thistleref01_char.f charP
  rw [if_pos (by omega), if_pos (by omega), bt_nat s n h, decode_B, w64 (n := ((s.get! n).toNat : Int)) (by omega) (by omega)]
  have hj := fun (k w b : Nat) (least v : Int) => char_j k s n w b least v h hs
  clear hb
  obtain ⟨b0, e0⟩ : ∃ b, (s.get! n).toNat = b := ⟨_, rfl⟩
  obtain ⟨b1, e1⟩ : ∃ b, (s.get! (n + 1)).toNat = b := ⟨_, rfl⟩
  obtain ⟨b2, e2⟩ : ∃ b, (s.get! (n + 2)).toNat = b := ⟨_, rfl⟩
  obtain ⟨b3, e3⟩ : ∃ b, (s.get! (n + 3)).toNat = b := ⟨_, rfl⟩
  simp only [e0, e1, e2, e3] at *
  clear e0 e1 e2 e3
  by_cases c0 : b0 < 128
  · rw [if_pos (by omega), decB_1 c0, offP_ok (by omega), w32 (by omega) (by omega)]
    rfl
  rw [if_neg (by omega)]
  by_cases c1 : b0 < 192
  · rw [if_neg (by omega), decB_bad (by omega) (by omega) h0, offP_bad, thistleref01_char.j0, if_neg (by omega), thistleref01_char.j1, if_pos (by omega), thistleref01_char.j2, if_pos rfl]
  by_cases c2 : b0 < 224
  · rw [if_neg (by omega), w64 (by omega) (by omega), show m + 9 = (m + 6) + 3 from rfl, show (2 : Int) = ((2 : Nat) : Int) from rfl, hj (m + 6) 2 b0 128 _ (by omega) (by omega) (by omega), decB_2 (by omega) c2 h1]
    by_cases d : s.size < n + 2
    · rw [if_pos (by omega), if_neg (by omega), offP_bad]
    · rw [if_neg (by omega), l1 (m + 5) 2 128 _ (by omega) (by omega) (by omega) (by omega) (by omega)]
      by_cases d1 : b1 < 128 ∨ 191 < b1
      · rw [if_pos d1, if_neg (by omega), offP_bad]
      · rw [if_neg d1, show ((1 + 1 : Nat) : Int) = ((2 : Nat) : Int) from rfl, char_l0_end (m + 4) s n 2 128 _ (by omega) (by omega)]
        by_cases d2 : 128 ≤ (b0 - 192) * 64 + (b1 - 128)
        · rw [if_neg (by omega), if_pos (by omega), offP_ok (by omega)]
          congr 2
          omega
        · rw [if_pos (by omega), if_neg (by omega), offP_bad]
  rw [if_pos (by omega)]
  by_cases c3 : b0 < 240
  · rw [w64 (by omega) (by omega), show m + 9 = (m + 6) + 3 from rfl, show (3 : Int) = ((3 : Nat) : Int) from rfl, hj (m + 6) 3 b0 2048 _ (by omega) (by omega) (by omega), decB_3 (by omega) c3 h1 h2]
    by_cases d : s.size < n + 3
    · rw [if_pos (by omega), if_neg (by omega), offP_bad]
    rw [if_neg (by omega), l1 (m + 5) 3 2048 _ (by omega) (by omega) (by omega) (by omega) (by omega)]
    by_cases d1 : b1 < 128 ∨ 191 < b1
    · rw [if_pos d1, if_neg (by omega), offP_bad]
    rw [if_neg d1, show ((1 + 1 : Nat) : Int) = ((2 : Nat) : Int) from rfl, l2 (m + 4) 3 2048 _ (by omega) (by omega) (by omega) (by omega) (by omega)]
    by_cases d2 : b2 < 128 ∨ 191 < b2
    · rw [if_pos d2, if_neg (by omega), offP_bad]
    rw [if_neg d2, show ((2 + 1 : Nat) : Int) = ((3 : Nat) : Int) from rfl, char_l0_end (m + 3) s n 3 2048 _ (by omega) (by omega)]
    generalize hv : ((b0 - 224) * 64 + (b1 - 128)) * 64 + (b2 - 128) = v
    have hvi : (((b0 : Int) - 224) * 64 + (b1 : Int) - 128) * 64 + (b2 : Int) - 128 = (v : Int) := by omega
    rw [hvi]
    by_cases d3 : 2048 ≤ v ∧ ¬ (55296 ≤ v ∧ v ≤ 57343)
    · rw [if_neg (by omega), if_pos (by omega), offP_ok (by omega)]
    · rw [if_pos (by omega), if_neg (by omega), offP_bad]
  by_cases c4 : b0 < 248
  · have hw : wrap64 ((b0 : Int) - 240) = (b0 : Int) - 240 := w64 (by omega) (by omega)
    have hjj := hj (m + 6) 4 b0 65536 (wrap64 ((b0 : Int) - 240)) (by omega) (by omega) (.inr ⟨rfl, rfl, rfl⟩)
    have hj0 : thistleref01_char.j0 (m + 6 + 3) s n b0 3 2048 (wrap64 ((b0 : Int) - 224)) = thistleref01_char.j0 (m + 6 + 3) s n b0 ((4 : Nat) : Int) 65536 (wrap64 ((b0 : Int) - 240)) := by
      rw [thistleref01_char.j0, thistleref01_char.j0, if_pos (by omega), if_pos (by omega)]
    rw [show m + 9 = m + 6 + 3 from rfl, hj0, hjj, hw, decB_4 (by omega) c4 h1 h2 h3]
    by_cases d : s.size < n + 4
    · rw [if_pos (by omega), if_neg (by omega), offP_bad]
    rw [if_neg (by omega), l1 (m + 5) 4 65536 _ (by omega) (by omega) (by omega) (by omega) (by omega)]
    by_cases d1 : b1 < 128 ∨ 191 < b1
    · rw [if_pos d1, if_neg (by omega), offP_bad]
    rw [if_neg d1, show ((1 + 1 : Nat) : Int) = ((2 : Nat) : Int) from rfl, l2 (m + 4) 4 65536 _ (by omega) (by omega) (by omega) (by omega) (by omega)]
    by_cases d2 : b2 < 128 ∨ 191 < b2
    · rw [if_pos d2, if_neg (by omega), offP_bad]
    rw [if_neg d2, show ((2 + 1 : Nat) : Int) = ((3 : Nat) : Int) from rfl, l3 (m + 3) 4 65536 _ (by omega) (by omega) (by omega) (by omega) (by omega)]
    by_cases d4 : b3 < 128 ∨ 191 < b3
    · rw [if_pos d4, if_neg (by omega), offP_bad]
    rw [if_neg d4, show ((3 + 1 : Nat) : Int) = ((4 : Nat) : Int) from rfl, char_l0_end (m + 2) s n 4 65536 _ (by omega) (by omega)]
    generalize hv : (((b0 - 240) * 64 + (b1 - 128)) * 64 + (b2 - 128)) * 64 + (b3 - 128) = v
    have hvi : ((((b0 : Int) - 240) * 64 + (b1 : Int) - 128) * 64 + (b2 : Int) - 128) * 64 + (b3 : Int) - 128 = (v : Int) := by omega
    rw [hvi]
    by_cases d3 : 65536 ≤ v ∧ v ≤ 1114111
    · rw [if_neg (by omega), if_pos (by omega), offP_ok (by omega)]
    · rw [if_pos (by omega), if_neg (by omega), offP_bad]
  · have hj0 : thistleref01_char.j0 (m + 6 + 3) s n b0 3 2048 (wrap64 ((b0 : Int) - 224)) = some (0, 0) := by
      have hjj := hj (m + 6) 4 b0 65536 (wrap64 ((b0 : Int) - 240)) (by omega) (by omega) (.inr ⟨rfl, rfl, rfl⟩)
      rw [if_pos (by omega)] at hjj
      rw [← hjj, thistleref01_char.j0, thistleref01_char.j0, if_pos (by omega), if_pos (by omega)]
    rw [show m + 9 = m + 6 + 3 from rfl, hj0, decB_bad (by omega) (by omega) h0, offP_bad]
end Go.Proofs.YteippkoomlganaaDoor
