import Derived.Test.YteippkoomlganaaGreatDoorA4
set_option linter.unusedVariables false
set_option linter.unusedSimpArgs false
namespace Go.Proofs.YteippkoomlganaaGreatDoor
open Go.RowKit

/-- From place p on, in the column n: the place of the column col of this line. -/
def placeW (s : ByteArray) (col : Int) : Nat → Nat → Int → Option Nat
  | 0, _, _ => none
  | k + 1, p, n => if p < s.size then (if n = col then some p else if (Utf8.decode s p).1 = 10 then none else placeW s col k (p + (Utf8.decode s p).2) (n + 1)) else if n = col then some s.size else none
def placeR : Option Nat → Int × Int
  | none => (0, 7)
  | some p => ((p : Nat), 0)
def placeF (s : ByteArray) (l c : Int) : Int × Int :=
  if l < 1 ∨ c < 1 then (0, 2) else
  match beginF s (l - 1).toNat 0 with
  | none => (0, 7)
  | some f => placeR (placeW s c (s.size + 1 - f) f 1)

theorem placeF_arg (s : ByteArray) (l c : Int) (h : l < 1 ∨ c < 1) : placeF s l c = (0, 2) := by unfold placeF; rw [if_pos h]
theorem placeF_none (s : ByteArray) (l c : Int) (h : ¬ (l < 1 ∨ c < 1)) (hb : beginF s (l - 1).toNat 0 = none) : placeF s l c = (0, 7) := by unfold placeF; rw [if_neg h, hb]
theorem placeF_some (s : ByteArray) (l c : Int) (f : Nat) (h : ¬ (l < 1 ∨ c < 1)) (hb : beginF s (l - 1).toNat 0 = some f) :
    placeF s l c = placeR (placeW s c (s.size + 1 - f) f 1) := by unfold placeF; rw [if_neg h, hb]

theorem beginF_le (s : ByteArray) : ∀ k f r, f ≤ s.size → beginF s k f = some r → r ≤ s.size
  | 0, f, r, hf, h => by simp only [beginF, Option.some.injEq] at h; omega
  | k + 1, f, r, hf, h => by
    unfold beginF at h
    have hle := indexByte_lt (s.extract f s.size).data.toList 10
    have hge := Lib.indexByte_ge (s.extract f s.size).data.toList 10
    rw [← Lib.size_eq, Lib.tail_size] at hle
    split at h
    · cases h
    · exact beginF_le s k _ r (by omega) h

theorem decode_in (s : ByteArray) (p : Nat) (h : p < s.size) : p + (Utf8.decode s p).2 ≤ s.size := by
  simp only [Utf8.decode]
  repeat' split
  all_goals simp_all
  all_goals omega
/-- What a character's first byte is answered as 10: the byte 10 alone. -/
theorem decode_ten (s : ByteArray) (p : Nat) : (Utf8.decode s p).1 = 10 ↔ s.get! p = 10 := by
  have hb : ∀ k, (s.get! (p + k)).toNat < 256 := fun k => (s.get! (p + k)).toNat_lt
  have h0 := hb 0
  have e : s.get! p = 10 ↔ (s.get! (p + 0)).toNat = 10 := by
    rw [Nat.add_zero]
    constructor
    · intro h; rw [h]; rfl
    · intro h; exact UInt8.toNat_inj.1 h
  rw [e]
  simp only [Utf8.decode]
  repeat' split
  all_goals simp_all [Utf8.runeError]
  all_goals omega

theorem placeW_fuel (s : ByteArray) (c : Int) : ∀ k k' p n, s.size - p < k → s.size - p < k' → placeW s c k p n = placeW s c k' p n
  | 0, _, _, _, h, _ => by omega
  | _, 0, _, _, _, h => by omega
  | k + 1, k' + 1, p, n, h, h' => by
    unfold placeW
    have hd := decode_two s p
    by_cases hp : p < s.size
    · rw [if_pos hp, if_pos hp, placeW_fuel s c k k' _ (n + 1) (by omega) (by omega)]
    · rw [if_neg hp, if_neg hp]
theorem placeW_step (s : ByteArray) (c : Int) (p : Nat) (n : Int) (hp : p ≤ s.size) :
    placeW s c (s.size + 1 - p) p n = if p < s.size then (if n = c then some p else if (Utf8.decode s p).1 = 10 then none else placeW s c (s.size + 1 - (p + (Utf8.decode s p).2)) (p + (Utf8.decode s p).2) (n + 1)) else if n = c then some s.size else none := by
  obtain ⟨k, hk⟩ : ∃ k, s.size + 1 - p = k + 1 := ⟨s.size - p, by omega⟩
  rw [hk]
  conv => lhs; unfold placeW
  have hd := decode_two s p
  by_cases hlt : p < s.size
  · rw [if_pos hlt, if_pos hlt]
    have hq := decode_in s p hlt
    rw [placeW_fuel s c k (s.size + 1 - (p + (Utf8.decode s p).2)) _ _ (by omega) (by omega)]
  · rw [if_neg hlt, if_neg hlt]

theorem ret2_ii {a a' b b' : Int} (h : a = a') (h' : b = b') : Ending.returned (.tuple #[.int .i64 a, .int .i64 b]) = .returned (.tuple #[.int .i64 a', .int .i64 b']) := by rw [h, h']

end Go.Proofs.YteippkoomlganaaGreatDoor
