import Derived.Test.YteippkoomlganaaDoorC1
set_option linter.unusedVariables false
set_option linter.unusedSimpArgs false
namespace Go.Proofs.YteippkoomlganaaDoor
open Go.RowKit

theorem get_data (s : ByteArray) (j : Nat) : s.data[j]! = s.get! j := by cases s; rfl
theorem get_in (s : ByteArray) (j : Nat) (h : j < s.size) : s.data.toList[j]'(by rw [← Lib.size_eq]; exact h) = s.get! j := by
  rw [← get_data, getElem!_pos s.data j (by simpa using h)]
  simp

/-- The begin of the line, and how many bytes 10, ahead of a place. -/
def fromOf (s : ByteArray) : Nat → Nat
  | 0 => 0
  | n + 1 => if s.get! n = 10 then n + 1 else fromOf s n
def nls (s : ByteArray) : Nat → Nat
  | 0 => 0
  | n + 1 => nls s n + if s.get! n = 10 then 1 else 0

theorem fromOf_succ (s : ByteArray) (n : Nat) : fromOf s (n + 1) = if s.get! n = 10 then n + 1 else fromOf s n := rfl
theorem nls_succ (s : ByteArray) (n : Nat) : nls s (n + 1) = nls s n + if s.get! n = 10 then 1 else 0 := rfl
theorem fromOf_le (s : ByteArray) : ∀ n, fromOf s n ≤ n
  | 0 => Nat.le_refl 0
  | n + 1 => by unfold fromOf; have := fromOf_le s n; split <;> omega
theorem fromOf_none (s : ByteArray) : ∀ n j, fromOf s n ≤ j → j < n → s.get! j ≠ 10
  | 0, j, _, h => by omega
  | n + 1, j, h1, h2 => by
    unfold fromOf at h1
    split at h1
    · omega
    · by_cases e : j = n
      · rw [e]; assumption
      · exact fromOf_none s n j h1 (by omega)
theorem fromOf_at (s : ByteArray) : ∀ n, fromOf s n = 0 ∨ (0 < fromOf s n ∧ s.get! (fromOf s n - 1) = 10)
  | 0 => .inl rfl
  | n + 1 => by
    unfold fromOf
    split
    · exact .inr ⟨by omega, by simpa using ‹_›⟩
    · exact fromOf_at s n

theorem lastIdx_from (s : ByteArray) (n : Nat) : ∀ k, k ≤ n → Lib.lastIdx (s.extract 0 n) 10 k = (fromOf s k : Int) - 1
  | 0, _ => rfl
  | k + 1, h => by
    unfold fromOf
    have hg : (s.extract 0 n).data[k]! = s.get! k := by rw [get_data, head_get! s n k (by omega)]
    by_cases e : s.get! k = 10
    · rw [Lib.lastIdx_hit _ _ _ (by rw [hg, e]; rfl), if_pos e]; omega
    · rw [Lib.lastIdx_miss _ _ _ ?_, lastIdx_from s n k (by omega), if_neg e]
      rw [hg]
      intro h2
      apply e
      apply UInt8.toNat_inj.1
      exact Int.ofNat_inj.1 h2
theorem lineFrom_eq (s : ByteArray) (n : Nat) (h : n ≤ s.size) : lineFrom s n = fromOf s n := by
  unfold lineFrom Lib.lastIndexByte
  rw [extract0_size s n h, lastIdx_from s n n (Nat.le_refl _)]
  omega
theorem whereL_eq (s : ByteArray) : ∀ n, n ≤ s.size → whereL s n = 1 + nls s n := by
  intro n
  unfold whereL Lib.countByte
  rw [Lib.extract_data, List.drop_zero, Nat.sub_zero]
  intro h
  congr 1
  induction n with
  | zero => rfl
  | succ n ih =>
    have hl : n < s.data.toList.length := by rw [← Lib.size_eq]; omega
    rw [List.take_succ_eq_append_getElem hl, List.count_append, ih (by omega), get_in s n (by omega), nls_succ]
    by_cases e : s.get! n = 10
    · rw [if_pos e, e]; rfl
    · rw [if_neg e, List.count_singleton, if_neg (by simpa using e)]

/-- Units from p on up to n. -/
def cntTo (s : ByteArray) (n : Nat) : Nat → Nat → Nat
  | 0, _ => 0
  | f + 1, p => if p < n then 1 + cntTo s n f (p + (Utf8.decode s p).2) else 0
theorem cntTo_fuel (s : ByteArray) (n : Nat) : ∀ f g p, n - p ≤ f → n - p ≤ g → cntTo s n f p = cntTo s n g p
  | 0, 0, _, _, _ => rfl
  | 0, g + 1, p, h, _ => by unfold cntTo; rw [if_neg (by omega)]
  | f + 1, 0, p, _, h => by unfold cntTo; rw [if_neg (by omega)]
  | f + 1, g + 1, p, h, h' => by
    unfold cntTo
    have := decode_two s p
    split
    · rw [cntTo_fuel s n f g _ (by omega) (by omega)]
    · rfl
theorem cntTo_end (s : ByteArray) (n f p : Nat) (h : n ≤ p) : cntTo s n f p = 0 := by cases f <;> simp [cntTo]; omega
def cnt (s : ByteArray) (p n : Nat) : Nat := cntTo s n (n - p) p
theorem cnt_end (s : ByteArray) (p : Nat) : cnt s p p = 0 := cntTo_end s p _ p (Nat.le_refl _)
theorem cnt_step (s : ByteArray) (p n : Nat) (h : p < n) : cnt s p n = 1 + cnt s (p + (Utf8.decode s p).2) n := by
  unfold cnt
  have := decode_two s p
  obtain ⟨f, hf⟩ : ∃ f, n - p = f + 1 := ⟨n - p - 1, by omega⟩
  rw [hf]
  conv => lhs; unfold cntTo
  rw [if_pos h, cntTo_fuel s n f (n - (p + (Utf8.decode s p).2)) _ (by omega) (by omega)]
/-- One unit more. -/
theorem cnt_snoc (s : ByteArray) (q : Nat) (hq : Bd s q) : ∀ d p, q - p = d → p ≤ q → Bd s p → cnt s p (q + (Utf8.decode s q).2) = cnt s p q + 1 := by
  intro d
  induction d using Nat.strongRecOn with
  | _ d ih =>
    intro p hd hp hb
    have hw := decode_two s q
    have hwp := decode_two s p
    by_cases e : p = q
    · subst e
      rw [cnt_step s p _ (by omega), cnt_end, cnt_end]
    · have hlt : p < q := by omega
      have hn := bd_next s p q hq hlt
      have hps : p < s.size := by have := hq.1; omega
      rw [cnt_step s p _ (by omega), cnt_step s p q hlt, ih (q - (p + (Utf8.decode s p).2)) (by omega) _ rfl hn (bd_step s p hb hps)]
      omega

theorem runes_cnt (s : ByteArray) (n : Nat) (hn : Bd s n) : ∀ f p, Lib.runeCountFrom (s.extract 0 n) f p = cntTo s n f p
  | 0, _ => rfl
  | f + 1, p => by
    unfold Lib.runeCountFrom cntTo
    rw [extract0_size s n hn.1]
    split
    · rename_i h
      rw [decode_head s n p hn.1 h (hn.2 p h), runes_cnt s n hn f]
    · rfl
theorem whereC_eq (s : ByteArray) (n : Nat) (hn : Bd s n) : whereC s n = 1 + cnt s (fromOf s n) n := by
  unfold whereC Lib.runeCount
  rw [lineFrom_eq s n hn.1, Lib.tail_count, Lib.tail_size, extract0_size s n hn.1, runes_cnt s n hn, Nat.add_zero]
  rfl

/-- The begin of a line is a border. -/
theorem bd_from (s : ByteArray) (n : Nat) (h : n ≤ s.size) : Bd s (fromOf s n) := by
  have hle := fromOf_le s n
  rcases fromOf_at s n with h0 | ⟨h0, h1⟩
  · rw [h0]; exact bd_zero s
  · refine ⟨by omega, fun j hj => ?_⟩
    by_cases e : j + (Utf8.decode s j).2 ≤ fromOf s n
    · exact e
    · exfalso
      by_cases e2 : j = fromOf s n - 1
      · have : Utf8.decode s j = (10, 1) := by
          rw [Lib.decode_at, e2, h1]
          rfl
        rw [this] at e
        simp only at e
        omega
      · have hw := decode_two s j
        have hin := decodeN_in (s.size - j) (s.get! j).toNat (s.get! (j + 1)).toNat (s.get! (j + 2)).toNat (s.get! (j + 3)).toNat
        rw [← Lib.decode_at] at hin
        have h10 : (s.get! (fromOf s n - 1)).toNat / 64 = 0 := by rw [h1]; rfl
        rcases (show fromOf s n - 1 = j + 1 ∨ fromOf s n - 1 = j + 2 ∨ fromOf s n - 1 = j + 3 by omega) with h2 | h2 | h2
        · have := hin.1 (by omega); rw [h2] at h10; omega
        · have := hin.2.1 (by omega); rw [h2] at h10; omega
        · have := hin.2.2 (by omega); rw [h2] at h10; omega
/-- No byte 10 in a unit but for the unit 10 itself. -/
theorem unit_no_ten (s : ByteArray) (q : Nat) (h10 : s.get! (q + (Utf8.decode s q).2 - 1) ≠ 10) : ∀ j, q ≤ j → j < q + (Utf8.decode s q).2 → s.get! j ≠ 10 := by
  intro j h1 h2 h3
  have hw := decode_two s q
  have hin := decodeN_in (s.size - q) (s.get! q).toNat (s.get! (q + 1)).toNat (s.get! (q + 2)).toNat (s.get! (q + 3)).toNat
  rw [← Lib.decode_at] at hin
  have hj : (s.get! j).toNat / 64 = 0 := by rw [h3]; rfl
  by_cases e : j = q
  · subst e
    have : Utf8.decode s j = (10, 1) := by
      rw [Lib.decode_at, h3]
      rfl
    rw [this] at h10
    simp only [Nat.add_sub_cancel] at h10
    exact h10 h3
  · rcases (show j = q + 1 ∨ j = q + 2 ∨ j = q + 3 by omega) with rfl | rfl | rfl
    · have := hin.1 (by omega); omega
    · have := hin.2.1 (by omega); omega
    · have := hin.2.2 (by omega); omega
theorem fromOf_skip (s : ByteArray) (q : Nat) : ∀ k, (∀ j, q ≤ j → j < q + k → s.get! j ≠ 10) → fromOf s (q + k) = fromOf s q ∧ nls s (q + k) = nls s q
  | 0, _ => ⟨rfl, rfl⟩
  | k + 1, h => by
    have ih := fromOf_skip s q k (fun j h1 h2 => h j h1 (by omega))
    have hk := h (q + k) (by omega) (by omega)
    rw [← Nat.add_assoc, fromOf_succ, nls_succ, if_neg hk, if_neg hk]
    exact ⟨ih.1, by rw [ih.2, Nat.add_zero]⟩
end Go.Proofs.YteippkoomlganaaDoor
