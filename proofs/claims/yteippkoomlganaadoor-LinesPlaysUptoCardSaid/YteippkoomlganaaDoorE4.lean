import Derived.Test.YteippkoomlganaaDoorE3
set_option linter.unusedVariables false
set_option linter.unusedSimpArgs false
namespace Go.Proofs.YteippkoomlganaaDoor
open Go.RowKit Go.Proofs.YteippkoomlganaaDoorW.PrintWords

theorem where_l1 (s : ByteArray) (n : Nat) (hn : Bd s n) (hs : s.size ≤ 140737488351232) (line : Int) : ∀ d p k c : Nat, n - p ≤ d → p ≤ n → d + 12 ≤ k → c + n ≤ 281474976702464 + p →
    thistleref24_where.l1 k s n line (c : Int) (p : Int) = some (line, ((c + cnt s p n : Nat) : Int)) := by
  intro d
  induction d with
  | zero =>
    intro p k c h1 h2 h3 h4
    obtain ⟨m, rfl⟩ : ∃ m, k = m + 1 := ⟨k - 1, by omega⟩
    obtain rfl : p = n := by omega
    rw [thistleref24_where.l1, if_neg (by omega), cnt_end]
    rfl
  | succ d ih =>
    intro p k c h1 h2 h3 h4
    obtain ⟨m, rfl⟩ : ∃ m, k = m + 11 := ⟨k - 11, by omega⟩
    by_cases hlt : p < n
    · have hsz := hn.1
      have hw := bd_next s p n hn hlt
      have hw1 := (decode_two s p).1
      rw [show m + 11 = m + 10 + 1 from rfl, thistleref24_where.l1, if_pos (by omega), next_ref s p m (by omega) hs, Option.bind_some]
      dsimp only
      rw [w64 (n := (c : Int) + 1) (by omega) (by omega), w64 (n := (p : Int) + ((Utf8.decode s p).2 : Int)) (by omega) (by omega)]
      have := ih (p + (Utf8.decode s p).2) (m + 10) (c + 1) (by omega) (by omega) (by omega) (by omega)
      rw [show (c : Int) + 1 = ((c + 1 : Nat) : Int) by omega, show (p : Int) + ((Utf8.decode s p).2 : Int) = ((p + (Utf8.decode s p).2 : Nat) : Int) by omega, this, cnt_step s p n hlt]
      rw [show c + 1 + cnt s (p + (Utf8.decode s p).2) n = c + (1 + cnt s (p + (Utf8.decode s p).2) n) by omega]
    · obtain rfl : p = n := by omega
      rw [show m + 11 = m + 10 + 1 from rfl, thistleref24_where.l1, if_neg (by omega), cnt_end]
      rfl
theorem where_l0 (s : ByteArray) (n : Nat) (hn : Bd s n) (hs : s.size ≤ 140737488351232) : ∀ d i k : Nat, n - i = d → i ≤ n → d + n + 14 ≤ k →
    thistleref24_where.l0 k s n ((1 + nls s i : Nat) : Int) ((fromOf s i : Nat) : Int) (i : Int) = some (((1 + nls s n : Nat) : Int), ((1 + cnt s (fromOf s n) n : Nat) : Int)) := by
  intro d
  have hsz := hn.1
  have hnl : ∀ i, nls s i ≤ i := by
    intro i
    induction i with
    | zero => exact Nat.le_refl 0
    | succ i ih => rw [nls_succ]; split <;> omega
  induction d with
  | zero =>
    intro i k h1 h2 h3
    obtain ⟨m, rfl⟩ : ∃ m, k = m + 1 := ⟨k - 1, by omega⟩
    obtain rfl : i = n := by omega
    rw [thistleref24_where.l0, if_neg (by omega)]
    have := fromOf_le s i
    exact where_l1 s i hn hs _ i (fromOf s i) m 1 (by omega) this (by omega) (by omega)
  | succ d ih =>
    intro i k h1 h2 h3
    obtain ⟨m, rfl⟩ : ∃ m, k = m + 1 := ⟨k - 1, by omega⟩
    have hi : i < s.size := by omega
    have h := ih (i + 1) m (by omega) (by omega) (by omega)
    have hb := hnl i
    rw [thistleref24_where.l0, if_pos (by omega), if_pos (by omega), if_pos (by omega), bt_nat s i hi, w64 (n := (i : Int) + 1) (by omega) (by omega)]
    rw [nls_succ, fromOf_succ] at h
    by_cases h10 : s.get! i = 10
    · rw [if_pos h10, if_pos h10] at h
      rw [if_pos (by rw [h10]; rfl), w64 (by omega) (by omega)]
      rw [← h]
      congr 1 <;> omega
    · rw [if_neg h10, if_neg h10] at h
      have hx : ¬ ((s.get! i).toNat : Int) = 10 := fun e => h10 (UInt8.toNat_inj.1 (Int.ofNat_inj.1 e))
      rw [if_neg hx]
      rw [← h]
      congr 1 <;> omega
theorem where_ref (s : ByteArray) (n k : Nat) (hn : Bd s n) (hs : s.size ≤ 140737488351232) (hk : 2 * s.size + 14 ≤ k) : thistleref24_where.f k s n = some ((whereL s n : Int), (whereC s n : Int)) := by
  have h := where_l0 s n hn hs n 0 k rfl (Nat.zero_le _) (by have := hn.1; omega)
  rw [← whereL_eq s n hn.1, ← whereC_eq s n hn] at h
  exact h
/-- Where, as the reference tells it. -/
theorem Where_ref (s : ByteArray) (a : Int) (k : Nat) (hs : s.size ≤ 140737488351232) (hk : 2 * s.size + 30 ≤ k) : thistleref24_Where.f k s a = some (if borderB s a = true then ((whereL s a.toNat : Int), (whereC s a.toNat : Int), 0) else (0, 0, 3)) := by
  unfold thistleref24_Where.f
  obtain ⟨m, rfl⟩ : ∃ m, k = m + 20 := ⟨k - 20, by omega⟩
  rw [border_ref s a m hs, Option.bind_some]
  by_cases hb : borderB s a = true
  · have h0 : 0 ≤ a := by
      unfold borderB at hb
      rw [Bool.and_eq_true, decide_eq_true_iff] at hb
      exact hb.1.1
    obtain ⟨n, rfl⟩ := Int.eq_ofNat_of_zero_le h0
    rw [if_pos hb, if_pos hb]
    rw [where_ref s n (m + 20) ((bd_iff s n).1 hb) hs (by omega)]
    rfl
  · rw [if_neg hb, if_neg hb]
end Go.Proofs.YteippkoomlganaaDoor
