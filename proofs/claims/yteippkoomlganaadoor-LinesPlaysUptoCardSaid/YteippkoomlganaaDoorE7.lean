import Derived.Test.YteippkoomlganaaDoorE6
set_option linter.unusedVariables false
set_option linter.unusedSimpArgs false
namespace Go.Proofs.YteippkoomlganaaDoor
open Go.RowKit Go.Proofs.YteippkoomlganaaDoorW.PrintWords

/-- What stands behind a character's first byte is 128 at least. -/
theorem decode_rest (s : ByteArray) (p j : Nat) (h1 : 1 ≤ j) (h2 : j < (Utf8.decode s p).2) : 128 ≤ (s.get! (p + j)).toNat := by
  have hb : ∀ j, (s.get! j).toNat < 256 := fun j => (s.get! j).toNat_lt
  rw [decode_B] at h2
  have k0 := hb p
  have k1 := hb (p + 1)
  have k2 := hb (p + 2)
  have k3 := hb (p + 3)
  by_cases c0 : (s.get! p).toNat < 128
  · rw [decB_1 c0] at h2; simp at h2; omega
  by_cases c1 : (s.get! p).toNat < 192
  · rw [decB_bad (by omega) (by omega) k0] at h2; simp at h2; omega
  by_cases c2 : (s.get! p).toNat < 224
  · rw [decB_2 (by omega) c2 k1] at h2
    split at h2
    · rename_i h
      have : j = 1 := by simp at h2; omega
      subst this; omega
    · simp at h2; omega
  by_cases c3 : (s.get! p).toNat < 240
  · rw [decB_3 (by omega) c3 k1 k2] at h2
    split at h2
    · rename_i h
      simp at h2
      rcases (show j = 1 ∨ j = 2 by omega) with rfl | rfl <;> omega
    · simp at h2; omega
  by_cases c4 : (s.get! p).toNat < 248
  · rw [decB_4 (by omega) c4 k1 k2 k3] at h2
    split at h2
    · rename_i h
      simp at h2
      rcases (show j = 1 ∨ j = 2 ∨ j = 3 by omega) with rfl | rfl | rfl <;> omega
    · simp at h2; omega
  · rw [decB_bad (by omega) (by omega) k0] at h2; simp at h2; omega
theorem unit_clear (s : ByteArray) (p : Nat) (h : (Utf8.decode s p).1 ≠ 10) : ∀ j, p ≤ j → j < p + (Utf8.decode s p).2 → s.get! j ≠ 10 := by
  intro j h1 h2 e
  by_cases hj : j = p
  · rw [hj] at e; exact h ((decode_ten s p).2 e)
  · have := decode_rest s p (j - p) (by omega) (by omega)
    rw [show p + (j - p) = j by omega, e] at this
    exact absurd this (by decide)

theorem placeW_sound (s : ByteArray) (c : Int) (f : Nat) (hf : Bd s f) : ∀ k p n q, placeW s c k p n = some q → Bd s p → f ≤ p → (∀ j, f ≤ j → j < p → s.get! j ≠ 10) → n = ((1 + cnt s f p : Nat) : Int) → s.size - p < k →
    Bd s q ∧ f ≤ q ∧ (∀ j, f ≤ j → j < q → s.get! j ≠ 10) ∧ c = ((1 + cnt s f q : Nat) : Int)
  | 0, p, n, q, h, _, _, _, _, hk => by omega
  | k + 1, p, n, q, h, hb, hfp, h10, hn, hk => by
    unfold placeW at h
    by_cases hp : p < s.size
    · rw [if_pos hp] at h
      by_cases hc : n = c
      · rw [if_pos hc] at h
        obtain rfl : p = q := Option.some.inj h
        exact ⟨hb, hfp, h10, by rw [← hc, hn]⟩
      · rw [if_neg hc] at h
        by_cases h1 : (Utf8.decode s p).1 = 10
        · rw [if_pos h1] at h; cases h
        · rw [if_neg h1] at h
          have hw := (decode_two s p).1
          refine placeW_sound s c f hf k _ _ q h (bd_step s p hb hp) (by omega) (fun j a b => ?_) ?_ (by omega)
          · by_cases hj : j < p
            · exact h10 j a hj
            · exact unit_clear s p h1 j (by omega) b
          · rw [cnt_snoc s p hb (p - f) f rfl hfp hf, hn]; omega
    · rw [if_neg hp] at h
      by_cases hc : n = c
      · rw [if_pos hc] at h
        have : p = s.size := by have := hb.1; omega
        obtain rfl : s.size = q := Option.some.inj h
        subst this
        exact ⟨hb, hfp, h10, by rw [← hc, hn]⟩
      · rw [if_neg hc] at h; cases h

theorem nls_meets (s : ByteArray) (k : Nat) : ∀ n, k ≤ nls s n → ∃ m, m ≤ n ∧ nls s m = k
  | 0, h => ⟨0, Nat.le_refl _, by have : nls s 0 = 0 := rfl; omega⟩
  | n + 1, h => by
    by_cases e : k ≤ nls s n
    · obtain ⟨m, h1, h2⟩ := nls_meets s k n e
      exact ⟨m, by omega, h2⟩
    · refine ⟨n + 1, Nat.le_refl _, ?_⟩
      rw [nls_succ] at h ⊢
      split at h <;> split <;> omega
theorem begin_far (s : ByteArray) : ∀ d, beginF s (nls s s.size + 1 + d) 0 = none
  | 0 => begin_past s
  | d + 1 => by
    rw [show nls s s.size + 1 + (d + 1) = (nls s s.size + 1 + d) + 1 by omega, beginF_snoc, begin_far s d]
    rfl
theorem begin_sound (s : ByteArray) (k f : Nat) (h : beginF s k 0 = some f) : ∃ n, n ≤ s.size ∧ nls s n = k ∧ fromOf s n = f := by
  by_cases hk : k ≤ nls s s.size
  · obtain ⟨n, h1, h2⟩ := nls_meets s k s.size hk
    have := begin_at s n h1
    rw [h2, h] at this
    exact ⟨n, h1, h2, (Option.some.inj this).symm⟩
  · obtain ⟨d, rfl⟩ : ∃ d, k = nls s s.size + 1 + d := ⟨k - (nls s s.size + 1), by omega⟩
    rw [begin_far s d] at h
    cases h
/-- Place answers a border whose Where is what was asked, or none. -/
theorem place_sound (s : ByteArray) (l c : Int) (hl : 1 ≤ l) (hc : 1 ≤ c) : placeF s l c = (0, 7) ∨ ∃ q, Bd s q ∧ l = (whereL s q : Int) ∧ c = (whereC s q : Int) := by
  unfold placeF
  rw [if_neg (by omega)]
  cases hb : beginF s (l - 1).toNat 0 with
  | none => exact .inl rfl
  | some f =>
    show placeR (placeW s c (s.size + 1 - f) f 1) = (0, 7) ∨ _
    cases hw : placeW s c (s.size + 1 - f) f 1 with
    | none => exact .inl rfl
    | some q =>
      obtain ⟨n, h1, h2, h3⟩ := begin_sound s _ f hb
      have hf := bd_from s n h1
      rw [h3] at hf
      obtain ⟨g1, g2, g3, g4⟩ := placeW_sound s c f hf _ f 1 q hw hf (Nat.le_refl _) (fun j a b => by omega) (by rw [cnt_end]; rfl) (by have := hf.1; omega)
      have hle := fromOf_le s n
      have k1 := fromOf_skip s f (n - f) (fun j a b => fromOf_none s n j (by omega) (by omega))
      rw [show f + (n - f) = n by omega] at k1
      have k2 := fromOf_skip s f (q - f) (fun j a b => g3 j a (by omega))
      rw [show f + (q - f) = q by omega] at k2
      refine .inr ⟨q, g1, ?_, ?_⟩
      · rw [whereL_eq s q g1.1, k2.2, ← k1.2, h2]; omega
      · rw [whereC_eq s q g1, k2.1, ← k1.1, h3, g4]
theorem place_l0 (s : ByteArray) (hs : s.size ≤ 1048576) (l c : Int) : ∀ (rest pre : List Nat) (k : Nat), pre ++ rest = borders s → rest.length + 2 * s.size + 16 ≤ k → (borders s).length ≤ 2097152 →
    (∀ q ∈ pre, ¬ ((whereL s q : Int) = l ∧ (whereC s q : Int) = c)) →
    thistleref24_Place.l0 k s l c (ints (borders s)) (pre.length : Int) = some (match rest.find? (fun q => decide ((whereL s q : Int) = l ∧ (whereC s q : Int) = c)) with | some q => ((q : Int), 0) | none => (0, 7)) := by
  intro rest
  induction rest with
  | nil =>
    intro pre k h1 h2 h3 h4
    obtain ⟨m, rfl⟩ : ∃ m, k = m + 1 := ⟨k - 1, by omega⟩
    rw [List.append_nil] at h1
    rw [thistleref24_Place.l0, if_neg (by simp [ints, h1])]
    rfl
  | cons q rest ih =>
    intro pre k h1 h2 h3 h4
    obtain ⟨m, rfl⟩ : ∃ m, k = m + 1 := ⟨k - 1, by omega⟩
    have hlen : (borders s).length = pre.length + (rest.length + 1) := by rw [← h1]; simp
    have hq : Bd s q := borders_bd s q (by rw [← h1]; simp)
    have hr : rd (ints (borders s)) (pre.length : Int) = (q : Int) := by
      rw [← h1]
      simp [rd, ints]
    simp only [List.length_cons] at h2
    rw [thistleref24_Place.l0, if_pos (by simp [ints]; omega), if_pos (by omega), hr, where_ref s q m hq (by omega) (by omega), Option.bind_some]
    dsimp only
    have hw : wrap64 ((pre.length : Int) + 1) = ((pre ++ [q]).length : Int) := by rw [w64 (by omega) (by omega)]; simp
    have hstep : ¬ ((whereL s q : Int) = l ∧ (whereC s q : Int) = c) → thistleref24_Place.l0 m s l c (ints (borders s)) (wrap64 ((pre.length : Int) + 1)) = some (match rest.find? (fun q => decide ((whereL s q : Int) = l ∧ (whereC s q : Int) = c)) with | some q => ((q : Int), 0) | none => (0, 7)) := fun hne => by
      rw [hw]
      exact ih (pre ++ [q]) m (by rw [← h1]; simp) (by omega) h3 (fun x hx => by
        rcases List.mem_append.1 hx with hx | hx
        · exact h4 x hx
        · rw [List.mem_singleton.1 hx]; exact hne)
    by_cases e1 : (whereL s q : Int) = l
    · rw [if_pos e1]
      by_cases e2 : (whereC s q : Int) = c
      · rw [if_pos e2, List.find?_cons_of_pos (by simp [e1, e2])]
      · rw [if_neg e2, hstep (fun h => e2 h.2), List.find?_cons_of_neg (by simp [e2])]
    · rw [if_neg e1, hstep (fun h => e1 h.1), List.find?_cons_of_neg (by simp [e1])]
theorem Place_ref (s : ByteArray) (hs : s.size ≤ 1048576) (l c : Int) (k : Nat) (hk : 4 * s.size + 40 ≤ k) : thistleref24_Place.f k s l c = some (placeF s l c) := by
  obtain ⟨m, rfl⟩ : ∃ m, k = m + 1 := ⟨k - 1, by omega⟩
  unfold thistleref24_Place.f
  by_cases hl : l < 1
  · rw [if_pos hl, thistleref24_Place.j0, if_pos rfl]
    unfold placeF
    rw [if_pos (.inl hl)]
  rw [if_neg hl, thistleref24_Place.j0]
  by_cases hc : c < 1
  · rw [if_pos (by simp; omega)]
    unfold placeF
    rw [if_pos (.inr hc)]
  rw [if_neg (by simp; omega), places_ref s hs m (by omega), Option.bind_some]
  have hbl := bordersF_len s s.size 0
  have hbl2 : (borders s).length ≤ s.size + 1 := by unfold borders; simp; exact hbl
  have := place_l0 s hs l c (borders s) [] m rfl (by omega) (by omega) (fun q hq => by cases hq)
  rw [show ((([] : List Nat).length : Nat) : Int) = 0 from rfl] at this
  rw [this]
  congr 1
  cases hf : (borders s).find? (fun q => decide ((whereL s q : Int) = l ∧ (whereC s q : Int) = c)) with
  | some q =>
    have h1 := List.find?_some hf
    have h2 := borders_bd s q (List.mem_of_find?_eq_some hf)
    simp only [decide_eq_true_eq] at h1
    rw [← h1.1, ← h1.2, place_back s q h2]
  | none =>
    rcases place_sound s l c (by omega) (by omega) with h | ⟨q, h1, h2, h3⟩
    · exact h.symm
    · have := List.find?_eq_none.1 hf q (borders_all s q h1)
      simp only [decide_eq_true_eq] at this
      exact absurd ⟨h2.symm, h3.symm⟩ this
end Go.Proofs.YteippkoomlganaaDoor
