import Derived.Test.YteippkoomlganaaDoorC2
set_option linter.unusedVariables false
set_option linter.unusedSimpArgs false
namespace Go.Proofs.YteippkoomlganaaDoor
open Go.RowKit

/-! Where, from border to border. -/
theorem where_first (s : ByteArray) : whereL s 0 = 1 ∧ whereC s 0 = 1 := by
  refine ⟨by rw [whereL_eq s 0 (Nat.zero_le _)]; rfl, ?_⟩
  rw [whereC_eq s 0 (bd_zero s)]
  show 1 + cnt s 0 0 = 1
  rw [cnt_end]
theorem where_same (s : ByteArray) (q : Nat) (hq : Bd s q) (hs : q < s.size) (h10 : s.get! (q + (Utf8.decode s q).2 - 1) ≠ 10) :
    whereL s (q + (Utf8.decode s q).2) = whereL s q ∧ whereC s (q + (Utf8.decode s q).2) = whereC s q + 1 := by
  have hb := bd_step s q hq hs
  have hk := fromOf_skip s q (Utf8.decode s q).2 (unit_no_ten s q h10)
  refine ⟨by rw [whereL_eq s _ hb.1, whereL_eq s q hq.1, hk.2], ?_⟩
  rw [whereC_eq s _ hb, whereC_eq s q hq, hk.1, cnt_snoc s q hq _ _ rfl (fromOf_le s q) (bd_from s q hq.1)]
  omega
theorem where_next (s : ByteArray) (q : Nat) (hq : Bd s q) (hs : q < s.size) (h10 : s.get! (q + (Utf8.decode s q).2 - 1) = 10) :
    whereL s (q + (Utf8.decode s q).2) = whereL s q + 1 ∧ whereC s (q + (Utf8.decode s q).2) = 1 := by
  have hb := bd_step s q hq hs
  have hw := decode_two s q
  have h1 : (Utf8.decode s q).2 = 1 := by
    have hin := decodeN_in (s.size - q) (s.get! q).toNat (s.get! (q + 1)).toNat (s.get! (q + 2)).toNat (s.get! (q + 3)).toNat
    rw [← Lib.decode_at] at hin
    have hj : (s.get! (q + (Utf8.decode s q).2 - 1)).toNat / 64 = 0 := by rw [h10]; rfl
    rcases (show (Utf8.decode s q).2 = 1 ∨ (Utf8.decode s q).2 = 2 ∨ (Utf8.decode s q).2 = 3 ∨ (Utf8.decode s q).2 = 4 by omega) with e | e | e | e
    · exact e
    · rw [e] at hj hin; have := hin.1 (by omega); simp only [Nat.add_succ_sub_one] at hj; omega
    · rw [e] at hj hin; have := hin.2.1 (by omega); simp only [Nat.add_succ_sub_one] at hj; omega
    · rw [e] at hj hin; have := hin.2.2 (by omega); simp only [Nat.add_succ_sub_one] at hj; omega
  rw [h1] at hb h10 ⊢
  rw [Nat.add_sub_cancel] at h10
  have hf : fromOf s (q + 1) = q + 1 := by rw [fromOf_succ, if_pos h10]
  refine ⟨by rw [whereL_eq s _ hb.1, whereL_eq s q hq.1, nls_succ, if_pos h10]; omega, ?_⟩
  rw [whereC_eq s _ hb, hf, cnt_end]

/-! Place. -/
theorem beginF_snoc (s : ByteArray) : ∀ k f, beginF s (k + 1) f = (beginF s k f).bind fun g => if Lib.indexByte (s.extract g s.size).data.toList 10 < 0 then none else some (g + (Lib.indexByte (s.extract g s.size).data.toList 10).toNat + 1)
  | 0, f => rfl
  | k + 1, f => by
    conv => lhs; unfold beginF
    conv => rhs; unfold beginF
    by_cases h : Lib.indexByte (s.extract f s.size).data.toList 10 < 0
    · rw [if_pos h, if_pos h]; rfl
    · rw [if_neg h, if_neg h]; exact beginF_snoc s k _

theorem indexByte_none (l : List UInt8) (c : UInt8) (h : ∀ x ∈ l, x ≠ c) : Lib.indexByte l c = -1 := by
  induction l with
  | nil => rfl
  | cons b l ih =>
    unfold Lib.indexByte
    rw [if_neg (by simpa using h b (by simp)), ih (fun x hx => h x (by simp [hx]))]
    rfl
theorem indexByte_some (c : UInt8) : ∀ (a b : List UInt8), (∀ x ∈ a, x ≠ c) → Lib.indexByte (a ++ c :: b) c = a.length
  | [], b, _ => by unfold Lib.indexByte; simp
  | x :: a, b, h => by
    have ih := indexByte_some c a b (fun y hy => h y (by simp [hy]))
    rw [List.cons_append]
    unfold Lib.indexByte
    rw [if_neg (by simpa using h x (by simp)), ih, if_neg (by simp)]
    simp

theorem drop_get (s : ByteArray) (f j : Nat) (h : f + j < s.size) : (s.extract f s.size).data.toList[j]? = some (s.get! (f + j)) := by
  rw [Lib.extract_to_end, List.getElem?_drop, List.getElem?_eq_getElem (by rw [← Lib.size_eq]; exact h), get_in s (f + j) h]

theorem begin_at (s : ByteArray) : ∀ n, n ≤ s.size → beginF s (nls s n) 0 = some (fromOf s n)
  | 0, _ => rfl
  | n + 1, h => by
    have ih := begin_at s n (by omega)
    have hfl := fromOf_le s n
    rw [nls_succ, fromOf_succ]
    by_cases e : s.get! n = 10
    · rw [if_pos e, if_pos e, beginF_snoc, ih, Option.bind_some]
      have hl : (s.extract (fromOf s n) s.size).data.toList = (s.extract (fromOf s n) s.size).data.toList.take (n - fromOf s n) ++ (10 : UInt8) :: (s.extract (fromOf s n) s.size).data.toList.drop (n - fromOf s n + 1) := by
        have hg := drop_get s (fromOf s n) (n - fromOf s n) (by omega)
        rw [show fromOf s n + (n - fromOf s n) = n from by omega, e] at hg
        obtain ⟨hlt, hge⟩ := List.getElem?_eq_some_iff.1 hg
        rw [← hge, List.getElem_cons_drop, List.take_append_drop]
      have hi : Lib.indexByte (s.extract (fromOf s n) s.size).data.toList 10 = (n - fromOf s n : Nat) := by
        rw [hl, indexByte_some]
        · rw [List.length_take, Nat.min_eq_left]
          rw [← Lib.size_eq, Lib.tail_size]; omega
        · intro x hx
          obtain ⟨j, hj, rfl⟩ := List.mem_take_iff_getElem.1 hx
          have hj2 : j < n - fromOf s n := by omega
          have := drop_get s (fromOf s n) j (by omega)
          have hjl := (List.getElem?_eq_some_iff.1 this)
          obtain ⟨hjl, hje⟩ := hjl
          rw [hje]
          exact fromOf_none s n _ (by omega) (by omega)
      rw [hi, if_neg (by omega), Int.toNat_natCast]
      congr 1
      omega
    · rw [if_neg e, if_neg e]; exact ih
theorem begin_past (s : ByteArray) : beginF s (nls s s.size + 1) 0 = none := by
  rw [beginF_snoc, begin_at s s.size (Nat.le_refl _), Option.bind_some, indexByte_none]
  · rfl
  · intro x hx
    obtain ⟨j, hj, rfl⟩ := List.mem_iff_getElem.1 hx
    rw [← Lib.size_eq, Lib.tail_size] at hj
    have hfl := fromOf_le s s.size
    obtain ⟨_, hje⟩ := List.getElem?_eq_some_iff.1 (drop_get s (fromOf s s.size) j (by omega))
    rw [hje]
    exact fromOf_none s s.size _ (by omega) (by omega)

/-- In a line Place goes on, unit by unit. -/
theorem placeW_on (s : ByteArray) (c : Int) (n : Nat) (hn : Bd s n) : ∀ d p (m : Nat), n - p = d → p ≤ n → Bd s p → (∀ j, p ≤ j → j < n → s.get! j ≠ 10) → ((m + cnt s p n : Nat) : Int) ≤ c →
    placeW s c (s.size + 1 - p) p m = placeW s c (s.size + 1 - n) n ((m + cnt s p n : Nat) : Int) := by
  intro d
  induction d using Nat.strongRecOn with
  | _ d ih =>
    intro p m hd hp hb h10 hc
    by_cases e : p = n
    · subst e; rw [cnt_end]; rfl
    · have hlt : p < n := by omega
      have hw := decode_two s p
      have hnx := bd_next s p n hn hlt
      have hps : p < s.size := by have := hn.1; omega
      rw [cnt_step s p n hlt] at hc ⊢
      rw [placeW_step s c p m (by omega), if_pos hps, if_neg (by omega), if_neg ?_]
      · have := ih (n - (p + (Utf8.decode s p).2)) (by omega) (p + (Utf8.decode s p).2) (m + 1) rfl hnx (bd_step s p hb hps) (fun j h1 h2 => h10 j (by omega) h2) (by omega)
        rw [show ((m + (1 + cnt s (p + (Utf8.decode s p).2) n) : Nat) : Int) = ((m + 1 + cnt s (p + (Utf8.decode s p).2) n : Nat) : Int) from by omega, ← this]
        congr 1
      · rw [decode_ten]
        exact h10 p (Nat.le_refl _) hlt

theorem placeF_line (s : ByteArray) (l c : Int) (k f : Nat) (hl : l = k + 1) (hc : 1 ≤ c) (hb : beginF s k 0 = some f) : placeF s l c = placeR (placeW s c (s.size + 1 - f) f 1) := by
  refine placeF_some s l c f (by omega) ?_
  rw [show (l - 1).toNat = k from by omega]
  exact hb

/-- Place leads back. -/
theorem place_back (s : ByteArray) (n : Nat) (hn : Bd s n) : placeF s (whereL s n) (whereC s n) = ((n : Int), 0) := by
  have hC := whereC_eq s n hn
  rw [placeF_line s _ _ (nls s n) (fromOf s n) (by rw [whereL_eq s n hn.1]; omega) (by omega) (begin_at s n hn.1)]
  have := placeW_on s (whereC s n) n hn _ _ 1 rfl (fromOf_le s n) (bd_from s n hn.1) (fun j h1 h2 => fromOf_none s n j h1 h2) (by omega)
  rw [← hC] at this
  rw [show (1 : Int) = ((1 : Nat) : Int) from rfl, this, placeW_step s _ n _ hn.1]
  by_cases h : n < s.size
  · rw [if_pos h, if_pos rfl]; rfl
  · rw [if_neg h, if_pos rfl]
    have : n = s.size := by have := hn.1; omega
    rw [← this]; rfl
theorem place_past_col (s : ByteArray) : (placeF s (whereL s s.size) (whereC s s.size + 1)).2 = 7 := by
  have hn := bd_end s
  have hC := whereC_eq s s.size hn
  rw [placeF_line s _ _ (nls s s.size) (fromOf s s.size) (by rw [whereL_eq s _ hn.1]; omega) (by omega) (begin_at s _ hn.1)]
  have := placeW_on s (whereC s s.size + 1) s.size hn _ _ 1 rfl (fromOf_le s _) (bd_from s _ hn.1) (fun j h1 h2 => fromOf_none s _ j h1 h2) (by omega)
  rw [← hC] at this
  have this2 : placeW s ((whereC s s.size : Int) + 1) (s.size + 1 - fromOf s s.size) (fromOf s s.size) 1 = _ := this
  rw [this2, placeW_step s _ s.size _ (Nat.le_refl _), if_neg (Nat.lt_irrefl _), if_neg (by omega)]
  rfl
theorem place_past_line (s : ByteArray) : (placeF s (whereL s s.size + 1) 1).2 = 7 := by
  rw [placeF_none s _ _ (by omega)]
  rw [show ((whereL s s.size : Int) + 1 - 1).toNat = nls s s.size + 1 from by rw [whereL_eq s _ (Nat.le_refl _)]; omega]
  exact begin_past s
end Go.Proofs.YteippkoomlganaaDoor
