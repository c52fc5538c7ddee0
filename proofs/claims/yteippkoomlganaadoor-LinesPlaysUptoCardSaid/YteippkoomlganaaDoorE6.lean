import Derived.Test.YteippkoomlganaaDoorE5
set_option linter.unusedVariables false
set_option linter.unusedSimpArgs false
namespace Go.Proofs.YteippkoomlganaaDoor
open Go.RowKit Go.Proofs.YteippkoomlganaaDoorW.PrintWords

/-! The borders in order. -/
def bordersF (s : ByteArray) : Nat → Nat → List Nat
  | 0, _ => []
  | k + 1, p => if p < s.size then p :: bordersF s k (p + (Utf8.decode s p).2) else []
def unitsF (s : ByteArray) : Nat → Nat → List Int
  | 0, _ => []
  | k + 1, p => if p < s.size then unitR s p :: unitsF s k (p + (Utf8.decode s p).2) else []
def ints (l : List Nat) : List Int := l.map Int.ofNat
def borders (s : ByteArray) : List Nat := bordersF s s.size 0 ++ [s.size]
theorem bordersF_end (s : ByteArray) (k p : Nat) (h : ¬ p < s.size) : bordersF s k p = [] ∧ unitsF s k p = [] := by cases k <;> simp [bordersF, unitsF, h]
theorem bordersF_bd (s : ByteArray) : ∀ k p, Bd s p → ∀ q ∈ bordersF s k p, Bd s q
  | 0, p, h, q, hq => by simp [bordersF] at hq
  | k + 1, p, h, q, hq => by
    unfold bordersF at hq
    by_cases hp : p < s.size
    · rw [if_pos hp] at hq
      rcases List.mem_cons.1 hq with rfl | hq
      · exact h
      · exact bordersF_bd s k _ (bd_step s p h hp) q hq
    · rw [if_neg hp] at hq; cases hq
theorem bordersF_all (s : ByteArray) : ∀ k p q, s.size - p ≤ k → p ≤ q → q < s.size → Bd s q → q ∈ bordersF s k p
  | 0, p, q, h1, h2, h3, _ => by omega
  | k + 1, p, q, h1, h2, h3, hq => by
    unfold bordersF
    rw [if_pos (by omega)]
    by_cases e : p = q
    · subst e; simp
    · have := bd_next s p q hq (by omega)
      have := (decode_two s p).1
      exact List.mem_cons_of_mem _ (bordersF_all s k _ q (by omega) (by omega) h3 hq)
theorem bordersF_len (s : ByteArray) : ∀ k p, (bordersF s k p).length ≤ k
  | 0, _ => Nat.le_refl 0
  | k + 1, p => by
    unfold bordersF
    split
    · simp only [List.length_cons]; have := bordersF_len s k (p + (Utf8.decode s p).2); omega
    · simp
theorem borders_bd (s : ByteArray) (q : Nat) (h : q ∈ borders s) : Bd s q := by
  rcases List.mem_append.1 h with h | h
  · exact bordersF_bd s _ 0 (bd_zero s) q h
  · rw [List.mem_singleton.1 h]; exact bd_end s
theorem borders_all (s : ByteArray) (q : Nat) (h : Bd s q) : q ∈ borders s := by
  by_cases e : q < s.size
  · exact List.mem_append_left _ (bordersF_all s _ 0 q (by omega) (Nat.zero_le _) e h)
  · have := h.1
    exact List.mem_append_right _ (by simp; omega)

theorem all01_l0 (s : ByteArray) (hs : s.size ≤ 1048576) : ∀ d p k : Nat, ∀ a b : List Int, s.size - p ≤ d → p ≤ s.size → a.length ≤ p → b.length ≤ p → d + 12 ≤ k →
    thistleref01_All.l0 k s a b (p : Int) = some (a ++ ints (bordersF s d p), b ++ unitsF s d p) := by
  intro d
  induction d with
  | zero =>
    intro p k a b h1 h2 h3 h4 h5
    obtain ⟨m, rfl⟩ : ∃ m, k = m + 1 := ⟨k - 1, by omega⟩
    rw [thistleref01_All.l0, if_neg (by omega)]
    simp [bordersF, unitsF, ints]
  | succ d ih =>
    intro p k a b h1 h2 h3 h4 h5
    obtain ⟨m, rfl⟩ : ∃ m, k = m + 10 := ⟨k - 10, by omega⟩
    rw [show m + 10 = m + 9 + 1 from rfl, thistleref01_All.l0]
    by_cases hp : p < s.size
    · have hw := decode_two s p
      have hin := decode_in s p hp
      rw [if_pos (by omega), unit_ref s p m hp (by omega), Option.bind_some]
      dsimp only
      rw [if_pos (by omega), if_pos (by omega), w64 (by omega) (by omega), show (p : Int) + ((Utf8.decode s p).2 : Int) = ((p + (Utf8.decode s p).2 : Nat) : Int) by omega]
      rw [ih (p + (Utf8.decode s p).2) (m + 9) _ _ (by omega) hin (by simp; omega) (by simp; omega) (by omega)]
      rw [bordersF, unitsF, if_pos hp, if_pos hp, ints, ints, List.map_cons, List.append_assoc, List.append_assoc]
      rfl
    · rw [if_neg (by omega), (bordersF_end s _ p hp).1, (bordersF_end s _ p hp).2, ints, List.map_nil, List.append_nil, List.append_nil]
theorem places_ref (s : ByteArray) (hs : s.size ≤ 1048576) (k : Nat) (hk : s.size + 12 ≤ k) : thistleref01_Places.f k s = some (ints (borders s)) := by
  have hl := bordersF_len s s.size 0
  unfold thistleref01_Places.f thistleref01_All.f
  have := all01_l0 s hs s.size 0 k [] [] (by omega) (by omega) (by simp) (by simp) hk
  rw [show ((0 : Nat) : Int) = (0 : Int) from rfl] at this
  rw [this, Option.bind_some]
  dsimp only
  rw [if_pos (by simp [ints]; omega)]
  unfold borders
  simp [ints]
end Go.Proofs.YteippkoomlganaaDoor
