import Derived.Test.YteippkoomlganaaDoorE4
import Derived.Test.YteippkoomlganaaDoorD4
set_option linter.unusedVariables false
set_option linter.unusedSimpArgs false
namespace Go.Proofs.YteippkoomlganaaDoor
open Go.RowKit Go.Proofs.YteippkoomlganaaDoorW.PrintWords

def toS (x : Nat × ByteArray) : S46 := ⟨(x.1 : Int), x.2⟩
theorem linesF_step' (s : ByteArray) (k f : Nat) (h : f < s.size) (hk : s.size - f ≤ k) : linesF s k f = (f, lineText s f) :: linesF s (k - 1) (lineNext s f) := by
  obtain ⟨k', rfl⟩ : ∃ m, k = m + 1 := ⟨k - 1, by omega⟩
  rw [linesF, if_pos h]; rfl
theorem all_l0 (s : ByteArray) (hs : s.size ≤ 1048576) : ∀ d i f k kk : Nat, ∀ acc : List S46, s.size - i = d → i ≤ s.size → f ≤ i → (∀ j, f ≤ j → j < i → s.get! j ≠ 10) → acc.length ≤ f → d + 1 ≤ k → s.size - f ≤ kk →
    thistleref24_All.l0 k s acc (f : Int) (i : Int) = some (acc ++ (linesF s kk f).map toS) := by
  intro d
  induction d with
  | zero =>
    intro i f k kk acc h1 h2 h3 h4 h5 h6 h7
    obtain ⟨m, rfl⟩ : ∃ m, k = m + 1 := ⟨k - 1, by omega⟩
    obtain rfl : i = s.size := by omega
    rw [thistleref24_All.l0, if_neg (by omega)]
    by_cases hf : f < s.size
    · rw [if_pos (by omega), if_pos (by omega), if_pos (by omega), if_pos (by omega)]
      obtain ⟨e, he1, he2, he3, he4, he5⟩ := line_spec s f hf
      rw [linesF_step' s kk f hf h7]
      have he : e = s.size := by
        rcases he5 with ⟨_, a, b, _⟩ | ⟨_, a, _⟩
        · exact absurd b (h4 e he1 a)
        · exact a
      have hn : lineNext s f = s.size := by
        rcases he5 with ⟨_, a, b, _⟩ | ⟨_, _, a⟩
        · omega
        · exact a
      rw [hn, linesF_end s _ _ (by omega), he3, he, Int.toNat_natCast]
      rfl
    · rw [if_neg (by omega), linesF_end s _ _ hf, List.map_nil, List.append_nil]
  | succ d ih =>
    intro i f k kk acc h1 h2 h3 h4 h5 h6 h7
    obtain ⟨m, rfl⟩ : ∃ m, k = m + 1 := ⟨k - 1, by omega⟩
    have hi : i < s.size := by omega
    rw [thistleref24_All.l0, if_pos (by omega), if_pos (by omega), bt_nat s i hi, w64 (n := (i : Int) + 1) (by omega) (by omega)]
    by_cases h10 : s.get! i = 10
    · rw [if_pos (by rw [h10]; rfl), if_pos (by omega), if_pos (by omega), if_pos (by omega), if_pos (by omega)]
      have hf : f < s.size := by omega
      obtain ⟨e, he1, he2, he3, he4, he5⟩ := line_spec s f hf
      have he : e = i := by
        rcases Nat.lt_trichotomy e i with a | a | a
        · rcases he5 with ⟨_, _, b, _⟩ | ⟨_, b, _⟩
          · exact absurd b (h4 e he1 a)
          · omega
        · exact a
        · exact absurd h10 (he4 i h3 a)
      have hn : lineNext s f = i + 1 := by
        rcases he5 with ⟨_, _, _, a⟩ | ⟨_, a, _⟩
        · omega
        · omega
      have := ih (i + 1) (i + 1) m (kk - 1) (acc ++ [⟨(f : Int), s.extract (f : Int).toNat (i : Int).toNat⟩]) (by omega) (by omega) (by omega) (fun j a b => by omega) (by simp; omega) (by omega) (by omega)
      rw [show (i : Int) + 1 = ((i + 1 : Nat) : Int) by omega, this, linesF_step' s kk f hf h7, hn, he3, he, List.map_cons, List.append_assoc, Int.toNat_natCast, Int.toNat_natCast]
      rfl
    · have hx : ¬ ((s.get! i).toNat : Int) = 10 := fun e => h10 (UInt8.toNat_inj.1 (Int.ofNat_inj.1 e))
      rw [if_neg hx]
      exact ih (i + 1) f m kk acc (by omega) (by omega) (by omega) (fun j a b => by
        by_cases e : j = i
        · rw [e]; exact h10
        · exact h4 j a (by omega)) h5 (by omega) h7
theorem All_ref (s : ByteArray) (hs : s.size ≤ 1048576) (k : Nat) (hk : s.size + 1 ≤ k) : thistleref24_All.f k s = some ((linesL s).map toS) := by
  unfold thistleref24_All.f
  exact all_l0 s hs s.size 0 0 k s.size [] (by omega) (by omega) (by omega) (fun j a b => by omega) (by simp) (by omega) (by omega)
end Go.Proofs.YteippkoomlganaaDoor
