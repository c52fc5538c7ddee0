import Derived.Test.YteippkoomlganaaDoorD3
import Derived.Test.YteippkoomlganaaDoorC2
set_option linter.unusedVariables false
set_option linter.unusedSimpArgs false
namespace Go.Proofs.YteippkoomlganaaDoor
open Go.RowKit

theorem indexByte_spec (c : UInt8) : ∀ l : List UInt8, (Lib.indexByte l c < 0 ∧ ∀ x ∈ l, x ≠ c) ∨ (∃ n : Nat, Lib.indexByte l c = n ∧ l[n]? = some c ∧ ∀ j x, j < n → l[j]? = some x → x ≠ c)
  | [] => .inl ⟨by simp [Lib.indexByte], by simp⟩
  | b :: l => by
    by_cases hb : b = c
    · refine .inr ⟨0, by simp [Lib.indexByte, hb], by simp [hb], fun j x hj => by omega⟩
    · have hge := Lib.indexByte_ge l c
      rcases indexByte_spec c l with ⟨h1, h2⟩ | ⟨n, h1, h2, h3⟩
      · have e : Lib.indexByte l c = -1 := by omega
        refine .inl ⟨by simp [Lib.indexByte, hb, e], ?_⟩
        intro x hx
        rcases List.mem_cons.1 hx with rfl | hx
        · exact hb
        · exact h2 x hx
      · refine .inr ⟨n + 1, ?_, by simpa using h2, ?_⟩
        · simp only [Lib.indexByte, beq_iff_eq, hb, if_false, h1]
          rw [if_neg (by omega)]; rfl
        · intro j x hj hx
          cases j with
          | zero => simp at hx; rw [← hx]; exact hb
          | succ j => exact h3 j x (by omega) (by simpa using hx)

theorem get_tail (s : ByteArray) (f j : Nat) (h : f + j < s.size) : (s.extract f s.size).data.toList[j]? = some (s.get! (f + j)) := by
  have h0 : f + j < s.data.toList.length := by rw [← Lib.size_eq]; exact h
  rw [← get_in s (f + j) h, ← List.getElem?_eq_getElem h0, ByteArray.data_extract, Array.toList_extract, List.extract_eq_take_drop, List.getElem?_take, List.getElem?_drop, if_pos (by omega)]

theorem line_spec (s : ByteArray) (f : Nat) (h : f < s.size) : ∃ e, f ≤ e ∧ e ≤ s.size ∧ lineText s f = s.extract f e ∧ (∀ j, f ≤ j → j < e → s.get! j ≠ 10) ∧
    ((lineEnded s f = true ∧ e < s.size ∧ s.get! e = 10 ∧ lineNext s f = e + 1) ∨ (lineEnded s f = false ∧ e = s.size ∧ lineNext s f = s.size)) := by
  have hsz : (s.extract f s.size).size = s.size - f := Lib.tail_size _ _
  have hln : (s.extract f s.size).data.toList.length = s.size - f := by rw [← Lib.size_eq, hsz]
  unfold lineNext lineText lineEnded cutTo cutHit
  rcases indexByte_spec 10 (s.extract f s.size).data.toList with ⟨h1, h2⟩ | ⟨n, h1, h2, h3⟩
  · refine ⟨s.size, by omega, Nat.le_refl _, by rw [if_pos h1], ?_, .inr ⟨decide_eq_false (by omega), rfl, ?_⟩⟩
    · intro j hj hje
      have := get_tail s f (j - f) (by omega)
      rw [show f + (j - f) = j by omega] at this
      exact h2 _ (List.mem_of_getElem? this)
    · rw [if_pos h1, decide_eq_false (by omega), if_neg (by simp), hsz]; omega
  · have hn : n < s.size - f := by rw [← hln]; exact (List.getElem?_eq_some_iff.1 h2).1
    rw [h1, if_neg (by omega)]
    have ex : (s.extract f s.size).extract 0 n = s.extract f (f + n) := by
      rw [ByteArray.extract_extract]; congr 1 <;> omega
    refine ⟨f + n, by omega, by omega, by simpa using ex, ?_, .inl ⟨by simp, by omega, ?_, ?_⟩⟩
    · intro j hj hje
      have := get_tail s f (j - f) (by omega)
      rw [show f + (j - f) = j by omega] at this
      exact h3 _ _ (by omega) this
    · have := get_tail s f n (by omega)
      rw [h2] at this
      exact (Option.some.inj this).symm
    · simp [ByteArray.size_extract, hsz]; omega
end Go.Proofs.YteippkoomlganaaDoor
