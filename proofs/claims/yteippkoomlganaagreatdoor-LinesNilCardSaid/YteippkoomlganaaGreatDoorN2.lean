import Derived.Test.YteippkoomlganaaGreatDoorN1
set_option linter.unusedVariables false
set_option linter.unusedSimpArgs false
namespace Go.Proofs.YteippkoomlganaaGreatDoor
open Go.RowKit Go.Shelf Go.Proofs.YteippkoomlganaaGreatDoorW.PrintWords
attribute [local go_sem] Oper.semAt_some

/-- A row, read: the value's form, and each cell. -/
theorem row_read {W : World} {base : Nat} {e : TypeId} {v : Value} {n : Nat} {xs : List Value} (h : W.ownsRow base e 1 v n xs) :
    ∃ p cap g, v = .slice p n cap ∧ (0 < n → p = some ⟨g, 0, none⟩ ∧ base ≤ g ∧ g < W.heap.size) ∧ ∀ i x, xs[i]? = some x → W.cell? ⟨g, i, none⟩ = some x := by
  obtain ⟨h1, ⟨rfl, rfl⟩ | ⟨g, cap, cur, rfl, hb, hg, hc, hm, hz, rfl⟩⟩ := h
  · refine ⟨none, 0, 0, rfl, fun h => absurd h (by omega), fun i x hx => ?_⟩
    have : xs = [] := List.eq_nil_of_length_eq_zero (by omega)
    subst this
    simp at hx
  · refine ⟨_, cap, g, rfl, fun _ => ⟨rfl, hb, (Array.getElem?_eq_some_iff.1 hg).1⟩, fun i x hx => ?_⟩
    rw [List.getElem?_take] at hx
    split at hx
    · simp only [World.cell?, hg]
      simpa using hx
    · cases hx

theorem grep_nil (s : ByteArray) (w : World) : Calls Tryz.prog 5 #[.pointer none, .string s] w fun e w' => e = .returned (.tuple #[.slice none 0 0, .int .i64 2]) ∧ Below w.heap.size w w' := by
  go_enter Tryz.func5, Tryz.ntmps5
  go_wp2
  go_ret2
  exact ⟨rfl, (Below.refl _ _).alloc (Nat.le_refl _) _⟩

theorem lines_empty : linesL ⟨#[]⟩ = [] := by decide
theorem lines_ten : linesL ⟨#[10]⟩ = [(0, ⟨#[]⟩)] := by kernel_rfl

set_option maxRecDepth 100000 in
set_option maxHeartbeats 2000000 in
theorem nil_any (w : World) (hT : Lib.Utf8Tabs 1 2 w) (h3 : 3 ≤ w.heap.size) :
    Calls Tryz.prog 3 #[] w fun e w' => e = .returned (.bool true) ∧ Below w.heap.size w w' := by
  have HA := Aside1.mk (awake_any w hT h3)
  clear hT
  go_enter Tryz.func3, Tryz.ntmps3
  go_wp2_with fail
  refine HA.out.mono ?_
  rintro e w1 ⟨rfl, hB1⟩
  have HB1 := Aside1.mk hB1
  clear hB1 HA
  go_wp2_with fail
  refine (grep_nil _ _).mono ?_
  rintro e wg ⟨rfl, hBg⟩
  have HB1 := Aside1.mk (HB1.out.trans (hBg.mono HB1.out.size))
  clear hBg
  go_wp2_with fail
  have hall := all_in ⟨#[]⟩ wg (by decide)
  rw [lines_empty] at hall
  refine (callsIn_wide.1 hall).mono ?_
  rintro e w2 ⟨v1, v2, rfl, r1, r2, hB2⟩
  obtain ⟨p1, c1, g1, rfl, _, _⟩ := row_read r1
  have HB2 := Aside1.mk (HB1.out.trans (hB2.mono HB1.out.size))
  clear r1 r2 hB2 hall
  go_wp2_with fail
  have hall := all_in ⟨#[10]⟩ w2 (by decide)
  rw [lines_ten] at hall
  refine (callsIn_wide.1 hall).mono ?_
  rintro e w3 ⟨v3, v4, rfl, r3, r4, hB3⟩
  obtain ⟨p3, c3, g3, rfl, _, _⟩ := row_read r3
  obtain ⟨p4, c4, g4, rfl, h4, hx4⟩ := row_read r4
  obtain ⟨rfl, hg4, hg4'⟩ := h4 (by decide)
  have hc4 : w3.cell? ⟨g4, 0, none⟩ = some (.string ⟨#[]⟩) := hx4 0 _ rfl
  have HC4 := Aside1.mk hc4
  have HB3 := Aside1.mk (HB2.out.trans (hB3.mono HB2.out.size))
  clear r3 r4 hB3 hall hx4 hc4 h4
  go_wp2_with fail
  refine (sort_none none 0 [] w3 (Kd.C_nil _ _) (by decide) (by simp)).mono ?_
  rintro e w4 ⟨v5, rfl, ts, hR, hB4, hp, _⟩
  obtain rfl : ts = [] := List.perm_nil.1 hp
  obtain ⟨A, c, rfl, hlc, _⟩ := Kd.R_reads hR
  have hc := (hB4.cell (p := ⟨g4, 0, none⟩) hg4').trans HC4.out
  have HB4 := Aside1.mk (HB3.out.trans (hB4.mono HB3.out.size))
  clear hR hB4 hp HC4 hg4 hg4' hlc
  go_wp2_with fail
  go_ret
  exact ⟨rfl, HB4.out⟩
end Go.Proofs.YteippkoomlganaaGreatDoor
