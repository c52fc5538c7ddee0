import Derived.Test.YteippkoomlganaaDoorD4
set_option linter.unusedVariables false
set_option linter.unusedSimpArgs false
namespace Go.Proofs.YteippkoomlganaaDoor
open Go.RowKit Go.Shelf
set_option maxRecDepth 10000 in
def tmps131 (b3 b5 r : Nat) (f : Nat → Value) : Array Value := #[f 0, f 1, f 2, .pointer (some ⟨b3, 0, none⟩), .pointer (some ⟨b3 + 1, 0, none⟩), .pointer (some ⟨b5, 0, none⟩), .pointer (some ⟨b5 + 1, 0, none⟩), f 7, f 8, f 9, f 10, .func (.func 30) #[] #[.pointer (some ⟨b5 + 1 + 1, 0, none⟩)], .int .i64 (r : Int), f 13, f 14, f 15, f 16, f 17, f 18, f 19, f 20, f 21, f 22, f 23, f 24, f 25, f 26, f 27, f 28, f 29, f 30, f 31, f 32, f 33, f 34, f 35, f 36, f 37, f 38, f 39, f 40, f 41, f 42, f 43, f 44, f 45, f 46, f 47, f 48, f 49, f 50, f 51, f 52, f 53, f 54, f 55, f 56, f 57, f 58, f 59, f 60, f 61, f 62, f 63, f 64, f 65, f 66, f 67, f 68, f 69, f 70, f 71, f 72, f 73, f 74, f 75, f 76, f 77, f 78, f 79, f 80, f 81, f 82, f 83, f 84, f 85, f 86, f 87, f 88, f 89, f 90, f 91, f 92, f 93, f 94, f 95, f 96, f 97, f 98, f 99, f 100, f 101, f 102, f 103, f 104, f 105, f 106, f 107, f 108, f 109, f 110, f 111, f 112, f 113, f 114, f 115, f 116, f 117, f 118, f 119, f 120, f 121, f 122, f 123, f 124, f 125, f 126, f 127, f 128, f 129, f 130]
set_option maxRecDepth 10000 in
theorem tmps_start (t : Array Value) (h : t.size = 131) (b3 b5 r : Nat) (e3 : t[3]? = some (.pointer (some ⟨b3, 0, none⟩))) (e4 : t[4]? = some (.pointer (some ⟨b3 + 1, 0, none⟩))) (e5 : t[5]? = some (.pointer (some ⟨b5, 0, none⟩))) (e6 : t[6]? = some (.pointer (some ⟨b5 + 1, 0, none⟩)))
    (e11 : t[11]? = some (.func (.func 30) #[] #[.pointer (some ⟨b5 + 1 + 1, 0, none⟩)])) (e12 : t[12]? = some (.int .i64 (r : Int))) : t = tmps131 b3 b5 r (fun k => t.getD k undef) := by
  have key : ∀ k, k < 131 → t[k]? = (tmps131 b3 b5 r (fun k => t.getD k undef))[k]? := by
    intro k hk
    have hx : t[k]? = some (t.getD k undef) := by rw [Array.getElem?_eq_getElem (by omega)]; simp [h, hk]
    have hall : ∀ g : Nat → Value, ∀ k : Nat, k < 131 → k ≠ 3 → k ≠ 4 → k ≠ 5 → k ≠ 6 → k ≠ 11 → k ≠ 12 → (tmps131 b3 b5 r g)[k]? = some (g k) := by
      intro g k hk h3 h4 h5 h6 h11 h12
      have e : tmps131 b3 b5 r g = ((List.range 131).map (fun k => if k = 3 then .pointer (some ⟨b3, 0, none⟩) else if k = 4 then .pointer (some ⟨b3 + 1, 0, none⟩) else if k = 5 then .pointer (some ⟨b5, 0, none⟩) else if k = 6 then .pointer (some ⟨b5 + 1, 0, none⟩) else if k = 11 then .func (.func 30) #[] #[.pointer (some ⟨b5 + 1 + 1, 0, none⟩)] else if k = 12 then .int .i64 (r : Int) else g k)).toArray := by rfl
      rw [e]
      simp [hk, h3, h4, h5, h6, h11, h12]
    by_cases h3 : k = 3
    · subst h3; rw [e3]; rfl
    by_cases h4 : k = 4
    · subst h4; rw [e4]; rfl
    by_cases h5 : k = 5
    · subst h5; rw [e5]; rfl
    by_cases h6 : k = 6
    · subst h6; rw [e6]; rfl
    by_cases h11 : k = 11
    · subst h11; rw [e11]; rfl
    by_cases h12 : k = 12
    · subst h12; rw [e12]; rfl
    rw [hx, hall _ k hk h3 h4 h5 h6 h11 h12]
  apply Array.ext_getElem?
  intro k
  by_cases hk : k < 131
  · exact key k hk
  · rw [Array.getElem?_eq_none (by omega), Array.getElem?_eq_none (by show 131 ≤ k; omega)]
/-- A mark: the rounds' deferred calls, collected. -/
def markOf (D : Nat) : Deferred := { target := .collected D, args := #[] }
theorem leaves_marks {F : Fence} {n : Nat} {P : Program} {fn : Func} {tmps : Array Value} {R : Ending → World → Prop} (nb : Nat) : ∀ (Ds : List Nat) (W : World), Ds.Nodup → (∀ D ∈ Ds, nb ≤ D ∧ W.heap[D]? = some (.deferred (some []))) →
    (∀ W', Below nb W W' → LeavesInM F n P fn tmps R [] .returning W') → LeavesInM F n P fn tmps R (Ds.map markOf) .returning W
  | [], W, _, _, h => h W (Below.refl _ _)
  | D :: Ds, W, hn, hD, h => by
    have hd := hD D (by simp)
    have hn' := List.nodup_cons.1 hn
    refine ⟨by simp, .inl ⟨D, _, rfl, run_takeDeferred hd.2, leaves_marks nb Ds _ hn'.2 (fun E hE => ⟨(hD E (by simp [hE])).1, (World.putObj_heap_other (by rintro rfl; exact hn'.1 hE)).trans (hD E (by simp [hE])).2⟩) fun W' hb => h W' (Below.trans ?_ hb)⟩⟩
    exact ⟨rfl, rfl, rfl, by simp [World.putObj], fun k hk => World.putObj_heap_other (by omega)⟩
theorem marks_more {Ds : List Nat} {W3 Wc W : World} {D : Nat} (hnd : Ds.Nodup) (hDs : ∀ D ∈ Ds, W3.heap.size ≤ D ∧ D < Wc.heap.size ∧ Wc.heap[D]? = some (.deferred (some []))) (hWc : Below W3.heap.size W3 Wc) (hBW : Below Wc.heap.size Wc W) (hD : Wc.heap.size ≤ D) (hK : W.heap[D]? = some (.deferred (some []))) :
    Below W3.heap.size W3 W ∧ (D :: Ds).Nodup ∧ ∀ E ∈ D :: Ds, W3.heap.size ≤ E ∧ E < W.heap.size ∧ W.heap[E]? = some (.deferred (some [])) := by
  have h1 := hWc.size
  have h2 := hBW.size
  refine ⟨hWc.trans (hBW.mono h1), List.nodup_cons.2 ⟨fun h => by have := (hDs D h).2.1; omega, hnd⟩, fun E hE => ?_⟩
  rcases List.mem_cons.1 hE with rfl | hE
  · exact ⟨by omega, (Array.getElem?_eq_some_iff.1 hK).1, hK⟩
  · obtain ⟨e1, e2, e3⟩ := hDs E hE
    exact ⟨e1, by omega, (hBW.block E e2).trans e3⟩
theorem results_c1 {fn : Func} {p : Tmp} {ty : TypeId} (h : fn.results = #[.cell p ty]) (tmps : Array Value) (P : Program) (w : World) {B : Nat} {v : Value}
    (hp : tmps.getD p undef = .pointer (some ⟨B, 0, none⟩)) (h1 : (loadVar ty ⟨B, 0, none⟩).run P w = .ok v w) :
    (results fn tmps).run P w = .ok v w := by
  have hp' : tmps[p]?.getD undef = .pointer (some ⟨B, 0, none⟩) := by simpa using hp
  simp only [results, h]
  simp [Sem.run_bind, Result.andThen, hp', asAddr, h1]

/-- What the loop of two rounds remembers. -/
def LoopRel (b3 b5 : Nat) (W3 : World) (a' : Act) (w' : World) : Prop :=
  ∃ (r : Nat) (Ds : List Nat) (f : Nat → Value), (r ≤ 2 ∧ Below W3.heap.size W3 w' ∧ Ds.Nodup ∧ ∀ D ∈ Ds, W3.heap.size ≤ D ∧ D < w'.heap.size ∧ w'.heap[D]? = some (.deferred (some []))) ∧ a' = { tmps := tmps131 b3 b5 r f, defers := Ds.map markOf }
theorem LoopRel.mk {b3 b5 : Nat} {W3 w' : World} {t : Array Value} (r : Nat) (Ds : List Nat) (h : t.size = 131) (e3 : t[3]? = some (.pointer (some ⟨b3, 0, none⟩))) (e4 : t[4]? = some (.pointer (some ⟨b3 + 1, 0, none⟩))) (e5 : t[5]? = some (.pointer (some ⟨b5, 0, none⟩))) (e6 : t[6]? = some (.pointer (some ⟨b5 + 1, 0, none⟩)))
    (e11 : t[11]? = some (.func (.func 30) #[] #[.pointer (some ⟨b5 + 1 + 1, 0, none⟩)])) (e12 : t[12]? = some (.int .i64 (r : Int)))
    (hr : r ≤ 2) (hB : Below W3.heap.size W3 w' ∧ Ds.Nodup ∧ ∀ D ∈ Ds, W3.heap.size ≤ D ∧ D < w'.heap.size ∧ w'.heap[D]? = some (.deferred (some []))) : LoopRel b3 b5 W3 { tmps := t, defers := Ds.map markOf } w' :=
  ⟨r, Ds, _, ⟨hr, hB⟩, congrArg (fun t => ({ tmps := t, defers := Ds.map markOf } : Act)) (tmps_start t h b3 b5 r e3 e4 e5 e6 e11 e12)⟩
end Go.Proofs.YteippkoomlganaaDoor
