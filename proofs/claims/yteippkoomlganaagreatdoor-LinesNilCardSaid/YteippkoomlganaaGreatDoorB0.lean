import Derived.Test.YteippkoomlganaaGreatDoorA9
import Derived.Shelf.SlSortCmp.PdqK
set_option linter.unusedVariables false
set_option linter.unusedSimpArgs false
namespace Go.Proofs.YteippkoomlganaaGreatDoor
open Go.Shelf Go.RowKit Go.Lib Go.Sort Go.Proofs.YteippkoomlganaaGreatDoorW.PrintWords Go.Proofs.YteippkoomlganaaGreatDoorW.PrintLast Go.Proofs.YteippkoomlganaaGreatDoorW.PrintMore

theorem alloc_sz (w : World) (o : Obj) : (w.alloc o).heap.size = w.heap.size + 1 := by
  show (w.heap.push o).size = _
  exact Array.size_push ..
theorem flatMap_three {α : Type} [Inhabited α] (f : α → List Value) (hf : ∀ x, (f x).length = 3) : ∀ (ds : List α) (j : Nat), j < ds.length * 3 → (ds.flatMap f)[j]? = (f (ds[j / 3]!))[j % 3]?
  | [], j, h => by simp at h
  | d :: ds, j, h => by
    rw [List.flatMap_cons]
    by_cases hj : j < 3
    · rw [List.getElem?_append_left (by rw [hf]; exact hj), Nat.div_eq_of_lt hj, Nat.mod_eq_of_lt hj]
      rfl
    · obtain ⟨i, rfl⟩ : ∃ i, j = i + 3 := ⟨j - 3, by omega⟩
      rw [List.getElem?_append_right (by rw [hf]; omega), hf, Nat.add_sub_cancel, flatMap_three f hf ds i (by simp at h; omega), Nat.add_div_right _ (by omega), Nat.add_mod_right]
      rfl

theorem holds_of_own {w w' : World} {base' b blk g n cap : Nat} {ds : List (KeyS w' base' blk)} (h : w.ownsRow b 49 3 (.slice (some ⟨g, 0, none⟩) n cap) n (ds.flatMap encS)) : HoldsK encS 3 w g 0 ds.toArray := by
  intro j hj
  rw [size_flatK] at hj
  have hj' : j < ds.length * 3 := by simpa using hj
  refine ⟨?_, ?_⟩
  · rw [get_flatK encS 3 ds.toArray j hj]
    have hm : j % 3 < (encS (ds[j / 3]!)).length := by rw [encS_len]; omega
    have := h.cells (g := g) rfl j ((encS (ds[j / 3]!))[j % 3]'hm) (by rw [flatMap_three encS encS_len ds j hj', List.getElem?_eq_getElem hm])
    rw [add_plain] at this
    rw [Nat.zero_add, this, List.getElem!_toArray, getElem!_pos (encS (ds[j / 3]!)) (j % 3) hm]
    rfl
  · have := h.frozenAt j
    rwa [Nat.zero_add]

set_option maxHeartbeats 400000 in
theorem sortStable_small (w : World) (base blk cap : Nat) (d : Array (KeyS w base blk)) (hH : HoldsK encS 3 w blk 0 d) (hblk : blk < w.heap.size) (hsz : d.size < 20) :
    Calls Tryz.prog 15 #[.slice (some ⟨blk, 0, none⟩) d.size cap, .func (.func 16) #[] #[]] w fun e w' =>
      e = .returned (.tuple #[]) ∧ ∃ n os, w' = sortWorldK encS 3 w blk 0 n (insertionSort (ltOf cmpS) d 0 d.size) os := by
  have hcon := Aside1.mk (stable_small w base blk cap d hH hblk hsz)
  clear hH
  generalize insertionSort (ltOf cmpS) d 0 d.size = r at hcon ⊢
  go_enter Tryz.func15, Tryz.ntmps15
  go_wp2_with fail
  refine hcon.out.mono ?_
  rintro e w1 ⟨rfl, hw⟩
  have HW := Aside1.mk hw
  clear hw hcon
  go_wp2_with fail
  go_end0
  exact ⟨rfl, HW.out⟩

/-! The order of keys is total. -/
theorem cmpL_rng : ∀ x y, cmpL x y = -1 ∨ cmpL x y = 0 ∨ cmpL x y = 1
  | [], [] => by simp [cmpL]
  | [], _ :: _ => by simp [cmpL]
  | _ :: _, [] => by simp [cmpL]
  | a :: x, b :: y => by
    unfold cmpL
    split
    · simp
    · split
      · simp
      · exact cmpL_rng x y
theorem cmpL_swap : ∀ x y, cmpL y x = -(cmpL x y)
  | [], [] => by simp [cmpL]
  | [], _ :: _ => by simp [cmpL]
  | _ :: _, [] => by simp [cmpL]
  | a :: x, b :: y => by
    unfold cmpL
    rcases Int.lt_trichotomy a b with h | h | h
    · rw [if_neg (by omega), if_pos h, if_pos h]; rfl
    · rw [if_neg (by omega), if_neg (by omega), if_neg (by omega), if_neg (by omega)]; exact cmpL_swap x y
    · rw [if_pos h, if_neg (by omega), if_pos h]
theorem cmpL_eq : ∀ x y, cmpL x y = 0 ↔ x = y
  | [], [] => by simp [cmpL]
  | [], _ :: _ => by simp [cmpL]
  | _ :: _, [] => by simp [cmpL]
  | a :: x, b :: y => by
    unfold cmpL
    rcases Int.lt_trichotomy a b with h | h | h
    · rw [if_pos h]; simp; intro e; omega
    · rw [if_neg (by omega), if_neg (by omega), cmpL_eq x y, h]; simp
    · rw [if_neg (by omega), if_pos h]; simp; intro e; omega
theorem cmpL_trans : ∀ x y z, cmpL x y < 0 → cmpL y z < 0 → cmpL x z < 0
  | [], [], z, h, _ => by simp [cmpL] at h
  | [], _ :: _, [], _, h => by simp [cmpL] at h
  | [], _ :: _, _ :: _, _, _ => by simp [cmpL]
  | _ :: _, [], _, h, _ => by simp [cmpL] at h
  | _ :: _, _ :: _, [], _, h => by simp [cmpL] at h
  | a :: x, b :: y, c :: z, h, h' => by
    unfold cmpL at h h' ⊢
    rcases Int.lt_trichotomy a b with h1 | h1 | h1
    · rcases Int.lt_trichotomy b c with h2 | h2 | h2
      · rw [if_pos (by omega)]; decide
      · rw [if_pos (by omega)]; decide
      · rw [if_neg (by omega), if_pos h2] at h'; omega
    · rw [if_neg (by omega), if_neg (by omega)] at h
      rcases Int.lt_trichotomy b c with h2 | h2 | h2
      · rw [if_pos (by omega)]; decide
      · rw [if_neg (by omega), if_neg (by omega)] at h'
        rw [if_neg (by omega), if_neg (by omega)]
        exact cmpL_trans x y z h h'
      · rw [if_neg (by omega), if_pos h2] at h'; omega
    · rw [if_neg (by omega), if_pos h1] at h; omega
theorem cmpL_self (x : List Int) : cmpL x x = 0 := (cmpL_eq x x).2 rfl

/-- Two pairs of lists, the first ones first. -/
def cmpP (a b : List Int × List Int) : Int := if cmpL a.1 b.1 ≠ 0 then cmpL a.1 b.1 else cmpL a.2 b.2
theorem keyCmp_eq (x y : KeyV) : keyCmp x y = cmpP (x.l1, x.l2) (y.l1, y.l2) := rfl
theorem cmpP_swap (a b) : cmpP b a = -(cmpP a b) := by
  unfold cmpP
  rw [cmpL_swap a.1 b.1, cmpL_swap a.2 b.2]
  by_cases h : cmpL a.1 b.1 = 0
  · rw [if_neg (by simp [h]), if_neg (by simp [h])]
  · rw [if_pos (by omega), if_pos h]
theorem cmpP_eq (a b) : cmpP a b = 0 ↔ a = b := by
  unfold cmpP
  by_cases h : cmpL a.1 b.1 = 0
  · rw [if_neg (by simp [h]), cmpL_eq]
    have := (cmpL_eq _ _).1 h
    constructor
    · intro e; exact Prod.ext this e
    · intro e; rw [e]
  · rw [if_pos h]
    constructor
    · intro e; exact absurd e h
    · intro e; rw [e] at h; exact absurd (cmpL_self _) h
theorem cmpP_trans (a b c) (h : cmpP a b < 0) (h' : cmpP b c < 0) : cmpP a c < 0 := by
  unfold cmpP at h h' ⊢
  by_cases h1 : cmpL a.1 b.1 = 0
  · rw [if_neg (by simp [h1])] at h
    have e1 := (cmpL_eq _ _).1 h1
    rw [e1]
    by_cases h2 : cmpL b.1 c.1 = 0
    · rw [if_neg (by simp [h2])] at h' ⊢
      exact cmpL_trans _ _ _ h h'
    · rw [if_pos h2] at h' ⊢
      exact h'
  · rw [if_pos h1] at h
    by_cases h2 : cmpL b.1 c.1 = 0
    · have e2 := (cmpL_eq _ _).1 h2
      rw [← e2, if_pos h1]
      exact h
    · rw [if_pos h2] at h'
      have := cmpL_trans _ _ _ h h'
      rw [if_pos (by omega)]
      exact this
theorem swoS {w : World} {base blk : Nat} : SWO (ltOf (cmpS (w := w) (base := base) (blk := blk))) where
  irrefl := fun x => by
    unfold ltOf cmpS
    rw [keyCmp_eq, (cmpP_eq _ _).2 rfl]
    rfl
  trans := fun x y z h h' => by
    unfold ltOf cmpS at *
    rw [decide_eq_true_iff] at *
    rw [keyCmp_eq] at *
    exact cmpP_trans _ _ _ h h'
  ntrans := fun x y z h h' => by
    unfold ltOf cmpS at *
    rw [decide_eq_false_iff_not] at *
    rw [keyCmp_eq] at *
    intro hc
    have s1 := cmpP_swap (x.1.l1, x.1.l2) (y.1.l1, y.1.l2)
    have s2 := cmpP_swap (y.1.l1, y.1.l2) (z.1.l1, z.1.l2)
    by_cases e1 : cmpP (x.1.l1, x.1.l2) (y.1.l1, y.1.l2) = 0
    · rw [(cmpP_eq _ _).1 e1] at hc; exact h' hc
    · by_cases e2 : cmpP (y.1.l1, y.1.l2) (z.1.l1, z.1.l2) = 0
      · rw [← (cmpP_eq _ _).1 e2] at hc; exact h hc
      · have := cmpP_trans _ _ _ (show cmpP (z.1.l1, z.1.l2) (y.1.l1, y.1.l2) < 0 by omega) (show cmpP (y.1.l1, y.1.l2) (x.1.l1, x.1.l2) < 0 by omega)
        have := cmpP_trans _ _ _ this hc
        rw [(cmpP_eq _ _).2 rfl] at this
        omega

theorem below_sortWorldK {α : Type} [Inhabited α] (enc : α → List Value) (k : Nat) (w : World) (B blk off m : Nat) (dk : Array α) (os : Array Obj) (hB : B ≤ blk) (hw : B ≤ w.heap.size) : RowKit.Below B w (sortWorldK enc k w blk off m dk os) := by
  have hs : ∀ W : World, (putRowK enc k W blk off dk).heap.size = W.heap.size := by
    intro W
    unfold putRowK putRow mapBlock
    simp
  refine ⟨rfl, rfl, rfl, ?_, fun i hi => sortWorldK_other enc k w blk off m dk os i (by omega) (by omega)⟩
  unfold sortWorldK grow
  rw [Array.size_append, hs]
  exact Nat.le_add_right _ _
end Go.Proofs.YteippkoomlganaaGreatDoor
