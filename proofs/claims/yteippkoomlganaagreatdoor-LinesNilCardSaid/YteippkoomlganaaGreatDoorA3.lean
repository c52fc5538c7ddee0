import Derived.Test.YteippkoomlganaaGreatDoorA2
set_option linter.unusedVariables false
set_option linter.unusedSimpArgs false
namespace Go.Proofs.YteippkoomlganaaGreatDoor
open Go.RowKit

theorem tabs_B {w w' : World} (h : Lib.Utf8Tabs 1 2 w) (h3 : 3 ≤ w.heap.size) (hb : Below w.heap.size w w') : Lib.Utf8Tabs 1 2 w' := tabs_below h h3 hb
theorem size_B {w w' : World} (h3 : 3 ≤ w.heap.size) (hb : Below w.heap.size w w') : 3 ≤ w'.heap.size := Nat.le_trans h3 hb.size

/-- The begin of the line in which a place of s lies. -/
def lineFrom (s : ByteArray) (n : Nat) : Nat := (Lib.lastIndexByte (s.extract 0 n) 10 + 1).toNat
def whereL (s : ByteArray) (n : Nat) : Nat := 1 + Lib.countByte (s.extract 0 n).data.toList 10
def whereC (s : ByteArray) (n : Nat) : Nat := 1 + Lib.runeCount ((s.extract 0 n).extract (lineFrom s n) (s.extract 0 n).size)

theorem lastIdx_rng (t : ByteArray) (c : Int) : ∀ k, -1 ≤ Lib.lastIdx t c k ∧ Lib.lastIdx t c k < k
  | 0 => by simp [Lib.lastIdx]
  | k + 1 => by
    unfold Lib.lastIdx
    have := lastIdx_rng t c k
    split <;> omega
theorem lastIndexByte_rng (t : ByteArray) (c : Int) : -1 ≤ Lib.lastIndexByte t c ∧ Lib.lastIndexByte t c < t.size := lastIdx_rng t c _

set_option maxHeartbeats 400000 in
theorem where_no (s : ByteArray) (a : Int) (w : World) (hs : s.size ≤ 140737488351232) (hT : Lib.Utf8Tabs 1 2 w) (h3 : 3 ≤ w.heap.size) (hb : borderB s a = false) :
    Calls Tryz.prog 8 #[.string s, .int .i64 a] w fun e w' => e = .returned (.tuple #[.int .i64 0, .int .i64 0, .int .i64 3]) ∧ Below w.heap.size w w' := by
  have hc := border_any s a w hs hT h3
  rw [hb] at hc
  have HC := Aside1.mk hc
  clear hc hT hb
  go_enter Tryz.func8, Tryz.ntmps8
  go_wp2_with fail
  refine HC.out.mono ?_
  rintro e w1 ⟨rfl, hB1⟩
  have HB1 := Aside1.mk hB1
  clear hB1
  go_wp2_with fail
  go_ret3
  exact ⟨rfl, HB1.out⟩

theorem extract0_size (s : ByteArray) (n : Nat) (h : n ≤ s.size) : (s.extract 0 n).size = n := by
  rw [ByteArray.size_extract]; omega

theorem ret3_int {a a' b b' c : Int} (h : a = a') (h' : b = b') : Ending.returned (.tuple #[.int .i64 a, .int .i64 b, .int .i64 c]) = .returned (.tuple #[.int .i64 a', .int .i64 b', .int .i64 c]) := by rw [h, h']
set_option maxHeartbeats 400000 in
theorem where_yes (s : ByteArray) (n : Nat) (w : World) (hs : s.size ≤ 140737488351232) (hT : Lib.Utf8Tabs 1 2 w) (h3 : 3 ≤ w.heap.size) (hb : borderB s n = true) (hn : n ≤ s.size) :
    Calls Tryz.prog 8 #[.string s, .int .i64 n] w fun e w' => e = .returned (.tuple #[.int .i64 (whereL s n), .int .i64 (whereC s n), .int .i64 0]) ∧ Below w.heap.size w w' := by
  have hc := border_any s n w hs hT h3
  rw [hb] at hc
  have HC := Aside1.mk hc
  clear hc hT hb
  have hn0 : (n : Int) ≤ s.size := by omega
  have hn1 : (0 : Int) ≤ n := by omega
  go_enter Tryz.func8, Tryz.ntmps8
  go_wp2_with fail
  refine HC.out.mono ?_
  rintro e w1 ⟨rfl, hB1⟩
  have HB1 := Aside1.mk hB1
  clear hB1
  go_wp2_with fail
  have hx := extract0_size s n hn
  have hlr := lastIndexByte_rng (s.extract 0 n) 10
  have hf : Hid (((Lib.lastIndexByte (s.extract 0 n) 10) + 1).toNat = lineFrom s n) := rfl
  refine (Tryz.strings_LastIndexByte _ _ (by rw [hx]; omega) _).mono ?_
  rintro e w2 ⟨rfl, rfl⟩
  generalize hg : Lib.lastIndexByte (s.extract 0 n) 10 = g at hlr hf ⊢
  obtain ⟨hl0, hl1⟩ := hlr
  have hl2 : 0 ≤ g + 1 := by omega
  have hl3 : g + 1 ≤ (s.extract 0 n).size := by omega
  clear hg
  go_wp2_with fail
  have hts : ((s.extract 0 n).extract (g + 1).toNat n).size ≤ 140737488351232 := by rw [ByteArray.size_extract, hx]; omega
  have hwc : Hid (whereC s n = 1 + Lib.runeCount ((s.extract 0 n).extract (g + 1).toNat n)) := by
    show whereC s n = _
    unfold whereC; rw [hx, hf.out]
  generalize (s.extract 0 n).extract (g + 1).toNat n = t at hts hwc ⊢
  have hrc := Lib.runeCount_le t
  have HR := Aside1.mk hrc
  go_loopw [5] (fun v wr => ∃ p c f : Nat, wr = w2.iter t p ∧ v = .int .i64 (1 + c : Nat) ∧ c + Lib.runeCountFrom t f p = Lib.runeCount t ∧ t.size - p ≤ f) (fun _ wr => t.size - wr.iterPos w2.heap.size)
  case atStart => exact ⟨0, 0, t.size, rfl, rfl, by rw [Nat.zero_add]; rfl, by omega⟩
  case round =>
    obtain ⟨p, c, f, rfl, rfl, hcp, hf2⟩ := hrel
    have hcb : c ≤ 140737488351232 := by omega
    have HCP := Aside1.mk hcp
    clear hcp hrc
    by_cases hp : p < t.size
    · have hnx := fun ty => run_next_any (P := Tryz.prog) w2 t p ty hp
      obtain ⟨hd2, hd3⟩ := decode_two t p
      go_wp2_with fail
      go_roundw
      case rel =>
        refine ⟨p + (Utf8.decode t p).2, c + 1, f - 1, rfl, by go_num, ?_, by omega⟩
        have := HCP.out
        obtain ⟨f', rfl⟩ : ∃ m, f = m + 1 := ⟨f - 1, by omega⟩
        unfold Lib.runeCountFrom at this
        rw [if_pos hp] at this
        rw [Nat.add_sub_cancel]
        omega
      case measure => simp; omega
    · have hnx := fun ty => run_next_end (P := Tryz.prog) w2 t p ty hp
      have hce : Hid (c = Lib.runeCount t) := by
        have := HCP.out
        rw [Lib.runeCountFrom_end t f p hp] at this
        exact this
      go_wp2_with fail
      refine (Tryz.strings_Count_one _ 10 _).mono ?_
      rintro e w3 ⟨rfl, rfl⟩
      have hcl : Lib.countByte (s.extract 0 n).data.toList 10 ≤ n := by
        have := List.count_le_length (a := (10 : UInt8)) (l := (s.extract 0 n).data.toList)
        rw [← Lib.size_eq, hx] at this
        exact this
      have hwl : Hid (whereL s n = 1 + Lib.countByte (s.extract 0 n).data.toList 10) := rfl
      generalize Lib.countByte (s.extract 0 n).data.toList 10 = cb at hcl hwl ⊢
      go_wp2_with fail
      go_ret3
      exact ⟨ret3_int (by rw [hwl.out]; omega) (by rw [hwc.out, ← hce.out]; omega), HB1.out.trans (((Below.refl _ _).alloc HB1.out.size _))⟩
end Go.Proofs.YteippkoomlganaaGreatDoor
