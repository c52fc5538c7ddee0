import Derived.Test.YteippkoomlganaaGreatDoorA1
import Derived.Outline
set_option linter.unusedVariables false
set_option linter.unusedSimpArgs false
namespace Go.Proofs.YteippkoomlganaaGreatDoor
open Go.RowKit
set_option maxHeartbeats 400000 in
theorem border_any (s : ByteArray) (a : Int) (w : World) (hs : s.size ≤ 140737488351232) (hT : Lib.Utf8Tabs 1 2 w) (h3 : 3 ≤ w.heap.size) :
    Calls Tryz.prog 18 #[.string s, .int .i64 a] w fun e w' => e = .returned (.bool (borderB s a)) ∧ Below w.heap.size w w' := by
  skip
  by_cases h0 : a < 0
  · have hb : borderB s a = false := by unfold borderB; simp; intro h; omega
    rw [hb]
    go_enter Tryz.func18, Tryz.ntmps18
    go_wp2
    go_ret
    exact ⟨rfl, Below.refl _ _⟩
  · by_cases h1 : (s.size : Int) < a
    · have hb : borderB s a = false := by unfold borderB; simp; intro h; omega
      rw [hb]
      go_enter Tryz.func18, Tryz.ntmps18
      go_wp2
      go_ret
      exact ⟨rfl, Below.refl _ _⟩
    · obtain ⟨n, rfl⟩ := Int.eq_ofNat_of_zero_le (show 0 ≤ a by omega)
      have hTH : Hid (Lib.Utf8Tabs 1 2 w) := hT; clear hT
      have hn : n ≤ s.size := by omega
      have hd : decide (0 ≤ (n : Int)) = true := by simp
      have h2 : ¬ (n : Int) < 0 := by omega
      rw [borderB_in s n hn]
      go_enter Tryz.func18, Tryz.ntmps18
      go_wp2
      go_loopw [5] (fun i wr => ∃ k : Nat, n - 3 ≤ k ∧ k ≤ n ∧ i = .int .i64 k ∧ clearFrom s n (n - 3) = clearFrom s n k ∧ Below w.heap.size w wr) (fun i _ => n - (intOf i).toNat)
      case atStart => exact ⟨n - 3, Nat.le_refl _, by omega, by congr 1; omega, rfl, Below.refl _ _⟩
      case round =>
        obtain ⟨k, hk0, hk1, rfl, hcl0, hB0⟩ := hrel
        have hcl : Hid (clearFrom s n (n - 3) = clearFrom s n k) := hcl0
        have hB : Hid (Below w.heap.size w wr) := hB0
        clear hcl0 hB0
        by_cases hlt : k < n
        · obtain ⟨hd2, hd3⟩ := decode_two s k
          have hTr := tabs_below hTH.out h3 hB.out
          have hcall := fun (W : World) (hW : Lib.Utf8Tabs 1 2 W) => Tryz.utf8_DecodeRuneInString (s.extract k s.size) W hW
          rw [decodeGo_tl s k (by omega)] at hcall
          have hB' : ∀ w1, Below wr.heap.size wr w1 → Below w.heap.size w w1 := fun w1 hb => hB.out.trans (hb.mono hB.out.size)
          have HB' := Aside1.mk hB'
          clear hB'
          by_cases hle : k + (Utf8.decode s k).2 ≤ n
          · have hno : ¬ (n : Int) < (k : Int) + ((Utf8.decode s k).2 : Int) := by omega
            have hcl2 : Hid (clearFrom s n k = clearFrom s n (k + 1)) := clearFrom_yes s n k hle
            go_wp2_with fail
            refine (hcall _ hTr).mono ?_
            rintro e w1 ⟨rfl, hB1⟩
            have HB1 := Aside1.mk hB1
            clear hB1 hcall hTr
            go_wp2_with fail
            go_roundw
            case rel => exact ⟨k + 1, by omega, by omega, by go_num, by rw [hcl.out, hcl2.out], HB'.out _ HB1.out⟩
            case measure => simp [intOf]; omega
          · have hno : (n : Int) < (k : Int) + ((Utf8.decode s k).2 : Int) := by omega
            have hcl2 : Hid (clearFrom s n k = false) := clearFrom_no s n k hlt (by omega)
            go_wp2_with fail
            refine (hcall _ hTr).mono ?_
            rintro e w1 ⟨rfl, hB1⟩
            have HB1 := Aside1.mk hB1
            clear hB1 hcall hTr
            go_wp2_with fail
            go_ret
            exact ⟨ret_bool (by rw [hcl.out, hcl2.out]), HB'.out _ HB1.out⟩
        · have hcl2 : Hid (clearFrom s n k = true) := clearFrom_end s n k (by omega)
          go_wp2_with fail
          go_ret
          exact ⟨ret_bool (by rw [hcl.out, hcl2.out]), hB.out⟩
end Go.Proofs.YteippkoomlganaaGreatDoor
