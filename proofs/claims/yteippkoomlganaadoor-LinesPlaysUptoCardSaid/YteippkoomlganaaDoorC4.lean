import Derived.Test.YteippkoomlganaaDoorC3
import Derived.Test.YteippkoomlganaaDoorB3
set_option linter.unusedVariables false
set_option linter.unusedSimpArgs false
namespace Go.Proofs.YteippkoomlganaaDoor
open Go.RowKit

/-- What the law's loop remembers: line and column of the border before. -/
def Prev (s : ByteArray) (n l c : Nat) : Prop :=
  (n = 0 ∧ l = 1 ∧ c = 0) ∨ (∃ q, q < n ∧ Bd s q ∧ (∀ j, q < j → j < n → ¬ Bd s j) ∧ l = whereL s q ∧ c = whereC s q)
theorem whereL_le (s : ByteArray) (n : Nat) (h : n ≤ s.size) : whereL s n ≤ 1 + n := by
  have := List.count_le_length (a := (10 : UInt8)) (l := (s.extract 0 n).data.toList)
  rw [← Lib.size_eq, extract0_size s n h] at this
  unfold whereL Lib.countByte
  omega
theorem whereC_le (s : ByteArray) (n : Nat) (h : n ≤ s.size) : whereC s n ≤ 1 + n := by
  unfold whereC
  have := Lib.runeCount_le ((s.extract 0 n).extract (lineFrom s n) (s.extract 0 n).size)
  rw [Lib.tail_size, extract0_size s n h] at this
  rw [extract0_size s n h]
  omega
theorem Prev.skip {s : ByteArray} {n l c : Nat} (h : Prev s n l c) (hn : ¬ Bd s n) : Prev s (n + 1) l c := by
  rcases h with ⟨rfl, _, _⟩ | ⟨q, hq, hb, hj, h1, h2⟩
  · exact absurd (bd_zero s) hn
  · refine .inr ⟨q, by omega, hb, fun j h3 h4 => ?_, h1, h2⟩
    by_cases e : j = n
    · rw [e]; exact hn
    · exact hj j h3 (by omega)
theorem Prev.at {s : ByteArray} {n : Nat} (hn : Bd s n) : Prev s (n + 1) (whereL s n) (whereC s n) :=
  .inr ⟨n, by omega, hn, fun j h3 h4 => by omega, rfl, rfl⟩
attribute [local irreducible] whereL whereC
theorem Prev.le {s : ByteArray} {n l c : Nat} (h : Prev s n l c) (hn : n ≤ s.size + 1) : l ≤ s.size + 1 ∧ c ≤ s.size + 1 := by
  rcases h with ⟨_, rfl, rfl⟩ | ⟨q, hq, hb, _, rfl, rfl⟩
  · omega
  · have := whereL_le s q hb.1
    have := whereC_le s q hb.1
    have := hb.1
    omega
/-- Where at a border, by the border before. -/
theorem Prev.tells {s : ByteArray} {n l c : Nat} (h : Prev s n l c) (hn : Bd s n) :
    (n = 0 ∧ whereL s n = l ∧ whereC s n = c + 1) ∨ (0 < n ∧ s.get! (n - 1) ≠ 10 ∧ whereL s n = l ∧ whereC s n = c + 1) ∨ (0 < n ∧ s.get! (n - 1) = 10 ∧ whereL s n = l + 1 ∧ whereC s n = 1) := by
  rcases h with ⟨rfl, rfl, rfl⟩ | ⟨q, hq, hb, hj, rfl, rfl⟩
  · exact .inl ⟨rfl, (where_first s).1, (where_first s).2⟩
  · have hqs : q < s.size := by have := hn.1; omega
    have h1 := bd_next s q n hn hq
    have h2 := bd_step s q hb hqs
    have hw := decode_two s q
    have e : q + (Utf8.decode s q).2 = n := by
      by_cases e : q + (Utf8.decode s q).2 = n
      · exact e
      · exact absurd h2 (hj _ (by omega) (by omega))
    by_cases h10 : s.get! (n - 1) = 10
    · have := where_next s q hb hqs (by rw [e]; exact h10)
      rw [e] at this
      exact .inr (.inr ⟨by omega, h10, this.1, this.2⟩)
    · have := where_same s q hb hqs (by rw [e]; exact h10)
      rw [e] at this
      exact .inr (.inl ⟨by omega, h10, this.1, this.2⟩)
theorem Prev.last {s : ByteArray} {l c : Nat} (h : Prev s (s.size + 1) l c) : l = whereL s s.size ∧ c = whereC s s.size := by
  rcases h with ⟨h, _⟩ | ⟨q, hq, hb, hj, rfl, rfl⟩
  · omega
  · have e : q = s.size := by
      by_cases e : q = s.size
      · exact e
      · exact absurd (bd_end s) (hj _ (by omega) (by omega))
    rw [e]; exact ⟨rfl, rfl⟩
theorem byte_get (s : ByteArray) (j : Nat) (h : j < s.size) : s[j]'h = s.get! j := by
  rw [← get_data, getElem!_pos s.data j (by simpa using h)]; rfl

set_option maxHeartbeats 1600000 in
set_option maxRecDepth 100000 in
theorem there_any (s : ByteArray) (w : World) (hs : s.size ≤ 140737488351232) (hT : Lib.Utf8Tabs 1 2 w) (h3 : 3 ≤ w.heap.size) :
    Calls Tryd.prog 5 #[.string s] w fun e w' => e = .returned (.bool true) ∧ Below w.heap.size w w' := by
  have HA := Aside1.mk (awake_any w hT h3)
  have HT := Aside1.mk hT
  clear hT
  go_enter Tryd.func5, Tryd.ntmps5
  go_wp2_with fail
  refine HA.out.mono ?_
  rintro e w1 ⟨rfl, hB1⟩
  have HB1 := Aside1.mk hB1
  clear hB1 HA
  go_wp2_with fail
  go_loopw [3, 4, 5] (fun v3 v4 v5 wr => ∃ n l c : Nat, n ≤ s.size + 1 ∧ v3 = .int .i64 l ∧ v4 = .int .i64 c ∧ v5 = .int .i64 n ∧ Aside1 (Prev s n l c) ∧ Aside1 (Below w.heap.size w wr)) (fun _ _ v5 _ => s.size + 1 - (intOf v5).toNat)
  case atStart => exact ⟨0, 1, 0, by omega, rfl, rfl, rfl, ⟨.inl ⟨rfl, rfl, rfl⟩⟩, HB1⟩
  case round =>
    obtain ⟨n, l, c, hn, rfl, rfl, rfl, HP, HB⟩ := hrel
    obtain ⟨hl1, hc1⟩ := Prev.le HP.out hn
    by_cases hlt : n ≤ s.size
    · have hT1 := tabs_B HT.out h3 HB.out
      have hS1 := size_B h3 HB.out
      cases hb : borderB s n with
      | false =>
        have hnb : ¬ Bd s n := fun h => by rw [(bd_iff s n).2 h] at hb; cases hb
        have HN := Aside1.mk (Prev.skip HP.out hnb)
        have HW := Aside1.mk (where_no s n wr hs hT1 hS1 hb)
        have HC := Aside1.mk fun W h1 h2 => border_any s n W hs h1 h2
        rw [hb] at HC
        clear hT1 hS1 hb hnb
        go_wp2_with fail
        refine HW.out.mono ?_
        rintro e w2 ⟨rfl, hB2⟩
        have hB2' := HB.out.trans (hB2.mono HB.out.size)
        have HB2 := Aside1.mk hB2'
        clear hB2 hB2' HW
        go_wp2_with fail
        refine (HC.out _ (tabs_B HT.out h3 HB2.out) (size_B h3 HB2.out)).mono ?_
        rintro e w3 ⟨rfl, hB3⟩
        have HB3 := Aside1.mk (HB2.out.trans (hB3.mono HB2.out.size))
        clear hB3 HC
        go_wp2_with fail
        go_roundw
        case rel => exact ⟨n + 1, l, c, by omega, rfl, rfl, by go_num, HN, HB3⟩
        case measure => simp [intOf]; omega
      | true =>
        have hbd : Bd s n := (bd_iff s n).1 hb
        have HW := Aside1.mk (where_yes s n wr hs hT1 hS1 hb hlt)
        have HC := Aside1.mk fun W h1 h2 => border_any s n W hs h1 h2
        rw [hb] at HC
        have HPL := Aside1.mk fun W => place_any s (whereL s n) (whereC s n) W hs (by have := whereL_le s n hlt; omega)
        rw [place_back s n hbd] at HPL
        have hL := whereL_le s n hlt
        have hC := whereC_le s n hlt
        have HN := Aside1.mk (Prev.at hbd)
        have htl := Prev.tells HP.out hbd
        clear hT1 hS1 hb hbd
        generalize whereL s n = L at *
        generalize whereC s n = C at *
        rcases htl with ⟨h0, hl2, hc2⟩ | ⟨h0, h10, hl2, hc2⟩ | ⟨h0, h10, hl2, hc2⟩
        · have hb1 : ((L : Int) == (l : Int)) = true := beq_iff_eq.2 (by omega)
          have hb2 : ((C : Int) == (c : Int) + 1) = true := beq_iff_eq.2 (by omega)
          have hb3 : ¬ (0 : Int) < n := by omega
          clear hl2 hc2 h0
          go_wp2_with fail
          refine HW.out.mono ?_
          rintro e w2 ⟨rfl, hB2⟩
          have HB2 := Aside1.mk (HB.out.trans (hB2.mono HB.out.size))
          clear hB2 HW
          go_wp2_with fail
          refine (HC.out _ (tabs_B HT.out h3 HB2.out) (size_B h3 HB2.out)).mono ?_
          rintro e w3 ⟨rfl, hB3⟩
          have HB3 := Aside1.mk (HB2.out.trans (hB3.mono HB2.out.size))
          clear hB3 HC
          go_wp2_with fail
          refine (HPL.out _).mono ?_
          rintro e w4 ⟨rfl, hB4⟩
          have HB4 := Aside1.mk (HB3.out.trans (hB4.mono HB3.out.size))
          clear hB4 HPL
          go_wp2_with fail
          go_roundw
          case rel => exact ⟨n + 1, L, C, by omega, rfl, rfl, by go_num, HN, HB4⟩
          case measure => simp [intOf]; omega
        · have hb1 : ((L : Int) == (l : Int)) = true := beq_iff_eq.2 (by omega)
          have hb2 : ((C : Int) == (c : Int) + 1) = true := beq_iff_eq.2 (by omega)
          have hb3 : (0 : Int) < n := by omega
          have hb4 : (0 : Int) ≤ (n : Int) - 1 := by omega
          have hb5 : (n : Int) - 1 < s.size := by omega
          have hb6 : ∀ h, (((s[n - 1]'h).toNat : Int) == 10) = false := fun h => by
            rw [beq_eq_false_iff_ne, byte_get]
            intro e
            exact h10 (UInt8.toNat_inj.1 (Int.ofNat_inj.1 e))
          clear hl2 hc2 h0 h10
          go_wp2_with fail
          refine HW.out.mono ?_
          rintro e w2 ⟨rfl, hB2⟩
          have HB2 := Aside1.mk (HB.out.trans (hB2.mono HB.out.size))
          clear hB2 HW
          go_wp2_with fail
          refine (HC.out _ (tabs_B HT.out h3 HB2.out) (size_B h3 HB2.out)).mono ?_
          rintro e w3 ⟨rfl, hB3⟩
          have HB3 := Aside1.mk (HB2.out.trans (hB3.mono HB2.out.size))
          clear hB3 HC
          go_wp2_with fail
          refine (HPL.out _).mono ?_
          rintro e w4 ⟨rfl, hB4⟩
          have HB4 := Aside1.mk (HB3.out.trans (hB4.mono HB3.out.size))
          clear hB4 HPL
          go_wp2_with fail
          go_roundw
          case rel => exact ⟨n + 1, L, C, by omega, rfl, rfl, by go_num, HN, HB4⟩
          case measure => simp [intOf]; omega
        · have hb1 : ((L : Int) == (l : Int)) = false := beq_eq_false_iff_ne.2 (by omega)
          have hb2 : ((C : Int) == 1) = true := beq_iff_eq.2 (by omega)
          have hb2' : ((L : Int) == (l : Int) + 1) = true := beq_iff_eq.2 (by omega)
          have hb3 : (0 : Int) < n := by omega
          have hb4 : (0 : Int) ≤ (n : Int) - 1 := by omega
          have hb5 : (n : Int) - 1 < s.size := by omega
          have hb6 : ∀ h, (((s[n - 1]'h).toNat : Int) == 10) = true := fun h => by
            rw [beq_iff_eq, byte_get, h10]
            rfl
          clear hl2 hc2 h0 h10
          go_wp2_with fail
          refine HW.out.mono ?_
          rintro e w2 ⟨rfl, hB2⟩
          have HB2 := Aside1.mk (HB.out.trans (hB2.mono HB.out.size))
          clear hB2 HW
          go_wp2_with fail
          refine (HC.out _ (tabs_B HT.out h3 HB2.out) (size_B h3 HB2.out)).mono ?_
          rintro e w3 ⟨rfl, hB3⟩
          have HB3 := Aside1.mk (HB2.out.trans (hB3.mono HB2.out.size))
          clear hB3 HC
          go_wp2_with fail
          refine (HPL.out _).mono ?_
          rintro e w4 ⟨rfl, hB4⟩
          have HB4 := Aside1.mk (HB3.out.trans (hB4.mono HB3.out.size))
          clear hB4 HPL
          go_wp2_with fail
          go_roundw
          case rel => exact ⟨n + 1, L, C, by omega, rfl, rfl, by go_num, HN, HB4⟩
          case measure => simp [intOf]; omega
    · obtain rfl : n = s.size + 1 := by omega
      obtain ⟨hl2, hc2⟩ := Prev.last HP.out
      have P1 := Aside1.mk fun W => place_any s (l : Int) ((c : Int) + 1) W hs (by omega)
      have P2 := Aside1.mk fun W => place_any s ((l : Int) + 1) 1 W hs (by omega)
      have e1 : (placeF s (l : Int) ((c : Int) + 1)).2 = 7 := by rw [hl2, hc2]; exact place_past_col s
      have e2 : (placeF s ((l : Int) + 1) 1).2 = 7 := by rw [hl2]; exact place_past_line s
      rw [e1] at P1
      rw [e2] at P2
      have P3 := Aside1.mk fun W => place_any s 0 1 W hs (by omega)
      have P4 := Aside1.mk fun W => place_any s 1 0 W hs (by omega)
      rw [placeF_arg s 0 1 (.inl (by omega))] at P3
      rw [placeF_arg s 1 0 (.inr (by omega))] at P4
      have hn1 : borderB s (-1) = false := by unfold borderB; simp
      have hn2 : borderB s ((s.size : Int) + 1) = false := by
        unfold borderB; rw [decide_eq_false (by omega)]; rfl
      have P5 := Aside1.mk fun W h1 h2 => where_no s (-1) W hs h1 h2 hn1
      have P6 := Aside1.mk fun W h1 h2 => where_no s ((s.size : Int) + 1) W hs h1 h2 hn2
      clear hl2 hc2 e1 e2 hn1 hn2 HP
      generalize (placeF s (l : Int) ((c : Int) + 1)).1 = z1 at P1
      generalize (placeF s ((l : Int) + 1) 1).1 = z2 at P2
      go_wp2_with fail
      refine (P1.out _).mono ?_
      rintro e w2 ⟨rfl, hB2⟩
      have HB2 := Aside1.mk (HB.out.trans (hB2.mono HB.out.size))
      clear hB2
      go_wp2_with fail
      refine (P2.out _).mono ?_
      rintro e w3 ⟨rfl, hB3⟩
      have HB3 := Aside1.mk (HB2.out.trans (hB3.mono HB2.out.size))
      clear hB3
      go_wp2_with fail
      refine (P3.out _).mono ?_
      rintro e w4 ⟨rfl, hB4⟩
      have HB4 := Aside1.mk (HB3.out.trans (hB4.mono HB3.out.size))
      clear hB4
      go_wp2_with fail
      refine (P4.out _).mono ?_
      rintro e w5 ⟨rfl, hB5⟩
      have HB5 := Aside1.mk (HB4.out.trans (hB5.mono HB4.out.size))
      clear hB5
      go_wp2_with fail
      refine (P5.out _ (tabs_B HT.out h3 HB5.out) (size_B h3 HB5.out)).mono ?_
      rintro e w6 ⟨rfl, hB6⟩
      have HB6 := Aside1.mk (HB5.out.trans (hB6.mono HB5.out.size))
      clear hB6
      go_wp2_with fail
      refine (P6.out _ (tabs_B HT.out h3 HB6.out) (size_B h3 HB6.out)).mono ?_
      rintro e w7 ⟨rfl, hB7⟩
      have HB7 := Aside1.mk (HB6.out.trans (hB7.mono HB6.out.size))
      clear hB7
      go_wp2_with fail
      go_ret
      exact ⟨rfl, HB7.out⟩
end Go.Proofs.YteippkoomlganaaDoor
