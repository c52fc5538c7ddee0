import Derived.Test.YteippkoomlganaaDoorE8
set_option linter.unusedVariables false
set_option linter.unusedSimpArgs false
namespace Go.Proofs.YteippkoomlganaaDoor
open Go.RowKit Go.Proofs.YteippkoomlganaaDoorW.PrintWords

set_option maxRecDepth 100000 in
set_option maxHeartbeats 700000 in
theorem plays_any (s : ByteArray) (at_ : Int) (xs : List Int) (A : Option Addr) (cp : Nat) (w : World) (hs : s.size ≤ 1048576) (hx : xs.length ≤ 1048576) (hxs : ∀ x ∈ xs, x ≤ 9223372036854775807) (hcp : xs.length ≤ cp) (hP : Kd.C (Kd.int .i64) w A xs.length xs) (hT : Lib.Utf8Tabs 1 2 w) (h3 : 3 ≤ w.heap.size) :
    Calls Tryd.prog 6 #[.string s, .int .i64 at_, .slice A xs.length cp] w fun e w' => e = .returned (.bool true) ∧ Below w.heap.size w w' := by
  have HA := Aside1.mk (awake_any w hT h3)
  have HT := Aside1.mk hT
  have HP := Aside1.mk hP
  clear hT hP
  have hll := linesL_len s
  go_enter Tryd.func6, Tryd.ntmps6
  go_wp2_with fail
  refine HA.out.mono ?_
  rintro e w1 ⟨rfl, hB1⟩
  have HB1 := Aside1.mk hB1
  clear hB1 HA
  go_wp2_with fail
  refine (callsIn_wide.1 (all_in s w1 hs)).mono ?_
  rintro e w2 ⟨v1, v2, rfl, r1, r2, hB2⟩
  obtain ⟨p1, c1, g1, rfl, hg1, hx1⟩ := row_read r1
  obtain ⟨p2, c2, g2, rfl, hg2, hx2⟩ := row_read r2
  have HB2 := Aside1.mk (HB1.out.trans (hB2.mono HB1.out.size))
  have hz2 := HB2.out.size
  have HX1 := Aside1.mk hx1
  have HX2 := Aside1.mk hx2
  have HG1 := Aside1.mk hg1
  have HG2 := Aside1.mk hg2
  clear r1 r2 hB2 hx1 hx2 hg1 hg2 HB1
  go_wp2_with fail
  refine (allRef_any s w2 hs).mono ?_
  rintro e w3 ⟨v3, rfl, hR, hB3⟩
  obtain ⟨A3, c3, rfl, hc3, hC3⟩ := Kd.R_reads hR
  have hlm : ((linesL s).map toS).length = (linesL s).length := by simp
  rw [hlm] at hC3 hc3
  rw [hlm]
  have hlt1 : ∀ i x, (placesOf (linesL s))[i]? = some x → 0 < (linesL s).length := fun i x h => at_pos1 h
  have HX1' := Aside1.mk (fun i x h => (hB3.cell (p := ⟨g1, i, none⟩) (HG1.out (at_pos1 h)).2.2).trans (HX1.out i x h) : ∀ i x, (placesOf (linesL s))[i]? = some x → w3.cell? ⟨g1, i, none⟩ = some x)
  have HX2' := Aside1.mk (fun i x h => (hB3.cell (p := ⟨g2, i, none⟩) (HG2.out (at_pos2 h)).2.2).trans (HX2.out i x h) : ∀ i x, (textsOf (linesL s))[i]? = some x → w3.cell? ⟨g2, i, none⟩ = some x)
  have HB3 := Aside1.mk (HB2.out.trans (hB3.mono hz2))
  have HC3 := Aside1.mk hC3
  clear HX1 HX2 hR hB3 hC3 HB2 hlt1 hlm
  generalize hL : linesL s = L at *
  go_wp2_with fail
  obtain ⟨W1, rfl⟩ : ∃ W1 : World, W1 = w3 := ⟨_, rfl⟩
  go_loopw [11] (fun v11 wr => ∃ i : Nat, i ≤ L.length ∧ v11 = .int .i64 i ∧ Drawn0 W1 wr) (fun v11 _ => L.length - (intOf v11).toNat)
  case atStart => exact ⟨0, Nat.zero_le _, rfl, Drawn0.refl _⟩
  case round =>
    obtain ⟨i, hi, rfl, m, rfl⟩ := hrel
    by_cases hlt : i < L.length
    · obtain ⟨y, hy⟩ : ∃ y, L[i]? = some y := ⟨_, List.getElem?_eq_getElem hlt⟩
      obtain ⟨a1, a2⟩ := places_at L _ _ hy
      have q1 := HX1'.out _ _ a1
      have q2 := HX2'.out _ _ a2
      obtain ⟨rfl, _, _⟩ := HG1.out (by omega)
      obtain ⟨rfl, _, _⟩ := HG2.out (by omega)
      obtain ⟨ad, rfl, f1, f2⟩ := at_T46 HC3.out (i : Int) (by omega) (by omega)
      have hrd : rd_T46 (L.map toS) (i : Int) = toS y := by
        unfold rd_T46
        simp [List.getD_eq_getElem?_getD, hy]
      rw [hrd] at f1 f2
      have hd1 : ((y.1 : Int) == (y.1 : Int)) = true := beq_iff_eq.2 rfl
      have hd2 : ((y.1 : Int) != (y.1 : Int)) = false := by simp
      have hd3 : (y.2.toList != y.2.toList) = false := by simp
      rw [Int.toNat_natCast] at f1 f2
      have hm1 : (i : Int) < (L.length : Int) := by omega
      dsimp only [toS] at f1 f2
      clear hrd a1 a2
      go_wp2_with fail
      go_quiet (fail)
      go_wp2_with fail
      go_roundw
      case rel => exact ⟨i + 1, by omega, by go_num, ⟨⟨m + _, rfl⟩⟩⟩
      case measure => simp [intOf]; omega
    · obtain rfl : i = L.length := by omega
      have hB4 := HB3.out.trans ((pw_below_drewN (Below.refl W1.heap.size W1) m).mono HB3.out.size)
      have HB4 := Aside1.mk hB4
      have HW := Aside1.mk (where_any s at_ (W1.drewN m) (by omega) (tabs_B HT.out h3 hB4) (size_B h3 hB4))
      have HV := Aside1.mk fun W => whereRef_any s at_ W hs
      clear hB4 hlt hi hll hL HX1' HX2' HC3 HG1 HG2 hc3 hz2
      generalize (whereT s at_).1 = ta at *
      generalize (whereT s at_).2.1 = tb at *
      generalize (whereT s at_).2.2 = tc at *
      go_wp2_with fail
      refine HW.out.mono ?_
      rintro e w4 ⟨rfl, hB5⟩
      have HB5 := Aside1.mk (HB4.out.trans (hB5.mono HB4.out.size))
      clear hB5 HW
      go_wp2_with fail
      refine (HV.out _).mono ?_
      rintro e w5 ⟨rfl, hB6⟩
      have HB6 := Aside1.mk (HB5.out.trans (hB6.below.mono HB5.out.size))
      clear hB6 HV HB5 HB4 HB3
      go_wp2_with fail
      go_loopw [18] (fun v18 wr => ∃ k : Nat, k ≤ xs.length + 1 ∧ v18 = .int .i64 k ∧ Aside1 (Below w.heap.size w wr)) (fun v18 _ => xs.length + 1 - (intOf v18).toNat)
      case atStart => exact ⟨0, Nat.zero_le _, rfl, HB6⟩
      case round =>
        obtain ⟨k, hk, rfl, HB7⟩ := hrel
        by_cases hlt : k + 1 < xs.length
        · have hlt' : (k : Int) + 1 < (xs.length : Int) := by omega
          have hlt2 : (k : Int) < (xs.length : Int) := by omega
          obtain ⟨ad, rfl, hc⟩ := (Kd.reads_of_C (d := (0 : Int)) (Kd.C_below HP.out HB7.out)).2.2 (by omega)
          have hc1 := hc k (by omega)
          have hc2 : wr.cell? ⟨ad.block, ad.off + (k + 1), none⟩ = some (.int .i64 (xs.getD (k + 1) 0)) := hc (k + 1) hlt
          have hx1 : xs.getD k 0 ≤ 9223372036854775807 := by
            rw [List.getD_eq_getElem?_getD, List.getElem?_eq_getElem (by omega)]
            exact hxs _ (List.getElem_mem _)
          clear hc
          generalize xs.getD k 0 = x at *
          generalize xs.getD (k + 1) 0 = y at *
          have HQ := Aside1.mk fun W => place_any s x y W (by omega) hx1
          have HR := Aside1.mk fun W => placeRef_any s x y W hs
          generalize (placeF s x y).1 = pa at *
          generalize (placeF s x y).2 = pb at *
          clear hx1
          have hk0 : (0 : Int) ≤ (k : Int) := Int.natCast_nonneg _
          have hk1 : (0 : Int) ≤ (k : Int) + 1 := by omega
          have hk2 : ((k : Int) + 1).toNat = k + 1 := by omega
          have hkw : IntKind.i64.wrap ((k : Int) + 1) = (k : Int) + 1 := IntWalk.i64_in _ (by omega)
          go_wp2_with fail
          go_region_held3 (fun w' => w'.cell? (ad.add k) = some (.int .i64 x) ∧ w'.cell? ⟨ad.block, ad.off + (k + 1), none⟩ = some (.int .i64 y) ∧ Aside1 (Below w.heap.size w w'))
            (first | exact ⟨hc1, hc2, ⟨below_drew HB7.out⟩⟩ | (go_split_ands; exact ⟨pw_cell_below hB4 (by assumption), pw_cell_below hB4 (by assumption), ⟨Below.trans (Aside1.out (by assumption)) (hB4.mono (Aside1.out (by assumption) : Below w.heap.size w _).size)⟩⟩))
            ((with_reducible refine (HQ.out _).mono ?_; rintro e w4 ⟨rfl, hB4⟩))
          have hH := ‹w4.cell? (ad.add k) = some (.int .i64 x) ∧ _ ∧ _›
          obtain ⟨hd1, hd2, HB8⟩ := hH
          clear hc1 hc2 hB4 HB7 HQ
          rename_i hHeld
          clear hHeld
          go_wp2_with fail
          go_region_held3 (fun w' => w'.cell? (ad.add k) = some (.int .i64 x) ∧ w'.cell? ⟨ad.block, ad.off + (k + 1), none⟩ = some (.int .i64 y) ∧ Aside1 (Below w.heap.size w w'))
            (first | exact ⟨hd1, hd2, ⟨below_drew HB8.out⟩⟩ | (go_split_ands; exact ⟨pw_cell_below hB4 (by assumption), pw_cell_below hB4 (by assumption), ⟨Below.trans (Aside1.out (by assumption)) (hB4.mono (Aside1.out (by assumption) : Below w.heap.size w _).size)⟩⟩))
            ((with_reducible refine (HR.out _).mono ?_; rintro e w6 ⟨rfl, hB4⟩))
          have hH := ‹w6.cell? (ad.add k) = some (.int .i64 x) ∧ _ ∧ _›
          have HB9 := hH.2.2
          clear hd1 hd2 HB8 HR hB4 hH
          rename_i hHeld
          clear hHeld
          go_wp2_with fail
          go_roundw
          case rel => exact ⟨k + 2, by omega, by go_num, HB9⟩
          case measure => simp [intOf]; omega
        · go_wp2_with fail
          go_ret
          exact ⟨rfl, HB7.out⟩
end Go.Proofs.YteippkoomlganaaDoor
