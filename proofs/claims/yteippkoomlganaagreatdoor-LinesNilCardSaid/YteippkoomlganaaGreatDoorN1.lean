import Derived.Test.YteippkoomlganaaGreatDoorB3
import Derived.Test.YteippkoomlganaaGreatDoorD3
set_option linter.unusedVariables false
set_option linter.unusedSimpArgs false
namespace Go.Proofs.YteippkoomlganaaGreatDoor
open Go.Shelf Go.RowKit Go.Lib Go.Sort Go.Proofs.YteippkoomlganaaGreatDoorW.PrintWords Go.Proofs.YteippkoomlganaaGreatDoorW.PrintLast Go.Proofs.YteippkoomlganaaGreatDoorW.PrintMore

set_option maxHeartbeats 800000 in
set_option maxRecDepth 100000 in
theorem sort_none (A : Option Addr) (c : Nat) (list : List ByteArray) (w : World) (hr : Kd.C Kd.string w A list.length list) (hn : list.length < 1) (hs : ∀ t ∈ list, t.size ≤ 35184372088000) :
    Calls Tryz.prog 7 #[.slice A list.length c, .bool true] w fun e w' => ∃ v, e = .returned v ∧ ∃ ts, Kd.R Kd.string 9 w' w.heap.size (fun _ => True) v ts ∧ RowKit.Below w.heap.size w w' ∧ ts.Perm list ∧ ts.Pairwise (fun a b => 0 ≤ cmpP (orderOf b) (orderOf a)) := by
  obtain ⟨i0, hi, hz0, hz1, hz2⟩ := info_parts info52x
  obtain ⟨w1, hmk, hown, hg⟩ := run_make_own (P := Tryz.prog) w w.heap.size 45 49 i0 _ 3 Tryz.underlying45 hi hz0 hz1 .i64 .i64 list.length (by rw [hz2]; omega) (by unfold maxLen; omega) (Nat.le_refl _)
  have HR := Aside1.mk hr
  have HO := Aside1.mk hown
  have HG := Aside1.mk hg
  clear hr hown hg
  go_enter Tryz.func7, Tryz.ntmps7
  go_wp2_with fail
  go_loopw [5, 17] (fun v5 v17 wr => ∃ (i : Nat) (ks : List KeyV), i ≤ list.length ∧ ks.length = i ∧ v17 = .int .i64 i ∧ Aside1 (wr.ownsRow w.heap.size 49 3 v5 i (ks.flatMap KeyV.enc)) ∧ Aside1 (RowKit.Below w.heap.size w wr) ∧ Aside1 (ks.map KeyV.text = list.take i) ∧ Aside1 (∀ x ∈ ks, (x.l1, x.l2) = orderOf x.text) ∧ (∃ g cap, v5 = .slice (some ⟨g, 0, none⟩) i cap) ∧ Aside1 (∀ x ∈ ks, x.ok0 wr w.heap.size)) (fun _ v17 _ => list.length - (intOf v17).toNat)
  case atStart => exact ⟨0, [], by omega, rfl, rfl, HO, ⟨(RowKit.Below.refl _ _).grown HG.out (Nat.le_refl _) (by simp)⟩, ⟨rfl⟩, ⟨by simp⟩, ⟨_, _, rfl⟩, ⟨by simp⟩⟩
  case round =>
    obtain ⟨i, ks, hil, hkl, rfl, HK, HB, HT, HO5, ⟨g, cap, rfl⟩, HA⟩ := hrel
    by_cases hlt : i < list.length
    · exfalso; omega
    · obtain rfl : i = list.length := by omega
      obtain ⟨W1, rfl⟩ : ∃ W1 : World, W1 = wr := ⟨_, rfl⟩
      obtain ⟨cur, hcur⟩ := own_typed HK.out g rfl
      have hok : ∀ x ∈ ks, x.ok W1 w.heap.size g := fun x hx =>
        ⟨Kd.R_mono (Kd.R_types (HA.out x hx).1 hcur (by decide)) (fun _ hk => hk.2), Kd.R_mono (Kd.R_types (HA.out x hx).2.1 hcur (by decide)) (fun _ hk => hk.2), (HA.out x hx).2.2⟩
      obtain ⟨ds, hds⟩ : ∃ ds : List (KeyS W1 w.heap.size g), ds.map (·.1) = ks := ⟨ks.pmap Subtype.mk hok, by simp [List.map_pmap]⟩
      have hfl : ks.flatMap KeyV.enc = ds.flatMap encS := by
        rw [← hds, List.flatMap_map]; rfl
      have hdl : ds.length = list.length := by rw [← hkl, ← hds, List.length_map]
      have hgB : w.heap.size ≤ g := own_base HK.out g rfl
      have hgl : g < W1.heap.size := own_lt HK.out g rfl
      have hH : HoldsK encS 3 W1 g 0 ds.toArray := holds_of_own (b := w.heap.size) (n := list.length) (cap := cap) (by rw [← hfl]; exact HK.out)
      have hcon := sortStable_small W1 w.heap.size g cap ds.toArray hH hgl (by simp; omega)
      have hperm := insertionSort_holds (lt := ltOf (cmpS (w := W1) (base := w.heap.size) (blk := g))) swoS ds.toArray 0 ds.toArray.size (by omega) (by omega)
      simp only [List.size_toArray, hdl] at hcon hperm
      generalize insertionSort (ltOf cmpS) ds.toArray 0 list.length = d' at hcon hperm
      have hds' : d'.size = list.length := by rw [hperm.1.1]; simpa using hdl
      have hkeep : ∀ nn os, HoldsK encS 3 (sortWorldK encS 3 W1 g 0 nn d' os) g 0 d' := fun nn os => holdsK_sortWorldK encS 3 W1 g 0 nn ds.toArray d' os hgl hH hperm.1.1
      have hBs : ∀ nn os, RowKit.Below w.heap.size W1 (sortWorldK encS 3 W1 g 0 nn d' os) := fun nn os => below_sortWorldK encS 3 W1 w.heap.size g 0 nn d' os hgB HB.out.size
      have HKEEP := Aside1.mk hkeep
      have HBS := Aside1.mk hBs
      have HPERM := Aside1.mk hperm
      have HCON := Aside1.mk hcon
      clear hkeep hBs hperm hcon hH hcur
      go_wp2_with fail
      refine HCON.out.mono ?_
      rintro e W2 ⟨rfl, nn, os, hW2⟩
      have hk2 := HKEEP.out nn os
      have hb2 := HBS.out nn os
      rw [← hW2] at hk2 hb2
      have hcell : ∀ i, i < list.length → ∀ c v, (encS d'[i]!)[c]? = some v → W2.cell? ((⟨g, 0 + i * 3, none⟩ : Addr).add c) = some v := fun i hi' => HoldsK.cells hk2 encS_len (by rw [hds']; exact hi')
      have hg2 : g < W2.heap.size := Nat.lt_of_lt_of_le hgl (by rw [hW2]; exact (below_sortWorldK encS 3 W1 0 g 0 nn d' os (Nat.zero_le _) (Nat.zero_le _)).size)
      have HB2 := Aside1.mk (HB.out.trans hb2)
      have HCELL := Aside1.mk hcell
      clear hW2 hk2 hb2 hcell HCON HKEEP HBS
      obtain ⟨i9, hi9, hz90, hz91, hz92⟩ := info_parts info9x
      obtain ⟨W3, hmk3, hown3, hg3⟩ := run_make_own (P := Tryz.prog) W2 W2.heap.size 28 9 i9 _ 1 Tryz.underlying28 hi9 hz90 hz91 .i64 .i64 list.length (by rw [hz92]; omega) (by unfold maxLen; omega) (Nat.le_refl _)
      have HO3 := Aside1.mk hown3
      have HG3 := Aside1.mk hg3
      clear hown3 hg3 hmk
      go_wp2_with fail
      go_loopw [9, 42] (fun v9 v42 wx => ∃ i : Nat, i ≤ list.length ∧ v42 = .int .i64 i ∧ Aside1 (Kd.R Kd.string 9 wx W2.heap.size (fun _ => True) v9 (textsTo d' i)) ∧ Aside1 (RowKit.Below W2.heap.size W2 wx)) (fun _ v42 _ => list.length - (intOf v42).toNat)
      case atStart => exact ⟨0, by omega, rfl, ⟨Kd.R_of_own (xs := []) HO3.out (fun _ _ => trivial)⟩, ⟨(RowKit.Below.refl _ _).grown HG3.out (Nat.le_refl _) (by simp)⟩⟩
      case round =>
        obtain ⟨i, hi1, rfl, HR9, HBx⟩ := hrel
        by_cases hlt2 : i < list.length
        · exfalso; omega
        · obtain rfl : i = list.length := by omega
          go_wp2_with fail
          go_ret
          have hfin := sorted_tells hds HT.out HO5.out hdl HPERM.out.1 HPERM.out.2
          rw [List.take_of_length_le (Nat.le_refl _)] at hfin
          exact ⟨_, rfl, _, Kd.R_lower HR9.out HB2.out.size, HB2.out.trans (HBx.out.mono HB2.out.size), hfin⟩
end Go.Proofs.YteippkoomlganaaGreatDoor
