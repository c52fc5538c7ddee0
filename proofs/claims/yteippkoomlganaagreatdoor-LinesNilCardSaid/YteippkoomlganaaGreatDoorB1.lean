import Derived.Test.YteippkoomlganaaGreatDoorB0
import Derived.Outline
set_option linter.unusedVariables false
set_option linter.unusedSimpArgs false
namespace Go.Proofs.YteippkoomlganaaGreatDoor
open Go.Shelf Go.RowKit Go.Lib Go.Sort Go.Proofs.YteippkoomlganaaGreatDoorW.PrintWords Go.Proofs.YteippkoomlganaaGreatDoorW.PrintLast Go.Proofs.YteippkoomlganaaGreatDoorW.PrintMore

theorem info52x : (Tryz.prog.info? 49).map (fun i => (i.zero, i.size, i.bytes)) = some (some (.agg #[.string ⟨#[]⟩, .slice none 0 0, .slice none 0 0]), 3, 64) := by kernel_rfl
theorem info9x : (Tryz.prog.info? 9).map (fun i => (i.zero, i.size, i.bytes)) = some (some (.string ⟨#[]⟩), 1, 16) := by kernel_rfl

/-- What orders a text (no folding). -/
def orderOf (t : ByteArray) : List Int × List Int := ([], uList t)
def KeyV.ok0 (w : World) (base : Nat) (x : KeyV) : Prop :=
  Kd.R (Kd.int .i32) 21 w base (fun _ => True) x.v1 x.l1 ∧ Kd.R (Kd.int .i32) 21 w base (fun _ => True) x.v2 x.l2 ∧ x.l1.length ≤ 9223372036854775806 ∧ x.l2.length ≤ 9223372036854775806
theorem KeyV.ok0_below {w w1 : World} {base : Nat} {x : KeyV} (h : x.ok0 w base) (hb : RowKit.Below w.heap.size w w1) : x.ok0 w1 base := ⟨Kd.R_below h.1 hb, Kd.R_below h.2.1 hb, h.2.2⟩

theorem KeyV.ok0_over {W w3 : World} {base b n : Nat} {v : Value} {xs : List Value} {x : KeyV} (h : x.ok0 W base) (ho : W.ownsRow b 49 3 v n xs) (hg : W.grownBy w3 v.ownBlock) : x.ok0 w3 base :=
  ⟨Kd.R_over' h.1 (own_typed ho) (by decide) hg, Kd.R_over' h.2.1 (own_typed ho) (by decide) hg, h.2.2⟩
theorem uList_length (s : ByteArray) : (uList s).length ≤ s.size := uFrom_length s _ _

theorem extract_whole {α : Type} (d : Array α) (n : Nat) (h : d.size = n) : d.extract 0 n = d := by
  rw [← h]; exact Array.extract_size
theorem sorted_tells {W : World} {B g n : Nat} {ks : List KeyV} {ds : List (KeyS W B g)} {d' : Array (KeyS W B g)} {list : List ByteArray} (hds : ds.map (·.1) = ks) (hT : ks.map KeyV.text = list)
    (hO : ∀ x ∈ ks, (x.l1, x.l2) = orderOf x.text) (hn : ds.length = n) (hp : PermIn 0 n ds.toArray d') (hs : SortedIn (ltOf cmpS) 0 n d') :
    ((d'.toList.take n).map (·.1.text)).Perm list ∧ ((d'.toList.take n).map (·.1.text)).Pairwise (fun a b => 0 ≤ cmpP (orderOf b) (orderOf a)) := by
  have hsz : d'.size = n := by rw [hp.1]; simpa using hn
  have h1 : d'.toList.Perm ds := by
    have := hp.2.2
    rw [extract_whole d' n hsz, extract_whole ds.toArray n (by simpa using hn)] at this
    exact this
  rw [List.take_of_length_le (by simp [hsz])]
  constructor
  · have h2 := h1.map (fun x => x.1.text)
    have h3 : ds.map (fun x => x.1.text) = list := by rw [← hT, ← hds, List.map_map]; rfl
    rwa [h3] at h2
  · rw [List.pairwise_map, List.pairwise_iff_getElem]
    intro i j hi hj hij
    have hi' : i < d'.size := by simpa using hi
    have hj' : j < d'.size := by simpa using hj
    have h2 := hs i j (Nat.zero_le _) hij (by omega)
    rw [getElem!_pos d' i hi', getElem!_pos d' j hj'] at h2
    have hin : ∀ k (hk : k < d'.size), (d'[k].1.l1, d'[k].1.l2) = orderOf d'[k].1.text := by
      intro k hk
      refine hO _ ?_
      rw [← hds]
      exact List.mem_map_of_mem (h1.mem_iff.1 (by simp))
    unfold ltOf cmpS at h2
    rw [decide_eq_false_iff_not, keyCmp_eq, hin i hi', hin j hj'] at h2
    have h3 := Int.not_lt.1 h2
    simpa using h3

/-- The texts of the first keys of a row. -/
def textsTo {W : World} {B g : Nat} (d : Array (KeyS W B g)) (i : Nat) : List ByteArray := (d.toList.take i).map (·.1.text)
theorem textsTo_le {W : World} {B g : Nat} (d : Array (KeyS W B g)) (i : Nat) : (textsTo d i).length ≤ i := by
  unfold textsTo; rw [List.length_map, List.length_take]; omega

set_option maxHeartbeats 800000 in
set_option maxRecDepth 100000 in
theorem sort_small (A : Option Addr) (c : Nat) (list : List ByteArray) (w : World) (hr : Kd.C Kd.string w A list.length list) (hn : list.length < 20) (hs : ∀ t ∈ list, t.size ≤ 35184372088000) :
    Calls Tryz.prog 7 #[.slice A list.length c, .bool false] w fun e w' => ∃ v, e = .returned v ∧ ∃ ts, Kd.R Kd.string 9 w' w.heap.size (fun _ => True) v ts ∧ RowKit.Below w.heap.size w w' ∧ ts.Perm list ∧ ts.Pairwise (fun a b => 0 ≤ cmpP (orderOf b) (orderOf a)) := by
  obtain ⟨i0, hi, hz0, hz1, hz2⟩ := info_parts info52x
  obtain ⟨w1, hmk, hown, hg⟩ := run_make_own (P := Tryz.prog) w w.heap.size 45 49 i0 _ 3 Tryz.underlying45 hi hz0 hz1 .i64 .i64 list.length (by rw [hz2]; omega) (by unfold maxLen; omega) (Nat.le_refl _)
  have HR := Aside1.mk hr
  have HO := Aside1.mk hown
  have HG := Aside1.mk hg
  clear hr hown hg
  go_enter Tryz.func7, Tryz.ntmps7
  go_wp2_with fail
  go_loopw [5, 17] (fun v5 v17 wr => ∃ (i : Nat) (ks : List KeyV), i ≤ list.length ∧ ks.length = i ∧ v17 = .int .i64 i ∧ Aside1 (wr.ownsRow w.heap.size 49 3 v5 i (ks.flatMap KeyV.enc)) ∧ Aside1 (RowKit.Below w.heap.size w wr) ∧ Aside1 (ks.map KeyV.text = list.take i) ∧ Aside1 (∀ x ∈ ks, (x.l1, x.l2) = orderOf x.text) ∧ (∃ g cap, v5 = .slice (some ⟨g, 0, none⟩) i cap) ∧ Aside1 (∀ x ∈ ks, x.ok0 wr w.heap.size)) (fun _ v17 _ => list.length - (intOf v17).toNat)
  case atStart => exact ⟨0, [], by omega, rfl, rfl, HO, ⟨(RowKit.Below.refl _ _).grown HG.out (Nat.le_refl _) (by simp)⟩, ⟨rfl⟩, ⟨by simp⟩, ⟨_, _, rfl⟩, ⟨by simp⟩⟩
  case round =>
    obtain ⟨i, ks, hil, hkl, rfl, HK, HB, HT, HO5, ⟨g, cap, rfl⟩, HA⟩ := hrel
    by_cases hlt : i < list.length
    · obtain ⟨ad, e0, hx⟩ := Kd.at_string HR.out (i : Int) (by omega) (by omega)
      subst e0
      have hx2 := ((HB.out.cell (World.block_lt_of_cell? w _ hx)).trans hx)
      rw [Int.toNat_natCast] at hx2
      clear hx
      have htk : list.take (i + 1) = list.take i ++ [rdOf ByteArray.empty list (i : Int)] := by
        rw [List.take_succ_eq_append_getElem hlt]
        congr 2
        unfold rdOf
        rw [Int.toNat_natCast, List.getD_eq_getElem?_getD, List.getElem?_eq_getElem hlt]
        rfl
      have hts : (rdOf ByteArray.empty list (i : Int)).size ≤ 35184372088000 := by
        apply hs
        unfold rdOf
        rw [Int.toNat_natCast, List.getD_eq_getElem?_getD, List.getElem?_eq_getElem hlt]
        exact List.getElem_mem hlt
      go_wp2_with fail
      generalize rdOf ByteArray.empty list (i : Int) = t at htk hts hx2 ⊢
      have HTK := Aside1.mk htk
      clear htk
      refine (units_any t wr hts).mono ?_
      rintro e w2 ⟨v2, rfl, hU, hB2⟩
      have hv2 := r_oneCell hU
      have HU := Aside1.mk hU
      have HB2 := Aside1.mk hB2
      clear hU hB2
      obtain ⟨A2, c2, hv2e⟩ := Kd.R_slice HU.out
      subst hv2e
      have HSZ := Aside1.mk (show ∀ o, (w2.alloc o).heap.size = w2.heap.size + 1 from fun o => by show (w2.heap.push o).size = _; exact Array.size_push ..)
      go_wp2_with ((with_reducible refine gate_builtin (b := .append) (xs := #[.tmp 30, .tmp 32]) rfl ?_); at_builtin; refine print_append_cells (w0 := w) w.heap.size rfl (.tmp 30) (.tmp 32) 45 49 (.agg #[.string ⟨#[]⟩, .slice none 0 0, .slice none 0 0]) 3 64 rfl Tryz.underlying45 info52x rfl (by decide) (by decide) (.slice (some ⟨g, 0, none⟩) i cap) i (ks.flatMap KeyV.enc) [.string t, .slice none 0 0, .slice A2 (uList t).length c2] rfl ?cX rfl ?c1 ?cO ?cB ?cS ?cL ?_)
      case cX => rw [HSZ.out]; rfl
      case c1 =>
        intro u hu
        simp only [List.mem_cons, List.mem_nil_iff, or_false] at hu
        rcases hu with rfl | rfl | rfl <;> rfl
      case cO => exact (pw_own_below HK.out HB2.out).alloc _
      case cB => exact (HB.out.trans (HB2.out.mono HB.out.size)).alloc (Nat.le_trans HB.out.size HB2.out.size) _
      case cS => rw [HSZ.out]; have := HB.out.size; have := HB2.out.size; omega
      case cL => omega
      intro v1 w3 hO3 hB3 hG3 _
      have hAn : ∀ x ∈ ks ++ [(⟨t, .slice none 0 0, .slice A2 (uList t).length c2, [], uList t⟩ : KeyV)], x.ok0 w3 w.heap.size := by
        intro x hx
        rcases List.mem_append.1 hx with hx | hx
        · exact KeyV.ok0_over (KeyV.ok0_below (HA.out x hx) (HB2.out.alloc HB2.out.size _)) ((pw_own_below HK.out HB2.out).alloc _) hG3
        · obtain rfl := List.mem_singleton.1 hx
          refine KeyV.ok0_over (W := w2.alloc _) ⟨Kd.R_nil _ _ _ _ _, Kd.R_alloc (Kd.R_lower HU.out HB.out.size) _, by simp, ?_⟩ ((pw_own_below HK.out HB2.out).alloc _) hG3
          have := uList_length t
          show (uList t).length ≤ _
          omega
      have hTn : (ks ++ [(⟨t, .slice none 0 0, .slice A2 (uList t).length c2, [], uList t⟩ : KeyV)]).map KeyV.text = list.take (i + 1) := by
        rw [HTK.out, List.map_append, HT.out]
        rfl
      have hQn : ∀ x ∈ ks ++ [(⟨t, .slice none 0 0, .slice A2 (uList t).length c2, [], uList t⟩ : KeyV)], (x.l1, x.l2) = orderOf x.text := by
        intro x hx
        rcases List.mem_append.1 hx with hx | hx
        · exact HO5.out x hx
        · obtain rfl := List.mem_singleton.1 hx
          rfl
      have hFn := hO3.form (by omega)
      have hOn : w3.ownsRow w.heap.size 49 3 v1 (i + 1) ((ks ++ [(⟨t, .slice none 0 0, .slice A2 (uList t).length c2, [], uList t⟩ : KeyV)]).flatMap KeyV.enc) := by
        rw [List.flatMap_append]
        exact hO3
      have HO3 := Aside1.mk hOn
      have HB3 := Aside1.mk hB3
      have HA3 := Aside1.mk hAn
      have HT3 := Aside1.mk hTn
      have HQ3 := Aside1.mk hQn
      have HF3 := Aside1.mk hFn
      clear hO3 hB3 hG3 hAn hTn hOn hQn hFn
      go_wp2
      go_roundw
      case rel =>
        obtain ⟨g', cap', he, _⟩ := HF3.out
        exact ⟨i + 1, _, by omega, by simp [hkl], by go_num, HO3, HB3, HT3, HQ3, ⟨g', cap', he⟩, HA3⟩
      case measure => simp [intOf]; omega
    · obtain rfl : i = list.length := by omega
      obtain ⟨W1, rfl⟩ : ∃ W1 : World, W1 = wr := ⟨_, rfl⟩
      obtain ⟨cur, hcur⟩ := own_typed HK.out g rfl
      have hok : ∀ x ∈ ks, x.ok W1 w.heap.size g := fun x hx =>
        ⟨Kd.R_mono (Kd.R_types (HA.out x hx).1 hcur (by decide)) (fun _ hk => hk.2), Kd.R_mono (Kd.R_types (HA.out x hx).2.1 hcur (by decide)) (fun _ hk => hk.2), (HA.out x hx).2.2⟩
      obtain ⟨ds, hds⟩ : ∃ ds : List (KeyS W1 w.heap.size g), ds.map (·.1) = ks := ⟨ks.pmap Subtype.mk hok, by simp [List.map_pmap]⟩
      have hfl : ks.flatMap KeyV.enc = ds.flatMap encS := by
        rw [← hds, List.flatMap_map]; rfl
      have hdl : ds.length = list.length := by rw [← hkl, ← hds, List.length_map]
      have hgB : w.heap.size ≤ g := own_base HK.out g rfl
      have hgl : g < W1.heap.size := own_lt HK.out g rfl
      have hH : HoldsK encS 3 W1 g 0 ds.toArray := holds_of_own (b := w.heap.size) (n := list.length) (cap := cap) (by rw [← hfl]; exact HK.out)
      have hcon := sortStable_small W1 w.heap.size g cap ds.toArray hH hgl (by simp; omega)
      have hperm := insertionSort_holds (lt := ltOf (cmpS (w := W1) (base := w.heap.size) (blk := g))) swoS ds.toArray 0 ds.toArray.size (by omega) (by omega)
      simp only [List.size_toArray, hdl] at hcon hperm
      generalize insertionSort (ltOf cmpS) ds.toArray 0 list.length = d' at hcon hperm
      have hds' : d'.size = list.length := by rw [hperm.1.1]; simpa using hdl
      have hkeep : ∀ nn os, HoldsK encS 3 (sortWorldK encS 3 W1 g 0 nn d' os) g 0 d' := fun nn os => holdsK_sortWorldK encS 3 W1 g 0 nn ds.toArray d' os hgl hH hperm.1.1
      have hBs : ∀ nn os, RowKit.Below w.heap.size W1 (sortWorldK encS 3 W1 g 0 nn d' os) := fun nn os => below_sortWorldK encS 3 W1 w.heap.size g 0 nn d' os hgB HB.out.size
      have HKEEP := Aside1.mk hkeep
      have HBS := Aside1.mk hBs
      have HPERM := Aside1.mk hperm
      have HCON := Aside1.mk hcon
      clear hkeep hBs hperm hcon hH hcur
      go_wp2_with fail
      refine HCON.out.mono ?_
      rintro e W2 ⟨rfl, nn, os, hW2⟩
      have hk2 := HKEEP.out nn os
      have hb2 := HBS.out nn os
      rw [← hW2] at hk2 hb2
      have hcell : ∀ i, i < list.length → ∀ c v, (encS d'[i]!)[c]? = some v → W2.cell? ((⟨g, 0 + i * 3, none⟩ : Addr).add c) = some v := fun i hi' => HoldsK.cells hk2 encS_len (by rw [hds']; exact hi')
      have hg2 : g < W2.heap.size := Nat.lt_of_lt_of_le hgl (by rw [hW2]; exact (below_sortWorldK encS 3 W1 0 g 0 nn d' os (Nat.zero_le _) (Nat.zero_le _)).size)
      have HB2 := Aside1.mk (HB.out.trans hb2)
      have HCELL := Aside1.mk hcell
      clear hW2 hk2 hb2 hcell HCON HKEEP HBS
      obtain ⟨i9, hi9, hz90, hz91, hz92⟩ := info_parts info9x
      obtain ⟨W3, hmk3, hown3, hg3⟩ := run_make_own (P := Tryz.prog) W2 W2.heap.size 28 9 i9 _ 1 Tryz.underlying28 hi9 hz90 hz91 .i64 .i64 list.length (by rw [hz92]; omega) (by unfold maxLen; omega) (Nat.le_refl _)
      have HO3 := Aside1.mk hown3
      have HG3 := Aside1.mk hg3
      clear hown3 hg3 hmk
      go_wp2_with fail
      go_loopw [9, 42] (fun v9 v42 wx => ∃ i : Nat, i ≤ list.length ∧ v42 = .int .i64 i ∧ Aside1 (Kd.R Kd.string 9 wx W2.heap.size (fun _ => True) v9 (textsTo d' i)) ∧ Aside1 (RowKit.Below W2.heap.size W2 wx)) (fun _ v42 _ => list.length - (intOf v42).toNat)
      case atStart => exact ⟨0, by omega, rfl, ⟨Kd.R_of_own (xs := []) HO3.out (fun _ _ => trivial)⟩, ⟨(RowKit.Below.refl _ _).grown HG3.out (Nat.le_refl _) (by simp)⟩⟩
      case round =>
        obtain ⟨i, hi1, rfl, HR9, HBx⟩ := hrel
        by_cases hlt2 : i < list.length
        · have hc3 : ∀ c v, (encS d'[i]!)[c]? = some v → wr.cell? ⟨g, i * 3 + c, none⟩ = some v := by
            intro c v hv
            have := HCELL.out i hlt2 c v hv
            rw [Addr.add_lit, Nat.zero_add] at this
            exact (HBx.out.cell (p := ⟨g, i * 3 + c, none⟩) hg2).trans this
          have hx0 := hc3 0 _ rfl
          have hx1 := hc3 1 _ rfl
          have hx2 := hc3 2 _ rfl
          have htk : d'.toList.take (i + 1) = d'.toList.take i ++ [d'[i]!] := by
            have hs' : i < d'.toList.length := by simp [hds', hlt2]
            rw [List.take_succ_eq_append_getElem hs']
            congr 2
            rw [Array.getElem_toList]
            exact (getElem!_pos d' i _).symm
          have htk2 : textsTo d' (i + 1) = textsTo d' i ++ [(d'[i]!).1.text] := by unfold textsTo; rw [htk, List.map_append]; rfl
          rw [Nat.add_zero] at hx0
          obtain ⟨A1, c1, e1⟩ := Kd.R_slice (d'[i]!).2.1
          obtain ⟨A2, c2, e2⟩ := Kd.R_slice (d'[i]!).2.2.1
          rw [e1] at hx1
          rw [e2] at hx2
          generalize (d'[i]!).1.l1.length = n1 at hx1
          generalize (d'[i]!).1.l2.length = n2 at hx2
          generalize (d'[i]!).1.text = tx at hx0 htk2
          have HTK := Aside1.mk htk2
          clear hc3 htk htk2 e1 e2
          go_wp2_with ((with_reducible refine gate_builtin (b := .append) (xs := #[.tmp 46, .tmp 49]) rfl ?_); at_builtin; refine Kd.R_append Kd.string (w0 := W2) W2.heap.size rfl (.tmp 46) (.tmp 49) 28 9 (.string ⟨#[]⟩) 16 rfl Tryz.underlying28 info9x rfl (by decide) (by decide) u9 (textsTo d' i) tx [.string tx] (fun _ => True) (fun _ => False) rfl ?cX ?aP (fun _ hk => hk.elim) (fun _ _ => trivial) ?aO ?aB ?aS ?aL ?_)
          case cX => rw [alloc_sz]; rfl
          case aP => rfl
          case aO => exact Kd.R_alloc HR9.out _
          case aB => exact HBx.out.alloc HBx.out.size _
          case aS => rw [alloc_sz]; have := HBx.out.size; omega
          case aL => have := textsTo_le d' i; omega
          intro v4 w4 ho hb _ _
          rw [← HTK.out] at ho
          have HO4 := Aside1.mk ho
          have HB4 := Aside1.mk hb
          clear ho hb HTK
          go_wp2
          go_roundw
          case rel => exact ⟨i + 1, by omega, by go_num, HO4, HB4⟩
          case measure => simp [intOf]; omega
        · obtain rfl : i = list.length := by omega
          go_wp2_with fail
          go_ret
          have hfin := sorted_tells hds HT.out HO5.out hdl HPERM.out.1 HPERM.out.2
          rw [List.take_of_length_le (Nat.le_refl _)] at hfin
          exact ⟨_, rfl, _, Kd.R_lower HR9.out HB2.out.size, HB2.out.trans (HBx.out.mono HB2.out.size), hfin⟩
end Go.Proofs.YteippkoomlganaaGreatDoor
