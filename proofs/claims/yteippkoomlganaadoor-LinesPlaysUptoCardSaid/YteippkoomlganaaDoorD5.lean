import Derived.Test.YteippkoomlganaaDoorD6
import Derived.Test.YteippkoomlganaaDoorC4
set_option linter.unusedVariables false
set_option linter.unusedSimpArgs false
namespace Go.Proofs.YteippkoomlganaaDoor
open Go.RowKit Go.Shelf
attribute [local go_sem] Oper.semAt_some

/-- A row, read: the value's form, and each cell. -/
theorem row_read {W : World} {base : Nat} {e : TypeId} {v : Value} {n : Nat} {xs : List Value} (h : W.ownsRow base e 1 v n xs) :
    ∃ p cap g, v = .slice p n cap ∧ (0 < n → p = some ⟨g, 0, none⟩ ∧ base ≤ g ∧ g < W.heap.size) ∧ ∀ i x, xs[i]? = some x → W.cell? ⟨g, i, none⟩ = some x := by
  obtain ⟨h1, ⟨rfl, rfl⟩ | ⟨g, cap, cur, rfl, hb, hg, hc, hm, hz, rfl⟩⟩ := h
  · refine ⟨none, 0, 0, rfl, fun h => absurd h (by omega), fun i x hx => ?_⟩
    have : xs = [] := List.eq_nil_of_length_eq_zero (by omega)
    subst this
    simp at hx
  · refine ⟨_, cap, g, rfl, fun _ => ⟨rfl, hb, (Array.getElem?_eq_some_iff.1 hg).1⟩, fun i x hx => ?_⟩
    rw [List.getElem?_take] at hx
    split at hx
    · simp only [World.cell?, hg]
      simpa using hx
    · cases hx

theorem places_at (L : List (Nat × ByteArray)) (i : Nat) (x : Nat × ByteArray) (h : L[i]? = some x) : (placesOf L)[i]? = some (.int .i64 (x.1 : Int)) ∧ (textsOf L)[i]? = some (.string x.2) := by
  simp [placesOf, textsOf, h]
theorem linesF_step (s : ByteArray) (k f : Nat) (h : f < s.size) (hk : s.size - f ≤ k) : linesF s k f = (f, lineText s f) :: linesF s (k - 1) (lineNext s f) := by
  obtain ⟨k', rfl⟩ : ∃ m, k = m + 1 := ⟨k - 1, by omega⟩
  rw [linesF, if_pos h]; rfl
theorem get_mid (s : ByteArray) (f e j : Nat) (he : e ≤ s.size) (h : f + j < e) : (s.extract f e).get! j = s.get! (f + j) := by
  have h1 : j < (s.extract f e).size := by rw [ByteArray.size_extract]; omega
  have h0 : f + j < s.data.toList.length := by rw [← Lib.size_eq]; omega
  have h2 : j < (s.extract f e).data.toList.length := by rw [← Lib.size_eq]; omega
  apply Option.some.inj
  rw [← get_in s (f + j) (by omega), ← List.getElem?_eq_getElem h0, ← get_in _ j h1, ← List.getElem?_eq_getElem h2, ByteArray.data_extract, Array.toList_extract, List.extract_eq_take_drop, List.getElem?_take, List.getElem?_drop, if_pos (by omega)]
theorem join_mid (s : ByteArray) (f e : Nat) (h1 : f ≤ e) (h2 : e ≤ s.size) : s.extract 0 f ++ s.extract f e = s.extract 0 e := by
  rw [ByteArray.extract_append_extract]; congr 1 <;> omega
theorem join_ten (s : ByteArray) (e : Nat) (h2 : e < s.size) (h : s.get! e = 10) : s.extract 0 e ++ ⟨#[10]⟩ = s.extract 0 (e + 1) := by
  rw [← join_mid s e (e + 1) (by omega) (by omega)]
  congr 1
  apply ByteArray.ext
  rw [ByteArray.data_extract]
  apply Array.ext'
  have h0 : e < s.data.toList.length := by rw [← Lib.size_eq]; exact h2
  rw [Array.toList_extract, List.extract_eq_take_drop, show e + 1 - e = 1 by omega, List.drop_eq_getElem_cons h0, get_in s e h2, h]
  rfl
theorem at_pos1 {L : List (Nat × ByteArray)} {i : Nat} {x : Value} (h : (placesOf L)[i]? = some x) : 0 < L.length := by
  have := (List.getElem?_eq_some_iff.1 h).1
  unfold placesOf at this; simp at this; omega
theorem at_pos2 {L : List (Nat × ByteArray)} {i : Nat} {x : Value} (h : (textsOf L)[i]? = some x) : 0 < L.length := by
  have := (List.getElem?_eq_some_iff.1 h).1
  unfold textsOf at this; simp at this; omega
theorem linesL_pos (s : ByteArray) (h : 0 < s.size) : 0 < (linesL s).length := by
  unfold linesL
  rw [linesF_step s s.size 0 h (by omega)]; simp

set_option maxRecDepth 100000 in
set_option maxHeartbeats 2000000 in
theorem whole_in (s : ByteArray) (cut : Int) (hcut : IntKind.i64.wrap cut = cut) (w : World) (hs : s.size ≤ 1048576) (hT : Lib.Utf8Tabs 1 2 w) (h3 : 3 ≤ w.heap.size) :
    CallsIn Fence.wide 4 Tryd.prog 4 #[.string s, .int .i64 cut] w fun e W' => e = .returned (.bool true) ∧ Below w.heap.size w W' := by
  have hll := linesL_len s
  have hfn := fn_not_nil
  refine callsIn_of_wp_marks Tryd.func4 rfl trivial ?_ rfl
  simp only [Tryd.ntmps4, List.size_toArray, List.length_cons, List.length_nil, Nat.reduceAdd, Nat.reduceSub, Array.replicate_succ, Array.replicate_zero, List.push_toArray, List.append_toArray, List.nil_append, List.cons_append]
  have hB0 : Below w.heap.size w ((w.alloc (.cells #[.int .i64 cut] 3)).alloc (.cells #[.bool false] 4)) := ((Below.refl _ w).alloc (Nat.le_refl _) _).alloc (by simp) _
  have HA := Aside1.mk (awake_any ((w.alloc (.cells #[.int .i64 cut] 3)).alloc (.cells #[.bool false] 4)) (tabs_below hT h3 hB0) (by simp; omega))
  gi_wp2_with fail
  refine ⟨trivial, (callsIn_wide.2 HA.out).mono ?_⟩
  rintro e w1 ⟨rfl, hB1⟩
  clear HA
  have bC : Boxed w1 w.heap.size 3 (.int .i64 cut) := (hB1.block _ (by simp; try omega)).trans ((Boxed.new w 3 (.int .i64 cut)).alloc _)
  have bR : Boxed w1 (w.heap.size + 1) 4 (.bool false) := (hB1.block _ (by simp; try omega)).trans (by have := Boxed.new (w.alloc (.cells #[.int .i64 cut] 3)) 4 (.bool false); rwa [World.size_alloc] at this)
  have hBw : Below w.heap.size w w1 := hB0.trans (hB1.mono (by simp; try omega))
  have hw1 : w.heap.size + 2 ≤ w1.heap.size := by have := hB1.size; simp at this; omega
  clear hB0 hB1 hT
  have HBw := Aside1.mk hBw
  have HC := Aside1.mk bC
  have HR := Aside1.mk bR
  clear bC bR hBw
  gi_wp2_with fail
  refine ⟨trivial, (all_in s w1 hs).mono ?_⟩
  rintro e w2 ⟨v1, v2, rfl, r1, r2, hB2⟩
  have hw2 := hB2.size
  have bC : Boxed w2 w.heap.size 3 (.int .i64 cut) := (hB2.block _ (by omega)).trans HC.out
  have bR : Boxed w2 (w.heap.size + 1) 4 (.bool false) := (hB2.block _ (by omega)).trans HR.out
  have hBw : Below w.heap.size w w2 := HBw.out.trans (hB2.mono (by omega))
  obtain ⟨p1, c1, g1, rfl, hg1, hx1⟩ := row_read r1
  obtain ⟨p2, c2, g2, rfl, hg2, hx2⟩ := row_read r2
  clear HC HR HBw hB2 r1 r2
  have HX1 := Aside1.mk hx1
  have HX2 := Aside1.mk hx2
  have HG1 := Aside1.mk hg1
  have HG2 := Aside1.mk hg2
  have HC := Aside1.mk bC
  have HR := Aside1.mk bR
  have HB := Aside1.mk hBw
  clear hx1 hx2 hg1 hg2 bC bR hBw
  gi_wp2_with fail
  have b5 : Boxed ((w2.alloc (.cells #[.slice p1 (linesL s).length c1] 30)).alloc (.cells #[.slice p2 (linesL s).length c2] 22)) w2.heap.size 30 (.slice p1 (linesL s).length c1) := (Boxed.new w2 _ _).alloc _
  have b6 : Boxed ((w2.alloc (.cells #[.slice p1 (linesL s).length c1] 30)).alloc (.cells #[.slice p2 (linesL s).length c2] 22)) (w2.heap.size + 1) 22 (.slice p2 (linesL s).length c2) := by
    have := Boxed.new (w2.alloc (.cells #[.slice p1 (linesL s).length c1] 30)) 22 (.slice p2 (linesL s).length c2)
    rwa [World.size_alloc] at this
  have hB02 : Below w2.heap.size w2 ((w2.alloc (.cells #[.slice p1 (linesL s).length c1] 30)).alloc (.cells #[.slice p2 (linesL s).length c2] 22)) := ((Below.refl _ w2).alloc (Nat.le_refl _) _).alloc (by simp) _
  have hsz0 : ((w2.alloc (.cells #[.slice p1 (linesL s).length c1] 30)).alloc (.cells #[.slice p2 (linesL s).length c2] 22)).heap.size = w2.heap.size + 1 + 1 := by simp only [World.size_alloc]
  generalize ((w2.alloc (.cells #[.slice p1 (linesL s).length c1] 30)).alloc (.cells #[.slice p2 (linesL s).length c2] 22)) = W0 at *
  have hlt1 : ∀ i x, (placesOf (linesL s))[i]? = some x → 0 < (linesL s).length := fun i x h => by
    have := (List.getElem?_eq_some_iff.1 h).1
    unfold placesOf at this; simp at this; omega
  have hlt2 : ∀ i x, (textsOf (linesL s))[i]? = some x → 0 < (linesL s).length := fun i x h => by
    have := (List.getElem?_eq_some_iff.1 h).1
    unfold textsOf at this; simp at this; omega
  have HX1' := Aside1.mk (fun i x h => (hB02.cell (p := ⟨g1, i, none⟩) (HG1.out (hlt1 i x h)).2.2).trans (HX1.out i x h) : ∀ i x, (placesOf (linesL s))[i]? = some x → W0.cell? ⟨g1, i, none⟩ = some x)
  have HX2' := Aside1.mk (fun i x h => (hB02.cell (p := ⟨g2, i, none⟩) (HG2.out (hlt2 i x h)).2.2).trans (HX2.out i x h) : ∀ i x, (textsOf (linesL s))[i]? = some x → W0.cell? ⟨g2, i, none⟩ = some x)
  have HC' := Aside1.mk ((hB02.block w.heap.size (by omega)).trans HC.out : Boxed W0 w.heap.size 3 (.int .i64 cut))
  have HR' := Aside1.mk ((hB02.block (w.heap.size + 1) (by omega)).trans HR.out : Boxed W0 (w.heap.size + 1) 4 (.bool false))
  have HB' := Aside1.mk (HB.out.trans (hB02.mono (by omega)))
  have H5 := Aside1.mk b5
  have H6 := Aside1.mk b6
  have h5 := b5.cell
  have h6 := b6.cell
  clear HX1 HX2 HC HR HB hB02 b5 b6
  have HL1 := Aside1.mk hlt1
  have HL2 := Aside1.mk hlt2
  clear hlt1 hlt2
  generalize hL : linesL s = L at *
  gi_loopw [8, 9] (fun v8 v9 wr => ∃ (f k : Nat) (pre : List (Nat × ByteArray)), f ≤ s.size ∧ s.size - f ≤ k ∧ v8 = .string (s.extract 0 f) ∧ v9 = .int .i64 (pre.length : Int) ∧ Hid (pre ++ linesF s k f = L) ∧ wr = W0)
    (fun v8 v9 _ => L.length - (intOf v9).toNat)
  case atStart => exact ⟨0, s.size, [], Nat.zero_le _, by omega, by simp; rfl, rfl, hL, rfl⟩
  case round =>
    obtain ⟨f, k, pre, hf, hk, rfl, rfl, hpre, rfl⟩ := hrel
    by_cases hlt : f < s.size
    · obtain ⟨e, he1, he2, he3, he4, he5⟩ := line_spec s f hlt
      have hst := linesF_step s k f hlt hk
      have hpl : pre.length < L.length := by
        have := hpre.out; rw [hst] at this; rw [← this]; simp
      have hat : L[pre.length]? = some (f, lineText s f) := by
        have := hpre.out; rw [hst] at this; rw [← this]; simp
      obtain ⟨a1, a2⟩ := places_at L _ _ hat
      have q1 := HX1'.out _ _ a1
      have q2 := HX2'.out _ _ a2
      obtain ⟨rfl, _, _⟩ := HG1.out (by omega)
      obtain ⟨rfl, _, _⟩ := HG2.out (by omega)
      rw [he3] at q2
      have hE : (s.extract 0 f).size = f := extract0_size s f hf
      have hE2 : (s.extract f e).size = e - f := by rw [ByteArray.size_extract]; omega
      generalize hT0 : s.extract f e = tx at *
      generalize hJ0 : s.extract 0 f = jo at *
      have hne : ∀ j, j < e - f → tx.get! j ≠ 10 := fun j hj => by
        rw [← hT0, get_mid s f e j he2 (by omega)]
        exact he4 _ (by omega) (by omega)
      clear a1 a2 hat hst he4
      gi_wp2_with fail
      obtain ⟨W1, hW1⟩ : ∃ W1 : World, W1 = wr := ⟨_, rfl⟩
      gi_loopw [10] (fun v10 wr2 => ∃ m : Nat, m ≤ e - f ∧ v10 = .int .i64 (m : Int) ∧ wr2 = wr) (fun v10 _ => e - f - (intOf v10).toNat)
      case atStart => exact ⟨0, Nat.zero_le _, rfl, rfl⟩
      case round =>
        obtain ⟨m, hm, rfl, rfl⟩ := hrel
        by_cases hml : m < e - f
        · have hnb := hne m hml
          have hb6 : ∀ h, (((tx[m]'h).toNat : Int) == 10) = false := fun h => by
            rw [beq_eq_false_iff_ne, byte_get]
            intro e
            exact hnb (UInt8.toNat_inj.1 (Int.ofNat_inj.1 e))
          gi_wp2_with fail
          go_roundw
          case rel => exact ⟨m + 1, by omega, rfl, trivial⟩
          case measure => simp [intOf]; omega
        · obtain rfl : m = e - f := by omega
          rcases he5 with ⟨hd1, hd2, hd3, hd4⟩ | ⟨hd1, hd2, hd3⟩
          · have hjn : Hid (jo ++ tx ++ ⟨#[10]⟩ = s.extract 0 (e + 1)) := by
              show _ = _
              rw [← hJ0, ← hT0, join_mid s f e he1 he2, join_ten s e hd2 hd3]
            have hpn : Hid ((pre ++ [(f, lineText s f)]) ++ linesF s (k - 1) (e + 1) = L) := by
              show _ = _
              have := hpre.out
              rw [linesF_step s k f hlt hk, hd4] at this
              rw [← this]; simp
            clear hd1 hd3 hd4 hpre hJ0 hT0
            gi_wp2_with fail
            go_roundw
            case rel => exact ⟨e + 1, k - 1, _, by omega, by omega, congrArg Value.string hjn.out, by simp, hpn, trivial⟩
            case measure => simp [intOf]; omega
          · have hjn : Hid (jo ++ tx = s.extract 0 s.size) := by
              show _ = _
              rw [← hJ0, ← hT0, join_mid s f e he1 he2, hd2]
            have hpn : Hid ((pre ++ [(f, lineText s f)]) ++ linesF s (k - 1) s.size = L) := by
              show _ = _
              have := hpre.out
              rw [linesF_step s k f hlt hk, hd3] at this
              rw [← this]; simp
            have hlen : L.length = pre.length + 1 := by
              have := hpn.out
              rw [linesF_end s _ _ (by omega)] at this
              rw [← this]; simp
            clear hd1 hd3 hpre hJ0 hT0
            gi_wp2_with fail
            go_roundw
            case rel => exact ⟨s.size, k - 1, _, by omega, by omega, congrArg Value.string hjn.out, by simp, hpn, trivial⟩
            case measure => simp [intOf]; omega
    · obtain rfl : f = s.size := by omega
      have hpe : pre = L := by
        have := hpre.out
        rwa [linesF_end s k _ hlt, List.append_nil] at this
      have hse : s.extract 0 s.size = s := ByteArray.extract_zero_size
      have hpos := linesL_pos s
      rw [hL] at hpos
      clear hpre hlt hk hf
      subst hpe
      rw [hse]
      gi_wp2_with fail
      all_goals
        refine ⟨trivial, (lines_in 3 s _).mono ?_⟩
        rintro e w' ⟨rfl, rfl⟩
        have bA := Boxed.new wr 9 (.string s)
        rw [hsz0] at bA
        have hBA : Below wr.heap.size wr (wr.alloc (.cells #[.string s] 9)) := (Below.refl _ wr).alloc (Nat.le_refl _) _
        have hzA : (wr.alloc (.cells #[.string s] 9)).heap.size = wr.heap.size + 1 := by simp only [World.size_alloc]
        generalize (wr.alloc (.cells #[.string s] 9)) = W3 at *
        have X1 := Aside1.mk (fun i x h => (hBA.cell (p := ⟨g1, i, none⟩) (by have := (HG1.out (HL1.out i x h)).2.2; show g1 < _; omega)).trans (HX1'.out i x h) : ∀ i x, (placesOf pre)[i]? = some x → W3.cell? ⟨g1, i, none⟩ = some x)
        have X2 := Aside1.mk (fun i x h => (hBA.cell (p := ⟨g2, i, none⟩) (by have := (HG2.out (HL2.out i x h)).2.2; show g2 < _; omega)).trans (HX2'.out i x h) : ∀ i x, (textsOf pre)[i]? = some x → W3.cell? ⟨g2, i, none⟩ = some x)
        have T3 := Aside1.mk ((hBA.block w.heap.size (by omega)).trans HC'.out : Boxed W3 w.heap.size 3 (.int .i64 cut))
        have T4 := Aside1.mk ((hBA.block (w.heap.size + 1) (by omega)).trans HR'.out : Boxed W3 (w.heap.size + 1) 4 (.bool false))
        have T5 := Aside1.mk ((hBA.block _ (by omega)).trans H5.out : Boxed W3 w2.heap.size 30 _)
        have T6 := Aside1.mk ((hBA.block _ (by omega)).trans H6.out : Boxed W3 (w2.heap.size + 1) 22 _)
        have T7 := Aside1.mk (HB'.out.trans (hBA.mono (by omega)))
        have T8 := Aside1.mk bA
        clear HX1' HX2' HC' HR' H5 H6 HB' bA hBA h5 h6 HL1 HL2 hse hpos
        have HW3 := Below.refl W3.heap.size W3
        gi_wp2_with fail
        refine wpIn_loop (LoopRel w.heap.size w2.heap.size W3) (fun a' _ => 2 - (intOf (a'.tmps.getD 12 undef)).toNat) ?_ ?_
        · exact LoopRel.mk 0 [] rfl rfl rfl rfl rfl rfl rfl (by omega) ⟨HW3, List.nodup_nil, fun D h => absurd h (by simp)⟩
        · rintro a' Wc ⟨r, Ds, f, ⟨hr, hWc, hnd, hDs⟩, rfl⟩
          unfold tmps131
          by_cases hr2 : r < 2
          · gi_wp2_with fail
            have bN := Boxed.new Wc 3 (.int .i64 0)
            have hN1 : Below Wc.heap.size Wc (Wc.alloc (.cells #[.int .i64 0] 3)) := (Below.refl _ Wc).alloc (Nat.le_refl _) _
            have hzN : (Wc.alloc (.cells #[.int .i64 0] 3)).heap.size = Wc.heap.size + 1 := by simp only [World.size_alloc]
            generalize (Wc.alloc (.cells #[.int .i64 0] 3)) = Wn at *
            have hzc := hWc.size
            have Y1 := Aside1.mk (fun i x h => (hWc.cell (p := ⟨g1, i, none⟩) (by have := (HG1.out (at_pos1 h)).2.2; show g1 < _; omega)).trans (X1.out i x h) : ∀ i x, (placesOf pre)[i]? = some x → Wc.cell? ⟨g1, i, none⟩ = some x)
            have Y2 := Aside1.mk (fun i x h => (hWc.cell (p := ⟨g2, i, none⟩) (by have := (HG2.out (at_pos2 h)).2.2; show g2 < _; omega)).trans (X2.out i x h) : ∀ i x, (textsOf pre)[i]? = some x → Wc.cell? ⟨g2, i, none⟩ = some x)
            have Y3 := Aside1.mk ((hWc.block w.heap.size (by omega)).trans T3.out : Boxed Wc w.heap.size 3 (.int .i64 cut))
            have Y4 := Aside1.mk ((hWc.block (w.heap.size + 1) (by omega)).trans T4.out : Boxed Wc (w.heap.size + 1) 4 (.bool false))
            have Y5 := Aside1.mk ((hWc.block _ (by omega)).trans T5.out : Boxed Wc w2.heap.size 30 _)
            have Y6 := Aside1.mk ((hWc.block _ (by omega)).trans T6.out : Boxed Wc (w2.heap.size + 1) 22 _)
            have Y8 := Aside1.mk ((hWc.block _ (by omega)).trans T8.out : Boxed Wc (w2.heap.size + 1 + 1) 9 (.string s))
            have BN := Aside1.mk bN
            have HN1 := Aside1.mk hN1
            have HWc := Aside1.mk hWc
            clear bN hN1 hWc
            have hcA : Wn.cell? ⟨w2.heap.size + 1 + 1, 0, none⟩ = some (.string s) := by
              have b : Boxed Wn (w2.heap.size + 1 + 1) 9 (.string s) := (HN1.out.block _ (by omega)).trans Y8.out
              exact b.cell
            refine' wpIn_rangeFunc_ownG rfl (by decide) (gf := 30) (lb := #[.pointer (some ⟨w2.heap.size + 1 + 1, 0, none⟩)]) rfl trivial (enters_of Tryd.func30 (by kernel_rfl) rfl) (lines_stops 3 (by decide) (w2.heap.size + 1 + 1) s (by omega) Wn (by omega) hcA) (fun h k => h.trans k) (fun W l o o' hl _ _ _ => KpB.put W l o' (by omega)) (Below.refl _ _) (fun _ => rfl) (fun pr W => Boxed W Wc.heap.size 3 (.int .i64 (pr.length : Int)) ∧ Below Wc.heap.size Wc W) (fun c pr W => (c = .exit 6 ∧ (pr.length : Int) = cut ∧ Boxed W Wc.heap.size 3 (.int .i64 (pr.length : Int)) ∧ Below Wc.heap.size Wc W) ∨ (c = .ret ∧ ¬ pr <+: pre)) ?_ ?_ ?_ _ ?_ ?_ ?_ ?_
            rotate_left 4
            · intro l x W K hK
              dsimp only [encL]
              gi_wp2
              exact hK
            · rintro l pr x W ⟨hb, hBW⟩ hlen
              rw [hL] at hlen
              obtain ⟨y, hy⟩ : ∃ y, pre[pr.length]? = some y := ⟨_, List.getElem?_eq_getElem hlen⟩
              obtain ⟨a1, a2⟩ := places_at pre _ _ hy
              have q1 := (hBW.cell (p := ⟨g1, pr.length, none⟩) (by have := (HG1.out (at_pos1 a1)).2.2; show g1 < _; omega)).trans (Y1.out _ _ a1)
              have q2 := (hBW.cell (p := ⟨g2, pr.length, none⟩) (by have := (HG2.out (at_pos2 a2)).2.2; show g2 < _; omega)).trans (Y2.out _ _ a2)
              have z3 : Boxed W w.heap.size 3 (.int .i64 cut) := (hBW.block _ (by omega)).trans Y3.out
              have z4 : Boxed W (w.heap.size + 1) 4 (.bool false) := (hBW.block _ (by omega)).trans Y4.out
              have z5 : Boxed W w2.heap.size 30 (.slice p1 pre.length c1) := (hBW.block _ (by omega)).trans Y5.out
              have z6 : Boxed W (w2.heap.size + 1) 22 (.slice p2 pre.length c2) := (hBW.block _ (by omega)).trans Y6.out
              have c3 := z3.cell
              have c4 := z4.cell
              have f4 := z4.frozen
              have c5 := z5.cell
              have c6 := z6.cell
              have cn := hb.cell
              have fn := hb.frozen
              obtain ⟨rfl, _, _⟩ := HG1.out (by omega)
              obtain ⟨rfl, _, _⟩ := HG2.out (by omega)
              clear z3 z4 z5 z6 a1 a2
              have hnp : x ≠ y → ¬ (pr ++ [x]) <+: pre := fun hne ⟨t, ht⟩ => by
                rw [← ht] at hy
                simp at hy
                exact hne hy
              have hll2 : pr.length < 1048576 := by omega
              have hsl : wr.heap.size + 1 ≤ Wc.heap.size := by omega
              by_cases e1 : x.1 = y.1
              · by_cases e2 : x.2 = y.2
                · obtain rfl : x = y := Prod.ext e1 e2
                  have hbx : Boxed (W.setCell ⟨Wc.heap.size, 0, none⟩ (.int .i64 ((pr.length : Int) + 1))) Wc.heap.size 3 (.int .i64 ((pr ++ [x]).length : Int)) := by
                    have := hb.set (.int .i64 ((pr.length : Int) + 1))
                    rwa [List.length_append]
                  by_cases hc : (pr.length : Int) + 1 = cut
                  · have hcb : ((pr.length : Int) + 1 == cut) = true := beq_iff_eq.2 hc
                    gi_wp2_with fail
                    all_goals first | (exfalso; clear q1 q2 hy hnp; omega) | exact ⟨(KeepsOthers.setCell _ _ _).from _, .inl ⟨rfl, by simp only [List.length_append, List.length_cons, List.length_nil]; omega, (by rw [← hc]; exact hbx), hBW.setCell (p := ⟨Wc.heap.size, 0, none⟩) (Nat.le_refl _) _⟩⟩
                  · have hcb : ((pr.length : Int) + 1 == cut) = false := beq_eq_false_iff_ne.2 hc
                    gi_wp2_with fail
                    all_goals first | (exfalso; clear q1 q2 hy hnp; omega) | exact ⟨(KeepsOthers.setCell _ _ _).from _, Below.heap_setCell _ _ _ _ (by simp; omega), hbx, hBW.setCell (p := ⟨Wc.heap.size, 0, none⟩) (Nat.le_refl _) _⟩
                · have hp2 := hnp (fun e => e2 (congrArg Prod.snd e))
                  have hcs : (x.2.toList == y.2.toList) = false := beq_eq_false_iff_ne.2 (fun e => e2 (ByteArray.ext (Array.toList_inj.1 (by rwa [ByteArray.toList_eq, ByteArray.toList_eq] at e))))
                  rw [← e1] at q1
                  gi_wp2_with fail
                  all_goals first | (exfalso; clear q1 q2 hy hnp; omega) | exact ⟨(KeepsOthers.setCell _ _ _).from _, .inr ⟨rfl, hp2⟩⟩
              · have hcb : ((x.1 : Int) == (y.1 : Int)) = false := beq_eq_false_iff_ne.2 (fun e => e1 (Int.ofNat_inj.1 e))
                have hp2 := hnp (fun e => e1 (congrArg Prod.fst e))
                gi_wp2_with fail
                all_goals first | (exfalso; clear q1 q2 hy hnp; omega) | exact ⟨(KeepsOthers.setCell _ _ _).from _, .inr ⟨rfl, hp2⟩⟩
            rotate_left 2
            · exact OwnFrom.and (Own.from (boxed_own _ _ _) _) (ownFrom_below (Nat.le_refl _) (by omega))
            · intro c pr A B row h hg hr
              rcases h with ⟨h1, h2, h3⟩ | h
              · have hG : OwnFrom Wn.heap.size (fun (pr : List (Nat × ByteArray)) W => Boxed W Wc.heap.size 3 (.int .i64 (pr.length : Int)) ∧ Below Wc.heap.size Wc W) := OwnFrom.and (Own.from (boxed_own _ _ _) _) (ownFrom_below (Nat.le_refl _) (by omega))
                exact .inl ⟨h1, h2, hG pr A B row h3 hg hr⟩
              · exact .inr h
            · exact ⟨BN.out, HN1.out⟩
            · rintro D ys W hD rfl ⟨hb, hBW⟩ hK
              rw [hL] at hb
              have z3 : Boxed W w.heap.size 3 (.int .i64 cut) := (hBW.block _ (by omega)).trans Y3.out
              have z6 : Boxed W (w2.heap.size + 1) 22 (.slice p2 pre.length c2) := (hBW.block _ (by omega)).trans Y6.out
              have c3 := z3.cell
              have c6 := z6.cell
              have cn := hb.cell
              have HF := Aside1.mk (marks_more hnd hDs HWc.out hBW (by omega) hK)
              clear z3 z6 hnd hDs hK
              gi_wp2_with fail
              all_goals exact ⟨LoopRel.mk (r + 1) (D :: Ds) rfl rfl rfl rfl rfl rfl rfl (by omega) HF.out, by simp [intOf]; omega⟩
            · rintro D c pr W hD hpr hIx hK
              rw [hL] at hpr
              rcases hIx with ⟨rfl, hcc, hb, hBW⟩ | ⟨_, hno⟩
              · have z3 : Boxed W w.heap.size 3 (.int .i64 cut) := (hBW.block _ (by omega)).trans Y3.out
                have z6 : Boxed W (w2.heap.size + 1) 22 (.slice p2 pre.length c2) := (hBW.block _ (by omega)).trans Y6.out
                have c3 := z3.cell
                have c6 := z6.cell
                have cn := hb.cell
                have hlp := hpr.length_le
                have hcb : ((pr.length : Int) == cut) = true := beq_iff_eq.2 hcc
                have HF := Aside1.mk (marks_more hnd hDs HWc.out hBW (by omega) hK)
                clear z3 z6 hnd hDs hK hpr
                gi_wp2_with fail
                all_goals exact ⟨LoopRel.mk (r + 1) (D :: Ds) rfl rfl rfl rfl rfl rfl rfl (by omega) HF.out, by simp [intOf]; omega⟩
              · exact absurd hpr hno
          · obtain rfl : r = 2 := by omega
            have z4 : Boxed Wc (w.heap.size + 1) 4 (.bool false) := (hWc.block _ (by omega)).trans T4.out
            have c4 := z4.cell
            have f4 := z4.frozen
            have z4s := z4.set (.bool true)
            have HZ := Aside1.mk z4s
            have HN := Aside1.mk hnd
            have HD := Aside1.mk hDs
            have HWc := Aside1.mk hWc
            clear z4 z4s hnd hDs hWc
            gi_wp2_with fail
            all_goals refine leaves_marks W3.heap.size Ds _ HN.out (fun D h => ⟨(HD.out D h).1, (Below.heap_setCell _ _ _ D (by have := (HD.out D h).1; simp; omega)).trans (HD.out D h).2.2⟩) fun W' hb' => ?_
            all_goals have zz : Boxed W' (w.heap.size + 1) 4 (.bool true) := (hb'.block _ (by omega)).trans HZ.out
            all_goals exact ⟨_, results_c1 rfl _ _ _ rfl (loadVar_one _ _ _ _ _ _ Tryd.underlying4 (by simp) (by simp) zz.cell), rfl, ((T7.out.trans (HWc.out.mono (by omega))).setCell (p := ⟨w.heap.size + 1, 0, none⟩) (by simp) _).trans (hb'.mono (by omega))⟩
end Go.Proofs.YteippkoomlganaaDoor
