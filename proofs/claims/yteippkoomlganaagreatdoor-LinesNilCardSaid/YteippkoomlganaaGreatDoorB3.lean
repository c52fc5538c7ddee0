import Derived.Test.YteippkoomlganaaGreatDoorB2
set_option linter.unusedVariables false
set_option linter.unusedSimpArgs false
namespace Go.Proofs.YteippkoomlganaaGreatDoor
open Go.RowKit Go.Proofs.YteippkoomlganaaGreatDoorW.PrintWords Go.Proofs.YteippkoomlganaaGreatDoorW.PrintLast Go.Proofs.YteippkoomlganaaGreatDoorW.PrintMore
def sEx : ByteArray := ⟨#[195, 169, 10, 98]⟩
def sA : ByteArray := ⟨#[97]⟩
def sB : ByteArray := ⟨#[98]⟩
theorem ex_border : borderB sEx ((4 : Nat) : Int) = true := by kernel_rfl
theorem ex_line : whereL sEx 4 = 2 := by kernel_rfl
theorem ex_col : whereC sEx 4 = 2 := by kernel_rfl
theorem ex_order : cmpP (orderOf sA) (orderOf sB) = -1 := by kernel_rfl

theorem cell_fresh (w : World) (cs : Array Value) (t j : Nat) (h : j < cs.size) : (w.alloc (.cells cs t)).cell? ⟨w.heap.size, j, none⟩ = some (cs[j]) := by
  simp [h]
theorem strs_fresh (w : World) (xs : List ByteArray) (h : xs.length ≤ 9223372036854775807) : Kd.string.C (w.alloc (.cells (xs.map Value.string).toArray 9)) (some ⟨w.heap.size, 0, none⟩) xs.length xs := by
  refine Kd.C_of_reads (d := ByteArray.empty) ⟨rfl, h, fun hn => ⟨_, rfl, fun j hj => ?_⟩⟩
  rw [add_plain, cell_fresh _ _ _ _ (by simpa using hj)]
  simp [List.getD_eq_getElem?_getD, hj]

theorem sort_two (ts : List ByteArray) (h : ts.Perm [sB, sA]) (hs : ts.Pairwise (fun a b => 0 ≤ cmpP (orderOf b) (orderOf a))) : ts = [sA, sB] := by
  have hl := h.length_eq
  match ts, hl with
  | [x, y], _ =>
    have hx : x = sB ∨ x = sA := by
      have := h.mem_iff (a := x)
      simpa using this.1 (by simp)
    rcases hx with rfl | rfl
    · have h2 := (List.perm_cons sB).1 h
      have h3 := List.perm_singleton.1 h2
      simp only [List.cons.injEq, and_true] at h3
      subst h3
      rw [List.pairwise_cons] at hs
      have := hs.1 sA (by simp)
      rw [ex_order] at this
      omega
    · have h2 : [y].Perm [sB] := (List.perm_cons sA).1 (h.trans (List.Perm.swap sA sB []))
      have h3 := List.perm_singleton.1 h2
      simp only [List.cons.injEq, and_true] at h3
      subst h3
      rfl

theorem same_two (xs : List ByteArray) (h : xs = [sA, sB]) : thistleref02_SameTexts.f 3 xs [sA, sB] = some true := by
  subst h; kernel_rfl

set_option maxHeartbeats 800000 in
set_option maxRecDepth 100000 in
theorem awake_any (w : World) (hT : Lib.Utf8Tabs 1 2 w) (h3 : 3 ≤ w.heap.size) :
    Calls Tryz.prog 4 #[] w fun e w' => e = .returned (.bool true) ∧ Below w.heap.size w w' := by
  have hw := where_yes sEx 4 w (by decide) hT h3 ex_border (by decide)
  rw [ex_line, ex_col] at hw
  have HW := Aside1.mk hw
  clear hw hT
  go_enter Tryz.func4, Tryz.ntmps4
  go_wp2_with fail
  refine HW.out.mono ?_
  rintro e w1 ⟨rfl, hB1⟩
  have HB1 := Aside1.mk hB1
  clear hB1 HW
  go_wp2_with fail
  have hc := strs_fresh w1 [sB, sA] (by decide)
  refine (sort_small _ 2 [sB, sA] _ hc (by decide) (by decide)).mono ?_
  rintro e w2 ⟨v, rfl, ts, hR, hB2, hp, hs⟩
  obtain rfl := sort_two ts hp hs
  have HB2 := Aside1.mk (HB1.out.trans ((((Below.refl _ _).alloc (Nat.le_refl _) _).trans (hB2.mono (by rw [alloc_sz]; omega))).mono HB1.out.size))
  obtain ⟨A, c, rfl, hlc, hC⟩ := Kd.R_reads hR
  have HC := Aside1.mk hC
  clear hR hB2 hp hs hC hc
  go_wp2_with fail
  have hC2 := Kd.C_alloc HC.out (.cells ([sA, sB].map Value.string).toArray 9)
  have hD := strs_fresh w2 [sA, sB] (by decide)
  refine (thistleref02_SameTexts.calls 3 A c [sA, sB] _ 2 [sA, sB] true _ hC2 hlc hD (by decide) (same_two _ rfl)).mono ?_
  rintro e w4 ⟨rfl, ⟨n, rfl⟩⟩
  clear hC2 hD HC
  go_wp2_with fail
  go_ret
  exact ⟨rfl, pw_below_drewN (HB2.out.alloc HB2.out.size _) n⟩
end Go.Proofs.YteippkoomlganaaGreatDoor
