import Derived.Test.YteippkoomlganaaGreatDoorA7
import Derived.Shelf.SlSortCmp.InsertionK
set_option linter.unusedVariables false
set_option linter.unusedSimpArgs false
namespace Go.Proofs.YteippkoomlganaaGreatDoor
open Go.Shelf Go.RowKit Go.Lib Go.Sort Go.Proofs.YteippkoomlganaaGreatDoorW.PrintWords Go.Proofs.YteippkoomlganaaGreatDoorW.PrintLast Go.Proofs.YteippkoomlganaaGreatDoorW.PrintMore

/-- Two lists of units in unit order: -1, 0, 1. -/
def cmpL : List Int → List Int → Int
  | [], [] => 0
  | [], _ :: _ => -1
  | _ :: _, [] => 1
  | a :: x, b :: y => if a < b then -1 else if a > b then 1 else cmpL x y

theorem cmp_rune (a b : Int) : cmp_Compare_rune.f a b = some (if a < b then -1 else if a > b then 1 else 0) := by
  unfold cmp_Compare_rune.f cmp_isNaN_rune.f
  simp only [bne_self_eq_false, Option.bind_some, Bool.false_eq_true, if_false]
  split
  · rfl
  · split <;> rfl

theorem rd_get (l : List Int) (i : Nat) (h : i < l.length) : rd l i = l[i] := by
  unfold rd; rw [Int.toNat_natCast, List.getD_eq_getElem?_getD, List.getElem?_eq_getElem h]; rfl

theorem compare_tells (x y : List Int) (hx : x.length ≤ 9223372036854775806) : ∀ (d k i : Nat), x.length - i = d → i ≤ x.length → d < k →
    slices_Compare_rune_rune.l0 k x y x (x.length : Int) (i : Int) = some (cmpL (x.drop i) (y.drop i)) := by
  intro d
  induction d with
  | zero =>
    intro k i hd hi hk
    obtain ⟨k, rfl⟩ : ∃ m, k = m + 1 := ⟨k - 1, by omega⟩
    obtain rfl : i = x.length := by omega
    simp only [slices_Compare_rune_rune.l0]
    rw [if_neg (by omega), List.drop_length]
    by_cases h : (x.length : Int) < (y.length : Int)
    · rw [if_pos h, List.drop_eq_getElem_cons (show x.length < y.length by omega)]
      rfl
    · rw [if_neg h, List.drop_eq_nil_of_le (by omega)]
      rfl
  | succ d ih =>
    intro k i hd hi hk
    obtain ⟨k, rfl⟩ : ∃ m, k = m + 1 := ⟨k - 1, by omega⟩
    have hlt : i < x.length := by omega
    simp only [slices_Compare_rune_rune.l0]
    rw [if_pos (by omega), if_pos (by omega), if_pos (by omega), List.drop_eq_getElem_cons hlt]
    by_cases h : i < y.length
    · rw [if_neg (by omega), if_pos (by omega), List.drop_eq_getElem_cons h, rd_get x i hlt, rd_get y i h, cmp_rune]
      simp only [Option.bind_some, cmpL]
      have hw : wrap64 ((i : Int) + 1) = ((i + 1 : Nat) : Int) := by unfold wrap64; omega
      by_cases h1 : x[i] < y[i]
      · rw [if_pos h1, if_pos h1, if_neg (by decide)]
      · rw [if_neg h1, if_neg h1]
        by_cases h2 : x[i] > y[i]
        · rw [if_pos h2, if_pos h2, if_neg (by decide)]
        · rw [if_neg h2, if_neg h2, if_pos rfl, hw]
          exact ih k (i + 1) (by omega) (by omega) (by omega)
    · rw [if_pos (by omega), List.drop_eq_nil_of_le (show y.length ≤ i by omega)]
      rfl

theorem compare_calls (A0 : Option Addr) (c0 : Nat) (x : List Int) (A1 : Option Addr) (c1 : Nat) (y : List Int) (w : World) (hr0 : Kd.C (Kd.int .i32) w A0 x.length x) (hc0 : x.length ≤ c0) (hr1 : Kd.C (Kd.int .i32) w A1 y.length y) (hc1 : y.length ≤ c1) (hx : x.length ≤ 9223372036854775806) :
    Calls Tryz.prog 17 #[.slice A0 x.length c0, .slice A1 y.length c1] w fun e w' => e = .returned (.int .i64 (cmpL x y)) ∧ Drawn0 w w' := by
  refine slices_Compare_rune_rune.calls (x.length + 1) A0 c0 x A1 c1 y _ w hr0 hc0 hr1 hc1 ?_
  have := compare_tells x y hx x.length (x.length + 1) 0 (by omega) (by omega) (by omega)
  exact this

/-- A key of the sort: its three cells, and the lists that its two slices read. -/
structure KeyV where
  text : ByteArray
  v1 : Value
  v2 : Value
  l1 : List Int
  l2 : List Int
def KeyV.enc (x : KeyV) : List Value := [.string x.text, x.v1, x.v2]
/-- Both slices are rows of the call's own, in other blocks than the keys' row. -/
def KeyV.ok (w : World) (base blk : Nat) (x : KeyV) : Prop :=
  Kd.R (Kd.int .i32) 21 w base (fun k => k ≠ blk) x.v1 x.l1 ∧ Kd.R (Kd.int .i32) 21 w base (fun k => k ≠ blk) x.v2 x.l2 ∧ x.l1.length ≤ 9223372036854775806 ∧ x.l2.length ≤ 9223372036854775806
def keyCmp (x y : KeyV) : Int := if cmpL x.l1 y.l1 ≠ 0 then cmpL x.l1 y.l1 else cmpL x.l2 y.l2

theorem KeyV.ok_step {w w1 : World} {base blk : Nat} {x : KeyV} (h : x.ok w base blk) (hm : ∀ k, k ≠ blk → k < w.heap.size → w1.heap[k]? = w.heap[k]?) : x.ok w1 base blk :=
  ⟨Kd.R_step h.1 hm, Kd.R_step h.2.1 hm, h.2.2⟩

theorem below_drewN_ {B : Nat} {w W : World} (h : RowKit.Below B w W) (n : Nat) : RowKit.Below B w (W.drewN n) := pw_below_drewN h n
theorem grow_drewN_ (W : World) (os : Array Obj) (n : Nat) : (grow W os).drewN n = grow (W.drewN n) os := rfl
set_option maxHeartbeats 800000 in
set_option maxRecDepth 100000 in
theorem closure24 (x y : KeyV) (base blk : Nat) (W : World) (hx : x.ok W base blk) (hy : y.ok W base blk) :
    Calls Tryz.prog 16 #[.agg x.enc.toArray, .agg y.enc.toArray] W fun e w' => e = .returned (.int .i64 (keyCmp x y)) ∧ ∃ q os, w' = grow (W.drewN q) os := by
  obtain ⟨hx1, hx2, hx3, hx4⟩ := hx
  obtain ⟨hy1, hy2, hy3, hy4⟩ := hy
  obtain ⟨A1, c1, e1, hc1, r1⟩ := Kd.R_reads hx1
  obtain ⟨A2, c2, e2, hc2, r2⟩ := Kd.R_reads hx2
  obtain ⟨A3, c3, e3, hc3, r3⟩ := Kd.R_reads hy1
  obtain ⟨A4, c4, e4, hc4, r4⟩ := Kd.R_reads hy2
  clear hx1 hx2 hy1 hy2
  obtain ⟨xt, xv1, xv2, xl1, xl2⟩ := x
  obtain ⟨yt, yv1, yv2, yl1, yl2⟩ := y
  simp only at e1 e2 e3 e4 hx3 hx4 hy3 hy4 hc1 hc2 hc3 hc4 r1 r2 r3 r4
  subst e1 e2 e3 e4
  unfold KeyV.enc keyCmp
  simp only
  have k1 := Aside1.mk (fun (W' : World) (h : Below W.heap.size W W') => compare_calls A1 c1 xl1 A3 c3 yl1 W' (Kd.C_below r1 h) hc1 (Kd.C_below r3 h) hc3 hx3)
  have k2 := Aside1.mk (fun (W' : World) (h : Below W.heap.size W W') => compare_calls A2 c2 xl2 A4 c4 yl2 W' (Kd.C_below r2 h) hc2 (Kd.C_below r4 h) hc4 hx4)
  clear r1 r2 r3 r4
  generalize cmpL xl1 yl1 = p at k1 ⊢
  generalize cmpL xl2 yl2 = q at k2 ⊢
  have hb0 : ∀ o1 o2, RowKit.Below W.heap.size W ((W.alloc o1).alloc o2) := fun o1 o2 => ((RowKit.Below.refl _ _).alloc (Nat.le_refl _) _).alloc (by simp) _
  have HB0 := Aside1.mk hb0
  clear hb0
  by_cases hp : p = 0
  · have hpb : (p != 0) = false := by rw [bne_eq_false_iff_eq]; exact hp
    rw [if_neg (by simpa using hp)]
    clear hp
    go_enter Tryz.func16, Tryz.ntmps16
    go_wp2_with fail
    refine (k1.out _ (HB0.out _ _)).mono ?_
    rintro e w1 ⟨rfl, ⟨n1, rfl⟩⟩
    clear k1
    go_wp2_with fail
    refine (k2.out _ (below_drewN_ (HB0.out _ _) _)).mono ?_
    rintro e w1 ⟨rfl, ⟨n2, rfl⟩⟩
    clear k2
    go_wp2_with fail
    go_ret
    refine ⟨rfl, n1 + n2, #[Obj.cells #[.string xt, .slice A1 xl1.length c1, .slice A2 xl2.length c2] 49, Obj.cells #[.string yt, .slice A3 yl1.length c3, .slice A4 yl2.length c4] 49], ?_⟩
    rw [alloc_eq_grow, alloc_eq_grow, grow_grow]
    rfl
  · have hpb : (p != 0) = true := by rw [bne_iff_ne]; exact hp
    rw [if_pos hp]
    clear hp
    go_enter Tryz.func16, Tryz.ntmps16
    go_wp2_with fail
    refine (k1.out _ (HB0.out _ _)).mono ?_
    rintro e w1 ⟨rfl, ⟨n1, rfl⟩⟩
    clear k1
    go_wp2_with fail
    go_ret
    refine ⟨rfl, n1, #[Obj.cells #[.string xt, .slice A1 xl1.length c1, .slice A2 xl2.length c2] 49, Obj.cells #[.string yt, .slice A3 yl1.length c3, .slice A4 yl2.length c4] 49], ?_⟩
    rw [alloc_eq_grow, alloc_eq_grow, grow_grow]
    rfl
end Go.Proofs.YteippkoomlganaaGreatDoor
