import Derived.Test.YteippkoomlganaaDoorE7
import Derived.Test.YteippkoomlganaaDoorD5
set_option linter.unusedVariables false
set_option linter.unusedSimpArgs false
namespace Go.Proofs.YteippkoomlganaaDoor
open Go.RowKit Go.Proofs.YteippkoomlganaaDoorW.PrintWords

def whereT (s : ByteArray) (a : Int) : Int × Int × Int := if borderB s a = true then ((whereL s a.toNat : Int), (whereC s a.toNat : Int), 0) else (0, 0, 3)
theorem where_any (s : ByteArray) (a : Int) (w : World) (hs : s.size ≤ 140737488351232) (hT : Lib.Utf8Tabs 1 2 w) (h3 : 3 ≤ w.heap.size) :
    Calls Tryd.prog 16 #[.string s, .int .i64 a] w fun e w' => e = .returned (.tuple #[.int .i64 (whereT s a).1, .int .i64 (whereT s a).2.1, .int .i64 (whereT s a).2.2]) ∧ Below w.heap.size w w' := by
  unfold whereT
  cases hb : borderB s a with
  | false =>
    rw [if_neg (by simp)]
    exact where_no s a w hs hT h3 hb
  | true =>
    rw [if_pos rfl]
    have hb' := hb
    unfold borderB at hb'
    rw [Bool.and_eq_true, decide_eq_true_iff] at hb'
    obtain ⟨n, rfl⟩ := Int.eq_ofNat_of_zero_le hb'.1.1
    exact where_yes s n w hs hT h3 hb (by omega)
theorem whereRef_any (s : ByteArray) (a : Int) (w : World) (hs : s.size ≤ 1048576) :
    Calls Tryd.prog 20 #[.string s, .int .i64 a] w fun e w' => e = .returned (.tuple #[.int .i64 (whereT s a).1, .int .i64 (whereT s a).2.1, .int .i64 (whereT s a).2.2]) ∧ Drawn0 w w' :=
  thistleref24_Where.calls (2 * s.size + 30) s a _ _ _ w (by
    rw [Where_ref s a _ (by omega) (Nat.le_refl _)]
    unfold whereT
    rfl)
theorem placeRef_any (s : ByteArray) (l c : Int) (w : World) (hs : s.size ≤ 1048576) :
    Calls Tryd.prog 21 #[.string s, .int .i64 l, .int .i64 c] w fun e w' => e = .returned (.tuple #[.int .i64 (placeF s l c).1, .int .i64 (placeF s l c).2]) ∧ Below w.heap.size w w' :=
  thistleref24_Place.calls (4 * s.size + 40) s l c _ _ w (Place_ref s hs l c _ (Nat.le_refl _))
theorem allRef_any (s : ByteArray) (w : World) (hs : s.size ≤ 1048576) :
    Calls Tryd.prog 19 #[.string s] w fun e w' => ∃ v, e = .returned v ∧ Kd.R k46 46 w' w.heap.size (fun _ => True) v ((linesL s).map toS) ∧ Below w.heap.size w w' :=
  thistleref24_All.calls (s.size + 1) s _ w (All_ref s hs _ (Nat.le_refl _))
end Go.Proofs.YteippkoomlganaaDoor
