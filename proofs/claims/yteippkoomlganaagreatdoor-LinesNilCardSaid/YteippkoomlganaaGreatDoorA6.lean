import Derived.Test.YteippkoomlganaaGreatDoorA5
import Derived.Test.YteippkoomlganaaGreatDoorWMore
import Derived.Test.YteippkoomlganaaGreatDoorWLast
import Derived.Test.YteippkoomlganaaGreatDoorWWords
import Derived.Lib.OthersKept
set_option linter.unusedVariables false
set_option linter.unusedSimpArgs false
namespace Go.Proofs.YteippkoomlganaaGreatDoor
open Go.RowKit Go.Proofs.YteippkoomlganaaGreatDoorW.PrintWords Go.Proofs.YteippkoomlganaaGreatDoorW.PrintLast Go.Proofs.YteippkoomlganaaGreatDoorW.PrintMore

def fffd : ByteArray := ⟨#[239, 191, 189]⟩
/-- The number of the unit that begins at a place. -/
def unitAt (s : ByteArray) (p : Nat) : Int :=
  if (Utf8.decode s p).1 = 65533 then (if Lib.hasPrefix (s.extract p s.size).data.toList fffd.data.toList = true then 65533 else 1114112 + bt s p) else ((Utf8.decode s p).1 : Int)
def uFrom (s : ByteArray) : Nat → Nat → List Int
  | 0, _ => []
  | k + 1, p => if p < s.size then unitAt s p :: uFrom s k (p + (Utf8.decode s p).2) else []
def uList (s : ByteArray) : List Int := uFrom s s.size 0
theorem uFrom_end (s : ByteArray) (k p : Nat) (h : ¬ p < s.size) : uFrom s k p = [] := by cases k <;> simp [uFrom, h]

theorem ret_val {v v' : Value} (h : v = v') : Ending.returned v = .returned v' := by rw [h]
set_option maxHeartbeats 400000 in
theorem number_any (s : ByteArray) (p : Nat) (w : World) (hs : s.size ≤ 140737488351232) (hp : p < s.size) :
    Calls Tryz.prog 26 #[.string s, .int .i64 p, .int .i32 ((Utf8.decode s p).1 : Int)] w fun e w' => e = .returned (.int .i32 (unitAt s p)) ∧ w' = w := by
  have hb := bt_range s p
  have hbt := bt_at s p
  have hp2 : (p : Int) ≤ s.size := by omega
  have hp3 : (p : Int) < s.size := by omega
  by_cases h1 : (Utf8.decode s p).1 = 65533
  · cases h2 : Lib.hasPrefix (s.extract p s.size).data.toList fffd.data.toList with
    | true =>
      have he : unitAt s p = 65533 := by unfold unitAt; rw [if_pos h1, if_pos h2]
      have hc := Tryz.strings_HasPrefix (s.extract p s.size) fffd
      rw [h2] at hc
      rw [he, h1]
      clear he h1 h2
      go_enter Tryz.func26, Tryz.ntmps26
      go_wp2_with fail
      refine (hc _).mono ?_
      rintro e w1 ⟨rfl, rfl⟩
      clear hc
      go_wp2_with fail
      go_ret
      exact ⟨rfl, rfl⟩
    | false =>
      have he : unitAt s p = 1114112 + bt s p := by unfold unitAt; rw [if_pos h1, if_neg (by rw [h2]; simp)]
      have hc := Tryz.strings_HasPrefix (s.extract p s.size) fffd
      rw [h2] at hc
      rw [he, h1]
      clear he h1 h2
      obtain ⟨hb0, hb1⟩ := hb
      go_enter Tryz.func26, Tryz.ntmps26
      go_wp2_with fail
      refine (hc _).mono ?_
      rintro e w1 ⟨rfl, rfl⟩
      clear hc
      go_wp2_with fail
      go_ret
      refine ⟨ret_val ?_, rfl⟩
      show Value.int .i32 (wrap32 (1114112 + wrap32 ((s[p]'hp).toNat : Int))) = _
      have hv : ((s[p]'hp).toNat : Int) = bt s p := hbt hp
      rw [hv]
      congr 1
      unfold wrap32
      omega
  · have he : unitAt s p = ((Utf8.decode s p).1 : Int) := by unfold unitAt; rw [if_neg h1]
    have hx : (((Utf8.decode s p).1 : Int) == 65533) = false := beq_eq_false_iff_ne.2 (by omega)
    rw [he]
    clear he
    go_enter Tryz.func26, Tryz.ntmps26
    go_wp2_with fail
    go_ret
    exact ⟨rfl, rfl⟩

theorem uFrom_length (s : ByteArray) : ∀ k p, (uFrom s k p).length ≤ k
  | 0, _ => Nat.le_refl 0
  | k + 1, p => by
    unfold uFrom
    split
    · simp only [List.length_cons]; have := uFrom_length s k (p + (Utf8.decode s p).2); omega
    · simp

theorem info21x : (Tryz.prog.info? 21).map (fun i => (i.zero, i.size, i.bytes)) = some (some (.int .i32 0), 1, 4) := by kernel_rfl

set_option maxHeartbeats 800000 in
set_option maxRecDepth 100000 in
theorem units_any (s : ByteArray) (w : World) (hs : s.size ≤ 35184372088000) :
    Calls Tryz.prog 13 #[.string s] w fun e w' => ∃ v, e = .returned v ∧ Kd.R (Kd.int .i32) 21 w' w.heap.size (fun _ => True) v (uList s) ∧ Below w.heap.size w w' := by
  go_enter Tryz.func13, Tryz.ntmps13
  go_wp2_with fail
  go_loopw [3] (fun v wr => ∃ (p f : Nat) (l : List Int), wr.heap[w.heap.size]? = some (.stringIter s p) ∧ Aside1 (Kd.R (Kd.int .i32) 21 wr w.heap.size (fun k => k ≠ w.heap.size) v l) ∧ Aside1 (Below w.heap.size w wr) ∧ Aside1 (l ++ uFrom s f p = uList s) ∧ l.length ≤ p ∧ p ≤ s.size ∧ s.size - p ≤ f) (fun _ wr => s.size - wr.iterPos w.heap.size)
  case atStart => exact ⟨0, s.size, [], World.iter_heap _ _ _, ⟨Kd.R_nil _ _ _ _ _⟩, ⟨(Below.refl _ _).alloc (Nat.le_refl _) _⟩, ⟨rfl⟩, by simp, by omega, by omega⟩
  case round =>
    obtain ⟨p, f, l, hit, hR, hB, hl, hlp, hps, hf⟩ := hrel
    by_cases hp : p < s.size
    · have hnx := fun ty => Lib.run_next_any_at (P := Tryz.prog) wr w.heap.size s p ty hit hp
      have hHIT := Aside1.mk hit
      have HIT0 := Aside1.mk hit
      clear hit
      go_wp2_with fail
      refine (number_any s p _ (by omega) hp).mono ?_
      rintro e w1 ⟨rfl, rfl⟩
      obtain ⟨hd2, hd3⟩ := decode_two s p
      have hdi := decode_in s p hp
      have hI2 := Lib.iterAt_heap wr w.heap.size s p (p + (Utf8.decode s p).2) hHIT.out
      have hR2 : Kd.R (Kd.int .i32) 21 (wr.iterAt w.heap.size s (p + (Utf8.decode s p).2)) w.heap.size (fun k => k ≠ w.heap.size) u3 l :=
        Kd.R_step hR.out (fun k hk _ => Lib.iterAt_other wr w.heap.size k s _ hk)
      have hB2 := Lib.below_iterAt hB.out (Nat.le_refl _) s (p + (Utf8.decode s p).2)
      clear hR hB hHIT hnx
      generalize wr.iterAt w.heap.size s (p + (Utf8.decode s p).2) = W at hI2 hR2 hB2 ⊢
      have HW := Aside1.mk (Array.getElem?_eq_some_iff.1 hI2).1
      have HI := Aside1.mk hI2
      have HR := Aside1.mk hR2
      have HB := Aside1.mk hB2
      clear hI2 hR2 hB2
      generalize hu : unitAt s p = u
      go_wp2_with ((with_reducible refine gate_builtin (b := .append) (xs := #[.tmp 12, .tmp 17]) rfl ?_); at_builtin; refine Kd.R_append (Kd.int .i32) (w0 := w) w.heap.size rfl (.tmp 12) (.tmp 17) 46 21 (.int .i32 0) 4 rfl Tryz.underlying46 info21x rfl (by decide) (by omega) u3 l u [.int .i32 u] (fun k => k ≠ w.heap.size) (fun _ => False) rfl rfl ?aP (fun _ hk => hk.elim) ?aF ?aO ?aB ?aS ?aL ?_)
      case aP => rfl
      case aF => exact fun k hk => by have := HW.out; omega
      case aO => exact HR.out
      case aB => exact HB.out
      case aS => exact HB.out.size
      case aL => omega
      intro v1 w1 ho hb hg hat
      have hI3 : w1.heap[w.heap.size]? = some (.stringIter s (p + (Utf8.decode s p).2)) := by
        rw [hg.block w.heap.size HW.out (fun e => HR.out.1 _ e.symm rfl)]
        exact HI.out
      have HO := Aside1.mk ho
      have HB3 := Aside1.mk hb
      have HI3 := Aside1.mk hI3
      clear ho hb hg hat hI3
      go_wp2
      go_roundw
      case rel =>
        refine ⟨p + (Utf8.decode s p).2, f - 1, l ++ [u], HI3.out, HO, HB3, ⟨?_⟩, by simp; omega, hdi, by omega⟩
        have := hl.out
        obtain ⟨f', rfl⟩ : ∃ m, f = m + 1 := ⟨f - 1, by omega⟩
        unfold uFrom at this
        rw [if_pos hp, hu] at this
        rw [Nat.add_sub_cancel, List.append_assoc]
        exact this
      case measure =>
        have e1 : w1.iterPos w.heap.size = p + (Utf8.decode s p).2 := by unfold World.iterPos; rw [HI3.out]
        have e2 : wr.iterPos w.heap.size = p := by unfold World.iterPos; rw [HIT0.out]
        rw [e1, e2]; omega
    · have hnx := fun ty => Lib.run_next_end_at (P := Tryz.prog) wr w.heap.size s p ty hit hp
      have he : l = uList s := by
        have := hl.out
        rwa [uFrom_end s f p hp, List.append_nil] at this
      subst he
      clear hit hl
      go_wp2_with fail
      go_ret
      exact ⟨_, rfl, Kd.R_mono hR.out (fun _ _ => trivial), hB.out⟩
end Go.Proofs.YteippkoomlganaaGreatDoor
