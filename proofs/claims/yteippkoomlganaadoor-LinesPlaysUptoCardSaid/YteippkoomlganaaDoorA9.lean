import Derived.Test.YteippkoomlganaaDoorA8
set_option linter.unusedVariables false
set_option linter.unusedSimpArgs false
namespace Go.Proofs
open Go.Shelf
def Tryd.insK_ren : Go.Shelf.Ren := ⟨fun | 20 => 62 | n => n, fun | 24 => 52 | 22 => 48 | 3 => 3 | 25 => 55 | 4 => 4 | 0 => 0 | n => n, fun | n => n⟩
theorem Tryd.insK : SlLaysF0.n20 Tryd.prog Tryd.insK_ren := {
  mixed := by kernel_rfl
  f20 := ⟨Tryd.f62.name, by decide, Tryd.func62.trans (congrArg some (by kernel_rfl))⟩
  t0 := Tryd.underlying0
  a0 := Tryd.isAgg0
  z0 := Tryd.sizeOf0
  v0 := Tryd.zeroValue0
  t3 := Tryd.underlying3
  a3 := Tryd.isAgg3
  z3 := Tryd.sizeOf3
  v3 := Tryd.zeroValue3
  t4 := Tryd.underlying4
  a4 := Tryd.isAgg4
  z4 := Tryd.sizeOf4
  v4 := Tryd.zeroValue4
  t22 := Tryd.underlying48
  a22 := Tryd.isAgg48
  z22 := Tryd.sizeOf48
  v22 := Tryd.zeroValue48
  t25 := Tryd.underlying55
  a25 := Tryd.isAgg55
  z25 := Tryd.sizeOf55
  v25 := Tryd.zeroValue55 }
end Go.Proofs
namespace Go.Proofs.YteippkoomlganaaDoor
open Go.Shelf Go.RowKit Go.Lib Go.Sort Go.Proofs.YteippkoomlganaaDoorW.PrintWords Go.Proofs.YteippkoomlganaaDoorW.PrintLast Go.Proofs.YteippkoomlganaaDoorW.PrintMore

/-- What the sort's worlds leave of the other blocks. -/
theorem sortWorldK_other {α : Type} [Inhabited α] (enc : α → List Value) (k : Nat) (w : World) (blk off m : Nat) (dk : Array α) (os : Array Obj) (j : Nat) (hj : j < w.heap.size) (hne : j ≠ blk) :
    (sortWorldK enc k w blk off m dk os).heap[j]? = w.heap[j]? := by
  unfold sortWorldK
  have hs : ∀ W : World, (putRowK enc k W blk off dk).heap.size = W.heap.size := by
    intro W
    unfold putRowK putRow mapBlock
    simp
  rw [heap_grow_old _ _ (by rw [hs]; exact hj)]
  unfold putRowK putRow mapBlock
  simp only [Array.getElem?_modify, if_neg (Ne.symm hne)]
  rfl

/-- A key with what is known of its slices, in a world. -/
abbrev KeyS (w : World) (base blk : Nat) := {x : KeyV // x.ok w base blk}
instance (w : World) (base blk : Nat) : Inhabited (KeyS w base blk) :=
  ⟨⟨⟨⟨#[]⟩, .slice none 0 0, .slice none 0 0, [], []⟩, Kd.R_nil _ _ _ _ _, Kd.R_nil _ _ _ _ _, by simp, by simp⟩⟩
def encS {w : World} {base blk : Nat} (x : KeyS w base blk) : List Value := x.1.enc
def cmpS {w : World} {base blk : Nat} (x y : KeyS w base blk) : Int := keyCmp x.1 y.1

theorem cmpLays24 (w : World) (base blk off size : Nat) : CmpLays Tryd.prog 24 #[] (encS (w := w) (base := base) (blk := blk)) 3 cmpS blk off size w :=
  fun m os dk _ x y => closure24 x.1 y.1 base blk _ (KeyV.ok_step x.2 fun k hk hl => sortWorldK_other _ _ _ _ _ _ _ _ k hl hk) (KeyV.ok_step y.2 fun k hk hl => sortWorldK_other _ _ _ _ _ _ _ _ k hl hk)

theorem encS_len {w : World} {base blk : Nat} (x : KeyS w base blk) : (encS x).length = 3 := rfl
theorem r_oneCell {w : World} {base : Nat} {e : Nat} {ok : Nat → Prop} {v : Value} {l : List Int} (h : Kd.R (Kd.int .i32) e w base ok v l) : v.oneCell' = true := by
  obtain ⟨A, c, rfl⟩ := Kd.R_slice h
  rfl
theorem encS_one {w : World} {base blk : Nat} (x : KeyS w base blk) : ∀ v ∈ encS x, v.oneCell' = true := by
  intro v hv
  simp only [encS, KeyV.enc, List.mem_cons, List.mem_nil_iff, or_false] at hv
  rcases hv with rfl | rfl | rfl
  · rfl
  · exact r_oneCell x.2.1
  · exact r_oneCell x.2.2.1

theorem eg24 : ∀ args w, (callFunc 24 args).run Tryd.prog w = .ok (.enter 24 args) w := enters_of Tryd.func24 (by kernel_rfl) rfl

theorem ins_any (w : World) (base blk cap a b : Nat) (d : Array (KeyS w base blk)) (hH : HoldsK encS 3 w blk 0 d) (hblk : blk < w.heap.size) (hab : a ≤ b) (hb : b ≤ d.size) (hsz : d.size < 4611686018427387904) :
    Calls Tryd.prog 62 #[.slice (some ⟨blk, 0, none⟩) d.size cap, .int .i64 a, .int .i64 b, .func (.func 24) #[] #[]] w fun e w' =>
      e = .returned (.tuple #[]) ∧ ∃ n os, w' = sortWorldK encS 3 w blk 0 n (insertionSort (ltOf cmpS) d a b) os :=
  AnyQ.insertionSortCmpFunc Tryd.insK 3 Tryd.isAgg52 Tryd.sizeOf52 encS encS_len encS_one cmpS 24 #[] blk 0 cap a b d w eg24 (cmpLays24 w base blk 0 d.size) hH hblk hab hb hsz

set_option maxHeartbeats 400000 in
theorem stable_small (w : World) (base blk cap : Nat) (d : Array (KeyS w base blk)) (hH : HoldsK encS 3 w blk 0 d) (hblk : blk < w.heap.size) (hsz : d.size < 20) :
    Calls Tryd.prog 40 #[.slice (some ⟨blk, 0, none⟩) d.size cap, .int .i64 d.size, .func (.func 24) #[] #[]] w fun e w' =>
      e = .returned (.tuple #[]) ∧ ∃ n os, w' = sortWorldK encS 3 w blk 0 n (insertionSort (ltOf cmpS) d 0 d.size) os := by
  have hcon := Aside1.mk (ins_any w base blk cap 0 d.size d hH hblk (by omega) (by omega) (by omega))
  clear hH
  generalize insertionSort (ltOf cmpS) d 0 d.size = r at hcon ⊢
  go_enter Tryd.func40, Tryd.ntmps40
  have h20 : ¬ (20 : Int) ≤ d.size := by omega
  have h21 : ¬ (20 : Int) < d.size := by omega
  go_wp2_with fail
  go_loopw [7, 8] (fun v7 v8 wr => v7 = .int .i64 0 ∧ v8 = .int .i64 20 ∧ wr = w) (fun _ _ _ => 0)
  case atStart => exact ⟨rfl, rfl, rfl⟩
  case round =>
    obtain ⟨rfl, rfl, rfl⟩ := hrel
    go_wp2_with fail
    refine hcon.out.mono ?_
    rintro e w1 ⟨rfl, hw⟩
    have HW := Aside1.mk hw
    clear hw hcon
    go_wp2_with fail
    go_loopw [6, 7, 8, 9] (fun v6 _ _ _ wr => v6 = .int .i64 20 ∧ wr = w1) (fun _ _ _ _ _ => 0)
    case atStart => exact ⟨rfl, rfl⟩
    case round =>
      obtain ⟨rfl, rfl⟩ := hrel
      go_wp2_with fail
      go_end0
      exact ⟨rfl, HW.out⟩
end Go.Proofs.YteippkoomlganaaDoor
