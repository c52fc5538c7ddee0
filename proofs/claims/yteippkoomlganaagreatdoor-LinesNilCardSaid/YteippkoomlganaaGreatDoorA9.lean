import Derived.Test.YteippkoomlganaaGreatDoorA8
set_option linter.unusedVariables false
set_option linter.unusedSimpArgs false
namespace Go.Proofs
open Go.Shelf
def Tryz.insK_ren : Go.Shelf.Ren := ⟨fun | 20 => 46 | n => n, fun | 24 => 49 | 22 => 45 | 3 => 3 | 25 => 53 | 4 => 4 | 0 => 0 | n => n, fun | n => n⟩
theorem Tryz.insK : SlLaysF0.n20 Tryz.prog Tryz.insK_ren := {
  mixed := by kernel_rfl
  f20 := ⟨Tryz.f46.name, by decide, Tryz.func46.trans (congrArg some (by kernel_rfl))⟩
  t0 := Tryz.underlying0
  a0 := Tryz.isAgg0
  z0 := Tryz.sizeOf0
  v0 := Tryz.zeroValue0
  t3 := Tryz.underlying3
  a3 := Tryz.isAgg3
  z3 := Tryz.sizeOf3
  v3 := Tryz.zeroValue3
  t4 := Tryz.underlying4
  a4 := Tryz.isAgg4
  z4 := Tryz.sizeOf4
  v4 := Tryz.zeroValue4
  t22 := Tryz.underlying45
  a22 := Tryz.isAgg45
  z22 := Tryz.sizeOf45
  v22 := Tryz.zeroValue45
  t25 := Tryz.underlying53
  a25 := Tryz.isAgg53
  z25 := Tryz.sizeOf53
  v25 := Tryz.zeroValue53 }
end Go.Proofs
namespace Go.Proofs.YteippkoomlganaaGreatDoor
open Go.Shelf Go.RowKit Go.Lib Go.Sort Go.Proofs.YteippkoomlganaaGreatDoorW.PrintWords Go.Proofs.YteippkoomlganaaGreatDoorW.PrintLast Go.Proofs.YteippkoomlganaaGreatDoorW.PrintMore

/-- What the sort's worlds leave of the other blocks. -/
theorem sortWorldK_other {α : Type} [Inhabited α] (enc : α → List Value) (k : Nat) (w : World) (blk off m : Nat) (dk : Array α) (os : Array Obj) (j : Nat) (hj : j < w.heap.size) (hne : j ≠ blk) :
    (sortWorldK enc k w blk off m dk os).heap[j]? = w.heap[j]? := by
  unfold sortWorldK
  have hs : ∀ W : World, (putRowK enc k W blk off dk).heap.size = W.heap.size := by
    intro W
    unfold putRowK putRow mapBlock
    simp
  rw [heap_grow_old _ _ (by rw [hs]; exact hj)]
  unfold putRowK putRow mapBlock
  simp only [Array.getElem?_modify, if_neg (Ne.symm hne)]
  rfl

/-- A key with what is known of its slices, in a world. -/
abbrev KeyS (w : World) (base blk : Nat) := {x : KeyV // x.ok w base blk}
instance (w : World) (base blk : Nat) : Inhabited (KeyS w base blk) :=
  ⟨⟨⟨⟨#[]⟩, .slice none 0 0, .slice none 0 0, [], []⟩, Kd.R_nil _ _ _ _ _, Kd.R_nil _ _ _ _ _, by simp, by simp⟩⟩
def encS {w : World} {base blk : Nat} (x : KeyS w base blk) : List Value := x.1.enc
def cmpS {w : World} {base blk : Nat} (x y : KeyS w base blk) : Int := keyCmp x.1 y.1

theorem cmpLays24 (w : World) (base blk off size : Nat) : CmpLays Tryz.prog 16 #[] (encS (w := w) (base := base) (blk := blk)) 3 cmpS blk off size w :=
  fun m os dk _ x y => closure24 x.1 y.1 base blk _ (KeyV.ok_step x.2 fun k hk hl => sortWorldK_other _ _ _ _ _ _ _ _ k hl hk) (KeyV.ok_step y.2 fun k hk hl => sortWorldK_other _ _ _ _ _ _ _ _ k hl hk)

theorem encS_len {w : World} {base blk : Nat} (x : KeyS w base blk) : (encS x).length = 3 := rfl
theorem r_oneCell {w : World} {base : Nat} {e : Nat} {ok : Nat → Prop} {v : Value} {l : List Int} (h : Kd.R (Kd.int .i32) e w base ok v l) : v.oneCell' = true := by
  obtain ⟨A, c, rfl⟩ := Kd.R_slice h
  rfl
theorem encS_one {w : World} {base blk : Nat} (x : KeyS w base blk) : ∀ v ∈ encS x, v.oneCell' = true := by
  intro v hv
  simp only [encS, KeyV.enc, List.mem_cons, List.mem_nil_iff, or_false] at hv
  rcases hv with rfl | rfl | rfl
  · rfl
  · exact r_oneCell x.2.1
  · exact r_oneCell x.2.2.1

theorem eg24 : ∀ args w, (callFunc 16 args).run Tryz.prog w = .ok (.enter 16 args) w := enters_of Tryz.func16 (by kernel_rfl) rfl

theorem ins_any (w : World) (base blk cap a b : Nat) (d : Array (KeyS w base blk)) (hH : HoldsK encS 3 w blk 0 d) (hblk : blk < w.heap.size) (hab : a ≤ b) (hb : b ≤ d.size) (hsz : d.size < 4611686018427387904) :
    Calls Tryz.prog 46 #[.slice (some ⟨blk, 0, none⟩) d.size cap, .int .i64 a, .int .i64 b, .func (.func 16) #[] #[]] w fun e w' =>
      e = .returned (.tuple #[]) ∧ ∃ n os, w' = sortWorldK encS 3 w blk 0 n (insertionSort (ltOf cmpS) d a b) os :=
  AnyQ.insertionSortCmpFunc Tryz.insK 3 Tryz.isAgg49 Tryz.sizeOf49 encS encS_len encS_one cmpS 16 #[] blk 0 cap a b d w eg24 (cmpLays24 w base blk 0 d.size) hH hblk hab hb hsz

set_option maxHeartbeats 400000 in
theorem stable_small (w : World) (base blk cap : Nat) (d : Array (KeyS w base blk)) (hH : HoldsK encS 3 w blk 0 d) (hblk : blk < w.heap.size) (hsz : d.size < 20) :
    Calls Tryz.prog 30 #[.slice (some ⟨blk, 0, none⟩) d.size cap, .int .i64 d.size, .func (.func 16) #[] #[]] w fun e w' =>
      e = .returned (.tuple #[]) ∧ ∃ n os, w' = sortWorldK encS 3 w blk 0 n (insertionSort (ltOf cmpS) d 0 d.size) os := by
  have hcon := Aside1.mk (ins_any w base blk cap 0 d.size d hH hblk (by omega) (by omega) (by omega))
  clear hH
  generalize insertionSort (ltOf cmpS) d 0 d.size = r at hcon ⊢
  go_enter Tryz.func30, Tryz.ntmps30
  have h20 : ¬ (20 : Int) ≤ d.size := by omega
  have h21 : ¬ (20 : Int) < d.size := by omega
  go_wp2_with fail
  go_loopw [7, 8] (fun v7 v8 wr => v7 = .int .i64 0 ∧ v8 = .int .i64 20 ∧ wr = w) (fun _ _ _ => 0)
  case atStart => exact ⟨rfl, rfl, rfl⟩
  case round =>
    obtain ⟨rfl, rfl, rfl⟩ := hrel
    go_wp2_with fail
    refine hcon.out.mono ?_
    rintro e w1 ⟨rfl, hw⟩
    have HW := Aside1.mk hw
    clear hw hcon
    go_wp2_with fail
    go_loopw [6, 7, 8, 9] (fun v6 _ _ _ wr => v6 = .int .i64 20 ∧ wr = w1) (fun _ _ _ _ _ => 0)
    case atStart => exact ⟨rfl, rfl⟩
    case round =>
      obtain ⟨rfl, rfl⟩ := hrel
      go_wp2_with fail
      go_end0
      exact ⟨rfl, HW.out⟩
end Go.Proofs.YteippkoomlganaaGreatDoor
