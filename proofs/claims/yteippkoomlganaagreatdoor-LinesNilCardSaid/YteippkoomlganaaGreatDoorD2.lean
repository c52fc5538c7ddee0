import Derived.Test.YteippkoomlganaaGreatDoorD1
set_option linter.unusedVariables false
set_option linter.unusedSimpArgs false
namespace Go.Proofs.YteippkoomlganaaGreatDoor
open Go.RowKit Go.Shelf
attribute [local go_sem] Oper.semAt_some

def encL (x : Nat × ByteArray) : Array Value := #[.int .i64 (x.1 : Int), .string x.2]

/-- The iterator's box stays. -/
def KpB (Bs : Nat) (A B : World) : Prop := B.heap[Bs]? = A.heap[Bs]?
theorem KpB.refl (Bs : Nat) (A : World) : KpB Bs A A := rfl
theorem KpB.trans {Bs : Nat} {A B C : World} (h : KpB Bs A B) (k : KpB Bs B C) : KpB Bs A C := Eq.trans k h
theorem KpB.cell {Bs : Nat} {A B : World} (h : KpB Bs A B) (o : Nat) : B.cell? ⟨Bs, o, none⟩ = A.cell? ⟨Bs, o, none⟩ := by
  unfold KpB at h
  simp only [World.cell?, h]
theorem KpB.put {Bs : Nat} (W : World) (l : Nat) (o' : Obj) (h : l ≠ Bs) : KpB Bs W (W.putObj l o') := by
  unfold KpB World.putObj
  simp [h]
theorem KpB.below {Bs n : Nat} {A B : World} (h : Below n A B) (hb : Bs < n) : KpB Bs A B := h.block Bs hb
set_option maxRecDepth 100000 in
set_option maxHeartbeats 1000000 in
/-- The iterator of lines.All, over whatever loop body. -/
theorem lines1_in (n : Nat) (hn : 1 ≤ n) (l Bs : Nat) (s : ByteArray) (hs : s.size ≤ 140737488351232) (J Jx : List (Nat × ByteArray) → World → Prop)
    (hD : ∀ pre W n, J pre W → J pre (W.drewN n))
    (hY : ∀ pre x W, J pre W → pre.length < (linesL s).length → YieldAt Fence.wide (n - 1) Tryz.prog l (encL x) W fun e W' =>
      (e = .returned (.bool true) ∧ J (pre ++ [x]) W' ∧ KpB Bs W W') ∨ (e = .returned (.bool false) ∧ Jx (pre ++ [x]) W'))
    (W : World) (hc : W.cell? ⟨Bs, 0, none⟩ = some (.string s)) (h0 : J [] W) :
    CallsIn Fence.wide n Tryz.prog 21 #[.func (.yield l) #[] #[], .pointer (some ⟨Bs, 0, none⟩)] W fun e W' => (∃ v, e = .returned v) ∧
      ((∃ ys, ys = linesL s ∧ J ys W') ∨ (∃ pre, pre <+: linesL s ∧ Jx pre W')) := by
  refine callsIn_of_wp Tryz.func21 rfl trivial ?_ rfl
  simp only [Tryz.ntmps21, List.size_toArray, List.length_cons, List.length_nil, Nat.reduceAdd, Nat.reduceSub, Array.replicate_succ, Array.replicate_zero, List.push_toArray, List.append_toArray, List.nil_append, List.cons_append]
  gi_wp2
  gi_loopw [3] (fun v wr => ∃ (f k : Nat) (pre : List (Nat × ByteArray)), f ≤ s.size ∧ s.size - f ≤ k ∧ v = .int .i64 f ∧ Hid (pre ++ linesF s k f = linesL s) ∧ J pre wr ∧ KpB Bs W wr)
    (fun v _ => s.size - (intOf v).toNat)
  case atStart => exact ⟨0, s.size, [], Nat.zero_le _, by omega, rfl, rfl, h0, KpB.refl _ _⟩
  case round =>
    obtain ⟨f, k, pre, hf, hk, rfl, hpre, hJs, hB⟩ := hrel
    have hcx := (hB.cell 0).trans hc
    by_cases hlt : f < s.size
    · obtain ⟨h1, h2, h3⟩ := line_fits s f hlt
      have hf1 : (f : Int) ≤ s.size := by omega
      have hcut := cut_any (s.extract f s.size) wr (by rw [Lib.tail_size]; omega)
      have ht : cutTo (s.extract f s.size) = lineText s f := rfl
      have he : cutHit (s.extract f s.size) = lineEnded s f := rfl
      rw [ht, he] at hcut
      clear ht he
      have hlen : pre.length < (linesL s).length := by
        have := hpre.out
        obtain ⟨k', rfl⟩ : ∃ m, k = m + 1 := ⟨k - 1, by omega⟩
        unfold linesF at this
        rw [if_pos hlt] at this
        rw [← this]; simp
      have hpre2 : Hid ((pre ++ [(f, lineText s f)]) ++ linesF s (k - 1) (lineNext s f) = linesL s) := by
        have := hpre.out
        obtain ⟨k', rfl⟩ : ∃ m, k = m + 1 := ⟨k - 1, by omega⟩
        unfold linesF at this
        rw [if_pos hlt] at this
        show _ = linesL s
        rw [← this, Nat.add_sub_cancel, List.append_assoc]; rfl
      have HB := Aside1.mk hB
      have HC := Aside1.mk hc
      clear hc hB
      gi_wp2_with fail
      refine ⟨trivial, (callsIn_wide.2 hcut).mono ?_⟩
      rintro e w1 ⟨rfl, m, rfl⟩
      clear hcut
      have hJm := hD _ _ m hJs
      obtain ⟨fn, tmps, assign, body, hy, hR⟩ := hY pre (f, lineText s f) (wr.drewN m) hJm hlen
      dsimp only [encL] at hy
      clear hJm hJs hlen
      have hnx : Hid (lineNext s f = f + (lineText s f).size + (if lineEnded s f = true then 1 else 0)) := rfl
      have hpx : Hid ((pre ++ [(f, lineText s f)]) <+: linesL s) := ⟨_, hpre2.out⟩
      generalize lineText s f = tx at *
      generalize cutBehind (s.extract f s.size) = bh at *
      cases hE : lineEnded s f with
      | true =>
        rw [hE, if_pos rfl] at hnx
        clear hE
        gi_wp2_with fail
        refine hR.mono ?_
        rintro e W3 (⟨rfl, hJ3, hk3⟩ | ⟨rfl, hJx3⟩)
        · clear hR hy hY
          have hne := hnx.out
          gi_wp2
          go_roundw
          case rel => exact ⟨lineNext s f, k - 1, _, h2, by omega, by rw [hne]; go_num, hpre2, hJ3, HB.out.trans hk3⟩
          case measure => simp [intOf]; omega
        · clear hR hy hY
          gi_wp2
          refine bodyPost_ret (results_none rfl _ _ _) rfl ?_
          exact ⟨⟨_, rfl⟩, .inr ⟨_, hpx.out, hJx3⟩⟩
      | false =>
        rw [hE, if_neg (by simp)] at hnx
        clear hE
        gi_wp2_with fail
        refine hR.mono ?_
        rintro e W3 (⟨rfl, hJ3, hk3⟩ | ⟨rfl, hJx3⟩)
        · clear hR hy hY
          have hne := hnx.out
          gi_wp2
          go_roundw
          case rel => exact ⟨lineNext s f, k - 1, _, h2, by omega, by rw [hne]; go_num, hpre2, hJ3, HB.out.trans hk3⟩
          case measure => simp [intOf]; omega
        · clear hR hy hY
          gi_wp2
          refine bodyPost_ret (results_none rfl _ _ _) rfl ?_
          exact ⟨⟨_, rfl⟩, .inr ⟨_, hpx.out, hJx3⟩⟩
    · have he : pre = linesL s := by
        have := hpre.out
        rwa [linesF_end s k f hlt, List.append_nil] at this
      gi_wp2
      go_end0
      exact ⟨⟨_, rfl⟩, .inl ⟨pre, he, hJs⟩⟩
end Go.Proofs.YteippkoomlganaaGreatDoor
