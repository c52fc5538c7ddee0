import Derived.Test.YteippkoomlganaaGreatDoorD2
set_option linter.unusedVariables false
set_option linter.unusedSimpArgs false
namespace Go.Proofs.YteippkoomlganaaGreatDoor
open Go.RowKit Go.Shelf
attribute [local go_sem] Oper.semAt_some

theorem grown_drewN0 (W : World) (m : Nat) (row : Option Nat) : W.grownBy (W.drewN m) row := ⟨rfl, rfl, rfl, Nat.le_refl _, fun _ _ _ => rfl⟩

theorem lines_stops (n : Nat) (hn : 1 ≤ n) (Bs : Nat) (s : ByteArray) (hs : s.size ≤ 140737488351232) (w : World) (hBs : Bs < w.heap.size) (hc : w.cell? ⟨Bs, 0, none⟩ = some (.string s)) :
    SeqStopsK Fence.wide n Tryz.prog 21 #[.pointer (some ⟨Bs, 0, none⟩)] encL (KpB Bs) (fun ys => ys = linesL s) (fun pre => pre <+: linesL s) (linesL s).length w := fun l J Jx W hW hJ hJx hY h0 =>
  lines1_in n hn l Bs s hs J Jx (fun pre W m h => hJ pre W (W.drewN m) none h (grown_drewN0 W m none) (fun r e => by cases e)) hY W ((hW.cell (p := ⟨Bs, 0, none⟩) hBs).trans hc) h0

set_option maxHeartbeats 1000000 in
/-- lines.All: the text is boxed; the function value captures the box. -/
theorem lines_in (n : Nat) (s : ByteArray) (w : World) :
    CallsIn Fence.wide n Tryz.prog 10 #[.string s] w fun e w' => e = .returned (.func (.func 21) #[] #[.pointer (some ⟨w.heap.size, 0, none⟩)]) ∧ w' = w.alloc (.cells #[.string s] 9) := by
  refine callsIn_of_wp Tryz.func10 rfl trivial ?_ rfl
  simp only [Tryz.ntmps10, List.size_toArray, List.length_cons, List.length_nil, Nat.reduceAdd, Nat.reduceSub, Array.replicate_succ, Array.replicate_zero, List.push_toArray, List.append_toArray, List.nil_append, List.cons_append]
  gi_wp2
  go_ret
  exact ⟨rfl, rfl⟩

theorem linesF_len (s : ByteArray) : ∀ k f, (linesF s k f).length ≤ k
  | 0, _ => Nat.le_refl 0
  | k + 1, f => by
    unfold linesF
    split
    · simp only [List.length_cons]; have := linesF_len s k (lineNext s f); omega
    · simp
theorem linesL_len (s : ByteArray) : (linesL s).length ≤ s.size := linesF_len s _ _

theorem info3x : (Tryz.prog.info? 3).map (fun i => (i.zero, i.size, i.bytes)) = some (some (.int .i64 0), 1, 8) := by kernel_rfl
theorem info9y : (Tryz.prog.info? 9).map (fun i => (i.zero, i.size, i.bytes)) = some (some (.string ⟨#[]⟩), 1, 16) := by kernel_rfl

theorem loadVar_one (P : Program) (w : World) (ty : TypeId) (d : TypeDesc) (B : Nat) (v : Value) (hu : P.underlying ty = some d) (hd : ∀ fs, d ≠ .struct fs) (hd2 : ∀ n e, d ≠ .array n e) (hc : w.cell? ⟨B, 0, none⟩ = some v) :
    (loadVar ty ⟨B, 0, none⟩).run P w = .ok v w := by
  have hagg : (isAgg ty).run P w = .ok false w := by
    unfold isAgg
    cases d <;> first | (exact absurd rfl (hd _)) | (exact absurd rfl (hd2 _ _)) | simp [run_underlying hu]
  unfold loadVar
  simp [Sem.run_bind, hagg, Result.andThen, hc]

theorem results_c3 {fn : Func} {p q r : Tmp} {ty tz tu : TypeId} (h : fn.results = #[.cell p ty, .cell q tz, .cell r tu]) (tmps : Array Value) (P : Program) (w : World) {B C D : Nat} {v u x : Value}
    (hp : tmps.getD p undef = .pointer (some ⟨B, 0, none⟩)) (hq : tmps.getD q undef = .pointer (some ⟨C, 0, none⟩)) (hr : tmps.getD r undef = .pointer (some ⟨D, 0, none⟩))
    (h1 : (loadVar ty ⟨B, 0, none⟩).run P w = .ok v w) (h2 : (loadVar tz ⟨C, 0, none⟩).run P w = .ok u w) (h3 : (loadVar tu ⟨D, 0, none⟩).run P w = .ok x w) :
    (results fn tmps).run P w = .ok (.tuple #[v, u, x]) w := by
  have hp' : tmps[p]?.getD undef = .pointer (some ⟨B, 0, none⟩) := by simpa using hp
  have hq' : tmps[q]?.getD undef = .pointer (some ⟨C, 0, none⟩) := by simpa using hq
  have hr' : tmps[r]?.getD undef = .pointer (some ⟨D, 0, none⟩) := by simpa using hr
  simp only [results, h]
  simp [Sem.run_bind, Result.andThen, hp', hq', hr', asAddr, h1, h2, h3]

theorem box_other {W : World} {B B' : Nat} {t : TypeId} {v : Value} (h : Boxed W B t v) (hne : B ≠ B') (u : Value) : Boxed (W.setCell ⟨B', 0, none⟩ u) B t v := (Below.heap_setCell _ _ _ B (fun e => hne e)).trans h
theorem box_put {W : World} {B D : Nat} {t : TypeId} {v : Value} (h : Boxed W B t v) (hne : B ≠ D) (o : Obj) : Boxed (W.putObj D o) B t v := by
  unfold Boxed World.putObj at *
  simp [Ne.symm hne, h]
theorem row_down {w : World} {v : Value} {e : TypeId} {size : Nat} {k n₀ nb : Nat} {xs : List Value} (hn : nb ≤ n₀) (h : w.ownsRow n₀ e size v k xs) : w.ownsRow nb e size v k xs := by
  obtain ⟨h1, h2 | ⟨g, cap, cur, a, b, c⟩⟩ := h
  · exact ⟨h1, .inl h2⟩
  · exact ⟨h1, .inr ⟨g, cap, cur, a, by omega, c⟩⟩
theorem row_slice {W : World} {n₀ : Nat} {e : TypeId} {size : Nat} {v : Value} {k : Nat} {xs : List Value} (hr : W.ownsRow n₀ e size v k xs) : ∃ p n c, v = .slice p n c := by
  rcases hr.2 with ⟨rfl, _⟩ | ⟨g, cap, cur, rfl, hb, _, _⟩
  · exact ⟨_, _, _, rfl⟩
  · exact ⟨_, _, _, rfl⟩
theorem own_row_ne {W : World} {n₀ : Nat} {e : TypeId} {size : Nat} {v : Value} {k : Nat} {xs : List Value} (hr : W.ownsRow n₀ e size v k xs) {B : Nat} (hB : B < n₀) : some B ≠ v.ownBlock := by
  rcases hr.2 with ⟨rfl, _⟩ | ⟨g, cap, cur, rfl, hb, _, _⟩
  · simp [Value.ownBlock]
  · simp [Value.ownBlock]; omega

/-- `out = append(out, ..)` where the box lies below the rows' base. -/
theorem boxed_appended {W w1 : World} {n₀ B nb : Nat} {t e : TypeId} {size : Nat} {v v' : Value} {k m : Nat} {xs ys : List Value} {tmp : Obj}
    (hv : Boxed W B t v) (hte : t ≠ e) (hrow : W.ownsRow n₀ e size v k xs) (hn₀ : n₀ ≤ W.heap.size) (hB : B < n₀) (hnb : nb ≤ B)
    (hown' : w1.ownsRow n₀ e size v' m ys) (hgrow : (W.alloc tmp).grownBy w1 v.ownBlock) :
    Boxed w1 B t v ∧ Boxed (w1.setCell ⟨B, 0, none⟩ v') B t v' ∧ (w1.setCell ⟨B, 0, none⟩ v').ownsRow n₀ e size v' m ys ∧ KeepsOthers W (w1.setCell ⟨B, 0, none⟩ v') ∧ Below nb W (w1.setCell ⟨B, 0, none⟩ v') ∧
      (∀ j, j < n₀ → j ≠ B → (w1.setCell ⟨B, 0, none⟩ v').heap[j]? = W.heap[j]?) ∧
      (∀ e2 size2 v2 k2 xs2, e2 ≠ e → W.ownsRow n₀ e2 size2 v2 k2 xs2 → (w1.setCell ⟨B, 0, none⟩ v').ownsRow n₀ e2 size2 v2 k2 xs2) := by
  have hnbn : nb ≤ n₀ := by omega
  have down : ∀ {w : World} {v : Value} {k : Nat} {xs : List Value}, w.ownsRow n₀ e size v k xs → w.ownsRow nb e size v k xs := by
    rintro w v k xs ⟨h1, h2 | ⟨g, cap, cur, a, b, c⟩⟩
    · exact ⟨h1, .inl h2⟩
    · exact ⟨h1, .inr ⟨g, cap, cur, a, by omega, c⟩⟩
  obtain ⟨a1, a2, a3, a4, a5⟩ := hv.appended (n₀ := nb) hte (down hrow) (by omega) hnb (down hown') hgrow
  refine ⟨a1, a2, hown'.kept (grownBy_setCell' w1 B v') (.inr (a1.not_row hte hown').symm), a4, a5, ?_, ?_⟩
  · intro j hj hjB
    have e1 : (w1.setCell ⟨B, 0, none⟩ v').heap[j]? = w1.heap[j]? := Below.heap_setCell _ _ _ j (fun e => hjB e)
    rw [e1, hgrow.block j (by rw [World.size_alloc]; omega) ?_]
    · exact Below.heap_alloc _ _ _ (by omega)
    · rcases hrow.2 with ⟨rfl, _⟩ | ⟨g, cap, cur, rfl, hb, _, _⟩
      · simp [Value.ownBlock]
      · simp [Value.ownBlock]; omega
  · intro e2 size2 v2 k2 xs2 he r2
    have hne : v2.ownBlock = none ∨ v2.ownBlock ≠ v.ownBlock := by
      rcases r2.2 with ⟨rfl, _⟩ | ⟨g, cap, cur, rfl, _, hg, _⟩
      · exact .inl rfl
      · right
        rcases hrow.2 with ⟨rfl, _⟩ | ⟨g', cap', cur', rfl, _, hg', _⟩
        · simp [Value.ownBlock]
        · simp only [Value.ownBlock, ne_eq, Option.some.injEq]
          rintro rfl
          rw [hg] at hg'; simp at hg'; exact he hg'.2
    refine ((r2.alloc tmp).kept hgrow ?_).kept (grownBy_setCell' w1 B v') ?_
    · rcases hne with h | h
      · rcases r2.2 with ⟨rfl, _⟩ | ⟨g, cap, cur, rfl, _, hg, _⟩
        · exact .inl rfl
        · simp [Value.ownBlock] at h
      · exact .inr h
    · rcases r2.2 with ⟨rfl, _⟩ | ⟨g, cap, cur, rfl, hb, hg, _⟩
      · exact .inl rfl
      · right; simp [Value.ownBlock]; omega

def placesOf (pre : List (Nat × ByteArray)) : List Value := pre.map fun x => .int .i64 (x.1 : Int)
def textsOf (pre : List (Nat × ByteArray)) : List Value := pre.map fun x => .string x.2

theorem fn_not_nil (a : Array Value) (W : World) : (binOp .eql 37 (.func (.func 21) #[] a) .nilFunc).run Tryz.prog W = .ok (.bool false) W := by kernel_rfl
set_option maxRecDepth 100000 in
set_option maxHeartbeats 2000000 in
theorem all_in (s : ByteArray) (w : World) (hs : s.size ≤ 1048576) :
    CallsIn Fence.wide 3 Tryz.prog 6 #[.string s] w fun e W' => ∃ v1 v2, e = .returned (.tuple #[v1, v2, .bool true]) ∧ W'.ownsRow w.heap.size 3 1 v1 (linesL s).length (placesOf (linesL s)) ∧ W'.ownsRow w.heap.size 9 1 v2 (linesL s).length (textsOf (linesL s)) ∧ Below w.heap.size w W' := by
  obtain ⟨i0, hi, hz0, hz1, hz2⟩ := info_parts info3x
  obtain ⟨i1, hi1, hy0, hy1, hy2⟩ := info_parts info9y
  have hll := linesL_len s
  have hfn := fn_not_nil
  refine callsIn_of_wp_marks Tryz.func6 rfl trivial ?_ rfl
  simp only [Tryz.ntmps6, List.size_toArray, List.length_cons, List.length_nil, Nat.reduceAdd, Nat.reduceSub, Array.replicate_succ, Array.replicate_zero, List.push_toArray, List.append_toArray, List.nil_append, List.cons_append]
  gi_wp2_with fail
  refine ⟨trivial, (lines_in 2 s _).mono ?_⟩
  rintro e w' ⟨rfl, rfl⟩
  have bS := (((((Boxed.new w 9 (.string s)).alloc (.cells #[.slice none 0 0] 27)).alloc (.cells #[.slice none 0 0] 28)).alloc (.cells #[.bool false] 4)).alloc (.cells #[.string s] 9))
  have bP := ((((Boxed.new (w.alloc (.cells #[.string s] 9)) 27 (.slice none 0 0)).alloc (.cells #[.slice none 0 0] 28)).alloc (.cells #[.bool false] 4)).alloc (.cells #[.string s] 9))
  have bT := (((Boxed.new ((w.alloc (.cells #[.string s] 9)).alloc (.cells #[.slice none 0 0] 27)) 28 (.slice none 0 0)).alloc (.cells #[.bool false] 4)).alloc (.cells #[.string s] 9))
  have bF := ((Boxed.new (((w.alloc (.cells #[.string s] 9)).alloc (.cells #[.slice none 0 0] 27)).alloc (.cells #[.slice none 0 0] 28)) 4 (.bool false)).alloc (.cells #[.string s] 9))
  have bA := Boxed.new ((((w.alloc (.cells #[.string s] 9)).alloc (.cells #[.slice none 0 0] 27)).alloc (.cells #[.slice none 0 0] 28)).alloc (.cells #[.bool false] 4)) 9 (.string s)
  have hB0 : Below w.heap.size w (((((w.alloc (.cells #[.string s] 9)).alloc (.cells #[.slice none 0 0] 27)).alloc (.cells #[.slice none 0 0] 28)).alloc (.cells #[.bool false] 4)).alloc (.cells #[.string s] 9)) :=
    (((((Below.refl _ w).alloc (Nat.le_refl _) _).alloc (by simp) _).alloc (by simp; omega) _).alloc (by simp; omega) _).alloc (by simp; omega) _
  have hsz : (((((w.alloc (.cells #[.string s] 9)).alloc (.cells #[.slice none 0 0] 27)).alloc (.cells #[.slice none 0 0] 28)).alloc (.cells #[.bool false] 4)).alloc (.cells #[.string s] 9)).heap.size = w.heap.size + 1 + 1 + 1 + 1 + 1 := by simp only [World.size_alloc]
  simp only [World.size_alloc] at bP bT bF bA
  generalize (((((w.alloc (.cells #[.string s] 9)).alloc (.cells #[.slice none 0 0] 27)).alloc (.cells #[.slice none 0 0] 28)).alloc (.cells #[.bool false] 4)).alloc (.cells #[.string s] 9)) = W0 at *
  have HS := Aside1.mk bS
  have HP := Aside1.mk bP
  have HT := Aside1.mk bT
  have HF := Aside1.mk bF
  have HA := Aside1.mk bA
  have HB := Aside1.mk hB0
  clear bS bP bT bF bA hB0
  gi_wp2_with fail
  refine wpIn_rangeFunc_ownG rfl (by decide) (gf := 21) (lb := #[.pointer (some ⟨w.heap.size + 1 + 1 + 1 + 1, 0, none⟩)]) rfl trivial (enters_of Tryz.func21 (by kernel_rfl) rfl)
    (lines_stops 2 (by decide) (w.heap.size + 1 + 1 + 1 + 1) s (by omega) W0 (by omega) HA.out.cell) (fun h k => h.trans k) (fun W l o o' hl _ _ _ => KpB.put W l o' (by omega)) (Below.refl _ _) (fun _ => rfl)
    (fun pre W => ((∃ v, Boxed W (w.heap.size + 1) 27 v ∧ W.ownsRow W0.heap.size 3 1 v pre.length (placesOf pre) ∧ True) ∧ (∃ v, Boxed W (w.heap.size + 1 + 1) 28 v ∧ W.ownsRow W0.heap.size 9 1 v pre.length (textsOf pre) ∧ True)) ∧ ((Boxed W w.heap.size 9 (.string s) ∧ Boxed W (w.heap.size + 1 + 1 + 1) 4 (.bool false)) ∧ Boxed W (w.heap.size + 1 + 1 + 1 + 1) 9 (.string s)) ∧ Below w.heap.size w W)
    (fun _ _ _ => False) ?hI ?hIx ?h0 (fun x => { tmps := #[.string s, .pointer (some ⟨w.heap.size, 0, none⟩), .pointer (some ⟨w.heap.size + 1, 0, none⟩), .pointer (some ⟨w.heap.size + 1 + 1, 0, none⟩), .pointer (some ⟨w.heap.size + 1 + 1 + 1, 0, none⟩), .func (.func 21) #[] #[.pointer (some ⟨w.heap.size + 1 + 1 + 1 + 1, 0, none⟩)], .int .i64 (x.1 : Int), .string x.2, .string s, .func (.func 21) #[] #[.pointer (some ⟨w.heap.size + 1 + 1 + 1 + 1, 0, none⟩)], .func (.func 21) #[] #[.pointer (some ⟨w.heap.size + 1 + 1 + 1 + 1, 0, none⟩)], .bool false, .func (.func 21) #[] #[.pointer (some ⟨w.heap.size + 1 + 1 + 1 + 1, 0, none⟩)], .int .i64 (x.1 : Int), .string x.2, undef, undef, undef, undef, undef, undef, undef, undef, undef, undef, undef, undef, undef, undef, undef, undef], defers := [] }) ?assign ?body ?done ?stop
  case hI =>
    exact OwnFrom.and (OwnFrom.and (Own.from (holdsRow_own W0.heap.size (w.heap.size + 1) 27 3 1 (fun pre : List (Nat × ByteArray) => pre.length) placesOf (fun _ _ => True)) _) (Own.from (holdsRow_own W0.heap.size (w.heap.size + 1 + 1) 28 9 1 (fun pre : List (Nat × ByteArray) => pre.length) textsOf (fun _ _ => True)) _))
      (OwnFrom.and (OwnFrom.and (OwnFrom.and (Own.from (boxed_own _ _ _) _) (Own.from (boxed_own _ _ _) _)) (Own.from (boxed_own _ _ _) _)) (ownFrom_below (Nat.le_refl _) (by omega)))
  case hIx => exact fun _ _ _ _ _ hs _ _ => hs
  case h0 => exact ⟨⟨⟨_, HP.out, World.ownsRow_nil _ _ _ _, trivial⟩, ⟨_, HT.out, World.ownsRow_nil _ _ _ _, trivial⟩⟩, ⟨⟨HS.out, HF.out⟩, HA.out⟩, HB.out⟩
  case assign =>
    intro l x W K hK
    dsimp only [encL]
    gi_wp2
    exact hK
  case body =>
    rintro l pre x W ⟨⟨⟨v1, b1, r1, _⟩, ⟨v2, b2, r2, _⟩⟩, ⟨⟨bs, bf⟩, ba⟩, hB⟩ hlen
    have hc1 := b1.cell
    have hlo := hB.size
    have hpl : pre.length < s.size := by omega
    have hWs : W0.heap.size ≤ W.heap.size := by have := ba.lt; omega
    have hlo2 := hB.size
    gi_wp2_with (first | (gi_at_builtin; refine wpListIn_append_own _ rfl (.tmp 15) (.tmp 17) 27 rfl W0.heap.size 3 i0 (.int .i64 0) 1 8 Tryz.underlying27 hi hz0 hz1 hz2 rfl (by decide) v1 _ _ rfl (r1.alloc _) ⟨W.heap.size, 0, none⟩ 1 1 [.int .i64 (x.1 : Int)] rfl rfl (cell_one_new _ _ _) (by simp [Value.oneCell']) (by simp [maxLen]; omega) (by omega) (by simp; omega) ?_; intro v1' w1 hown' hgrow _; obtain ⟨g', cap', rfl⟩ := ownsRow_succ hown'; obtain ⟨c1, c2, c3, c4, c5, c6, c7⟩ := boxed_appended (nb := w.heap.size) b1 (by decide) r1 (by omega) (by omega) (by omega) hown' hgrow; have hc1 := c1.cell; have hf1 := c1.frozen; have d2 : Boxed w1 (w.heap.size + 1 + 1) 28 v2 := (b2.alloc _).kept hgrow (b2.not_row (by decide) r1); have ds : Boxed w1 w.heap.size 9 (.string s) := (bs.alloc _).kept hgrow (own_row_ne r1 (by omega)); have e2 := d2.cell; have es := ds.cell; have R2 := Aside1.mk (c7 9 1 v2 pre.length (textsOf pre) (by decide) r2); have B2 := Aside1.mk ((show Boxed (w1.setCell ⟨w.heap.size + 1, 0, none⟩ (.slice (some ⟨g', 0, none⟩) (pre.length + 1) cap')) (w.heap.size + 1 + 1) 28 v2 from (c6 (w.heap.size + 1 + 1) (by omega) (by omega)).trans b2)); have BS := Aside1.mk ((show Boxed (w1.setCell ⟨w.heap.size + 1, 0, none⟩ (.slice (some ⟨g', 0, none⟩) (pre.length + 1) cap')) w.heap.size 9 (.string s) from (c6 w.heap.size (by omega) (by omega)).trans bs)); have BF := Aside1.mk ((show Boxed (w1.setCell ⟨w.heap.size + 1, 0, none⟩ (.slice (some ⟨g', 0, none⟩) (pre.length + 1) cap')) (w.heap.size + 1 + 1 + 1) 4 (.bool false) from (c6 (w.heap.size + 1 + 1 + 1) (by omega) (by omega)).trans bf)); have BA := Aside1.mk ((show Boxed (w1.setCell ⟨w.heap.size + 1, 0, none⟩ (.slice (some ⟨g', 0, none⟩) (pre.length + 1) cap')) (w.heap.size + 1 + 1 + 1 + 1) 9 (.string s) from (c6 (w.heap.size + 1 + 1 + 1 + 1) (by omega) (by omega)).trans ba)); have C2 := Aside1.mk c2; have C3 := Aside1.mk c3; have C4 := Aside1.mk c4; have C5 := Aside1.mk c5; have C6 := Aside1.mk (c6 (w.heap.size + 1 + 1 + 1 + 1) (by omega) (by omega)); have hsz1 : W.heap.size ≤ (w1.setCell ⟨w.heap.size + 1, 0, none⟩ (.slice (some ⟨g', 0, none⟩) (pre.length + 1) cap')).heap.size := c5.size; clear hgrow c1 c2 c3 c4 c5 c6 c7 hown' d2 ds b1 r1 b2 r2 bs bf ba) | (gi_at_builtin; have hzE : (w1.setCell ⟨w.heap.size + 1, 0, none⟩ (.slice (some ⟨g', 0, none⟩) (pre.length + 1) cap')).heap.size = w1.heap.size := (by simp [World.setCell]); refine wpListIn_append_own _ rfl (.tmp 19) (.tmp 21) 28 rfl W0.heap.size 9 i1 (.string ⟨#[]⟩) 1 16 Tryz.underlying28 hi1 hy0 hy1 hy2 rfl (by decide) v2 _ _ rfl (R2.out.alloc _) ⟨w1.heap.size, 0, none⟩ 1 1 [.string x.2] rfl rfl (by have := cell_one_new (w1.setCell ⟨w.heap.size + 1, 0, none⟩ (.slice (some ⟨g', 0, none⟩) (pre.length + 1) cap')) (.string x.2) 9; rw [hzE] at this; exact this) (by simp [Value.oneCell']) (by unfold maxLen; omega) (by omega) (by simp only [World.size_alloc, World.size_setCell]; omega) ?_; intro v2' w2 hown' hgrow _; obtain ⟨g2, cap2, rfl⟩ := ownsRow_succ hown'; obtain ⟨c1, c2, c3, c4, c5, c6, c7⟩ := boxed_appended (nb := w.heap.size) B2.out (by decide) R2.out (by omega) (by omega) (by omega) hown' hgrow; have hc3 := c1.cell; have hf3 := c1.frozen; have dp : Boxed w2 (w.heap.size + 1) 27 (.slice (some ⟨g', 0, none⟩) (pre.length + 1) cap') := (C2.out.alloc _).kept hgrow (C2.out.not_row (by decide) R2.out); have ds : Boxed w2 w.heap.size 9 (.string s) := (BS.out.alloc _).kept hgrow (own_row_ne R2.out (by omega)); have ep := dp.cell; have es2 := ds.cell; have F1 := Aside1.mk (c7 3 1 _ _ _ (by decide) C3.out); have F2 := Aside1.mk ((c6 (w.heap.size + 1) (by omega) (by omega)).trans C2.out); have F3 := Aside1.mk ((c6 (w.heap.size) (by omega) (by omega)).trans BS.out); have F4 := Aside1.mk ((c6 (w.heap.size + 1 + 1 + 1) (by omega) (by omega)).trans BF.out); have F5 := Aside1.mk ((c6 (w.heap.size + 1 + 1 + 1 + 1) (by omega) (by omega)).trans BA.out); have F6 := Aside1.mk ((c6 (w.heap.size + 1 + 1 + 1 + 1) (by omega) (by omega)).trans C6.out); have F7 := Aside1.mk c2; have F8 := Aside1.mk c3; have F9 := Aside1.mk (C4.out.trans c4); have F10 := Aside1.mk (C5.out.trans c5); clear hgrow c1 c2 c3 c4 c5 c6 c7 hown' dp ds C2 C3 C4 C5 C6 B2 R2 BS BF BA hc1 hf1 es e2))
    refine ⟨F9.out.from _, F6.out, ⟨⟨_, F2.out, ?_, trivial⟩, ⟨_, F7.out, ?_, trivial⟩⟩, ⟨⟨F3.out, F4.out⟩, F5.out⟩, hB.trans F10.out⟩
    · have := F1.out
      simpa [placesOf] using this
    · have := F8.out
      simpa [textsOf] using this
  case done =>
    rintro D ys W hD rfl ⟨⟨⟨v1, b1, r1, _⟩, ⟨v2, b2, r2, _⟩⟩, ⟨⟨bs, bf⟩, ba⟩, hB⟩ hK
    obtain ⟨p1, n1, k1, rfl⟩ := row_slice r1
    obtain ⟨p2, n2, k2, rfl⟩ := row_slice r2
    have hc1 := b1.cell
    have hc2 := b2.cell
    have hc3 := bf.cell
    have hf1 := b1.frozen
    have hf2 := b2.frozen
    have hf3 := bf.frozen
    gi_wp2_with fail
    gi_region
    all_goals gi_wp2
    have e3 : ((W.setCell ⟨w.heap.size + 1, 0, none⟩ (.slice p1 n1 k1)).setCell ⟨w.heap.size + 1 + 1, 0, none⟩ (.slice p2 n2 k2)).setCell ⟨w.heap.size + 1 + 1 + 1, 0, none⟩ (.bool true) |>.heap[D]? = some (.deferred (some [])) := by
      rw [Below.heap_setCell _ _ _ D (by simp; omega), Below.heap_setCell _ _ _ D (by simp; omega), Below.heap_setCell _ _ _ D (by simp; omega)]
      exact hK
    refine ⟨by simp, .inl ⟨_, _, rfl, run_takeDeferred e3, ?_⟩⟩
    have f1 := (box_put (D := D) (box_other (box_other (b1.set (.slice p1 n1 k1)) (B' := w.heap.size + 1 + 1) (by omega) (.slice p2 n2 k2)) (B' := w.heap.size + 1 + 1 + 1) (by omega) (.bool true)) (by omega) (.deferred none)).cell
    have f2 := (box_put (D := D) (box_other ((box_other b2 (B' := w.heap.size + 1) (by omega) (.slice p1 n1 k1)).set (.slice p2 n2 k2)) (B' := w.heap.size + 1 + 1 + 1) (by omega) (.bool true)) (by omega) (.deferred none)).cell
    have f3 := (box_put (D := D) ((box_other (box_other bf (B' := w.heap.size + 1) (by omega) (.slice p1 n1 k1)) (B' := w.heap.size + 1 + 1) (by omega) (.slice p2 n2 k2)).set (.bool true)) (by omega) (.deferred none)).cell
    have g1 := ownsRow_putObj (ownsRow_setCell_below (ownsRow_setCell_below (ownsRow_setCell_below r1 (a := ⟨w.heap.size + 1, 0, none⟩) (by simp; omega) (.slice p1 n1 k1)) (a := ⟨w.heap.size + 1 + 1, 0, none⟩) (by simp; omega) (.slice p2 n2 k2)) (a := ⟨w.heap.size + 1 + 1 + 1, 0, none⟩) (by simp; omega) (.bool true)) (.deferred none) e3 rfl
    have g2 := ownsRow_putObj (ownsRow_setCell_below (ownsRow_setCell_below (ownsRow_setCell_below r2 (a := ⟨w.heap.size + 1, 0, none⟩) (by simp; omega) (.slice p1 n1 k1)) (a := ⟨w.heap.size + 1 + 1, 0, none⟩) (by simp; omega) (.slice p2 n2 k2)) (a := ⟨w.heap.size + 1 + 1 + 1, 0, none⟩) (by simp; omega) (.bool true)) (.deferred none) e3 rfl
    have hBB := ((hB.setCell (p := ⟨w.heap.size + 1, 0, none⟩) (by simp) (.slice p1 n1 k1)).setCell (p := ⟨w.heap.size + 1 + 1, 0, none⟩) (by simp; omega) (.slice p2 n2 k2)).setCell (p := ⟨w.heap.size + 1 + 1 + 1, 0, none⟩) (by simp; omega) (.bool true)
    have hBC := hBB.trans (belowK_b (w := w) (Nat.le_refl _) _ D _ (.deferred none) (by omega) e3 rfl rfl)
    exact ⟨_, results_c3 rfl _ _ _ rfl rfl rfl (loadVar_one _ _ _ _ _ _ Tryz.underlying27 (by simp) (by simp) f1) (loadVar_one _ _ _ _ _ _ Tryz.underlying28 (by simp) (by simp) f2) (loadVar_one _ _ _ _ _ _ Tryz.underlying4 (by simp) (by simp) f3), _, _, rfl, row_down (by omega) g1, row_down (by omega) g2, ⟨hBC.os, hBC.tape, hBC.output, hBC.size, hBC.block⟩⟩
  case stop =>
    rintro D c pre W _ _ h _
    exact h.elim
end Go.Proofs.YteippkoomlganaaGreatDoor
