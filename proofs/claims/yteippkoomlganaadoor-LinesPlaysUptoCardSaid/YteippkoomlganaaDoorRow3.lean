/-
  Proved here: of every text, every place and every list of numbers (what is handed in being of bulk at most the row's bound), LinesPlays returns true: All, Where and Place answer what the document's reference answers; what is handed in reads afterwards as before. Conditions: none beyond the row's own (the two tables of unicode/utf8 read as the program's text lays them, which the card ties; the bound on what is handed in).
-/
import Derived.Test.YteippkoomlganaaDoorE9
import Derived.Test.YteippkoomlganaaDoorRow1
import Derived.ChangeOld
import Derived.Deep.DeepHandedRow
set_option linter.unusedVariables false
set_option linter.unusedSimpArgs false
namespace Go.Proofs.YteippkoomlganaaDoor
open Go.ChangeShapes Go.WideShapes Go.ChangeAt Go.RowKit Go.Lib
open Go.ChangeMaps (open_string shut_string)
open Go.Proofs.YteippkoomlganaaDoorW.PrintWords

theorem laidOut : laidOutB Tryd.prog = true := by kernel_rfl
theorem bulk_lits {H : Type} (k : IntKind) (l : List Int) : l.length ≤ Rows.uptoBulkAll (lits k l : List (DataW H)) := by
  induction l with
  | nil => exact Nat.zero_le _
  | cons x l ih =>
    have e : (lits k (x :: l) : List (DataW H)) = .lit (.int k x) :: lits k l := rfl
    have h1 : 1 ≤ Rows.uptoBulk (.lit (.int k x) : DataW H) := by simp [Rows.uptoBulk]
    rw [e, Rows.uptoBulkAll, List.length_cons]
    omega

theorem plays_witness (os : Os) (H : Type) (enc : TypeId × Value → H) : ∃ (w : World) (tape : Tape) (i : Input), w.os = os ∧ (w.forCall tape i).Shaped Tryd.checked.prog ∧ i.vars = [] ∧ Input.okWide Tryd.checked.prog (w.forCall tape i) .any w.heap.size 6 i ∧
      (Rows.OpenSpec.upto Rows.linesPlaysSpec).preRow enc Tryd.checked.prog Tryd.f6 Rows.linesPlaysUptoRow.domain false Rows.linesPlaysUptoRow.laid (w.forCall tape i).memory i.args ∧ ({} : Assume).holds Tryd.checked.prog (lone (Frame.enter Tryd.checked.prog 6 i.args .normal) [] (w.forCall tape i)) := by
  have hok : Input.okWideB Tryd.prog ((World.laidAll Tryd.prog os Rows.linesPlaysUptoRow.laid).forCall (fun _ _ => 0) ⟨#[], #[.string ⟨#[]⟩, .int .i64 0, .slice none 0 0], []⟩) 6 ⟨#[], #[.string ⟨#[]⟩, .int .i64 0, .slice none 0 0], []⟩ = true := by kernel_rfl
  have hx : DataW.whole enc Tryd.prog ((World.laidAll Tryd.prog os Rows.linesPlaysUptoRow.laid).forCall (fun _ _ => 0) ⟨#[], #[.string ⟨#[]⟩, .int .i64 0, .slice none 0 0], []⟩).memory Tryd.f6.params.toList (Rows.OpenSpec.upto Rows.linesPlaysSpec).vars false #[Value.string ⟨#[]⟩, .int .i64 0, .slice none 0 0].toList 8 = some ([.lit (.string []), .lit (.int .i64 0), .nil], [], []) := by kernel_rfl
  refine ⟨World.laidAll Tryd.prog os Rows.linesPlaysUptoRow.laid, fun _ _ => 0, ⟨#[], #[.string ⟨#[]⟩, .int .i64 0, .slice none 0 0], []⟩, World.laidAll_os _ _ _, World.shaped_of_ZipB (by kernel_rfl) (by kernel_rfl), (Input.okWide_of_okWideB (base := 0) hok).1, (Input.okWide_of_okWideB hok).2,
    OpenSpec.preRow_of_cond 8 hx (by kernel_rfl) (fun k hk => by cases hk; kernel_rfl) (by kernel_rfl) (by rw [MakeChecks.laidMetH_plain _ _ _ (by kernel_rfl)]; exact laidMet_laidAll _ (by kernel_rfl) (by kernel_rfl)), ?_⟩
  simp only [Assume.holds]
  exact ⟨by simp, by simp, fun _ => Modest.zero, by simp, by simp⟩

set_option maxRecDepth 100000 in
theorem plays_lifted (os : Os) (started : os.Started) (H : Type) (enc : TypeId × Value → H) (F : Stop.Interp) :
    ReturnsInHanded {} Tryd.checked os 6 .any ((Rows.OpenSpec.upto Rows.linesPlaysSpec).preRow enc Tryd.prog Tryd.f6 Rows.linesPlaysUptoRow.domain false Rows.linesPlaysUptoRow.laid) (((Rows.OpenSpec.upto Rows.linesPlaysSpec).at F).post enc Tryd.prog Tryd.f6 false true false false) := by
  refine returnsInHanded_of_row (C := Tryd.checked) (s := Rows.OpenSpec.upto Rows.linesPlaysSpec) own started (by kernel_rfl) Tryd.func6 (plays_witness os H enc) ?_
  intro W base args ds gs before hval0 hW _ hcond _ hL0 _ _
  have hL : laidMetH Tryd.prog Rows.linesPlaysUptoRow.laid W := hL0
  have hval : ∀ (j : Nat) t v, Tryd.f6.params[j]? = some t → args[j]? = some v → Value.okWide Tryd.prog W .any base t v := hval0
  have hk := hcond _ rfl
  have hW' := hW
  obtain ⟨p, q, hA0, hV, rfl, _, _⟩ := hW
  have hA : DataW.TrodAll enc Tryd.prog W 0 (fun _ => true) true Tryd.f6.params.toList args.toList ds p := hA0
  rw [Tryd.params6] at hA hval
  obtain ⟨v0, vs0, d0, ds0, p0, q0, hargs, rfl, rfl, h0, r0⟩ := trodAll_cons hA
  obtain ⟨v1, vs1, d1, ds1, p1, q1, rfl, rfl, rfl, h1, r1⟩ := trodAll_cons r0
  obtain ⟨v2, vs2, d2, ds2, p2, q2, rfl, rfl, rfl, h2, r2⟩ := trodAll_cons r1
  obtain ⟨rfl, rfl, rfl⟩ := trodAll_nil r2
  obtain rfl : args = #[v0, v1, v2] := by cases args; simp_all
  obtain ⟨rfl, rfl⟩ := trodVars_none hV
  obtain ⟨s, rfl, rfl, rfl, ws⟩ := open_string Tryd.underlying9 (hval 0 9 v0 rfl rfl) h0
  obtain ⟨at_, rfl, rfl, rfl, wc⟩ := open_int Tryd.underlying3 (hval 1 3 v1 rfl rfl) h1
  obtain ⟨a2, len2, cap2, rfl⟩ := okWide_slice Tryd.underlying30 (hval 2 30 v2 rfl rfl)
  have k2 := h2
  have lt2 : ∀ x ∈ p2, x.block < W.heap.size := by obtain ⟨m, hm⟩ := k2; exact DataW.trod_lt m _ _ _ hm
  obtain ⟨z2, w2, hb2⟩ : ∃ zs : List Int, ((a2 = none ∧ len2 = 0 ∧ cap2 = 0 ∧ zs = []) ∨ ∃ x, a2 = some x ∧ len2 ≤ cap2 ∧ cap2 ≤ maxLen ∧ zs.length = cap2 ∧ (∀ i, i < zs.length → W.cell? (x.add i) = some (.int .i64 (zs.getD i 0))) ∧ ∀ n ∈ zs, (Lit.int .i64 n).wf = true) ∧ len2 ≤ Rows.uptoBulk d2 := by
    obtain ⟨fuel, hf⟩ := h2
    rcases open_ints Tryd.underlying30 Tryd.underlying3 (by kernel_rfl) hf with ⟨hcs, hx⟩ | ⟨x, l, c, zs, hcs, _, hl, hm, hz, hx, hcell, hwz⟩
    · simp [Value.cells] at hcs
      obtain ⟨rfl, rfl, rfl⟩ := hcs
      exact ⟨[], .inl ⟨rfl, rfl, rfl, rfl⟩, by omega⟩
    · simp [Value.cells] at hcs
      obtain ⟨rfl, rfl, rfl⟩ := hcs
      have hz' : zs.length = cap2 := by simpa using hz
      refine ⟨zs, .inr ⟨_, rfl, hl, hm, hz', hcell, hwz⟩, ?_⟩
      have hd : d2 = .slice (lits .i64 (zs.take len2)) (lits .i64 (zs.drop len2)) := congrArg Prod.fst hx
      rw [hd, Rows.uptoBulk]
      have := bulk_lits (H := H) .i64 (zs.take len2)
      rw [List.length_take] at this
      omega
  obtain ⟨xs, rfl, hr, hm, hw, hc⟩ := ReadsInt.ofRowC w2
  have hs : s.size ≤ 1048576 ∧ xs.length ≤ 1048576 := by
    have h := of_decide_eq_true hk
    simp only [List.append_nil, List.cons_append, List.nil_append, Rows.uptoBulkAll] at h
    rw [Rows.uptoBulk] at h
    rw [Lib.size_eq]
    omega
  have hxs : ∀ x ∈ xs, x ≤ 9223372036854775807 := fun x hx => by
    have hw := hw x hx
    simp [Lit.wf, IntKind.min, IntKind.max, IntKind.bits, IntKind.signed] at hw
    omega
  rw [MakeChecks.laidMetH_plain _ _ _ (by kernel_rfl)] at hL
  obtain ⟨hU, h3⟩ := tabs_of_laid rfl hL
  refine (plays_any s at_ xs a2 cap2 W hs.1 hs.2 hxs hc (Kd.C_of_reads (d := (0 : Int)) hr) hU h3).mono fun e W' ⟨he, hb⟩ => ?_
  subst he
  exact ⟨_, rfl, _, _, _, [], _, [], hW', trodAll_mk1 (shut_bool Tryd.underlying4 _), trodAll_cons_mk (shut_string Tryd.underlying9 ws) (trodAll_cons_mk (shut_int Tryd.underlying3 wc) (trodAll_cons_mk (Below.trod laidOut (by kernel_rfl) (of_decide_eq_true (by kernel_rfl)) k2 hb lt2) trodAll_mk0)), rfl, hb.frame _, fun h => by cases h⟩

theorem plays_row : Rows.LinesPlaysUptoSaid :=
  OpenClaim.holds_of_cond 6 Tryd.f6 rfl rfl rfl rfl rfl rfl rfl ⟨rfl, rfl, rfl, rfl, rfl⟩ rfl rfl rfl rfl rfl (by kernel_rfl) Tryd.func6 (by kernel_rfl)
    (of_decide_eq_true (by kernel_rfl)) (by unfold Func.isWrapper; first | (rw [if_pos (by decide +kernel)]; kernel_rfl) | (rw [if_neg (by decide +kernel)]; exact ⟨rfl, rfl⟩))
    (fun os started H enc _ F => by rw [OpenClaim.pre_eq_preRow]; exact plays_lifted os started H enc F)

theorem linesPlaysUpto_holds : Rows.LinesPlaysUptoCardSaid :=
  Claim7.holds_tied_plain_at .later [] _ _ _ _ plays_row (fun _ h => by cases h) (by kernel_rfl) (fun _ h => by cases h) linesPlaysUpto_row_tie rfl ⟨rfl, rfl⟩ (by kernel_rfl) rfl
    (fun f fn hf hfn => by
      obtain rfl : f = 6 := Option.some.inj ((show Tryd.prog.funcNamed "thistle/thistlelaw24.LinesPlays" = some 6 by kernel_rfl).symm.trans hf) |>.symm
      obtain rfl : fn = Tryd.f6 := (Option.some.inj (Tryd.func6.symm.trans hfn)).symm
      exact ⟨by kernel_rfl, fun j t ht => by
        rw [Tryd.params6] at ht
        have hm : t ∈ [9, 3, 30] := by simpa using Array.mem_of_getElem? ht
        have hall : ([9, 3, 30].all fun u => !Tryd.prog.wantsStandIn u) = true := by kernel_rfl
        exact (show Tryd.prog.wantsStandIn t = false by simpa using List.all_eq_true.1 hall t hm)⟩)
    (by kernel_rfl)
#print axioms linesPlaysUpto_holds
end Go.Proofs.YteippkoomlganaaDoor
