/-
  Proved here: LinesNil returns true: Grep of a nil pattern answers an error and no hits, the empty text has no line, the text of one byte 10 has one line without bytes, and nothing sorted is nothing. It takes no input. Conditions: none beyond the row's own (the listed package variables read as the program's text lays them, which the card ties).
-/
import Derived.Test.YteippkoomlganaaGreatDoorN2
import Derived.Test.YteippkoomlganaaGreatDoorRows
import Derived.Test.YteippkoomlganaaGreatDoorTie
import Derived.Test.YteippkoomlganaaGreatDoorCards
import Derived.ProofKit
import Derived.PinnedBridge
import Derived.Lib.LaidU8
import Derived.Lay
import Derived.LaidOnce
import Derived.SevenTiedAt
import Derived.SizedLaws
import Derived.OpenShut
import Derived.ShutString
set_option linter.unusedVariables false
set_option linter.unusedSimpArgs false
namespace Go.Proofs.YteippkoomlganaaGreatDoor
open Go.ChangeShapes Go.WideShapes Go.ChangeAt Go.RowKit Go.Lib
open Go.ChangeMaps (open_string shut_string)

theorem own : ownKnob Tryz.prog.godebug = none := by kernel_rfl

theorem tabs_of_laid {W : World} {l : List (String × DataW Unit)} (hl : l = [("unicode/utf8.acceptRanges", Rows.laid_unicode_utf8_acceptRanges), ("thistle/sets.bands", Rows.laid_thistle_sets_bands), ("unicode/utf8.first", Rows.laid_unicode_utf8_first)]) (h : laidMet Tryz.prog l W) : Lib.Utf8Tabs 1 2 W ∧ 3 ≤ W.heap.size := by
  subst hl
  have h1 := Lib.laidMet.reads h (.tail _ (.tail _ (.head _)))
  have h2 := Lib.laidMet.reads h (.head _)
  have e2 : (Rows.laid_unicode_utf8_acceptRanges : DataW Unit) = Lib.acceptData := by kernel_rfl
  rw [e2] at h2
  have hU : Lib.Utf8Tabs 1 2 W :=
    utf8Tabs_of_reads (ρ := Tryz.lays260_ren) Tryz.lays260 ⟨by kernel_rfl, by kernel_rfl, by kernel_rfl, by kernel_rfl, by kernel_rfl, by kernel_rfl, by kernel_rfl⟩ (Pinned.utf8First_eq ▸ h1) h2
  exact ⟨hU, World.block_lt_of_cell? W ⟨2, 2 * 0, none⟩ (hU.2 0 (by omega)).1⟩

set_option maxRecDepth 100000 in
theorem nil_lifted (os : Os) (started : os.Started) (H : Type) (enc : TypeId × Value → H) :
    ReturnsInHanded {} Tryz.checked os 3 .any (fun w args => (Rows.linesNilSpec.pre enc Tryz.prog Tryz.f3 Rows.linesNilRow.domain false w args ∧ laidMetH Tryz.prog Rows.linesNilRow.laid w) ∧ sizedMet enc Tryz.prog Tryz.f3 (OpenSpec.ofChange Rows.linesNilSpec) false w args)
      (Rows.linesNilSpec.post enc Tryz.prog Tryz.f3 false true false false) := by
  refine returnsInHanded_of_change_and (C := Tryz.checked) (X := fun w _ => laidMetH Tryz.prog Rows.linesNilRow.laid w) (fun _ _ _ hh h => h.of_heap hh) own started (by kernel_rfl) Tryz.func3
    (ChangeSpec.witness_shaped (enc := enc) (C := Tryz.checked) (os := os) (X := fun w _ => laidMetH Tryz.prog Rows.linesNilRow.laid w) false (World.laidAll Tryz.prog os Rows.linesNilRow.laid) #[] 8 (World.laidAll_os _ _ _)
      (World.shaped_of_ZipB (by kernel_rfl) (by kernel_rfl)) (by kernel_rfl) (by kernel_rfl) (by kernel_rfl)
      (by rw [MakeChecks.laidMetH_plain _ _ _ (by kernel_rfl)]; exact laidMet_laidAll _ (by kernel_rfl) (by kernel_rfl))) ?_
  intro W base args ds gs before hval0 hW _ hsz0 hL _
  have hsz : (DataW.weightsEach Tryz.prog (Tryz.f3.params.toList ++ Rows.linesNilSpec.plain.varTypes Tryz.prog) (ds ++ gs)).all (· ≤ reachBytes) = true := hsz0
  have hval : ∀ (j : Nat) t v, Tryz.f3.params[j]? = some t → args[j]? = some v → Value.okWide Tryz.prog W .any base t v := hval0
  have hW' := hW
  obtain ⟨p, q, hA0, hV, rfl, _, _⟩ := hW
  have hA : DataW.TrodAll enc Tryz.prog W 0 (fun _ => true) true Tryz.f3.params.toList args.toList ds p := hA0
  rw [Tryz.params3] at hA hval hsz
  obtain ⟨rfl, rfl, rfl⟩ := trodAll_none hA
  obtain ⟨rfl, rfl⟩ := trodVars_none hV
  rw [MakeChecks.laidMetH_plain _ _ _ (by kernel_rfl)] at hL
  obtain ⟨hU, h3⟩ := tabs_of_laid rfl hL
  refine (nil_any W hU h3).mono fun e W' ⟨he, hb⟩ => ?_
  subst he
  exact ⟨_, rfl, _, _, _, [], _, [], hW', trodAll_mk1 (shut_bool Tryz.underlying4 _), trodAll_mk0, rfl, hb.frame _, fun h => by cases h⟩

theorem nil_row : Rows.LinesNilSaid :=
  OpenClaim.holds_of_wide 3 Tryz.f3 rfl rfl rfl rfl rfl rfl rfl ⟨rfl, rfl, rfl, rfl, rfl⟩ rfl rfl rfl rfl rfl (by kernel_rfl) Tryz.func3 (by kernel_rfl)
    (of_decide_eq_true (by kernel_rfl)) (by unfold Func.isWrapper; first | (rw [if_pos (by decide +kernel)]; kernel_rfl) | (rw [if_neg (by decide +kernel)]; exact ⟨rfl, rfl⟩))
    (fun os started H enc _ => nil_lifted os started H enc)

theorem linesNil_holds : Rows.LinesNilCardSaid :=
  Claim7.holds_tied_plain_at .later [] _ _ _ _ nil_row (fun _ h => by cases h) (by kernel_rfl) (fun _ h => by cases h) linesNil_row_tie rfl ⟨rfl, rfl⟩ (by kernel_rfl) rfl
    (fun f fn hf hfn => by
      obtain rfl : f = 3 := Option.some.inj ((show Tryz.prog.funcNamed "thistle/thistlelaw24.LinesNil" = some 3 by kernel_rfl).symm.trans hf) |>.symm
      obtain rfl : fn = Tryz.f3 := (Option.some.inj (Tryz.func3.symm.trans hfn)).symm
      exact ⟨by kernel_rfl, fun j t ht => by
        rw [Tryz.params3] at ht
        simp at ht⟩)
    (by kernel_rfl)
#print axioms linesNil_holds
end Go.Proofs.YteippkoomlganaaGreatDoor
