/- hamperlaw30.CmdNumbers: the row and its card. -/
import Derived.Test.YtlbepbcgnhodaaaGreatDoorAmCmd
import Derived.Test.YtlbepbcgnhodaaaGreatDoorRows
import Derived.Test.YtlbepbcgnhodaaaGreatDoorTie
import Derived.Test.YtlbepbcgnhodaaaGreatDoorCards
import Derived.Test.YtlbepbcgnhodaaaGreatDoorChecked
import Derived.ProofKit
import Derived.OpenShut
import Derived.LaidMore
import Derived.Lay
import Derived.SevenTiedAt
import Derived.Stop.Joined
set_option linter.all false
namespace Go.Proofs.YtlbepbcgnhodaaaGreatDoor
open Go.ChangeShapes Go.WideShapes Go.ChangeAt Go.RowKit

theorem amOwn : ownKnob Tryz.prog.godebug = none := by kernel_rfl
theorem keptBut_below {w w' : World} {may : MemPlace → Prop} (h : Below w.heap.size w w') : w.keptBut w' may := by
  refine ⟨h.os, h.output, fun i hi => ?_⟩
  rw [h.block i hi]
  cases hh : w.heap[i]? with
  | none => trivial
  | some o => cases o <;> first | rfl | exact ⟨rfl, rfl, rfl, fun _ _ => rfl⟩ | exact .inr ⟨rfl, rfl⟩

set_option maxRecDepth 100000 in
theorem cmdNumbers_lifted (os : Os) (started : os.Started) (H : Type) (enc : TypeId × Value → H) :
    ReturnsInHanded {} Tryz.checked os 3 .any (fun w args => (Rows.cmdNumbersSpec.pre enc Tryz.prog Tryz.f3 Rows.cmdNumbersRow.domain false w args ∧ laidMetH Tryz.prog Rows.cmdNumbersRow.laid w) ∧ sizedMet enc Tryz.prog Tryz.f3 (OpenSpec.ofChange Rows.cmdNumbersSpec) false w args)
      (Rows.cmdNumbersSpec.post enc Tryz.prog Tryz.f3 false true false false) := by
  refine returnsInHanded_of_change_and (C := Tryz.checked) (X := fun w _ => laidMetH Tryz.prog Rows.cmdNumbersRow.laid w) (fun _ _ _ hh h => h.of_heap hh) amOwn started (by kernel_rfl) Tryz.func3
    (ChangeSpec.witness_shaped (enc := enc) (C := Tryz.checked) (os := os) (X := fun w _ => laidMetH Tryz.prog Rows.cmdNumbersRow.laid w) false (World.laidAll Tryz.prog os Rows.cmdNumbersRow.laid) #[] 8 (World.laidAll_os _ _ _)
      (World.shaped_of_ZipB (by kernel_rfl) (by kernel_rfl)) (by kernel_rfl) (by kernel_rfl) (by kernel_rfl)
      (by rw [MakeChecks.laidMetH_plain _ _ _ (by kernel_rfl)]; exact laidMet_laidAll _ (by kernel_rfl) (by kernel_rfl))) ?_
  intro W base args ds gs before hval0 hW hc _ hL _
  have hW' := hW
  obtain ⟨p, q, hA0, hV, rfl, _, _⟩ := hW
  have hA : DataW.TrodAll enc Tryz.prog W 0 (fun _ => true) true Tryz.f3.params.toList args.toList ds p := hA0
  rw [Tryz.params3] at hA
  obtain ⟨rfl, rfl, rfl⟩ := trodAll_none hA
  obtain ⟨rfl, rfl⟩ := trodVars_none hV
  simp only [List.append_nil] at hW'
  refine (Go.AM.Tryz.cmd3 W).mono fun e W' ⟨he, hw⟩ => ?_
  subst he
  refine ⟨_, rfl, [], [], [], [], [], [], hW', ?_, ?_, ?_, keptBut_below hw, fun h => by cases h⟩
  · exact trodAll_mk1 (shut_bool Tryz.underlying4 true)
  · rw [Tryz.params3]; exact trodAll_mk0
  · rfl

theorem cmdNumbers_row : Rows.CmdNumbersSaid :=
  OpenClaim.holds_of_wide 3 Tryz.f3 rfl rfl rfl rfl rfl rfl rfl ⟨rfl, rfl, rfl, rfl, rfl⟩ rfl rfl rfl rfl rfl (by kernel_rfl) Tryz.func3 (by kernel_rfl)
    (of_decide_eq_true (by kernel_rfl)) (by unfold Func.isWrapper; first | (rw [if_pos (by decide +kernel)]; kernel_rfl) | (rw [if_neg (by decide +kernel)]; exact ⟨rfl, rfl⟩))
    (fun os started H enc _ => cmdNumbers_lifted os started H enc)
theorem cmdNumbers_holds : Rows.CmdNumbersCardSaid :=
  Claim7.holds_tied_plain_at .later [] [.data, .data, .data, .data, .sentinel, .sentinel, .pinned] true (true, "0155de35e7362e3650afaaf1afbc536ca21186278d376238b654b24868bca2ff") true cmdNumbers_row (fun _ h => by cases h) (by kernel_rfl) (fun _ h => by cases h) cmdNumbers_row_tie rfl ⟨rfl, rfl⟩ (by kernel_rfl) rfl
    (fun f fn hf hfn => by
      obtain rfl : f = 3 := Option.some.inj ((show Tryz.prog.funcNamed "hamper/hamperlaw30.CmdNumbers" = some 3 by kernel_rfl).symm.trans hf) |>.symm
      obtain rfl : fn = Tryz.f3 := (Option.some.inj (Tryz.func3.symm.trans hfn)).symm
      exact ⟨by kernel_rfl, fun j t ht => by
        rw [Tryz.params3] at ht
        simp at ht⟩)
    (by kernel_rfl)
#print axioms cmdNumbers_holds
end Go.Proofs.YtlbepbcgnhodaaaGreatDoor
