/- hamperlaw30.CmdWords: the row and its card. -/
import Derived.Test.YtlbepbcgnhodaaaGreatDoorAmWords2
import Derived.Lib.SmallJoins
import Derived.Test.YtlbepbcgnhodaaaGreatDoorRows
import Derived.Test.YtlbepbcgnhodaaaGreatDoorTie
import Derived.Test.YtlbepbcgnhodaaaGreatDoorCards
import Derived.Test.YtlbepbcgnhodaaaGreatDoorChecked
import Derived.ProofKit
import Derived.OpenShut
import Derived.LaidMore
import Derived.Lay
import Derived.SevenTiedAt
import Derived.Stop.Joined
set_option linter.all false
namespace Go.Proofs.YtlbepbcgnhodaaaGreatDoor
open Go.ChangeShapes Go.WideShapes Go.ChangeAt Go.RowKit

theorem amOwn : ownKnob Tryz.prog.godebug = none := by kernel_rfl
theorem keptBut_below {w w' : World} {may : MemPlace → Prop} (h : Below w.heap.size w w') : w.keptBut w' may := by
  refine ⟨h.os, h.output, fun i hi => ?_⟩
  rw [h.block i hi]
  cases hh : w.heap[i]? with
  | none => trivial
  | some o => cases o <;> first | rfl | exact ⟨rfl, rfl, rfl, fun _ _ => rfl⟩ | exact .inr ⟨rfl, rfl⟩

set_option maxRecDepth 100000 in
theorem cmdWords_lifted (os : Os) (started : os.Started) (H : Type) (enc : TypeId × Value → H) :
    ReturnsInHanded {} Tryz.checked os 7 .any (fun w args => (Rows.cmdWordsSpec.pre enc Tryz.prog Tryz.f7 Rows.cmdWordsRow.domain false w args ∧ laidMetH Tryz.prog Rows.cmdWordsRow.laid w) ∧ sizedMet enc Tryz.prog Tryz.f7 (OpenSpec.ofChange Rows.cmdWordsSpec) false w args)
      (Rows.cmdWordsSpec.post enc Tryz.prog Tryz.f7 false true false false) := by
  refine returnsInHanded_of_change_and (C := Tryz.checked) (X := fun w _ => laidMetH Tryz.prog Rows.cmdWordsRow.laid w) (fun _ _ _ hh h => h.of_heap hh) amOwn started (by kernel_rfl) Tryz.func7
    (ChangeSpec.witness_shaped (enc := enc) (C := Tryz.checked) (os := os) (X := fun w _ => laidMetH Tryz.prog Rows.cmdWordsRow.laid w) false (World.laidAll Tryz.prog os Rows.cmdWordsRow.laid) #[.agg #[.string .empty, .string .empty, .bool false, .bool false]] 8 (World.laidAll_os _ _ _)
      (World.shaped_of_ZipB (by kernel_rfl) (by kernel_rfl)) (by kernel_rfl) (by kernel_rfl) (by kernel_rfl)
      (by rw [MakeChecks.laidMetH_plain _ _ _ (by kernel_rfl)]; exact laidMet_laidAll _ (by kernel_rfl) (by kernel_rfl))) ?_
  intro W base args ds gs before hval0 hW hc _ hL _
  have hW' := hW
  obtain ⟨p, q, hA0, hV, rfl, _, _⟩ := hW
  have hA : DataW.TrodAll enc Tryz.prog W 0 (fun _ => true) true Tryz.f7.params.toList args.toList ds p := hA0
  rw [Tryz.params7] at hA
  obtain ⟨v, d, rfl, rfl, hd⟩ := trodAll_one hA
  obtain ⟨rfl, rfl⟩ := trodVars_none hV
  simp only [List.append_nil] at hW'
  have hval : ∀ (j : Nat) t v', Tryz.f7.params[j]? = some t → #[v][j]? = some v' → Value.okWide Tryz.prog W .any base t v' := hval0
  rw [Tryz.params7] at hval
  obtain ⟨c0, c1, c2, c3, y0, y1, y2, y3, n, rfl, rfl, rfl, hy0, hy1, hy2, hy3⟩ := Go.Joins.open_agg4 Tryz.underlying58 (by kernel_rfl) (by kernel_rfl) (hval 0 58 v rfl rfl) hd
  obtain ⟨A, e0, rfl, ws0⟩ := DataW.trod_string Tryz.underlying9 hy0
  obtain ⟨B, e1, rfl, ws1⟩ := DataW.trod_string Tryz.underlying9 hy1
  obtain ⟨f, e2, rfl⟩ := DataW.trod_bool Tryz.underlying4 hy2
  obtain ⟨s, e3, rfl⟩ := DataW.trod_bool Tryz.underlying4 hy3
  simp only [List.cons.injEq, and_true] at e0 e1 e2 e3
  subst e0 e1 e2 e3
  refine (Go.AM.Tryz.words_run A B f s W).mono fun e W' ⟨he, hw⟩ => ?_
  subst he
  refine ⟨_, rfl, _, _, _, [], [], [], hW', ?_, ?_, ?_, keptBut_below hw, fun h => by cases h⟩
  · exact trodAll_mk1 (shut_bool Tryz.underlying4 true)
  · rw [Tryz.params7]
    exact trodAll_mk1 (Go.Joins.shut_agg4 (y0 := (.lit (.string A.data.toList), [])) (y1 := (.lit (.string B.data.toList), [])) (y2 := (.lit (.bool f), [])) (y3 := (.lit (.bool s), [])) Tryz.underlying58 (by kernel_rfl) (by kernel_rfl)
      ⟨1, by simp [DataW.trod, (show Tryz.checked.prog.underlying 9 = some .string from Tryz.underlying9), ws0]⟩ ⟨1, by simp [DataW.trod, (show Tryz.checked.prog.underlying 9 = some .string from Tryz.underlying9), ws1]⟩ ⟨1, by simp [DataW.trod, (show Tryz.checked.prog.underlying 4 = some .bool from Tryz.underlying4)]⟩ ⟨1, by simp [DataW.trod, (show Tryz.checked.prog.underlying 4 = some .bool from Tryz.underlying4)]⟩)
  · rfl

theorem cmdWords_row : Rows.CmdWordsSaid :=
  OpenClaim.holds_of_wide 7 Tryz.f7 rfl rfl rfl rfl rfl rfl rfl ⟨rfl, rfl, rfl, rfl, rfl⟩ rfl rfl rfl rfl rfl (by kernel_rfl) Tryz.func7 (by kernel_rfl)
    (of_decide_eq_true (by kernel_rfl)) (by unfold Func.isWrapper; first | (rw [if_pos (by decide +kernel)]; kernel_rfl) | (rw [if_neg (by decide +kernel)]; exact ⟨rfl, rfl⟩))
    (fun os started H enc _ => cmdWords_lifted os started H enc)
theorem cmdWords_holds : Rows.CmdWordsCardSaid :=
  Claim7.holds_tied_plain_at .later [] [.data, .data, .data, .data, .sentinel, .sentinel, .pinned] true (true, "0155de35e7362e3650afaaf1afbc536ca21186278d376238b654b24868bca2ff") true cmdWords_row (fun _ h => by cases h) (by kernel_rfl) (fun _ h => by cases h) cmdWords_row_tie rfl ⟨rfl, rfl⟩ (by kernel_rfl) rfl
    (fun f fn hf hfn => by
      obtain rfl : f = 7 := Option.some.inj ((show Tryz.prog.funcNamed "hamper/hamperlaw30.CmdWords" = some 7 by kernel_rfl).symm.trans hf) |>.symm
      obtain rfl : fn = Tryz.f7 := (Option.some.inj (Tryz.func7.symm.trans hfn)).symm
      exact ⟨by kernel_rfl, fun j t ht => by
        rw [Tryz.params7] at ht
        cases j with
        | zero => simp at ht; subst ht; kernel_rfl
        | succ j => simp at ht⟩)
    (by kernel_rfl)
#print axioms cmdWords_holds
end Go.Proofs.YtlbepbcgnhodaaaGreatDoor
