/- hamperlaw30: the environment; CmdNumbers' run. -/
import Derived.Test.YtlbepbcgnhodaaaGreatDoorAmCmdTab
set_option linter.all false
set_option maxRecDepth 100000
namespace Go.AM
open Go.RowKit
namespace Tryz
noncomputable def ext (f : FuncId) (args : Array Value) : Option Value :=
  bif Nat.beq f 159 then run0p Go.Proofs.Tryz.prog (Extern.BytealgIndexByte.indexByte args)
  else bif Nat.beq f 202 then run0p Go.Proofs.Tryz.prog (Extern.BytealgCount.count args)
  else bif Nat.beq f 209 then run0p Go.Proofs.Tryz.prog (Extern.BytealgIndex.index args)
  else none
noncomputable def E0 : Env := { P := Go.Proofs.Tryz.prog, ty := Tryz.ty, fns := Tryz.fns, ng := 8, lim := 20, ext := ext, mixed := true, prim := fun _ _ _ _ => none }
theorem ok : EOk E0 := by
  refine ⟨?_, ?_, ?_, ?_, ?_, by decide⟩
  · intro t i h
    exact (chkTy_ok (Tr.allI_get tyAll h)).1
  · intro t i z h hz
    exact (chkTy_ok (Tr.allI_get tyAll h)).2 z hz
  · intro f i h
    exact Tr.AllP_get fnsAll h
  · intro f args v h _
    have h : ext f args = some v := h
    unfold ext at h
    cases h1 : Nat.beq f 159 with
    | true =>
      rw [h1, cond_true] at h
      have := Nat.eq_of_beq_eq_true h1
      subst this
      exact ext_ok Go.Proofs.Tryz.func159 (by kernel_rfl) (by kernel_rfl) (by kernel_rfl) (by kernel_rfl) h
    | false =>
    rw [h1, cond_false] at h
    cases h2 : Nat.beq f 202 with
    | true =>
      rw [h2, cond_true] at h
      have := Nat.eq_of_beq_eq_true h2
      subst this
      exact ext_ok Go.Proofs.Tryz.func202 (by kernel_rfl) (by kernel_rfl) (by kernel_rfl) (by kernel_rfl) h
    | false =>
    rw [h2, cond_false] at h
    cases h3 : Nat.beq f 209 with
    | true =>
      rw [h3, cond_true] at h
      have := Nat.eq_of_beq_eq_true h3
      subst this
      exact ext_ok Go.Proofs.Tryz.func209 (by kernel_rfl) (by kernel_rfl) (by kernel_rfl) (by kernel_rfl) h
    | false => rw [h3] at h; cases h
  · intro _
    kernel_rfl
theorem prims (w : World) : PrimOk E0 w := fun f args h next v h' next' hp => by cases hp

def isT : Option (End × St) → Bool
  | some (.ret (.bool b), _) => b
  | _ => false
theorem isT_spec {r : Option (End × St)} (h : isT r = true) : ∃ st, r = some (.ret (.bool true), st) := by
  unfold isT at h
  split at h
  · subst h; exact ⟨_, rfl⟩
  · cases h
theorem t1 : isT (callF E0 100000 (.fn 3) #[] { h := .nil, next := 40, loops := .nil }) = true := by kernel_rfl
/-- CmdNumbers. -/
theorem cmd3 (w : World) : Calls Go.Proofs.Tryz.prog 3 #[] w fun e w' => e = .returned (.bool true) ∧ Below w.heap.size w w' := by
  obtain ⟨st, h⟩ := isT_spec t1
  exact closed_run ok prims (by decide) h rfl w
end Tryz
end Go.AM
