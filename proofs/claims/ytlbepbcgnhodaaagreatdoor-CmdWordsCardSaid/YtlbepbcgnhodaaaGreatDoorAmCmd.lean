/- hamperlaw30: the environment; CmdNumbers' run. -/
import Derived.Test.YtlbepbcgnhodaaaGreatDoorAmCmdTab
set_option linter.all false
set_option maxRecDepth 100000
namespace Go.AM
open Go.RowKit
namespace Tryz
noncomputable def ext (f : FuncId) (args : Array Value) : Option Value :=
  bif Nat.beq f 159 then run0p Go.Proofs.Tryz.prog (Extern.BytealgIndexByte.indexByte args)
  else bif Nat.beq f 202 then run0p Go.Proofs.Tryz.prog (Extern.BytealgCount.count args)
  else bif Nat.beq f 209 then run0p Go.Proofs.Tryz.prog (Extern.BytealgIndex.index args)
  else none
noncomputable def E0 : Env := { P := Go.Proofs.Tryz.prog, ty := Tryz.ty, fns := Tryz.fns, ng := 8, lim := 20, ext := ext, mixed := true, prim := fun _ _ _ _ => none }
theorem ok [Syms] : EOk E0 := by
  refine ⟨?_, ?_, ?_, ?_, ?_, by decide⟩
  · intro t i h
    exact (chkTy_ok (Tr.allI_get tyAll h)).1
  · intro t i z h hz
    exact (chkTy_ok (Tr.allI_get tyAll h)).2 z hz
  · intro f i h
    exact Tr.AllP_get fnsAll h
  · intro f args v h _
    have h : ext f args = some v := h
    unfold ext at h
    cases h1 : Nat.beq f 159 with
    | true =>
      rw [h1, cond_true] at h
      have := Nat.eq_of_beq_eq_true h1
      subst this
      exact ext_ok Go.Proofs.Tryz.func159 (by kernel_rfl) (by kernel_rfl) (by kernel_rfl) (by kernel_rfl) h
    | false =>
    rw [h1, cond_false] at h
    cases h2 : Nat.beq f 202 with
    | true =>
      rw [h2, cond_true] at h
      have := Nat.eq_of_beq_eq_true h2
      subst this
      exact ext_ok Go.Proofs.Tryz.func202 (by kernel_rfl) (by kernel_rfl) (by kernel_rfl) (by kernel_rfl) h
    | false =>
    rw [h2, cond_false] at h
    cases h3 : Nat.beq f 209 with
    | true =>
      rw [h3, cond_true] at h
      have := Nat.eq_of_beq_eq_true h3
      subst this
      exact ext_ok Go.Proofs.Tryz.func209 (by kernel_rfl) (by kernel_rfl) (by kernel_rfl) (by kernel_rfl) h
    | false => rw [h3] at h; cases h
  · intro _
    kernel_rfl
theorem prims [Syms] (w : World) : PrimOk E0 w := fun f args h next v h' next' hp => by cases hp

def isT : Option (End × St) → Bool
  | some (.ret (.bool b), _) => b
  | _ => false
theorem isT_spec {r : Option (End × St)} (h : isT r = true) : ∃ st, r = some (.ret (.bool true), st) := by
  unfold isT at h
  split at h
  · subst h; exact ⟨_, rfl⟩
  · cases h
theorem t8 : isT (callF E0 100000 (.fn 8) #[] { h := .nil, next := 40, loops := .nil }) = true := by kernel_rfl
/-- awake. -/
theorem awake_run (w : World) : Calls Go.Proofs.Tryz.prog 8 #[] w fun e w' => e = .returned (.bool true) ∧ Below w.heap.size w w' := by
  letI : Syms := ⟨fun s => s⟩
  obtain ⟨st, h⟩ := isT_spec t8
  exact closed_run ok prims (by decide) h rfl w
end Tryz

variable [Syms]
theorem WRel.below {E : Env} {w0 : World} {φ : Ren} {h : Hp} {ls : Tr LoopA} {W W' : World} (k : WRel E w0 φ h ls W) (hb : Below W.heap.size W W') : WRel E w0 φ h ls W' := by
  have hk := k.keep
  refine ⟨fun b e o h1 h2 => ?_, fun l lp h1 => ?_, k.inj, fun b e h1 => ?_, k.glob, k.own, ⟨hb.os.trans hk.os, hb.tape.trans hk.tape, hb.output.trans hk.output, Nat.le_trans hk.size hb.size, fun i hi => ?_⟩⟩
  · obtain ⟨o', q1, q2⟩ := k.obj b e o h1 h2
    exact ⟨o', by rw [hb.block _ (k.bound b e h1)]; exact q1, q2⟩
  · obtain ⟨q1, e, L, q2, q3, q4⟩ := k.lp l lp h1
    exact ⟨q1, e, L, q2, by rw [hb.block _ (k.bound l e q2)]; exact q3, q4⟩
  · exact Nat.lt_of_lt_of_le (k.bound b e h1) hb.size
  · rw [hb.block i (Nat.lt_of_lt_of_le hi hk.size)]; exact hk.block i hi

namespace Tryz
/-- The environment in which awake is known. -/
noncomputable def E1 : Env := { E0 with prim := fun f args h next => bif Nat.beq f 8 && args.size.beq 0 then some (.bool true, h, next) else none }
theorem ok1 : EOk E1 := ⟨ok.ty, ok.zero, ok.fns, ok.ext, ok.mixed, ok.ngl⟩
theorem prims1 (w0 : World) : PrimOk E1 w0 := by
  intro f args h next v h' next' hp φ ls W args' H ha hnew hl
  have hp : (bif Nat.beq f 8 && args.size.beq 0 then some (Value.bool true, h, next) else none) = some (v, h', next') := hp
  cases hc : (Nat.beq f 8 && args.size.beq 0) with
  | false => rw [hc] at hp; cases hp
  | true =>
    rw [hc] at hp
    simp only [cond_true, Option.some.injEq, Prod.mk.injEq] at hp
    obtain ⟨rfl, rfl, rfl⟩ := hp
    simp only [Bool.and_eq_true] at hc
    have h8 := Nat.eq_of_beq_eq_true hc.1
    have hz := Nat.eq_of_beq_eq_true hc.2
    subst h8
    have : args' = #[] := by
      have := ha.size
      apply Array.eq_empty_of_size_eq_zero
      omega
    subst this
    have h1 : CallsIn Fence.wide 0 Go.Proofs.Tryz.prog 8 #[] W fun e w' => e = .returned (.bool true) ∧ Below W.heap.size W w' := callsIn_wide.2 (awake_run W)
    refine CallsIn.mono (show CallsIn (Fw none) 0 Go.Proofs.Tryz.prog 8 #[] W _ from h1) ?_
    rintro e W' ⟨rfl, hb⟩
    exact ⟨φ, ⟨φ.le_refl, fun _ _ => rfl, hnew, Nat.le_refl _, H.below hb⟩, .bool true⟩
end Tryz
end Go.AM
