/- The abstract machine: its heavy operations (iterators, append, copy, clear, delete, panic, calls). -/
import Derived.Test.YtlbepbcgnhodaaaGreatDoorAmN
set_option linter.all false
namespace Go.AM
variable [Syms]
open Go.RowKit

section
variable {E : Env} {w0 : World} {φ : Ren} {h h' : Hp} {ls : Tr LoopA} {W : World} {fr : Tr Value} {n : Nat} {a : Act} {id : Nat} {o : Oper} {r : HRes}

theorem obj_of (H : WRel E w0 φ h ls W) {b : Nat} {e : Ent} (hb : φ b = some e) {x : Obj} (hx : h.get b = some x) : ∃ x', W.heap[e.r]? = some x' ∧ ORel E φ e x x' := H.obj b e x hb hx

theorem tup1 {x x' : Value} (h1 : VRel φ x x') : VRel φ (.tuple #[x]) (.tuple #[x']) := .tuple_of (.cons h1 .nil)
theorem tup3 {x x' y y' z z' : Value} (h1 : VRel φ x x') (h2 : VRel φ y y') (h3 : VRel φ z z') : VRel φ (.tuple #[x, y, z]) (.tuple #[x', y', z']) := .tuple_of (.cons h1 (.cons h2 (.cons h3 .nil)))

theorem filter_born {es es' : List MapEntry} (hr : ERel φ es es') (p : Nat → Bool) : ERel φ (es.filter fun e => p e.born) (es'.filter fun e => p e.born) := by
  induction hr with
  | nil => exact .nil
  | cons hk hv hb t ih =>
    simp only [List.filter_cons, hb]
    split
    · exact .cons hk hv hb ih
    · exact ih
theorem any_born {es es' : List MapEntry} (hr : ERel φ es es') (p : Nat → Bool) : (es.any fun e => p e.born) = (es'.any fun e => p e.born) := by
  induction hr with
  | nil => rfl
  | cons hk hv hb t ih => simp only [List.any_cons, hb, ih]

theorem blt_false {p q : Nat} (h : Nat.blt p q = false) : ¬ p < q := by
  intro hlt
  have : Nat.ble (p + 1) q = true := Nat.ble_eq_true_of_le hlt
  rw [show Nat.blt p q = Nat.ble (p + 1) q from rfl, this] at h
  cases h

theorem h_next (H : WRel E w0 φ h ls W) (hf : FrRel φ fr n a.tmps) {x : Operand} {s : Bool} (ho : o.op = .next x s) (hx : heavy E h fr id o = some (r, h')) :
    HPost E w0 φ ls W id h' ((execOp a.eval o).run E.P W) r := by
  simp only [heavy, ho, Option.pure_def, Option.bind_eq_bind, Option.bind_eq_some_iff] at hx
  obtain ⟨u, h1, hx⟩ := hx
  split at hx
  · rename_i b
    obtain ⟨e, he, _, e1⟩ := (ev_rel H hf h1).ptr_inv
    simp only at he e1
    have wrap : ∀ (v v' : Value) (h2 : Hp) (W' : World), e.o = 0 → (Instr.next (.pointer (some ⟨e.r, 0, none⟩)) s o.type).run E.P W = .ok v' W' → VRel φ v v' → WRel E w0 φ h2 ls W' →
        HPost E w0 φ ls W id h2 ((execOp a.eval o).run E.P W) (.value v) := by
      intro v v' h2 W' h0 hr hv k
      refine HPost.val (v' := v') ?_ hv k
      simp only [execOp, ho]
      refine run_andThen_value ?_
      rw [e1, h0]
      exact hr
    split at hx
    · rename_i st pos hg
      obtain ⟨x', hw, hrel⟩ := H.obj b e _ he hg
      cases x' <;> simp only [ORel] at hrel
      obtain ⟨rfl, rfl, h0⟩ := hrel
      cases hp : Nat.blt pos st.size with
      | false =>
        simp only [hp, cond_false, Option.some.injEq, Prod.mk.injEq] at hx
        obtain ⟨rfl, rfl⟩ := hx
        refine wrap _ (.tuple #[.bool false]) _ W h0 ?_ (tup1 (.bool _)) H
        have : ¬ pos < st.size := blt_false hp
        simp only [Instr.next, Sem.run_bind, run_getObj_of (P := E.P) hw (by intros; simp), Result.andThen_ok, this, if_false, Sem.run_pure]
      | true =>
        have hlt : pos < st.size := by simpa using hp
        simp only [hp, cond_true] at hx
        cases hl : Nat.ble E.lim b with
        | false => simp only [hl, cond_false] at hx; cases hx
        | true =>
          simp only [hl, cond_true, Option.some.injEq, Prod.mk.injEq] at hx
          obtain ⟨rfl, rfl⟩ := hx
          refine wrap _ (.tuple #[.bool true, .int .i64 pos, .int .i32 (Utf8.decode st pos).1]) _ (setB W e.r (.stringIter st (pos + (Utf8.decode st pos).2))) h0 ?_ (tup3 (.bool _) (.int _ _) (.int _ _))
            (H.put he (Nat.le_of_ble_eq_true hl) (by rw [hg]; rfl) ⟨rfl, rfl, h0⟩)
          simp only [Instr.next, Sem.run_bind, run_getObj_of (P := E.P) hw (by intros; simp), Result.andThen_ok, hlt, if_true, run_setObj_of (P := E.P) _ hw (by intros; simp), Sem.run_pure]
          rfl
    · rename_i since seen last hg
      obtain ⟨x', hw, hrel⟩ := H.obj b e _ he hg
      cases x' <;> simp only [ORel] at hrel
      rename_i m' _ _ _
      obtain ⟨rfl, rfl, rfl, hm, h0⟩ := hrel
      cases m' with
      | some q => exact hm.elim
      | none =>
        simp only [Option.some.injEq, Prod.mk.injEq] at hx
        obtain ⟨rfl, rfl⟩ := hx
        refine wrap _ (.tuple #[.bool false]) _ W h0 ?_ (tup1 (.bool _)) H
        simp only [Instr.next, Sem.run_bind, run_getObj_of (P := E.P) hw (by intros; simp), Result.andThen_ok, Sem.run_pure]
    · rename_i m since seen last hg
      obtain ⟨x', hw, hrel⟩ := H.obj b e _ he hg
      cases x' <;> simp only [ORel] at hrel
      rename_i m' _ _ _
      obtain ⟨rfl, rfl, rfl, hm, h0⟩ := hrel
      cases m' with
      | none => exact hm.elim
      | some q =>
        obtain ⟨em, hem, rfl⟩ := hm
        simp only [Option.bind_eq_some_iff] at hx
        obtain ⟨⟨es, clock⟩, hes, hx⟩ := hx
        obtain ⟨_, es', hw2, hrel2⟩ := mapAt_rel H hem hes
        have hleft : ∀ (l : List MapEntry), ERel φ es.toList l → ((es.filter fun e => !seen.contains e.born).isEmpty = (l.filter fun e => !seen.contains e.born).isEmpty) := by
          intro l hl
          have h1 := (filter_born hl fun q => !seen.contains q).length
          have h2 : (es.filter fun e => !seen.contains e.born).size = (l.filter fun e => !seen.contains e.born).length := by
            rw [← h1, ← Array.length_toList, Array.toList_filter]
          rw [Bool.eq_iff_iff, Array.isEmpty_iff_size_eq_zero, List.isEmpty_iff_length_eq_zero, h2]
        cases hok : ((es.filter fun e => !seen.contains e.born).isEmpty && (es.isEmpty || seen.isEmpty || es.any fun e => decide (e.born < last))) with
        | false => simp only [hok, cond_false] at hx; cases hx
        | true =>
          simp only [hok, cond_true, Option.some.injEq, Prod.mk.injEq] at hx
          obtain ⟨rfl, rfl⟩ := hx
          rw [Bool.and_eq_true] at hok
          refine wrap _ (.tuple #[.bool false]) _ W h0 ?_ (tup1 (.bool _)) H
          have hL : es'.filter (fun e => !seen.contains e.born) = #[] := by
            have := hleft _ hrel2
            rw [hok.1] at this
            apply Array.ext'
            rw [Array.toList_filter]
            simpa using (List.isEmpty_iff.1 this.symm)
          have hG : (!seen.isEmpty && !es'.isEmpty && es'.all (fun e => decide (e.born ≥ last))) = false := by
            have g1 : es'.isEmpty = es.isEmpty := by
              have := hrel2.length
              rw [Bool.eq_iff_iff, Array.isEmpty_iff_size_eq_zero, Array.isEmpty_iff_size_eq_zero]
              simp only [Array.length_toList] at this
              omega
            have g2 : es'.any (fun e => decide (e.born < last)) = es.any (fun e => decide (e.born < last)) := by
              rw [← Array.any_toList, ← Array.any_toList]
              exact (any_born hrel2 fun q => decide (q < last)).symm
            have g3 : es'.all (fun e => decide (e.born ≥ last)) = !(es'.any (fun e => decide (e.born < last))) := by
              rw [← Array.any_toList, ← Array.all_toList, List.all_eq_not_any_not]
              congr 2
              funext e
              rw [Bool.eq_iff_iff]
              simp
            rw [g1, g3, g2]
            have := hok.2
            cases h1 : es.isEmpty <;> cases h2 : seen.isEmpty <;> cases h3 : es.any (fun e => decide (e.born < last)) <;> simp_all
          simp only [Instr.next, Sem.run_bind, run_getObj_of (P := E.P) hw (by intros; simp), run_getObj_of (P := E.P) hw2 (by intros; simp), Result.andThen_ok, hG, Bool.false_eq_true, if_false, hL]
          simp [choose, Sem.run, Question.forced]
    · cases hx
  · cases hx
end
end Go.AM
