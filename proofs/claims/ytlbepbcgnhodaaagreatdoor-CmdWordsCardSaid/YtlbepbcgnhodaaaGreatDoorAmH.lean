/- The abstract machine: more light operations are sound. -/
import Derived.Test.YtlbepbcgnhodaaaGreatDoorAmG
set_option linter.all false
namespace Go.AM
variable [Syms]
open Go.RowKit

section
variable {E : Env} {w0 : World} {φ : Ren} {h : Hp} {ls : Tr LoopA} {W : World} {fr : Tr Value} {n : Nat} {a : Act} {id : Nat} {o : Oper} {v : Value} {ob : Option Obj}

theorem l_un (H : WRel E w0 φ h ls W) (hf : FrRel φ fr n a.tmps) {op : UnOp} {t : TypeId} {x : Operand} (ho : o.op = .unOp op t x) (hx : light E h fr id o = some (v, ob)) :
    LPost E w0 φ ls W id v ob ((execOp a.eval o).run E.P W) := by
  simp only [light, ho, Option.pure_def, Option.bind_eq_bind, Option.bind_eq_some_iff] at hx
  obtain ⟨u1, h1, h2⟩ := hx
  have r1 := ev_rel H hf h1
  cases hp : plain u1 with
  | false => rw [hp] at h2; cases h2
  | true =>
    rw [hp] at h2
    simp only [cond_true, Option.bind_eq_some_iff, Option.some.injEq, Prod.mk.injEq] at h2
    obtain ⟨r, h3, rfl, rfl⟩ := h2
    obtain ⟨q1, q2⟩ := run0p_run h3
    refine LPost.pure (v' := r) ?_ (plain_refl q2 φ)
    simp only [execOp, ho, plain_eq hp r1]
    exact run_andThen_value (q1 W)

theorem l_makeInterface (K : EOk E) (H : WRel E w0 φ h ls W) (hf : FrRel φ fr n a.tmps) {t : TypeId} {x : Operand} (ho : o.op = .makeInterface t x) (hx : light E h fr id o = some (v, ob)) :
    LPost E w0 φ ls W id v ob ((execOp a.eval o).run E.P W) := by
  simp only [light, ho, Option.pure_def, Option.bind_eq_bind, Option.bind_eq_some_iff] at hx
  obtain ⟨u1, h1, d, h2, h3⟩ := hx
  have r1 := ev_rel H hf h1
  obtain ⟨d', hd1, hd2⟩ := und_of K h2
  have : (Instr.makeInterface t (a.eval x)).run E.P W = .ok (.iface t (a.eval x)) W := by
    simp only [Instr.makeInterface, Sem.run_bind, run_underlying_of hd1, Result.andThen_ok]
    subst hd2
    cases d' <;> first | rfl | (simp [absD, fail] at h3)
  split at h3
  · cases h3
  · simp only [Option.some.injEq, Prod.mk.injEq] at h3
    obtain ⟨rfl, rfl⟩ := h3
    refine LPost.pure (v' := .iface t (a.eval x)) ?_ (.iface r1)
    simp only [execOp, ho]
    exact run_andThen_value this

theorem fn_refl {f : Fn} (h : ∀ l, f ≠ .yield l) : FnRel φ f f := by
  cases f with
  | func f => exact .func f
  | method m => exact .method m
  | methodOf t m => exact .methodOf t m
  | via t p f b => exact .via t p f b
  | yield l => exact absurd rfl (h l)

theorem l_makeFunc (H : WRel E w0 φ h ls W) (hf : FrRel φ fr n a.tmps) {f : Fn} {x y : Array Operand} (ho : o.op = .makeFunc f x y) (hx : light E h fr id o = some (v, ob)) :
    LPost E w0 φ ls W id v ob ((execOp a.eval o).run E.P W) := by
  simp only [light, ho, Option.pure_def, Option.bind_eq_bind, Option.bind_eq_some_iff] at hx
  obtain ⟨us, h1, vs, h2, h3⟩ := hx
  have r1 := evs_rel H hf h1
  have r2 := evs_rel H hf h2
  split at h3
  · cases h3
  · rename_i hny
    simp only [Option.some.injEq, Prod.mk.injEq] at h3
    obtain ⟨rfl, rfl⟩ := h3
    refine LPost.pure (v' := .func f (x.map a.eval) (y.map a.eval)) ?_ (.func_of (fn_refl hny) ?_ ?_)
    · simp only [execOp, ho]; exact run_andThen_value rfl
    · unfold ARel; simpa using r1
    · unfold ARel; simpa using r2

theorem asI_rel {u w : Value} {i : Int} (h : asI u = some i) (r : VRel φ u w) : ∃ k, u = .int k i ∧ w = .int k i := by
  unfold asI at h
  split at h
  · simp only [Option.some.injEq] at h; subst h; cases r; exact ⟨_, rfl, rfl⟩
  · cases h

theorem l_makeMap (K : EOk E) (H : WRel E w0 φ h ls W) (hf : FrRel φ fr n a.tmps) (hid : φ id = none) (hl : E.lim ≤ id) {t : TypeId} {x : Option Operand} (ho : o.op = .makeMap t x) (hx : light E h fr id o = some (v, ob)) :
    LPost E w0 φ ls W id v ob ((execOp a.eval o).run E.P W) := by
  have fin : ∀ r : Result Next, r = .ok (.value (.map (some W.heap.size))) (pushW W (.map #[] 0)) → LPost E w0 φ ls W id (.map (some id)) (some (.map #[] 0)) r := by
    intro r hr
    refine LPost.new hid hl (e := ⟨W.heap.size, 0, 0, 0, 0⟩) rfl (o' := .map #[] 0) W.drawn hr ?_ ?_
    · exact VRel.map (e := ⟨W.heap.size, 0, 0, 0, 0⟩) (Ren.upd_same φ id _)
    · exact ⟨rfl, .nil⟩
  cases x with
  | none =>
    simp only [light, ho, Option.pure_def, Option.some.injEq, Prod.mk.injEq] at hx
    obtain ⟨rfl, rfl⟩ := hx
    exact fin _ (by simp only [execOp, ho, Option.map_none]; exact run_andThen_value rfl)
  | some x =>
    simp only [light, ho, Option.pure_def, Option.bind_eq_bind, Option.bind_eq_some_iff] at hx
    obtain ⟨u1, h1, i, h2, d, h3, h4⟩ := hx
    obtain ⟨k, _, e2⟩ := asI_rel h2 (ev_rel H hf h1)
    obtain ⟨d', hd1, hd2⟩ := und_of K h3
    split at h4
    · simp only [Option.some.injEq, Prod.mk.injEq] at h4
      obtain ⟨rfl, rfl⟩ := h4
      refine fin _ ?_
      cases d' <;> simp only [absD, reduceCtorEq] at hd2
      simp only [execOp, ho, Option.map_some]
      refine run_andThen_value ?_
      simp [Instr.makeMap, run_underlying_of hd1, asInt, asIntOf, e2]; rfl
    · cases h4

theorem rep_rel {z : List Value} (h1 : LRel φ z z) (k : Nat) : LRel φ (List.replicate k z).flatten (List.replicate k z).flatten := by
  induction k with
  | zero => exact .nil
  | succ k ih => rw [List.replicate_succ, List.flatten_cons]; exact h1.append ih
theorem zero_rel {z : Value} (h : plain z = true) : LRel φ z.cells.toList z.cells.toList := (plain_refl h φ).cells

/-- The model's way to lay a zero again and again. -/
theorem range_zero (z : Array Value) (m k : Nat) (hm : z.size = m) : ((Array.range (k * m)).map (fun i => z[i % z.size]!)).toList = (List.replicate k z.toList).flatten := by
  subst hm
  rw [Array.toList_map, Array.toList_range]
  induction k with
  | zero => simp
  | succ k ih =>
    rw [List.replicate_succ', List.flatten_append, ← ih]
    have : (k + 1) * z.size = k * z.size + z.size := by rw [Nat.succ_mul]
    rw [this, List.range_add, List.map_append]
    congr 1
    simp only [List.flatten_cons, List.flatten_nil, List.append_nil, List.map_map]
    apply List.ext_getElem?
    intro i
    rw [List.getElem?_map]
    by_cases hi : i < z.size
    · have e1 : (k * z.size + i) % z.size = i := by rw [Nat.add_comm, Nat.add_mul_mod_self_right, Nat.mod_eq_of_lt hi]
      rw [List.getElem?_range hi]
      simp only [Option.map_some, Function.comp_apply, e1]
      simp [hi]
    · have h1 : (List.range z.size)[i]? = none := by simp; omega
      rw [h1]; simp; omega
end
end Go.AM
