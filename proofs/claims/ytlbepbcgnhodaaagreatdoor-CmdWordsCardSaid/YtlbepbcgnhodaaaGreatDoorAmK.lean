/- The abstract machine: the other light operations, and the soundness of all of them. -/
import Derived.Test.YtlbepbcgnhodaaaGreatDoorAmJ
set_option linter.all false
namespace Go.AM
variable [Syms]
open Go.RowKit

section
variable {E : Env} {w0 : World} {φ : Ren} {h : Hp} {ls : Tr LoopA} {W : World} {fr : Tr Value} {n : Nat} {a : Act} {id : Nat} {o : Oper} {v : Value} {ob : Option Obj}

theorem l_extract (H : WRel E w0 φ h ls W) (hf : FrRel φ fr n a.tmps) {x : Operand} {k : Nat} (ho : o.op = .extract x k) (hx : light E h fr id o = some (v, ob)) :
    LPost E w0 φ ls W id v ob ((execOp a.eval o).run E.P W) := by
  simp only [light, ho, Option.pure_def, Option.bind_eq_bind, Option.bind_eq_some_iff] at hx
  obtain ⟨u1, h1, hx⟩ := hx
  split at hx
  · simp only [Option.bind_eq_some_iff, Option.some.injEq, Prod.mk.injEq, ofOpt] at hx
    obtain ⟨r, hr, rfl, rfl⟩ := hx
    obtain ⟨vs', e1, hvs⟩ := (ev_rel H hf h1).tuple_inv
    obtain ⟨r', q1, q2⟩ := hvs.get' _ _ hr
    refine LPost.pure (v' := r') ?_ q2
    simp only [execOp, ho]
    refine run_andThen_value ?_
    simp only [Instr.extract, e1, q1, Sem.run_pure]
  · cases hx

theorem tup2 {x x' y y' : Value} (h1 : VRel φ x x') (h2 : VRel φ y y') : VRel φ (.tuple #[x, y]) (.tuple #[x', y']) := .tuple_of (.cons h1 (.cons h2 .nil))

theorem l_typeAssert (K : EOk E) (H : WRel E w0 φ h ls W) (hf : FrRel φ fr n a.tmps) {x : Operand} {t t2 : TypeId} {ok : Bool} (ho : o.op = .typeAssert x t t2 ok) (hx : light E h fr id o = some (v, ob)) :
    LPost E w0 φ ls W id v ob ((execOp a.eval o).run E.P W) := by
  simp only [light, ho, Option.pure_def, Option.bind_eq_bind, Option.bind_eq_some_iff] at hx
  obtain ⟨u1, h1, d, hd, hx⟩ := hx
  obtain ⟨d', hd1, hd2⟩ := und_of K hd
  split at hx
  · cases hx
  · rename_i tt u hni
    obtain ⟨u', e1, hu⟩ := (ev_rel H hf h1).iface_inv
    have hnd : ∀ ms, d' ≠ .interface ms := by
      intro ms hh; subst hh; exact hni hd2.symm
    have run : ∀ r : Value, (if tt = t2 then (pure (if ok = true then .tuple #[u', .bool true] else u') : Sem Value) else
        (if ok = true then do pure (.tuple #[← zeroValue t2, .bool false]) else runtimePanic (.typeAssertion (some t) (some tt) t2 ""))).run E.P W = .ok r W →
        (Instr.typeAssert (a.eval x) t t2 ok).run E.P W = .ok r W := by
      intro r hr
      simp only [Instr.typeAssert, Sem.run_bind, run_underlying_of hd1, Result.andThen_ok, e1]
      cases d' <;> first | exact hr | exact absurd rfl (hnd _)
    cases ht : tt.beq t2 with
    | true =>
      rw [ht] at hx
      simp only [cond_true, Option.some.injEq, Prod.mk.injEq] at hx
      obtain ⟨rfl, rfl⟩ := hx
      have hte := Nat.eq_of_beq_eq_true ht
      cases ok with
      | true =>
        refine LPost.pure (v' := .tuple #[u', .bool true]) ?_ (tup2 hu (.bool _))
        simp only [execOp, ho]
        exact run_andThen_value (run _ (by rw [if_pos hte]; rfl))
      | false =>
        refine LPost.pure (v' := u') ?_ hu
        simp only [execOp, ho]
        exact run_andThen_value (run _ (by rw [if_pos hte]; rfl))
    | false =>
      rw [ht] at hx
      simp only [cond_false] at hx
      have hte : ¬ tt = t2 := by rintro rfl; simp at ht
      cases ok with
      | false => cases hx
      | true =>
        simp only [cond_true, Option.bind_eq_some_iff, Option.some.injEq, Prod.mk.injEq] at hx
        obtain ⟨z, hz, rfl, rfl⟩ := hx
        obtain ⟨q1, q2⟩ := run_zero_of K hz W
        refine LPost.pure (v' := .tuple #[z, .bool false]) ?_ (tup2 (plain_refl q2 φ) (.bool _))
        simp only [execOp, ho]
        refine run_andThen_value (run _ ?_)
        rw [if_neg hte]
        simp only [if_true, Sem.run_bind, q1, Result.andThen_ok, Sem.run_pure]
  · cases hx

theorem l_s2ap (K : EOk E) (H : WRel E w0 φ h ls W) (hf : FrRel φ fr n a.tmps) {t : TypeId} {x : Operand} (ho : o.op = .sliceToArrayPointer t x) (hx : light E h fr id o = some (v, ob)) :
    LPost E w0 φ ls W id v ob ((execOp a.eval o).run E.P W) := by
  simp only [light, ho, Option.pure_def, Option.bind_eq_bind, Option.bind_eq_some_iff] at hx
  obtain ⟨d, hd, u1, h1, hx⟩ := hx
  obtain ⟨d', hd1, hd2⟩ := und_of K hd
  have r1 := ev_rel H hf h1
  split at hx
  · rename_i m elem ad len cap
    cases hle : (Nat.ble m len && Nat.blt 0 m) with
    | false => rw [hle] at hx; cases hx
    | true =>
      rw [hle] at hx
      simp only [cond_true, Option.some.injEq, Prod.mk.injEq] at hx
      obtain ⟨rfl, rfl⟩ := hx
      rw [Bool.and_eq_true] at hle
      have hml := Nat.le_of_ble_eq_true hle.1
      have hm0 : 0 < m := by simpa using hle.2
      cases d' <;> simp only [absD, reduceCtorEq] at hd2
      injection hd2 with hd2 hd3; rw [hd2, hd3] at hd1; clear hd2 hd3
      cases ad with
      | none =>
        have e1 : a.eval x = .slice none len cap := plain_eq rfl r1
        refine LPost.pure (v' := .pointer none) ?_ .ptr0
        simp only [execOp, ho]
        refine run_andThen_value ?_
        simp only [Instr.arrayAt, Sem.run_bind, run_underlying_of hd1, Result.andThen_ok, e1]
        rw [if_neg (by omega)]; rfl
      | some ad =>
        obtain ⟨e, y', c', he, hsp, e2, hrel⟩ := r1.slice_inv
        obtain ⟨ab, ao, asp⟩ := ad
        simp only at hsp he hrel
        subst hsp
        rcases hrel with ⟨hy, _⟩ | ⟨h0, h00, _⟩
        · subst hy
          refine LPost.pure (v' := .pointer (some ⟨e.r, e.o + ao, none⟩)) ?_ (.ptr he)
          simp only [execOp, ho]
          refine run_andThen_value ?_
          simp only [Instr.arrayAt, Sem.run_bind, run_underlying_of hd1, Result.andThen_ok, e2]
          rw [if_neg (by omega)]; rfl
        · omega
  · cases hx

theorem l_range (K : EOk E) (H : WRel E w0 φ h ls W) (hf : FrRel φ fr n a.tmps) (hid : φ id = none) (hl : E.lim ≤ id) {t : TypeId} {x : Operand} (ho : o.op = .range t x) (hx : light E h fr id o = some (v, ob)) :
    LPost E w0 φ ls W id v ob ((execOp a.eval o).run E.P W) := by
  simp only [light, ho, Option.pure_def, Option.bind_eq_bind, Option.bind_eq_some_iff] at hx
  obtain ⟨d, hd, u1, h1, hx⟩ := hx
  obtain ⟨d', hd1, hd2⟩ := und_of K hd
  have r1 := ev_rel H hf h1
  have fin : ∀ (ob ob' : Obj), (Instr.range t (a.eval x)).run E.P W = .ok (.pointer (some ⟨W.heap.size, 0, none⟩)) (pushW W ob') → (∀ ψ, φ.le ψ → ORel E ψ ⟨W.heap.size, 0, 0, 0, 0⟩ ob ob') →
      LPost E w0 φ ls W id (ptrTo id) (some ob) ((execOp a.eval o).run E.P W) := by
    intro ob ob' hr hor
    refine LPost.new hid hl (e := ⟨W.heap.size, 0, 0, 0, 0⟩) rfl (v' := .pointer (some ⟨W.heap.size, 0, none⟩)) (o' := ob') W.drawn ?_ (ptrTo_rel rfl) (hor _ (Ren.le_upd hid _))
    simp only [execOp, ho]
    exact run_andThen_value hr
  split at hx
  · rename_i s
    cases hps : isPh s with
    | true => rw [hps] at hx; cases hx
    | false =>
    rw [hps] at hx
    simp only [cond_false, Option.some.injEq, Prod.mk.injEq] at hx
    obtain ⟨rfl, rfl⟩ := hx
    have e1 : a.eval x = .string s := r1.string_inv hps
    cases d' <;> simp only [absD, reduceCtorEq] at hd2
    refine fin _ (.stringIter s 0) ?_ fun ψ _ => ⟨rfl, rfl, rfl⟩
    simp only [Instr.range, Sem.run_bind, run_underlying_of hd1, Result.andThen_ok, e1, Sem.run_pure, run_newObj]
  · simp only [Option.some.injEq, Prod.mk.injEq] at hx
    obtain ⟨rfl, rfl⟩ := hx
    have e1 : a.eval x = .map none := plain_eq rfl r1
    cases d' <;> simp only [absD, reduceCtorEq] at hd2
    refine fin _ (.mapIter none 0 #[] 0) ?_ fun ψ _ => ⟨rfl, rfl, rfl, trivial, rfl⟩
    simp only [Instr.range, Sem.run_bind, run_underlying_of hd1, Result.andThen_ok, e1, Sem.run_pure, run_newObj]
  · rename_i m
    simp only [Option.bind_eq_some_iff, Option.some.injEq, Prod.mk.injEq] at hx
    obtain ⟨⟨es, clock⟩, hm, rfl, rfl⟩ := hx
    obtain ⟨e, he, e1⟩ := r1.map_inv
    obtain ⟨_, es', hw, _⟩ := mapAt_rel H he hm
    cases d' <;> simp only [absD, reduceCtorEq] at hd2
    refine fin _ (.mapIter (some e.r) clock #[] clock) ?_ fun ψ hψ => ⟨rfl, rfl, rfl, ⟨e, hψ _ _ he, rfl⟩, rfl⟩
    simp only [Instr.range, Sem.run_bind, run_underlying_of hd1, Result.andThen_ok, e1, run_getObj_of (P := E.P) hw (by intros; simp), Sem.run_pure, run_newObj]
  · cases hx

theorem entries_rel (H : WRel E w0 φ h ls W) {m m' : Value} (hm : VRel φ m m') {es : List MapEntry} (he : entriesA h m = some es) : ∃ es' : Array MapEntry, ERel φ es es'.toList ∧
    ((m' = .map none ∧ es' = #[]) ∨ ∃ r clock, m' = .map (some r) ∧ W.heap[r]? = some (.map es' clock)) := by
  unfold entriesA at he
  split at he
  · simp only [Option.some.injEq] at he; subst he
    cases hm
    exact ⟨#[], .nil, .inl ⟨rfl, rfl⟩⟩
  · rename_i r
    simp only [Option.pure_def, Option.bind_eq_bind, Option.bind_eq_some_iff, Option.some.injEq] at he
    obtain ⟨⟨es2, clock⟩, hm2, rfl⟩ := he
    obtain ⟨e, he, rfl⟩ := hm.map_inv
    obtain ⟨_, es', hw, hrel⟩ := mapAt_rel H he hm2
    exact ⟨es', hrel, .inr ⟨e.r, clock, rfl, hw⟩⟩
  · cases he

theorem l_lookup (K : EOk E) (H : WRel E w0 φ h ls W) (hf : FrRel φ fr n a.tmps) {t : TypeId} {x y : Operand} {ok : Bool} (ho : o.op = .lookup t x y ok) (hx : light E h fr id o = some (v, ob)) :
    LPost E w0 φ ls W id v ob ((execOp a.eval o).run E.P W) := by
  simp only [light, ho, Option.pure_def, Option.bind_eq_bind, Option.bind_eq_some_iff] at hx
  obtain ⟨k, h1, d, hd, hx⟩ := hx
  obtain ⟨d', hd1, hd2⟩ := und_of K hd
  split at hx
  · rename_i kt el
    simp only [Option.bind_eq_some_iff] at hx
    obtain ⟨kd, hkd, z, hz, m, hm, es, hes, hx⟩ := hx
    obtain ⟨kd', hk1, hk2⟩ := und_of K hkd
    obtain ⟨q1, q2⟩ := run_zero_of K hz W
    cases hok : keyOk kd k with
    | false => rw [hok] at hx; cases hx
    | true =>
      rw [hok] at hx
      simp only [cond_true, Option.bind_eq_some_iff, Option.some.injEq, Prod.mk.injEq] at hx
      obtain ⟨r, hr, rfl, rfl⟩ := hx
      have ek : a.eval y = k := plain_eq (scalar_plain (keyOk_scalar hok)) (ev_rel H hf h1)
      rw [← hk2] at hok
      obtain ⟨es', hrel, hrun⟩ := entries_rel H (ev_rel H hf hm) hes
      have hfn := findA_now hok hrel hr
      cases d' <;> simp only [absD, reduceCtorEq] at hd2
      injection hd2 with hd2 hd3; rw [hd2, hd3] at hd1; clear hd2 hd3
      have fin : ∀ (r' : Option (Nat × Value)), Instr.findNow kd' k es'.toList 0 = some r' →
          (Instr.lookup t (a.eval x) (a.eval y) ok).run E.P W = .ok (lookedUp z ok r') W := by
        intro r' hfd
        rcases hrun with ⟨e1, e2⟩ | ⟨rr, clock, e1, e2⟩
        · subst e2
          simp only [Instr.lookup, Sem.run_bind, run_underlying_of hd1, Result.andThen_ok, ek, e1, Sem.run_pure, run_checkKey hk1 hok, run_findKey hk1 hfd]
          cases r' with
          | none => simp only [Sem.run_bind, q1, Result.andThen_ok, Sem.run_pure, lookedUp]; cases ok <;> rfl
          | some p => obtain ⟨j, u⟩ := p; simp only [Result.andThen_ok, Sem.run_pure, lookedUp]; cases ok <;> rfl
        · simp only [Instr.lookup, Sem.run_bind, run_underlying_of hd1, Result.andThen_ok, ek, e1, run_getObj_of (P := E.P) e2 (by intros; simp), Sem.run_pure, run_checkKey hk1 hok, run_findKey hk1 hfd]
          cases r' with
          | none => simp only [Sem.run_bind, q1, Result.andThen_ok, Sem.run_pure, lookedUp]; cases ok <;> rfl
          | some p => obtain ⟨j, u⟩ := p; simp only [Result.andThen_ok, Sem.run_pure, lookedUp]; cases ok <;> rfl
      cases r with
      | none =>
        refine LPost.pure (v' := lookedUp z ok none) ?_ ?_
        · simp only [execOp, ho]
          exact run_andThen_value (fin _ hfn)
        · cases ok with
          | true => exact tup2 (plain_refl q2 φ) (.bool _)
          | false => exact plain_refl q2 φ
      | some p =>
        obtain ⟨j, u⟩ := p
        obtain ⟨u', g1, g2, _⟩ := hfn
        refine LPost.pure (v' := lookedUp z ok (some (j, u'))) ?_ ?_
        · simp only [execOp, ho]
          exact run_andThen_value (fin _ g1)
        · cases ok with
          | true => exact tup2 g2 (.bool _)
          | false => exact g2
  · cases hx
end
end Go.AM
