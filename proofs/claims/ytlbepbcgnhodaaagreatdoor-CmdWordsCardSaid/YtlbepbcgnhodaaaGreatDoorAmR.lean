/- The abstract machine: the other heavy operations; the soundness of all of them. -/
import Derived.Test.YtlbepbcgnhodaaaGreatDoorAmQ
set_option linter.all false
namespace Go.AM
variable [Syms]
open Go.RowKit

section
variable {E : Env} {w0 : World} {φ : Ren} {h h' : Hp} {ls : Tr LoopA} {W : World} {fr : Tr Value} {n : Nat} {a : Act} {id : Nat} {o : Oper} {r : HRes}

theorem args_two {x y : Value} {l : List Value} (h : LRel φ [x, y] l) : ∃ x' y', l = [x', y'] ∧ VRel φ x x' ∧ VRel φ y y' := by
  cases h with | cons h1 t => cases t with | cons h2 t => cases t; exact ⟨_, _, rfl, h1, h2⟩
theorem args_one {x : Value} {l : List Value} (h : LRel φ [x] l) : ∃ x', l = [x'] ∧ VRel φ x x' := by
  cases h with | cons h1 t => cases t; exact ⟨_, rfl, h1⟩

theorem exec_builtin {b : Builtin} {args : Array Operand} {ts : Array TypeId} (ho : o.op = .call { callee := .builtin b, args := args, argTypes := ts }) (P : Program) (W : World) :
    (execOp a.eval o).run P W = (builtin b ts o.type (args.map fun | .const _ => true | _ => false) (args.map a.eval)).run P W := by
  simp only [execOp, ho, resolve, Sem.run_bind, Sem.run_pure, Result.andThen_ok, invoke]
  rfl

theorem h_builtin (K : EOk E) (H : WRel E w0 φ h ls W) (hf : FrRel φ fr n a.tmps) (hid : φ id = none) (hl : E.lim ≤ id) {b : Builtin} {args : Array Operand} {ts : Array TypeId}
    (ho : o.op = .call { callee := .builtin b, args := args, argTypes := ts }) (hx : heavy E h fr id o = some (r, h')) : HPost E w0 φ ls W id h' ((execOp a.eval o).run E.P W) r := by
  simp only [heavy, ho, Option.pure_def, Option.bind_eq_bind, Option.bind_eq_some_iff] at hx
  obtain ⟨vs, h1, hx⟩ := hx
  have r1 := evs_rel H hf h1
  have harr : ∀ {l : List Value}, args.toList.map a.eval = l → args.map a.eval = l.toArray := by
    intro l hl; apply Array.ext'; simp [hl]
  rw [exec_builtin ho]
  split at hx
  · -- append
    simp only [Option.bind_eq_some_iff, Option.some.injEq, Prod.mk.injEq] at hx
    obtain ⟨⟨v, h2⟩, ha, rfl, rfl⟩ := hx
    obtain ⟨s', x', e1, q1, q2⟩ := args_two r1
    rw [harr e1]
    obtain ⟨φ', v', W', p1, p2, p3, p4, p5⟩ := append_rel (ty := o.type) K H hid hl q1 q2 ha
    refine ⟨φ', v', W', p1, p2, .inl ?_, p4, p5⟩
    simp only [builtin, Sem.run_bind]
    have p3' : (Builtin.append_ ts o.type [s', x'].toArray).run E.P W = .ok v' W' := p3
    rw [p3']; rfl
  · -- copy
    rename_i d s
    simp only [Option.bind_eq_some_iff, ofOpt] at hx
    obtain ⟨dt, hdt, dd, hdd, hx⟩ := hx
    obtain ⟨dd', hd1, hd2⟩ := und_of K hdd
    obtain ⟨d', s', e1, q1, q2⟩ := args_two r1
    rw [harr e1]
    split at hx
    · rename_i elem base dLen cap
      simp only [Option.bind_eq_some_iff] at hx
      obtain ⟨i, hi, sl, hsl, cs, hcs, hx⟩ := hx
      cases dd' <;> simp only [absD, reduceCtorEq] at hd2
      injection hd2 with hd2; rw [hd2] at hd1; clear hd2
      obtain ⟨hsl1, hsl2⟩ := lenA_rel (E := E) hsl q2 W
      obtain ⟨cs', g1, g2, _⟩ := firstA_rel H q2 (fun p l c hh => by have := hsl2 p l c hh; exact Nat.le_trans (Nat.min_le_left _ _) (by omega)) hcs
      have wrap : ∀ (base' : Option Addr) (c' : Nat) (W' : World), d' = .slice base' dLen c' → (match base' with | some a => storeCells a cs'.toList | none => pure () : Sem Unit).run E.P W = .ok () W' →
          (builtin .copy ts o.type (args.map fun | .const _ => true | _ => false) [d', s'].toArray).run E.P W = .ok (.value (.int .i64 (Nat.min sl dLen))) W' := by
        intro base' c' W' hd' hst
        subst hd'
        have e0 : ([Value.slice base' dLen c', s'].toArray : Array Value)[0]? = some (.slice base' dLen c') := rfl
        have e2 : ([Value.slice base' dLen c', s'].toArray : Array Value)[1]? = some s' := rfl
        have : (Builtin.copy_ ts o.type [Value.slice base' dLen c', s'].toArray).run E.P W = .ok (.int .i64 (Nat.min sl dLen)) W' := by
          simp only [Builtin.copy_, hdt, e0, e2, Sem.run_bind, run_underlying_of hd1, Result.andThen_ok, hsl1, run_sizeOf_of K hi]
          have g1' : (Builtin.firstCells i.size (Nat.min sl dLen) s').run E.P W = .ok cs' W := g1 W.drawn
          simp only [g1', Result.andThen_ok]
          cases base' with
          | none => simp only [Sem.run_pure, Result.ok.injEq, true_and] at hst; subst hst; rfl
          | some p => simp only [Sem.run_bind, hst, Result.andThen_ok]; rfl
        simp only [builtin, Sem.run_bind, this]; rfl
      split at hx
      · simp only [Option.some.injEq, Prod.mk.injEq] at hx
        obtain ⟨rfl, rfl⟩ := hx
        exact HPost.val (v' := .int .i64 (Nat.min sl dLen)) (wrap none cap W (plain_eq rfl q1) rfl) (.int _ _) H
      · rename_i ad
        obtain ⟨e, y, c', he, hsp, e2, hrel⟩ := q1.slice_inv
        obtain ⟨ab, ao, asp⟩ := ad
        simp only at hsp he hrel
        subst hsp
        have hcl : cs'.toList.length = cs.length := g2.length.symm
        cases hz : cs.length.beq 0 with
        | true =>
          simp only [hz, cond_true, Option.some.injEq, Prod.mk.injEq] at hx
          obtain ⟨rfl, rfl⟩ := hx
          have h0 := Nat.eq_of_beq_eq_true hz
          have : cs'.toList = [] := by apply List.length_eq_zero_iff.1; omega
          exact HPost.val (v' := .int .i64 (Nat.min sl dLen)) (wrap _ c' W e2 (by simp only [this, storeCells]; rfl)) (.int _ _) H
        | false =>
          simp only [hz, cond_false, Option.bind_eq_some_iff, Option.some.injEq, Prod.mk.injEq] at hx
          obtain ⟨h2, hst, rfl, rfl⟩ := hx
          have hy : y = e.o + ao := by
            rcases hrel with ⟨hh, _⟩ | ⟨h0, _, _⟩
            · exact hh
            · exfalso
              subst h0
              have hm : Nat.min sl 0 = 0 := Nat.min_zero sl
              rw [hm] at hcs
              obtain ⟨L', _, _, hlen⟩ := firstA_rel H q2 (fun _ _ _ _ => Nat.zero_le _) hcs
              rw [Nat.zero_mul] at hlen
              rw [hlen] at hz; simp at hz
          subst hy
          obtain ⟨W', p1, p2⟩ := storeC_rel H (ad := ⟨ab, ao, none⟩) he rfl g2 hst
          exact HPost.val (v' := .int .i64 (Nat.min sl dLen)) (wrap _ c' W' e2 p1) (.int _ _) p2
    · cases hx
  · -- delete
    rename_i m k
    simp only [Option.bind_eq_some_iff, ofOpt] at hx
    obtain ⟨mt, hmt, dd, hdd, hx⟩ := hx
    obtain ⟨dd', hd1, hd2⟩ := und_of K hdd
    obtain ⟨m', k', e1, q1, q2⟩ := args_two r1
    rw [harr e1]
    have e2 : ∀ q p : Value, ([q, p].toArray : Array Value)[1]? = some p := fun _ _ => rfl
    have e0 : ∀ q p : Value, ([q, p].toArray : Array Value)[0]? = some q := fun _ _ => rfl
    have wrap : ∀ W', (Builtin.delete_ ts o.type [m', k'].toArray).run E.P W = .ok (.tuple #[]) W' →
        (builtin .delete ts o.type (args.map fun | .const _ => true | _ => false) [m', k'].toArray).run E.P W = .ok (.value (.tuple #[])) W' := by
      intro W' hr
      simp only [builtin, Sem.run_bind, hr]; rfl
    split at hx
    · rename_i kt el rr
      simp only [Option.bind_eq_some_iff] at hx
      obtain ⟨kd, hkd, ⟨es, clock⟩, hes, hx⟩ := hx
      obtain ⟨kd', hk1, hk2⟩ := und_of K hkd
      obtain ⟨e, he, rfl⟩ := q1.map_inv
      obtain ⟨hg, es', hw, hrel⟩ := mapAt_rel H he hes
      cases hok : (keyOk kd k && Nat.ble E.lim rr) with
      | false => simp only [hok, cond_false] at hx; cases hx
      | true =>
        simp only [hok, cond_true, Option.bind_eq_some_iff] at hx
        rw [Bool.and_eq_true] at hok
        obtain ⟨q, hq, hx⟩ := hx
        have hks := keyOk_scalar hok.1
        have hlim := Nat.le_of_ble_eq_true hok.2
        have hok1 := hok.1
        rw [← hk2] at hok1
        have ek : k' = k := plain_eq (scalar_plain hks) q2
        subst ek
        have hfn := findA_now hok1 hrel hq
        have hne : ∀ c t f, (Obj.map es' clock) ≠ .cells c t f := by intros; simp
        cases dd' <;> simp only [absD, reduceCtorEq] at hd2
        injection hd2 with hd2 hd3; rw [hd2, hd3] at hd1; clear hd2 hd3
        cases q with
        | none =>
          simp only [Option.some.injEq, Prod.mk.injEq] at hx
          obtain ⟨rfl, rfl⟩ := hx
          refine HPost.val (v' := .tuple #[]) (wrap _ ?_) (plain_refl rfl φ) (H.put he hlim (by rw [hg]; rfl) (o' := .map es' clock) ⟨rfl, hrel⟩)
          simp only [Builtin.delete_, hmt, e0, e2, Sem.run_bind, run_underlying_of hd1, Result.andThen_ok, run_getObj_of (P := E.P) hw hne, run_checkKey hk1 hok1, run_findKey hk1 hfn, run_setObj_of (P := E.P) _ hw hne, Sem.run_pure]
        | some p =>
          obtain ⟨i, u⟩ := p
          obtain ⟨u', g1, _⟩ := hfn
          simp only [Option.some.injEq, Prod.mk.injEq] at hx
          obtain ⟨rfl, rfl⟩ := hx
          refine HPost.val (v' := .tuple #[]) (wrap _ ?_) (plain_refl rfl φ) (H.put he hlim (by rw [hg]; rfl) (o' := .map (es'.eraseIdxIfInBounds i) clock) ⟨rfl, ?_⟩)
          · simp only [Builtin.delete_, hmt, e0, e2, Sem.run_bind, run_underlying_of hd1, Result.andThen_ok, run_getObj_of (P := E.P) hw hne, run_checkKey hk1 hok1, run_findKey hk1 g1, run_setObj_of (P := E.P) _ hw hne, Sem.run_pure]
          · have key : ∀ (xs : Array MapEntry), (xs.eraseIdxIfInBounds i).toList = xs.toList.eraseIdx i := by
              intro xs; cases xs; simp
            rw [key, key]
            exact hrel.eraseIdx i
    · rename_i kt el
      simp only [Option.bind_eq_some_iff] at hx
      obtain ⟨kd, hkd, hx⟩ := hx
      obtain ⟨kd', hk1, hk2⟩ := und_of K hkd
      cases hok : keyOk kd k with
      | false => simp only [hok, cond_false] at hx; cases hx
      | true =>
        simp only [hok, cond_true, Option.some.injEq, Prod.mk.injEq] at hx
        obtain ⟨rfl, rfl⟩ := hx
        have hok1 := hok
        rw [← hk2] at hok1
        have em : m' = .map none := plain_eq rfl q1
        have ek : k' = k := plain_eq (scalar_plain (keyOk_scalar hok)) q2
        subst em; subst ek
        cases dd' <;> simp only [absD, reduceCtorEq] at hd2
        injection hd2 with hd2 hd3; rw [hd2, hd3] at hd1; clear hd2 hd3
        refine HPost.val (v' := .tuple #[]) (wrap _ ?_) (plain_refl rfl φ) H
        simp only [Builtin.delete_, hmt, e0, e2, Sem.run_bind, run_underlying_of hd1, Result.andThen_ok, run_checkKey hk1 hok1, Sem.run_pure]
    · cases hx
  · -- clear
    rename_i x
    simp only [Option.bind_eq_some_iff, ofOpt] at hx
    obtain ⟨xt, hxt, dd, hdd, hx⟩ := hx
    obtain ⟨dd', hd1, hd2⟩ := und_of K hdd
    obtain ⟨x', e1, q1⟩ := args_one r1
    rw [harr e1]
    have e0 : ∀ q : Value, ([q].toArray : Array Value)[0]? = some q := fun _ => rfl
    have wrap : ∀ W', (Builtin.clear_ ts o.type [x'].toArray).run E.P W = .ok (.tuple #[]) W' →
        (builtin .clear ts o.type (args.map fun | .const _ => true | _ => false) [x'].toArray).run E.P W = .ok (.value (.tuple #[])) W' := by
      intro W' hr
      simp only [builtin, Sem.run_bind, hr]; rfl
    split at hx
    · rename_i elem len cap
      simp only [Option.some.injEq, Prod.mk.injEq] at hx
      obtain ⟨rfl, rfl⟩ := hx
      have ex : x' = .slice none len cap := plain_eq rfl q1
      subst ex
      refine HPost.val (v' := .tuple #[]) (wrap _ ?_) (plain_refl rfl φ) H
      simp only [Builtin.clear_, hxt, e0, Sem.run_bind, run_underlying_of hd1, Result.andThen_ok, Sem.run_pure]
    · rename_i elem ad len cap
      simp only [Option.bind_eq_some_iff] at hx
      obtain ⟨i, hi, z, hz, hx⟩ := hx
      obtain ⟨z1, z2⟩ := run_zero_of K hz W
      cases dd' <;> simp only [absD, reduceCtorEq] at hd2
      injection hd2 with hd2; rw [hd2] at hd1; clear hd2
      cases hzs : z.cells.size.beq i.size with
      | false => simp only [hzs, cond_false] at hx; cases hx
      | true =>
        simp only [hzs, cond_true] at hx
        have hzs := Nat.eq_of_beq_eq_true hzs
        obtain ⟨e, y, c', he, hsp, rfl, hrel⟩ := q1.slice_inv
        obtain ⟨ab, ao, asp⟩ := ad
        simp only at hsp he hrel
        subst hsp
        have hrun : ∀ W', (storeCells ⟨e.r, y, none⟩ (List.replicate len z.cells.toList).flatten).run E.P W = .ok () W' → (Builtin.clear_ ts o.type [Value.slice (some ⟨e.r, y, none⟩) len c'].toArray).run E.P W = .ok (.tuple #[]) W' := by
          intro W' hst
          cases len with
          | zero =>
            have : W' = W := by
              simp only [List.replicate_zero, List.flatten_nil, storeCells] at hst
              injection hst with _ h2; exact h2.symm
            subst this
            simp only [Builtin.clear_, hxt, e0, Sem.run_bind, run_underlying_of hd1, Result.andThen_ok, Sem.run_pure]
          | succ len =>
            simp only [Builtin.clear_, hxt, e0, Sem.run_bind, run_underlying_of hd1, Result.andThen_ok, z1, zeroCells_eq, hst, Sem.run_pure]
        cases hl0 : (len * i.size).beq 0 with
        | true =>
          simp only [hl0, cond_true, Option.some.injEq, Prod.mk.injEq] at hx
          obtain ⟨rfl, rfl⟩ := hx
          have h0 := Nat.eq_of_beq_eq_true hl0
          have : (List.replicate len z.cells.toList).flatten = [] := by
            apply List.length_eq_zero_iff.1
            simp only [List.length_flatten, List.map_replicate, List.sum_replicate_nat, Array.length_toList, hzs]
            exact h0
          refine HPost.val (v' := .tuple #[]) (wrap _ (hrun W ?_)) (plain_refl rfl φ) H
          rw [this]; rfl
        | false =>
          simp only [hl0, cond_false, Option.bind_eq_some_iff, Option.some.injEq, Prod.mk.injEq] at hx
          obtain ⟨h2, hst, rfl, rfl⟩ := hx
          have hy : y = e.o + ao := by
            rcases hrel with ⟨hh, _⟩ | ⟨h0, _, _⟩
            · exact hh
            · subst h0; simp at hl0
          subst hy
          obtain ⟨W', p1, p2⟩ := storeC_rel H (ad := ⟨ab, ao, none⟩) he rfl (rep_rel (zero_rel z2) len) hst
          exact HPost.val (v' := .tuple #[]) (wrap _ (hrun W' p1)) (plain_refl rfl φ) p2
    · cases hx
  · -- panic
    rename_i x
    obtain ⟨x', e1, q1⟩ := args_one r1
    rw [harr e1]
    split at hx
    · simp only [Option.some.injEq, Prod.mk.injEq] at hx
      obtain ⟨rfl, rfl⟩ := hx
      obtain ⟨u', rfl, hu⟩ := q1.iface_inv
      exact ⟨_, rfl, .iface hu, H⟩
    · cases hx
  · cases hx

theorem h_panic (H : WRel E w0 φ h ls W) (hf : FrRel φ fr n a.tmps) {x : Operand} (ho : o.op = .panic x) (hx : heavy E h fr id o = some (r, h')) :
    HPost E w0 φ ls W id h' ((execOp a.eval o).run E.P W) r := by
  simp only [heavy, ho, Option.pure_def, Option.bind_eq_bind, Option.bind_eq_some_iff] at hx
  obtain ⟨u, h1, hx⟩ := hx
  split at hx
  · simp only [Option.some.injEq, Prod.mk.injEq] at hx
    obtain ⟨rfl, rfl⟩ := hx
    obtain ⟨u', e1, hu⟩ := (ev_rel H hf h1).iface_inv
    refine ⟨_, ?_, .iface hu, H⟩
    simp only [execOp, ho, e1]
    rfl
  · cases hx

theorem resolve_rel (H : WRel E w0 φ h ls W) (hf : FrRel φ fr n a.tmps) {c : Call} {t : Target} {vs : List Value} {ty : TypeId} (hr : resolveA E h fr c = some (t, vs)) :
    ∃ d', (resolve a.eval c ty).run E.P W = .ok d' W ∧ TRel φ t d'.target ∧ LRel φ vs d'.args.toList := by
  simp only [resolveA, Option.pure_def, Option.bind_eq_bind, Option.bind_eq_some_iff] at hr
  obtain ⟨us, h1, hr⟩ := hr
  have r1 := evs_rel H hf h1
  split at hr
  · rename_i f hc
    simp only [Option.bind_eq_some_iff] at hr
    obtain ⟨u, h2, hr⟩ := hr
    have r2 := ev_rel H hf h2
    split at hr
    · simp only [Option.some.injEq, Prod.mk.injEq] at hr
      obtain ⟨rfl, rfl⟩ := hr
      obtain ⟨g, b, d, e1, q1, q2, q3⟩ := r2.func_inv
      refine ⟨{ target := .fn g d, args := b ++ c.args.map a.eval }, ?_, .fn q1 q3, ?_⟩
      · simp only [resolve, hc, Deferred.ofValue, e1, Sem.run_pure]
      · simp only [Array.toList_append, Array.toList_map]
        exact LRel.append q2 r1
    · cases hr
  · rename_i rv name hc
    simp only [Option.bind_eq_some_iff, Option.some.injEq, Prod.mk.injEq] at hr
    obtain ⟨u, h2, rfl, rfl⟩ := hr
    refine ⟨{ target := .fn (.method name) #[], args := #[a.eval rv] ++ c.args.map a.eval }, ?_, .fn (.method _) .nil, ?_⟩
    · simp only [resolve, hc, Sem.run_pure]
    · simp only [Array.toList_append, Array.toList_map]
      exact .cons (ev_rel H hf h2) r1
  · cases hr

theorem callA_rel (K : EOk E) (H : WRel E w0 φ h ls W) {f : FuncId} {args : List Value} {args' : Array Value} (ha : LRel φ args args'.toList) (hc : callA E f args.toArray = some r) :
    HPost E w0 φ ls W id h ((callFunc f args').run E.P W) r := by
  simp only [callA, Option.pure_def, Option.bind_eq_bind, Option.bind_eq_some_iff, ofOpt] at hc
  obtain ⟨fi, hfi, hc⟩ := hc
  obtain ⟨fn, hf1, hf2, hf3, hf4, hf5⟩ := K.fns f fi hfi
  split at hc
  · rename_i c hb
    simp only [Option.some.injEq] at hc
    subst hc
    refine ⟨args', ?_, ha, H⟩
    have hb' : fn.body = some c := by rw [hf3]; exact hb
    simp [callFunc, hf1, hf5, hb']
  · rename_i hb
    cases hp : args.all plain with
    | false => have : args.toArray.toList.all plain = false := hp; simp only [this, cond_false] at hc; cases hc
    | true =>
      have hp' : args.toArray.toList.all plain = true := hp
      simp only [hp', cond_true, Option.bind_eq_some_iff, Option.some.injEq] at hc
      obtain ⟨v, hv, rfl⟩ := hc
      have e1 : args' = args.toArray := by
        apply Array.ext'
        exact plains_eq hp ha
      obtain ⟨q1, q2⟩ := K.ext f args.toArray v hv hp'
      rw [e1]
      exact HPost.val (v' := v) (q2 W) (plain_refl q1 φ) H

theorem targetA_rel (K : EOk E) (H : WRel E w0 φ h ls W) {t t' : Target} {args : List Value} {args' : Array Value} (ht : TRel φ t t') (ha : LRel φ args args'.toList) (hc : targetA E t args = some r) :
    HPost E w0 φ ls W id h ((invoke t' args').run E.P W) r := by
  unfold targetA at hc
  split at hc
  · -- a function
    rename_i f cap
    cases ht with | fn hf hcap => cases hf; exact callA_rel K H (args' := args' ++ _) (by simpa using ha.append hcap) hc
  · -- a method
    rename_i name cap
    cases ht with | fn hf hcap =>
    cases hf
    split at hc
    · rename_i t v rest
      simp only [Option.bind_eq_bind, Option.bind_eq_some_iff] at hc
      obtain ⟨f, hm, hc⟩ := hc
      cases hal : args'.toList with
      | nil => rw [hal] at ha; cases ha
      | cons w rest' =>
        rw [hal] at ha
        cases ha with | cons h1 h2 =>
        obtain ⟨v', rfl, hv⟩ := h1.iface_inv
        have hargs : args' = (Value.iface t v' :: rest').toArray := by apply Array.ext'; rw [hal]
        simp only [methA, Option.pure_def, Option.bind_eq_bind, Option.bind_eq_some_iff, ofOpt] at hm
        obtain ⟨i, hi, m, hmm, d, hd, hm⟩ := hm
        cases hpe : m.path.isEmpty with
        | false => simp only [hpe, cond_false] at hm; cases hm
        | true =>
          simp only [hpe, cond_true] at hm
          obtain ⟨d', hd1, hd2⟩ := und_of K hd
          have hpath : m.path = #[] := Array.isEmpty_iff.1 hpe
          have hmeth : ∀ k : Nat, (method (k + 1) t v' name).run E.P W = .ok (f, v') W := by
            intro k
            simp only [method, Sem.run_bind, run_typeInfo_of hi, Result.andThen_ok, hmm, hpath]
            have hfol : (follow [] t (.val v')).run E.P W = .ok (t, .val v') W := rfl
            simp only [hfol, Result.andThen_ok]
            subst hd2
            split at hm
            · rename_i h1 h2
              simp only [Option.some.injEq] at hm; subst hm
              simp only [h1, receiverAt, Sem.run_bind, run_underlying_of hd1, Result.andThen_ok]
              cases d' <;> simp only [absD, reduceCtorEq] at h2
              rfl
            · cases hm
            · rename_i h1 h2
              simp only [Option.some.injEq] at hm; subst hm
              simp only [h1, receiverAt, Sem.run_bind, run_underlying_of hd1, Result.andThen_ok]
              cases d' <;> first | rfl | (exfalso; exact h2 _ rfl)
            · cases hm
          have hrun : (invoke (.fn (.method name) ‹_›) args').run E.P W = (callFunc f (#[v'] ++ args'.extract 1 args'.size)).run E.P W := by
            have e0 : args'[0]? = some (.iface t v') := by rw [hargs]; rfl
            simp only [invoke, e0, callMethod, Sem.run_bind, run_program, Result.andThen_ok]
            have : (E.P.types.size + Made.depth) = (E.P.types.size + (Made.depth - 1)) + 1 := by
              have : 0 < Made.depth := by decide
              omega
            rw [this, hmeth]
            rfl
          rw [hrun]
          refine callA_rel K H ?_ hc
          have e3 : (#[v'] ++ args'.extract 1 args'.size).toList = v' :: rest' := by rw [hargs]; simp
          rw [e3]
          exact .cons hv h2
    · cases hc
  · -- a yield
    rename_i l cap
    simp only [Option.some.injEq] at hc
    subst hc
    cases ht with | fn hf hcap =>
    cases hf with | yield hl =>
    refine ⟨H, fun lp hlp hps => ?_⟩
    obtain ⟨_, e, L, he, hw, hlr⟩ := H.lp l lp hlp
    rw [hl] at he; injection he with he; subst he
    refine ⟨args', _, L, hl, hw, hlr, ha, ?_⟩
    have hsz : args'.size = L.params.size := by
      have h1 := ha.length
      simp only [Array.length_toList] at h1
      rw [hlr.2.2.1, hps]; simp; exact h1.symm
    simp only [invoke, Instr.yield, Instr.getLoop, Sem.run_bind, run_getObj_of (P := E.P) hw (by intros; simp), Result.andThen_ok, Sem.run_pure]
    rw [if_neg (by simpa using hsz)]
    rfl
  · cases hc
  · cases hc
  · cases hc

theorem h_call (K : EOk E) (H : WRel E w0 φ h ls W) (hf : FrRel φ fr n a.tmps) {c : Call} (hb : ∀ b, c.callee ≠ .builtin b) (ho : o.op = .call c) (hx : heavy E h fr id o = some (r, h')) :
    HPost E w0 φ ls W id h' ((execOp a.eval o).run E.P W) r := by
  obtain ⟨callee, args, ts⟩ := c
  have hx : (do let (t, vs) ← resolveA E h fr ⟨callee, args, ts⟩; let r ← targetA E t vs; pure (r, h) : R (HRes × Hp)) = some (r, h') := by
    cases callee with
    | builtin b => exact absurd rfl (hb b)
    | _ => simpa only [heavy, ho] using hx
  simp only [Option.pure_def, Option.bind_eq_bind, Option.bind_eq_some_iff, Option.some.injEq, Prod.mk.injEq] at hx
  obtain ⟨⟨t, vs⟩, hr, r', ht, rfl, rfl⟩ := hx
  obtain ⟨d', q1, q2, q3⟩ := resolve_rel (ty := o.type) H hf hr
  have : (execOp a.eval o).run E.P W = (invoke d'.target d'.args).run E.P W := by
    simp only [execOp, ho, Sem.run_bind, q1, Result.andThen_ok]
  rw [this]
  exact targetA_rel K H q2 q3 ht

theorem h_defer (H : WRel E w0 φ h ls W) (hf : FrRel φ fr n a.tmps) {c : Call} (ho : o.op = .defer c) (hx : heavy E h fr id o = some (r, h')) :
    HPost E w0 φ ls W id h' ((execOp a.eval o).run E.P W) r := by
  simp only [heavy, ho, Option.pure_def, Option.bind_eq_bind, Option.bind_eq_some_iff, Option.some.injEq, Prod.mk.injEq] at hx
  obtain ⟨⟨t, vs⟩, hr, rfl, rfl⟩ := hx
  obtain ⟨d', q1, q2, q3⟩ := resolve_rel (ty := o.type) H hf hr
  exact ⟨d', by simp only [execOp, ho, Sem.run_bind, q1, Result.andThen_ok, Sem.run_pure], ⟨q2, q3⟩, H⟩

/-- EVERY HEAVY OPERATION .. -/
theorem heavy_sound (K : EOk E) (H : WRel E w0 φ h ls W) (hf : FrRel φ fr n a.tmps) (hid : φ id = none) (hl : E.lim ≤ id) (hx : heavy E h fr id o = some (r, h')) :
    HPost E w0 φ ls W id h' ((execOp a.eval o).run E.P W) r := by
  cases ho : o.op with
  | store t x y => exact h_store K H hf ho hx
  | insert t x y z => exact h_update K H hf (.inr ho) hx
  | mapUpdate t x y z => exact h_update K H hf (.inl ho) hx
  | mapEntry t x y => exact h_mapEntry K H hf ho hx
  | entryStore t x y z => exact h_entryStore K H hf ho hx
  | next x s => exact h_next H hf ho hx
  | panic x => exact h_panic H hf ho hx
  | defer c => exact h_defer H hf ho hx
  | call c =>
    obtain ⟨callee, args, ts⟩ := c
    cases callee with
    | builtin b => exact h_builtin K H hf hid hl ho hx
    | value f => exact h_call K H hf (by intro b; simp) ho hx
    | invoke rv m => exact h_call K H hf (by intro b; simp) ho hx
  | _ => simp [heavy, ho, fail] at hx
end
end Go.AM
