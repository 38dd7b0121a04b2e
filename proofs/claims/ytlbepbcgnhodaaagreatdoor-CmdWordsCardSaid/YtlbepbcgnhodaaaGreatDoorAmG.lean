/- The abstract machine: each light operation is sound. -/
import Derived.Test.YtlbepbcgnhodaaaGreatDoorAmF
set_option linter.all false
namespace Go.AM
variable [Syms]
open Go.RowKit

section
variable {E : Env} {w0 : World} {φ : Ren} {h : Hp} {ls : Tr LoopA} {W : World} {fr : Tr Value} {n : Nat} {a : Act} {id : Nat} {o : Oper} {v : Value} {ob : Option Obj}

theorem l_move (H : WRel E w0 φ h ls W) (hf : FrRel φ fr n a.tmps) {x : Operand} (ho : o.op = .move x ∨ o.op = .assign x) (hx : light E h fr id o = some (v, ob)) :
    LPost E w0 φ ls W id v ob ((execOp a.eval o).run E.P W) := by
  rcases ho with ho | ho <;>
  · simp only [light, ho, Option.pure_def, Option.bind_eq_bind, Option.bind_eq_some_iff, Option.some.injEq, Prod.mk.injEq] at hx
    obtain ⟨u, h1, rfl, rfl⟩ := hx
    exact LPost.pure (v' := a.eval x) (by simp [execOp, ho]) (ev_rel H hf h1)

theorem bool_inv {b : Bool} {w : Value} (h : VRel φ (.bool b) w) : w = .bool b := by cases h; rfl

theorem l_pick (H : WRel E w0 φ h ls W) (hf : FrRel φ fr n a.tmps) {c x y : Operand} (ho : o.op = .pick c x y) (hx : light E h fr id o = some (v, ob)) :
    LPost E w0 φ ls W id v ob ((execOp a.eval o).run E.P W) := by
  simp only [light, ho, Option.pure_def, Option.bind_eq_bind, Option.bind_eq_some_iff] at hx
  obtain ⟨u, h1, h2⟩ := hx
  split at h2
  · rename_i t
    have hc := bool_inv (ev_rel H hf h1)
    simp only [Option.bind_eq_some_iff, Option.some.injEq, Prod.mk.injEq] at h2
    obtain ⟨u, h3, rfl, rfl⟩ := h2
    cases t with
    | true => exact LPost.pure (v' := a.eval x) (by simp [execOp, ho, asBool, hc]) (ev_rel H hf h3)
    | false => exact LPost.pure (v' := a.eval y) (by simp [execOp, ho, asBool, hc]) (ev_rel H hf h3)
  · cases h2

theorem l_alloc (K : EOk E) (hid : φ id = none) (hl : E.lim ≤ id) {t : TypeId} (ho : o.op = .alloc t) (hx : light E h fr id o = some (v, ob)) :
    LPost E w0 φ ls W id v ob ((execOp a.eval o).run E.P W) := by
  simp only [light, ho, Option.pure_def, Option.bind_eq_bind, Option.bind_eq_some_iff, Option.some.injEq, Prod.mk.injEq] at hx
  obtain ⟨z, h1, rfl, rfl⟩ := hx
  obtain ⟨h2, h3⟩ := run_zero_of K h1 W
  refine LPost.new hid hl (e := ⟨W.heap.size, 0, z.cells.size, eszOf E t, z.cells.size⟩) rfl (v' := .pointer (some ⟨W.heap.size, 0, none⟩)) (o' := .cells z.cells t (0, 0)) W.drawn ?_ (ptrTo_rel rfl) (new_cells t _ (plain_refl h3 _).cells)
  simp [execOp, ho, Instr.alloc, h2, newVar, run_newRow]; rfl

theorem l_box (H : WRel E w0 φ h ls W) (hf : FrRel φ fr n a.tmps) (hid : φ id = none) (hl : E.lim ≤ id) {t : TypeId} {x : Operand} (ho : o.op = .box t x) (hx : light E h fr id o = some (v, ob)) :
    LPost E w0 φ ls W id v ob ((execOp a.eval o).run E.P W) := by
  simp only [light, ho, Option.pure_def, Option.bind_eq_bind, Option.bind_eq_some_iff, Option.some.injEq, Prod.mk.injEq] at hx
  obtain ⟨z, h1, rfl, rfl⟩ := hx
  have hz := ev_rel H hf h1
  refine LPost.new hid hl (e := ⟨W.heap.size, 0, z.cells.size, eszOf E t, z.cells.size⟩) rfl (v' := .pointer (some ⟨W.heap.size, 0, none⟩)) (o' := .cells (a.eval x).cells t (0, 0)) W.drawn ?_ (ptrTo_rel rfl)
    (new_cells t _ (hz.mono (Ren.le_upd hid _)).cells)
  simp [execOp, ho, Instr.box, newVar, run_newRow]; rfl

theorem l_load (K : EOk E) (H : WRel E w0 φ h ls W) (hf : FrRel φ fr n a.tmps) {t : TypeId} {x : Operand} (ho : o.op = .load t x) (hx : light E h fr id o = some (v, ob)) :
    LPost E w0 φ ls W id v ob ((execOp a.eval o).run E.P W) := by
  simp only [light, ho, Option.pure_def, Option.bind_eq_bind, Option.bind_eq_some_iff] at hx
  obtain ⟨u, h1, h2⟩ := hx
  split at h2
  · rename_i ad
    simp only [Option.bind_eq_some_iff, Option.some.injEq, Prod.mk.injEq] at h2
    obtain ⟨u, h3, rfl, rfl⟩ := h2
    obtain ⟨e, h4, h5, h6⟩ := (ev_rel H hf h1).ptr_inv
    obtain ⟨v', h7, h8⟩ := loadV_rel K H h4 h5 h3
    refine LPost.pure (v' := v') ?_ h8
    simp [execOp, ho, Instr.loadAt, h6, Instr.sureAddr, h7]
  · cases h2

theorem l_nilCheck (H : WRel E w0 φ h ls W) (hf : FrRel φ fr n a.tmps) {x : Operand} (ho : o.op = .nilCheck x) (hx : light E h fr id o = some (v, ob)) :
    LPost E w0 φ ls W id v ob ((execOp a.eval o).run E.P W) := by
  simp only [light, ho, Option.pure_def, Option.bind_eq_bind, Option.bind_eq_some_iff] at hx
  obtain ⟨u, h1, h2⟩ := hx
  have hr := ev_rel H hf h1
  split at h2 <;> try (cases h2; done)
  rename_i hn1 hn2 hn3 hn4
  simp only [Option.some.injEq, Prod.mk.injEq] at h2
  obtain ⟨rfl, rfl⟩ := h2
  refine LPost.pure (v' := a.eval x) ?_ hr
  simp only [execOp, ho]
  generalize a.eval x = y at hr
  cases hr with
  | ptr0 => exact absurd rfl hn1
  | nilIface => exact absurd rfl hn2
  | nilFunc => exact absurd rfl hn3
  | func hf' _ _ _ _ => cases hf' with
    | method m => exact absurd rfl (hn4 _ _ _)
    | _ => rfl
  | _ => rfl

theorem run0p_run {P : Program} {s : Sem Value} {r : Value} (h : run0p P s = some r) : (∀ w, s.run P w = .ok r w) ∧ plain r = true := by
  simp only [run0p, Option.pure_def, Option.bind_eq_bind, Option.bind_eq_some_iff] at h
  obtain ⟨x, h1, h2⟩ := h
  cases hp : plain x with
  | false => rw [hp] at h2; cases h2
  | true => rw [hp] at h2; simp only [cond_true, Option.some.injEq] at h2; subst h2; exact ⟨run0_run h1, hp⟩

theorem run_andThen_value {P : Program} {s : Sem Value} {w w' : World} {x : Value} (h : s.run P w = .ok x w') : (do pure (Next.value (← s)) : Sem Next).run P w = .ok (.value x) w' := by
  simp [h]

/-- '==' and '!=' where an address or nil is met. -/
theorem eqAddr_run (K : EOk E) {φ : Ren} {t : TypeId} {u1 u2 v1 v2 : Value} {r : Bool} (h : eqAddr E t u1 u2 = some r) (h1 : VRel φ u1 v1) (h2 : VRel φ u2 v2) (w : World) (d : Nat) :
    (Op.equalIn (d + 1) t v1 v2).run E.P w = .ok r w ∧ (∀ op x y, (op = .eql ∨ op = .neq) → (u1 = .nilIface → u2 = .nilIface → (isConst x || isConst y) = true) →
      (eqGuard op t x y v1 v2).run E.P w = .ok () w ∧ binOp op t v1 v2 = (match op with | .eql => do pure (.bool (← Op.equal t v1 v2)) | _ => do pure (.bool (!(← Op.equal t v1 v2))))) := by
  simp only [eqAddr, Option.pure_def, Option.bind_eq_bind, Option.bind_eq_some_iff] at h
  obtain ⟨dd, hd, h⟩ := h
  obtain ⟨d', hd1, hd2⟩ := und_of K hd
  have hu := run_underlying_of hd1 w
  split at h <;> (try (cases h; done)) <;> (simp only [Option.some.injEq] at h; subst h)
  all_goals
    cases h1 <;> cases h2 <;> refine ⟨?_, ?_⟩
  all_goals first
    | (cases d' <;> simp only [absD, reduceCtorEq] at hd2 <;> simp [Op.equalIn, hu]; done)
    | (intro op x y hop hc
       rcases hop with rfl | rfl
       all_goals
         refine ⟨?_, rfl⟩
         first
           | rfl
           | (have hc := hc rfl rfl
              cases x <;> cases y <;> first | rfl | (simp [isConst] at hc; done)))

theorem run_equal_of {P : Program} {t : TypeId} {v1 v2 : Value} {r : Bool} {w : World} (h : (Op.equalIn (9999 + 1) t v1 v2).run P w = .ok r w) : (Op.equal t v1 v2).run P w = .ok r w := h

theorem l_bin (K : EOk E) (H : WRel E w0 φ h ls W) (hf : FrRel φ fr n a.tmps) {op : BinOp} {t t' : TypeId} {x y : Operand} (ho : o.op = .binOp op t x y t') (hx : light E h fr id o = some (v, ob)) :
    LPost E w0 φ ls W id v ob ((execOp a.eval o).run E.P W) := by
  simp only [light, ho, Option.pure_def, Option.bind_eq_bind, Option.bind_eq_some_iff, Option.some.injEq, Prod.mk.injEq] at hx
  obtain ⟨u1, h1, u2, h2, r, h3, rfl, rfl⟩ := hx
  have r1 := ev_rel H hf h1
  have r2 := ev_rel H hf h2
  have addr : ∀ b, eqAddr E t u1 u2 = some b → (u1 = .nilIface → u2 = .nilIface → (isConst x || isConst y) = true) → ∀ r', (match op with | .eql => some (.bool b) | .neq => some (.bool (!b)) | _ => fail "binA") = some r' →
      LPost E w0 φ ls W id r' none ((execOp a.eval o).run E.P W) := by
    intro b hb hc r' hr'
    obtain ⟨q1, q2⟩ := eqAddr_run K hb r1 r2 W 9999
    have q3 := run_equal_of q1
    cases op <;> simp only [fail, reduceCtorEq, Option.some.injEq] at hr' <;> subst hr'
    · obtain ⟨q4, q5⟩ := q2 .eql x y (.inl rfl) hc
      refine LPost.pure (v' := .bool b) ?_ (.bool _)
      simp only [execOp, ho]
      refine run_andThen_value ?_
      simp [q4, q5, q3]
    · obtain ⟨q4, q5⟩ := q2 .neq x y (.inr rfl) hc
      refine LPost.pure (v' := .bool (!b)) ?_ (.bool _)
      simp only [execOp, ho]
      refine run_andThen_value ?_
      simp [q4, q5, q3]
  unfold binA at h3
  split at h3
  · cases hc : (isConst x || isConst y) with
    | false => rw [hc] at h3; cases h3
    | true =>
      rw [hc] at h3
      simp only [cond_true, Option.bind_eq_bind, Option.bind_eq_some_iff, Option.pure_def] at h3
      obtain ⟨b, h4, h5⟩ := h3
      exact addr b h4 (fun _ _ => hc) r h5
  · rename_i hnn
    cases hp : (plain u1 && plain u2) with
    | false =>
      rw [hp] at h3
      rw [cond_false] at h3
      cases hsp : samePh u1 u2 with
      | false =>
        rw [hsp] at h3
        simp only [cond_false, Option.bind_eq_bind, Option.bind_eq_some_iff, Option.pure_def] at h3
        obtain ⟨b, h4, h5⟩ := h3
        exact addr b h4 (fun e1 e2 => absurd e2 (hnn e1)) r h5
      | true =>
        rw [hsp] at h3
        simp only [cond_true, Option.bind_eq_bind, Option.bind_eq_some_iff, Option.pure_def] at h3
        unfold samePh at hsp
        split at hsp
        · rename_i s s'
          simp only [Bool.and_eq_true, decide_eq_true_eq] at hsp
          obtain ⟨_, rfl⟩ := hsp
          generalize e1 : a.eval x = v1 at r1
          generalize e2 : a.eval y = v2 at r2
          cases r1; cases r2
          obtain ⟨d, hd, h3⟩ := h3
          obtain ⟨d', hd1, hd2⟩ := und_of K hd
          have hu := run_underlying_of hd1 W
          have hself : ((stv s).toList == (stv s).toList) = true := beq_self_eq_true _
          split at h3 <;> (try (cases h3; done)) <;> (simp only [Option.some.injEq] at h3; subst h3)
          · refine LPost.pure (v' := .bool true) ?_ (.bool _)
            simp only [execOp, ho, e1, e2]
            refine run_andThen_value ?_
            have g1 : (eqGuard .eql t x y (.string (stv s)) (.string (stv s))).run E.P W = .ok () W := rfl
            have g2 : (binOp .eql t (.string (stv s)) (.string (stv s))).run E.P W = .ok (.bool ((stv s).toList == (stv s).toList)) W := rfl
            rw [hself] at g2
            simp only [Sem.run_bind, g1, g2, Result.andThen_ok]
          · refine LPost.pure (v' := .bool false) ?_ (.bool _)
            simp only [execOp, ho, e1, e2]
            refine run_andThen_value ?_
            have g1 : (eqGuard .neq t x y (.string (stv s)) (.string (stv s))).run E.P W = .ok () W := rfl
            have g2 : (binOp .neq t (.string (stv s)) (.string (stv s))).run E.P W = .ok (.bool (!((stv s).toList == (stv s).toList))) W := rfl
            rw [hself] at g2
            simp only [Sem.run_bind, g1, g2, Result.andThen_ok, Bool.not_true]
        · cases hsp
    | true =>
      rw [hp] at h3
      simp only [cond_true] at h3
      rw [Bool.and_eq_true] at hp
      have e1 := plain_eq hp.1 r1
      have e2 := plain_eq hp.2 r2
      obtain ⟨q1, q2⟩ := run0p_run h3
      refine LPost.pure (v' := r) ?_ (plain_refl q2 φ)
      simp only [execOp, ho, e1, e2]
      exact run_andThen_value (q1 W)
end
end Go.AM
