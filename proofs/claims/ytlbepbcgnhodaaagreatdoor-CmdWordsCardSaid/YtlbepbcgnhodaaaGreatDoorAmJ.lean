/- The abstract machine: light operations on slices, fields, indices (the second part). -/
import Derived.Test.YtlbepbcgnhodaaaGreatDoorAmI
set_option linter.all false
namespace Go.AM
variable [Syms]
open Go.RowKit

section
variable {E : Env} {w0 : World} {φ : Ren} {h : Hp} {ls : Tr LoopA} {W : World} {fr : Tr Value} {n : Nat} {a : Act} {id : Nat} {o : Oper} {v : Value} {ob : Option Obj}

theorem evOpt_rel (H : WRel E w0 φ h ls W) (hf : FrRel φ fr n a.tmps) {x : Option Operand} {r : Option Value} (he : evOpt E h fr x = some r) : OVRel φ r (x.map a.eval) := by
  cases x with
  | none => simp only [evOpt, Option.some.injEq] at he; subst he; trivial
  | some x =>
    simp only [evOpt, Option.pure_def, Option.bind_eq_bind, Option.bind_eq_some_iff, Option.some.injEq] at he
    obtain ⟨v, h1, rfl⟩ := he
    exact ev_rel H hf h1

theorem ite_add (p : Prop) [Decidable p] (a : Addr) (k : Nat) : (some a).map (fun x => x.add k) = some (a.add k) := rfl

theorem sliceA_rel (K : EOk E) (H : WRel E w0 φ h ls W) {t : TypeId} {x x' : Value} {lo hi mx lo' hi' mx' : Option Value} {r : Value} (hs : sliceA E h t x lo hi mx = some r) (hx : VRel φ x x')
    (h1 : OVRel φ lo lo') (h2 : OVRel φ hi hi') (h3 : OVRel φ mx mx') : ∃ r', (Instr.sliceAt t x' lo' hi' mx').run E.P W = .ok r' W ∧ VRel φ r r' := by
  simp only [sliceA, Option.pure_def, Option.bind_eq_bind, Option.bind_eq_some_iff] at hs
  obtain ⟨d, hd, hs⟩ := hs
  obtain ⟨d', hd1, hd2⟩ := und_of K hd
  split at hs
  · -- a nil slice
    rename_i elem len cap
    simp only [Option.bind_eq_some_iff, Option.some.injEq] at hs
    obtain ⟨⟨l, hh, m⟩, hb, i, hi', rfl⟩ := hs
    cases hx
    obtain ⟨m', hr, hm⟩ := bounds_run (P := E.P) (W := W) true hb (Nat.le_refl _) h1 h2 h3
    have hm : m' = m := by rcases hm with hm | ⟨_, e1, e2⟩ <;> omega
    subst hm
    cases d' <;> simp only [absD, reduceCtorEq] at hd2
    injection hd2 with hd2; rw [hd2] at hd1; clear hd2
    refine ⟨.slice none (hh - l) (m' - l), ?_, .slice0 _ _⟩
    simp only [Instr.sliceAt, Instr.slice, Sem.run_bind, run_underlying_of hd1, Result.andThen_ok, hr, run_sizeOf_of K hi', Sem.run_pure]
    split <;> rfl
  · -- a slice
    rename_i elem ad len cap
    simp only [Option.bind_eq_some_iff] at hs
    obtain ⟨⟨l, hh, m⟩, hb, i, hi', ⟨c0, bt, f⟩, hc0, hs⟩ := hs
    obtain ⟨e, y, c', he, hsp, rfl, hrel⟩ := hx.slice_inv
    have hle : cap ≤ c' := by
      rcases hrel with ⟨_, rfl | ⟨_, hq, _⟩⟩ | ⟨_, rfl, _⟩
      · exact Nat.le_refl _
      · exact hq
      · exact Nat.zero_le _
    obtain ⟨m', hr, hm⟩ := bounds_run (P := E.P) (W := W) true hb hle h1 h2 h3
    obtain ⟨hg, cc, ff, hcc, kc⟩ := cellsAt_rel H he hc0
    cases hfl : ((f.1.beq 0 || bt.beq elem) && Nat.ble l m && Nat.ble hh m) with
    | false => rw [hfl] at hs; cases hs
    | true =>
      rw [hfl] at hs
      simp only [cond_true, Option.some.injEq] at hs
      subst hs
      rw [Bool.and_eq_true, Bool.and_eq_true] at hfl
      have hlm : l ≤ m := Nat.le_of_ble_eq_true hfl.1.2
      have hhm : hh ≤ m := Nat.le_of_ble_eq_true hfl.2
      cases d' <;> simp only [absD, reduceCtorEq] at hd2
      injection hd2 with hd2; rw [hd2] at hd1; clear hd2
      refine ⟨.slice (some (if m' = l then ⟨e.r, y, none⟩ else (⟨e.r, y, none⟩ : Addr).add (l * i.size))) (hh - l) (m' - l), ?_, ?_⟩
      · simp only [Instr.sliceAt, Instr.slice, Sem.run_bind, run_underlying_of hd1, Result.andThen_ok, hr, run_sizeOf_of K hi', Sem.run_pure]
        split <;> rfl
      · obtain ⟨ab, ao, asp⟩ := ad
        simp only at hsp he hrel
        subst hsp
        simp only [add_mk]
        -- an element's size, where the row may be longer
        have hsz : ∀ c2, cap ≤ c2 → 0 < e.esz → ao + cap * e.esz = e.asz → e.o + ao + c2 * e.esz ≤ e.csz → c2 ≠ cap → i.size = e.esz := by
          intro c2 q1 q2 q3 q4 q5
          rcases Bool.or_eq_true _ _ ▸ hfl.1.1 with hz | hz
          · have hz := Nat.eq_of_beq_eq_true hz
            have := kc.rigid hz
            have h5 : c2 * e.esz ≤ cap * e.esz := by omega
            have : c2 ≤ cap := Nat.le_of_mul_le_mul_right h5 q2
            omega
          · have hz := Nat.eq_of_beq_eq_true hz
            subst hz
            exact kc.elem i hi'
        rcases hrel with ⟨hy, hcap⟩ | ⟨hn0, hc0', hcap⟩
        · subst hy
          rcases hm with rfl | ⟨hmx, rfl, rfl⟩
          · -- the same capacity is asked
            by_cases hml : m' = l
            · rw [if_pos hml, if_pos hml]
              exact VRel.slice he (.inl rfl)
            · rw [if_neg hml, if_neg hml, Nat.add_assoc]
              exact VRel.slice he (.inl rfl)
          · rcases hcap with rfl | ⟨z1, z2, z3, z4⟩
            · by_cases hml : m = l
              · rw [if_pos hml, if_pos hml]
                exact VRel.slice he (.inl rfl)
              · rw [if_neg hml, if_neg hml, Nat.add_assoc]
                exact VRel.slice he (.inl rfl)
            · by_cases hcc' : m' = m
              · subst hcc'
                by_cases hml : m' = l
                · rw [if_pos hml, if_pos hml]
                  exact VRel.slice he (.inl rfl)
                · rw [if_neg hml, if_neg hml, Nat.add_assoc]
                  exact VRel.slice he (.inl rfl)
              · have hse := hsz m' z2 z1 z3 z4 hcc'
                have e1 : m = (m - l) + l := by omega
                have e2 : m' = (m' - l) + l := by omega
                have e3 : m * e.esz = (m - l) * e.esz + l * e.esz := by rw [← Nat.add_mul, ← e1]
                have e4 : m' * e.esz = (m' - l) * e.esz + l * e.esz := by rw [← Nat.add_mul, ← e2]
                by_cases hml : m = l
                · rw [if_pos hml, if_neg (by omega)]
                  have e5 : hh - l = 0 := by omega
                  have e6 : m - l = 0 := by omega
                  rw [e5, e6]
                  rw [e6] at e3
                  refine VRel.sliceE he (.inr ⟨z1, ?_, ?_⟩)
                  · rw [hse]; omega
                  · rw [hse]; omega
                · rw [if_neg hml, if_neg (by omega), Nat.add_assoc, hse]
                  exact VRel.slice he (.inr ⟨z1, by omega, by omega, by omega⟩)
        · subst hn0; subst hc0'
          have e0 : l = 0 ∧ hh = 0 ∧ m = 0 := by
            rcases hm with rfl | ⟨_, rfl, _⟩
            · have : m' ≤ 0 := by
                simp only [boundsA, Option.pure_def, Option.bind_eq_bind, Option.bind_eq_some_iff] at hb
                obtain ⟨m1, hbm, hb⟩ := hb
                have hm1 : m1 ≤ 0 := by
                  cases mx with
                  | none => simp only [boundA, Option.some.injEq] at hbm; omega
                  | some u =>
                    rcases boundA_run (P := E.P) (W := W) hbm h3 (Nat.le_refl _) BoundsCode.index with ⟨_, _, e⟩ | ⟨_, _, _, _, e⟩ <;> omega
                have hmm : m1 = m' := by
                  cases hi <;> cases mx <;> simp [Option.bind_eq_some_iff, fail] at hb
                  all_goals (obtain ⟨_, _, _, _, _, _, e⟩ := hb; exact e)
                omega
              omega
            · omega
          obtain ⟨rfl, rfl, rfl⟩ := e0
          rw [if_pos rfl]
          simp only [Nat.sub_self, Nat.zero_mul, Nat.add_zero, ite_self, Nat.sub_zero]
          rcases hm with rfl | ⟨_, _, rfl⟩
          · exact VRel.sliceE he (.inl rfl)
          · exact VRel.sliceE he hcap
  · -- an array's address
    rename_i m0 elem ad
    simp only [Option.bind_eq_some_iff, Option.some.injEq] at hs
    obtain ⟨⟨l, hh, m⟩, hb, i, hi', rfl⟩ := hs
    obtain ⟨e, he, hsp, rfl⟩ := hx.ptr_inv
    obtain ⟨m', hr, hm⟩ := bounds_run (P := E.P) (W := W) false hb (Nat.le_refl _) h1 h2 h3
    have hm : m' = m := by rcases hm with hm | ⟨_, e1, e2⟩ <;> omega
    subst hm
    cases d' <;> simp only [absD, reduceCtorEq] at hd2
    injection hd2 with hd2 hd3; rw [hd2, hd3] at hd1; clear hd2 hd3
    obtain ⟨ab, ao, asp⟩ := ad
    simp only at hsp he
    subst hsp
    refine ⟨.slice (some (if m' = l then ⟨e.r, e.o + ao, none⟩ else (⟨e.r, e.o + ao, none⟩ : Addr).add (l * i.size))) (hh - l) (m' - l), ?_, ?_⟩
    · simp only [Instr.sliceAt, Sem.run_bind, run_underlying_of hd1, Result.andThen_ok, Instr.sureAddr, hr, run_sizeOf_of K hi', Sem.run_pure]
    · simp only [add_mk]
      by_cases hml : m' = l
      · rw [if_pos hml, if_pos hml]; exact VRel.slice he (.inl rfl)
      · rw [if_neg hml, if_neg hml, Nat.add_assoc]; exact VRel.slice he (.inl rfl)
  · -- a string
    rename_i s
    cases hmx0 : (mx.isSome || isPh s) with
    | true => rw [hmx0] at hs; cases hs
    | false =>
      rw [hmx0] at hs
      simp only [Bool.or_eq_false_iff] at hmx0
      obtain ⟨hmx, hps⟩ := hmx0
      simp only [cond_false, Option.bind_eq_some_iff] at hs
      obtain ⟨⟨l, hh, m⟩, hb, hs⟩ := hs
      simp only at hs
      cases hpr : isPh (s.extract l hh) with
      | true => rw [hpr] at hs; cases hs
      | false =>
      rw [hpr] at hs
      simp only [cond_false, Option.some.injEq] at hs
      subst hs
      have hx := hx.string_inv hps
      subst hx
      obtain ⟨m', hr, _⟩ := bounds_run (P := E.P) (W := W) (mx' := none) false hb (Nat.le_refl _) h1 h2 trivial
      have hmn : mx' = none := by
        cases mx with
        | some u => simp at hmx
        | none => cases mx' with
          | none => rfl
          | some w => exact h3.elim
      subst hmn
      cases d' <;> simp only [absD, reduceCtorEq] at hd2
      refine ⟨.string (s.extract l hh), ?_, .str hpr⟩
      simp only [Instr.sliceAt, Instr.slice, Sem.run_bind, run_underlying_of hd1, Result.andThen_ok, Option.isSome_none, Bool.false_eq_true, if_false, hr, Sem.run_pure]
  · cases hs

theorem l_slice (K : EOk E) (H : WRel E w0 φ h ls W) (hf : FrRel φ fr n a.tmps) {t : TypeId} {x : Operand} {lo hi mx : Option Operand} (ho : o.op = .slice t x lo hi mx) (hx : light E h fr id o = some (v, ob)) :
    LPost E w0 φ ls W id v ob ((execOp a.eval o).run E.P W) := by
  simp only [light, ho, Option.pure_def, Option.bind_eq_bind, Option.bind_eq_some_iff, Option.some.injEq, Prod.mk.injEq] at hx
  obtain ⟨u1, h1, u2, h2, u3, h3, u4, h4, r, h5, rfl, rfl⟩ := hx
  obtain ⟨r', q1, q2⟩ := sliceA_rel K H h5 (ev_rel H hf h1) (evOpt_rel H hf h2) (evOpt_rel H hf h3) (evOpt_rel H hf h4)
  refine LPost.pure (v' := r') ?_ q2
  simp only [execOp, ho]
  exact run_andThen_value q1

theorem fields_get {fs : Array Field} {f : Nat} {p : Nat × TypeId} (h : (fs.toList.map fun f => (f.offset, f.type))[f]? = some p) : ∃ fd, fs[f]? = some fd ∧ fd.offset = p.1 ∧ fd.type = p.2 := by
  rw [List.getElem?_map] at h
  cases hh : fs.toList[f]? with
  | none => rw [hh] at h; cases h
  | some fd => rw [hh] at h; simp only [Option.map_some, Option.some.injEq] at h; subst h; exact ⟨fd, by simpa using hh, rfl, rfl⟩

theorem l_fieldAddr (K : EOk E) (H : WRel E w0 φ h ls W) (hf : FrRel φ fr n a.tmps) {t : TypeId} {x : Operand} {f : Nat} (ho : o.op = .fieldAddr t x f) (hx : light E h fr id o = some (v, ob)) :
    LPost E w0 φ ls W id v ob ((execOp a.eval o).run E.P W) := by
  simp only [light, ho, Option.pure_def, Option.bind_eq_bind, Option.bind_eq_some_iff] at hx
  obtain ⟨u1, h1, d, hd, hx⟩ := hx
  obtain ⟨d', hd1, hd2⟩ := und_of K hd
  split at hx
  · rename_i ad fields
    simp only [Option.bind_eq_some_iff] at hx
    obtain ⟨p, hp, i, hi, hx⟩ := hx
    cases hz : i.size.beq 0 with
    | true => rw [hz] at hx; cases hx
    | false =>
      rw [hz] at hx
      simp only [cond_false, Option.some.injEq, Prod.mk.injEq] at hx
      obtain ⟨rfl, rfl⟩ := hx
      obtain ⟨e, he, hsp, e1⟩ := (ev_rel H hf h1).ptr_inv
      cases d' <;> simp only [absD, reduceCtorEq] at hd2
      injection hd2 with hd2
      simp only [ofOpt] at hp
      rw [← hd2] at hp
      obtain ⟨fd, q1, q2, q3⟩ := fields_get hp
      obtain ⟨ab, ao, asp⟩ := ad
      simp only at hsp he e1
      subst hsp
      refine LPost.pure (v' := .pointer (some ⟨e.r, e.o + ao + p.1, none⟩)) ?_ ?_
      · simp only [execOp, ho]
        refine run_andThen_value ?_
        have hnz : i.size ≠ 0 := by intro hh; rw [hh] at hz; simp at hz
        simp only [Instr.fieldAt, Sem.run_bind, run_underlying_of hd1, Result.andThen_ok, q1, e1, Instr.sureAddr, Sem.run_pure, fieldPlace, q3, run_sizeOf_of K hi, hnz, if_false, q2, add_mk]
      · rw [add_mk, Nat.add_assoc]; exact VRel.ptr he
  · cases hx

theorem part_run (K : EOk E) {t : TypeId} {cs cs' : Array Value} {off : Nat} (hr : ARel φ cs cs') {d : D} (hd : und E t = some d) {r : Value}
    (h : (isAggD d = true ∧ ∃ i, inf E t = some i ∧ off + i.size ≤ cs.size ∧ r = .agg ((cs.toList.drop off).take i.size).toArray) ∨ (isAggD d = false ∧ cs[off]? = some r)) :
    ∃ r', (part t cs' off).run E.P W = .ok r' W ∧ VRel φ r r' := by
  rcases h with ⟨ha, i, hi, hle, rfl⟩ | ⟨ha, hg⟩
  · refine ⟨.agg (cs'.extract off (off + i.size)), ?_, .agg_of ?_⟩
    · simp only [part, Sem.run_bind, run_isAgg_of K hd, Result.andThen_ok, ha, if_true, run_sizeOf_of K hi, Sem.run_pure]
    · unfold ARel
      have : (cs'.extract off (off + i.size)).toList = (cs'.toList.drop off).take i.size := by simp
      rw [this]
      exact (LRel.drop hr off).take i.size
  · obtain ⟨r', q1, q2⟩ := hr.get' _ _ hg
    refine ⟨r', ?_, q2⟩
    simp only [part, Sem.run_bind, run_isAgg_of K hd, Result.andThen_ok, ha, Bool.false_eq_true, if_false, q1, Sem.run_pure]

theorem l_field (K : EOk E) (H : WRel E w0 φ h ls W) (hf : FrRel φ fr n a.tmps) {t : TypeId} {x : Operand} {f : Nat} (ho : o.op = .field t x f) (hx : light E h fr id o = some (v, ob)) :
    LPost E w0 φ ls W id v ob ((execOp a.eval o).run E.P W) := by
  simp only [light, ho, Option.pure_def, Option.bind_eq_bind, Option.bind_eq_some_iff] at hx
  obtain ⟨u1, h1, d, hd, hx⟩ := hx
  obtain ⟨d', hd1, hd2⟩ := und_of K hd
  split at hx
  · rename_i cs fields
    simp only [Option.bind_eq_some_iff] at hx
    obtain ⟨p, hp, dp, hdp, hx⟩ := hx
    obtain ⟨cs', e1, hcs⟩ := (ev_rel H hf h1).agg_inv
    cases d' <;> simp only [absD, reduceCtorEq] at hd2
    injection hd2 with hd2
    simp only [ofOpt] at hp
    rw [← hd2] at hp
    obtain ⟨fd, q1, q2, q3⟩ := fields_get hp
    have fin : ∀ r, ((isAggD dp = true ∧ ∃ i, inf E p.2 = some i ∧ p.1 + i.size ≤ cs.size ∧ r = .agg ((cs.toList.drop p.1).take i.size).toArray) ∨ (isAggD dp = false ∧ cs[p.1]? = some r)) →
        LPost E w0 φ ls W id r none ((execOp a.eval o).run E.P W) := by
      intro r hr
      obtain ⟨r', g1, g2⟩ := part_run (W := W) K hcs hdp hr
      refine LPost.pure (v' := r') ?_ g2
      simp only [execOp, ho]
      refine run_andThen_value ?_
      simp only [Instr.field, Sem.run_bind, run_underlying_of hd1, Result.andThen_ok, q1, e1, asAgg, Sem.run_pure, q2, q3, g1]
    cases hag : isAggD dp with
    | true =>
      rw [hag] at hx
      simp only [cond_true, Option.bind_eq_some_iff] at hx
      obtain ⟨i, hi, hx⟩ := hx
      cases hle : Nat.ble (p.1 + i.size) cs.size with
      | false => rw [hle] at hx; cases hx
      | true =>
        rw [hle] at hx
        simp only [cond_true, Option.some.injEq, Prod.mk.injEq] at hx
        obtain ⟨rfl, rfl⟩ := hx
        exact fin _ (.inl ⟨hag, i, hi, Nat.le_of_ble_eq_true hle, rfl⟩)
    | false =>
      rw [hag] at hx
      simp only [cond_false, Option.bind_eq_some_iff, Option.some.injEq, Prod.mk.injEq] at hx
      obtain ⟨r, hr, rfl, rfl⟩ := hx
      exact fin _ (.inr ⟨hag, hr⟩)
  · cases hx

theorem idx_ok {i : Int} {len : Nat} (h : (decide (0 ≤ i) && decide (i < (len : Int))) = true) : 0 ≤ i ∧ i < len := by
  rw [Bool.and_eq_true, decide_eq_true_eq, decide_eq_true_eq] at h; exact h

theorem l_indexAddr (K : EOk E) (H : WRel E w0 φ h ls W) (hf : FrRel φ fr n a.tmps) {t : TypeId} {x y : Operand} (ho : o.op = .indexAddr t x y) (hx : light E h fr id o = some (v, ob)) :
    LPost E w0 φ ls W id v ob ((execOp a.eval o).run E.P W) := by
  simp only [light, ho, Option.pure_def, Option.bind_eq_bind, Option.bind_eq_some_iff] at hx
  obtain ⟨u1, h1, ix, hix, d, hd, u2, h2, hx⟩ := hx
  obtain ⟨k1, _, e1⟩ := asI_rel hix (ev_rel H hf h1)
  obtain ⟨d', hd1, hd2⟩ := und_of K hd
  have r2 := ev_rel H hf h2
  split at hx
  · rename_i len elem ad
    simp only [Option.bind_eq_some_iff] at hx
    obtain ⟨i, hi, hx⟩ := hx
    cases hc : (decide (0 ≤ ix) && decide (ix < (len : Int))) with
    | false => rw [hc] at hx; cases hx
    | true =>
      rw [hc] at hx
      simp only [cond_true, Option.some.injEq, Prod.mk.injEq] at hx
      obtain ⟨rfl, rfl⟩ := hx
      obtain ⟨e, he, hsp, e2⟩ := r2.ptr_inv
      cases d' <;> simp only [absD, reduceCtorEq] at hd2
      injection hd2 with hd2 hd3; rw [hd2, hd3] at hd1; clear hd2 hd3
      obtain ⟨ab, ao, asp⟩ := ad
      simp only at hsp he e2
      subst hsp
      refine LPost.pure (v' := .pointer (some ⟨e.r, e.o + ao + ix.toNat * i.size, none⟩)) ?_ ?_
      · simp only [execOp, ho]
        refine run_andThen_value ?_
        simp only [Instr.indexAt, Sem.run_bind, e1, asIntOf, Sem.run_pure, Result.andThen_ok, run_underlying_of hd1, e2, Instr.sureAddr]
        rw [if_pos (idx_ok hc)]
        simp only [Sem.run_bind, run_sizeOf_of K hi, Result.andThen_ok, Sem.run_pure, add_mk]
      · rw [add_mk, Nat.add_assoc]; exact VRel.ptr he
  · rename_i elem ad len cap
    simp only [Option.bind_eq_some_iff] at hx
    obtain ⟨i, hi, hx⟩ := hx
    cases hc : (decide (0 ≤ ix) && decide (ix < (len : Int))) with
    | false => rw [hc] at hx; cases hx
    | true =>
      rw [hc] at hx
      simp only [cond_true, Option.some.injEq, Prod.mk.injEq] at hx
      obtain ⟨rfl, rfl⟩ := hx
      obtain ⟨e, y', c', he, hsp, e2, hrel⟩ := r2.slice_inv
      have hlt := idx_ok hc
      have hy : y' = e.o + ad.off := by
        rcases hrel with ⟨hy, _⟩ | ⟨h0, _⟩
        · exact hy
        · omega
      subst hy
      cases d' <;> simp only [absD, reduceCtorEq] at hd2
      injection hd2 with hd2; rw [hd2] at hd1; clear hd2
      obtain ⟨ab, ao, asp⟩ := ad
      simp only at hsp he e2
      subst hsp
      refine LPost.pure (v' := .pointer (some ⟨e.r, e.o + ao + ix.toNat * i.size, none⟩)) ?_ ?_
      · simp only [execOp, ho]
        refine run_andThen_value ?_
        simp only [Instr.indexAt, Sem.run_bind, e1, asIntOf, Sem.run_pure, Result.andThen_ok, run_underlying_of hd1, e2]
        rw [if_pos hlt]
        simp only [Sem.run_bind, run_sizeOf_of K hi, Result.andThen_ok, Sem.run_pure, add_mk]
      · rw [add_mk, Nat.add_assoc]; exact VRel.ptr he
  · cases hx

theorem l_index (K : EOk E) (H : WRel E w0 φ h ls W) (hf : FrRel φ fr n a.tmps) {t : TypeId} {x y : Operand} (ho : o.op = .index t x y) (hx : light E h fr id o = some (v, ob)) :
    LPost E w0 φ ls W id v ob ((execOp a.eval o).run E.P W) := by
  simp only [light, ho, Option.pure_def, Option.bind_eq_bind, Option.bind_eq_some_iff] at hx
  obtain ⟨u1, h1, ix, hix, d, hd, u2, h2, hx⟩ := hx
  obtain ⟨k1, _, e1⟩ := asI_rel hix (ev_rel H hf h1)
  obtain ⟨d', hd1, hd2⟩ := und_of K hd
  have r2 := ev_rel H hf h2
  split at hx
  · rename_i len elem cs
    simp only [Option.bind_eq_some_iff] at hx
    obtain ⟨i, hi, dp, hdp, hx⟩ := hx
    cases hc : (decide (0 ≤ ix) && decide (ix < (len : Int))) with
    | false => rw [hc] at hx; cases hx
    | true =>
      rw [hc] at hx
      simp only [cond_true] at hx
      obtain ⟨cs', e2, hcs⟩ := r2.agg_inv
      cases d' <;> simp only [absD, reduceCtorEq] at hd2
      injection hd2 with hd2 hd3; rw [hd2, hd3] at hd1; clear hd2 hd3
      have fin : ∀ r, ((isAggD dp = true ∧ ∃ i', inf E elem = some i' ∧ ix.toNat * i.size + i'.size ≤ cs.size ∧ r = .agg ((cs.toList.drop (ix.toNat * i.size)).take i'.size).toArray) ∨ (isAggD dp = false ∧ cs[ix.toNat * i.size]? = some r)) →
          LPost E w0 φ ls W id r none ((execOp a.eval o).run E.P W) := by
        intro r hr
        obtain ⟨r', g1, g2⟩ := part_run (W := W) K hcs hdp hr
        refine LPost.pure (v' := r') ?_ g2
        simp only [execOp, ho]
        refine run_andThen_value ?_
        simp only [Instr.index, Sem.run_bind, e1, e2, asIntOf, Sem.run_pure, Result.andThen_ok, run_underlying_of hd1]
        rw [if_pos (idx_ok hc)]
        simp only [Sem.run_bind, run_sizeOf_of K hi, Result.andThen_ok, g1]
      cases hag : isAggD dp with
      | true =>
        rw [hag] at hx
        simp only [cond_true] at hx
        cases hle : Nat.ble (ix.toNat * i.size + i.size) cs.size with
        | false => rw [hle] at hx; cases hx
        | true =>
          rw [hle] at hx
          simp only [cond_true, Option.some.injEq, Prod.mk.injEq] at hx
          obtain ⟨rfl, rfl⟩ := hx
          exact fin _ (.inl ⟨hag, i, hi, Nat.le_of_ble_eq_true hle, rfl⟩)
      | false =>
        rw [hag] at hx
        simp only [cond_false, Option.bind_eq_some_iff, Option.some.injEq, Prod.mk.injEq] at hx
        obtain ⟨r, hr, rfl, rfl⟩ := hx
        exact fin _ (.inr ⟨hag, hr⟩)
  · rename_i s
    cases hc0 : (decide (0 ≤ ix) && !isPh s) with
    | false => rw [hc0] at hx; cases hx
    | true =>
      rw [hc0] at hx
      simp only [Bool.and_eq_true, Bool.not_eq_true'] at hc0
      obtain ⟨hc, hps⟩ := hc0
      simp only [cond_true, Option.bind_eq_some_iff, Option.some.injEq, Prod.mk.injEq, ofOpt] at hx
      obtain ⟨b, hb, rfl, rfl⟩ := hx
      have e2 : a.eval x = .string s := r2.string_inv hps
      cases d' <;> simp only [absD, reduceCtorEq] at hd2
      refine LPost.pure (v' := .int .u8 b.toNat) ?_ (.int _ _)
      simp only [execOp, ho]
      refine run_andThen_value ?_
      simp only [Instr.index, Sem.run_bind, e1, e2, asIntOf, Sem.run_pure, Result.andThen_ok, run_underlying_of hd1]
      rw [if_pos (by simpa using hc), hb]
      rfl
  · cases hx
end
end Go.AM
