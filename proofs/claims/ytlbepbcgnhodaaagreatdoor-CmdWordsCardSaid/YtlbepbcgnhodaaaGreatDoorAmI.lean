/- The abstract machine: light operations on slices, fields, indices. -/
import Derived.Test.YtlbepbcgnhodaaaGreatDoorAmH
set_option linter.all false
namespace Go.AM
variable [Syms]
open Go.RowKit

section
variable {E : Env} {w0 : World} {φ : Ren} {h : Hp} {ls : Tr LoopA} {W : World} {fr : Tr Value} {n : Nat} {a : Act} {id : Nat} {o : Oper} {v : Value} {ob : Option Obj}

theorem lrel_len {φ : Ren} {x y : List Value} (h : LRel φ x y) : y.length = x.length := h.length.symm

theorem l_makeSlice (K : EOk E) (H : WRel E w0 φ h ls W) (hf : FrRel φ fr n a.tmps) (hid : φ id = none) (hl : E.lim ≤ id) {t : TypeId} {x y : Operand} (ho : o.op = .makeSlice t x y) (hx : light E h fr id o = some (v, ob)) :
    LPost E w0 φ ls W id v ob ((execOp a.eval o).run E.P W) := by
  simp only [light, ho, Option.pure_def, Option.bind_eq_bind, Option.bind_eq_some_iff] at hx
  obtain ⟨u1, h1, u2, h2, l, h3, c, h4, d, h5, hx⟩ := hx
  obtain ⟨k1, _, e1⟩ := asI_rel h3 (ev_rel H hf h1)
  obtain ⟨k2, _, e2⟩ := asI_rel h4 (ev_rel H hf h2)
  obtain ⟨d', hd1, hd2⟩ := und_of K h5
  split at hx
  · rename_i elem
    simp only [Option.bind_eq_some_iff] at hx
    obtain ⟨i, h6, z, h7, hx⟩ := hx
    obtain ⟨info, hi1, hi2, hi3, hi4⟩ := inf_of K h6
    obtain ⟨hz1, hz2⟩ := run_zero_of K h7 W
    cases hc : (decide (0 ≤ l) && decide (l ≤ c) && decide (c < 2 ^ 47) && decide ((i.bytes : Int) * c ≤ 2 ^ 47) && z.cells.size.beq i.size) with
    | false => rw [hc] at hx; cases hx
    | true =>
      rw [hc] at hx
      simp only [cond_true, Option.some.injEq, Prod.mk.injEq] at hx
      obtain ⟨rfl, rfl⟩ := hx
      simp only [Bool.and_eq_true, decide_eq_true_eq] at hc
      obtain ⟨⟨⟨⟨c1, c2⟩, c3⟩, c4⟩, c5⟩ := hc
      have c5 := Nat.eq_of_beq_eq_true c5
      have w1 : IntKind.i64.wrap l = l := IntWalk.i64_in l (by omega)
      have w2 : IntKind.i64.wrap c = c := IntWalk.i64_in c (by omega)
      cases d' <;> simp only [absD, reduceCtorEq] at hd2
      injection hd2 with hd2; rw [hd2] at hd1; clear hd2
      refine LPost.new hid hl (e := ⟨W.heap.size, 0, (List.replicate c.toNat z.cells.toList).flatten.toArray.size, eszOf E elem, (List.replicate c.toNat z.cells.toList).flatten.toArray.size⟩) rfl
        (v' := .slice (some ⟨W.heap.size, 0, none⟩) l.toNat c.toNat) (o' := .cells ((List.replicate c.toNat z.cells.toList).flatten.toArray) elem (0, 0)) W.drawn ?_ ?_ (new_cells elem _ ?_)
      · have g1 : ¬ (c < 0) := by omega
        have g2 : ¬ ((2 : Int) ^ 48 < i.bytes * c) := by omega
        have g3 : ¬ (l < 0) := by omega
        have g4 : ¬ (c < l) := by omega
        have hrow : (Array.range (c.toNat * i.size)).map (fun q => z.cells[q % z.cells.size]!) = (List.replicate c.toNat z.cells.toList).flatten.toArray := by
          apply Array.ext'
          rw [range_zero z.cells i.size c.toNat c5]
        simp only [execOp, ho]
        refine run_andThen_value ?_
        simp only [Instr.makeSlice, Sem.run_bind, run_underlying_of hd1, Result.andThen_ok, e1, e2, asInt, asIntOf, Sem.run_pure, run_typeInfo_of hi1, hi3, w1, w2]
        have hroom : ∀ (q : Nat) (w : World), (askRoom q).run E.P w = .ok () w := by
          intro q w; unfold askRoom; split <;> rfl
        simp only [show (decide (c < 0) = false) from by simpa using g1, show decide ((i.bytes : Int) * c > 2 ^ 48) = false from by simpa using g2, show decide (l < 0) = false from by simpa using g3,
          show decide (l > c) = false from by simpa using g4, Bool.or_false, Bool.false_eq_true, if_false, Sem.run_bind, hroom, Result.andThen_ok, run_sizeOf_of K h6]
        by_cases hn : c.toNat * i.size = 0
        · simp only [hn, if_true, Sem.run_bind, Sem.run_pure, Result.andThen_ok, run_newRow]
          have q0 : ∀ g : Nat → Value, (Array.range 0).map g = #[] := by intro g; simp
          rw [← hrow, hn, q0, q0]
          rfl
        · simp only [hn, if_false, Sem.run_bind, hz1, Sem.run_pure, Result.andThen_ok, run_newRow]
          rw [hrow]; rfl
      · exact VRel.slice (o := 0) (Ren.upd_same φ id _) (.inl rfl)
      · exact rep_rel (zero_rel hz2) _
  · cases hx

def OVRel (φ : Ren) : Option Value → Option Value → Prop
  | none, none => True
  | some u, some w => VRel φ u w
  | _, _ => False

theorem boundA_run {P : Program} {W : World} {x x' : Option Value} {dflt y y' r : Nat} (hb : boundA x dflt y = some r) (hx : OVRel φ x x') (hy : y ≤ y') (code : BoundsCode) :
    (x = none ∧ x' = none ∧ r = dflt) ∨ ∃ w, x' = some w ∧ x ≠ none ∧ (Instr.sliceBound w y' code).run P W = .ok r W ∧ r ≤ y := by
  cases x with
  | none =>
    cases x' with
    | none => simp only [boundA, Option.some.injEq] at hb; exact .inl ⟨rfl, rfl, hb.symm⟩
    | some w => exact hx.elim
  | some u =>
    cases x' with
    | none => exact hx.elim
    | some w =>
      simp only [boundA, Option.pure_def, Option.bind_eq_bind, Option.bind_eq_some_iff] at hb
      obtain ⟨i, h1, h2⟩ := hb
      obtain ⟨k, _, e⟩ := asI_rel h1 hx
      cases hc : (decide (0 ≤ i) && decide (i ≤ (y : Int))) with
      | false => rw [hc] at h2; cases h2
      | true =>
        rw [hc] at h2
        simp only [cond_true, Option.some.injEq] at h2
        rw [Bool.and_eq_true, decide_eq_true_eq, decide_eq_true_eq] at hc
        refine .inr ⟨w, rfl, by simp, ?_, by omega⟩
        simp only [Instr.sliceBound, Sem.run_bind, e, asIntOf, Sem.run_pure, Result.andThen_ok]
        rw [if_pos ⟨hc.1, by omega⟩, Sem.run_pure, h2]

/-- Bounds: the model's own, where its capacity may be greater. -/
theorem bounds_run {P : Program} {W : World} {len cap cap' l hh m : Nat} {lo hi mx lo' hi' mx' : Option Value} (b : Bool) (hb : boundsA len cap lo hi mx = some (l, hh, m)) (hcap : cap ≤ cap')
    (h1 : OVRel φ lo lo') (h2 : OVRel φ hi hi')
    (h3 : OVRel φ mx mx') :
    ∃ m', (Instr.sliceBounds b len cap' lo' hi' mx').run P W = .ok (l, hh, m') W ∧ (m' = m ∨ (mx = none ∧ m = cap ∧ m' = cap')) := by
  simp only [boundsA, Option.pure_def, Option.bind_eq_bind, Option.bind_eq_some_iff] at hb
  obtain ⟨m1, hm, hb⟩ := hb
  have hm' := fun code => boundA_run (P := P) (W := W) hm h3 hcap code
  cases mx with
  | none =>
    cases mx' with
    | some w => exact h3.elim
    | none =>
      simp only [boundA, Option.some.injEq] at hm
      subst hm
      have hh1 : ∃ q, boundA hi len cap = some q ∧ ∃ q2, boundA lo 0 q = some q2 ∧ (q2, q, cap) = (l, hh, m) := by
        cases hi <;> simpa [Option.bind_eq_some_iff] using hb
      obtain ⟨q, h4, q2, h5, h6⟩ := hh1
      simp only [Prod.mk.injEq] at h6
      obtain ⟨rfl, rfl, rfl⟩ := h6
      refine ⟨cap', ?_, .inr ⟨rfl, rfl, rfl⟩⟩
      have step1 : ∀ code, (match hi' with | some v => Instr.sliceBound v cap' code | none => pure len : Sem Nat).run P W = .ok q W := by
        intro code
        rcases boundA_run (P := P) (W := W) h4 h2 hcap code with ⟨_, e, rfl⟩ | ⟨w, e, _, hr, _⟩
        · subst e; rfl
        · subst e; exact hr
      have step2 : ∀ code, (match lo' with | some v => Instr.sliceBound v q code | none => pure 0 : Sem Nat).run P W = .ok q2 W := by
        intro code
        rcases boundA_run (P := P) (W := W) h5 h1 (Nat.le_refl _) code with ⟨_, e, rfl⟩ | ⟨w, e, _, hr, _⟩
        · subst e; rfl
        · subst e; exact hr
      simp only [Instr.sliceBounds, Sem.run_bind, Sem.run_pure, Result.andThen_ok]
      have s1 := step1 (if b = true then BoundsCode.sliceAcap else BoundsCode.sliceAlen)
      have s2 := step2 BoundsCode.sliceB
      cases hi' with
      | none =>
        simp only [Sem.run_pure, Result.ok.injEq, and_true] at s1
        subst s1
        simp only [Sem.run_pure, Result.andThen_ok, Option.isSome_none, Bool.false_eq_true, if_false]
        cases lo' <;> simp_all
      | some w =>
        simp only [s1, Result.andThen_ok, Option.isSome_none, Bool.false_eq_true, if_false]
        cases lo' <;> simp_all
  | some u =>
    cases mx' with
    | none => exact h3.elim
    | some w3 =>
      rcases hm' (if b = true then BoundsCode.slice3Acap else BoundsCode.slice3Alen) with ⟨e, _, _⟩ | ⟨w, e, _, hr3, _⟩
      · cases e
      injection e with e; subst e
      cases hi with
      | none => simp [fail] at hb
      | some uh =>
        cases hi' with
        | none => exact h2.elim
        | some wh =>
          simp only [Option.bind_eq_some_iff, Option.some.injEq, Prod.mk.injEq] at hb
          obtain ⟨q, h4, q2, h5, rfl, rfl, rfl⟩ := hb
          rcases boundA_run (P := P) (W := W) h4 h2 (Nat.le_refl _) BoundsCode.slice3B with ⟨e, _, _⟩ | ⟨w, e, _, hr2, _⟩
          · cases e
          injection e with e; subst e
          refine ⟨m1, ?_, .inl rfl⟩
          simp only [Instr.sliceBounds, Sem.run_bind, hr3, hr2, Result.andThen_ok, Option.isSome_some, if_true]
          rcases boundA_run (P := P) (W := W) h5 h1 (Nat.le_refl _) BoundsCode.slice3C with ⟨_, e, rfl⟩ | ⟨w, e, _, hr, _⟩
          · subst e; simp
          · subst e; simp [hr]
end
end Go.AM
