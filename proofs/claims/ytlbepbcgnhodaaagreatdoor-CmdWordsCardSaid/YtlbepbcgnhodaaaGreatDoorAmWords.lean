/- hamperlaw30.CmdWords: a text that is cut, by hand. -/
import Derived.Test.YtlbepbcgnhodaaaGreatDoorAmCmd
set_option linter.all false
namespace Go.AM
open Go.RowKit
variable [Syms]

/-- A text that is cut at n octets. -/
def cutAt (n : Nat) (s : ByteArray) : ByteArray := if s.size > n then s.extract 0 n else s

/-- The placeholder k. -/
def ph (k : Nat) : ByteArray := ⟨#[255, 254, 253, 252, k.toUInt8]⟩

theorem FrRel.junk {φ : Ren} {t : Tr Value} {m : Nat} {a : Act} (k : FrRel φ t m a.tmps) (d : Tmp) (v : Value) : FrRel φ (t.put d none) m (a.put (some d) v).tmps := by
  obtain ⟨k1, k2⟩ := k
  refine ⟨by simpa [Act.put] using k1, fun x u hx => ?_⟩
  rw [Tr.get_put] at hx
  by_cases h : x = d
  · rw [if_pos h] at hx; cases hx
  · rw [if_neg h] at hx
    obtain ⟨u', q1, q2⟩ := k2 x u hx
    exact ⟨u', by simp only [Act.put, Array.getElem?_setIfInBounds]; rw [if_neg (fun hh => h hh.symm)]; exact q1, q2⟩
theorem eval_put_same {a : Act} {d : Tmp} {v : Value} (h : d < a.tmps.size) : (a.put (some d) v).eval (.tmp d) = v := by
  simp [Act.eval, Act.put, h]
theorem eval_put_ne {a : Act} {d x : Tmp} {v : Value} (h : d ≠ x) : (a.put (some d) v).eval (.tmp x) = a.eval (.tmp x) := by
  simp [Act.eval, Act.put, Array.getElem?_setIfInBounds_ne h]

/-- One plain operation of a region, carried out by hand. -/
theorem wpOps_value {n : Nat} {P : Program} {ops : Array Oper} {Q : Exit → Act → World → Prop} {i : Nat} {rest : List Nat} {o : Oper} {a : Act} {W : World} {v : Value} (ho : ops[i]? = some o) (hg : o.guard = none) (hd : ∀ c, o.op ≠ .defer c)
    (hr : (execOp a.eval o).run P W = .ok (.value v) W) (h : wpOpsIn (Fw none) n P ops Q rest (a.put o.dst v) W) : wpOpsIn (Fw none) n P ops Q (i :: rest) a W := by
  simp only [wpOpsIn, ho]
  rw [if_pos (by simp [Region.wanted, hg])]
  refine ⟨fun _ _ => trivial, ?_⟩
  rw [Oper.semAt_eq _ _ _ hd, hr]
  exact h

/-- 'if len(t) > N { t = t[:N] }', as the translator lays it. -/
theorem clamp_wp {n : Nat} {E : Env} {w0 : World} {ops1 ops2 : Array Oper} {i j N : Nat} {t tm tl tb ts tr : Tmp} {o0 o1 o2 o3 o4 o5 : Oper} {st it : TypeId} {z1 : TypeId}
    (h1 : ops1 = #[o0, o1, o2]) (h2 : ops2 = #[o3, o4, o5])
    (e0 : o0.dst = some tm ∧ o0.op = .move (.tmp t) ∧ o0.guard = none)
    (e1 : o1.dst = some tl ∧ o1.op = .call { callee := .builtin .len, args := #[.tmp tm], argTypes := #[st] } ∧ o1.guard = none)
    (e2 : o2.dst = some tb ∧ (∃ y, o2.op = .binOp .gtr it (.tmp tl) (.const (.int .i64 N)) y) ∧ o2.guard = none)
    (e3 : o3.dst = some ts ∧ o3.op = .move (.tmp t) ∧ o3.guard = none)
    (e4 : o4.dst = some tr ∧ o4.op = .slice st (.tmp ts) none (some (.const (.int .i64 N))) none ∧ o4.guard = none)
    (e5 : o5.dst = some t ∧ o5.op = .assign (.tmp tr) ∧ o5.guard = none)
    (hst : E.P.underlying st = some .string) {fr : Fr} {a : Act} {W : World} {φ : Ren} (hf : FRel φ fr a) {p p' : ByteArray} (ht : fr.t.get t = some (.string p)) (hp : stv p' = cutAt N (stv p))
    (hlt : t < fr.n ∧ tm < fr.n ∧ tl < fr.n ∧ tb < fr.n ∧ ts < fr.n ∧ tr < fr.n) (hne : t ≠ tm ∧ t ≠ tl ∧ t ≠ tb ∧ t ≠ ts ∧ t ≠ tr) {Q : Exit → Act → World → Prop}
    (hQ : ∀ a', FRel φ { fr with t := (((((fr.t.put tm none).put tl none).put tb none).put ts none).put tr none).put t (some (.string p')) } a' → Q .normal a' W) :
    (Code.seq (.region i ops1 false) (.cond (.tmp tb) (.region j ops2 false) .skip)).wpIn (Fw none) n E.P Q a W := by
  obtain ⟨l1, l2, l3, l4, l5, l6⟩ := hlt
  obtain ⟨n1, n2, n3, n4, n5⟩ := hne
  have hm := hf.fr.1
  obtain ⟨w, hw, hv⟩ := hf.fr.2 t _ ht
  cases hv
  have ev0 : a.eval (.tmp t) = .string (stv p) := by simp [Act.eval, Array.getD_eq_getD_getElem?, hw]
  have sz : ∀ (x : Act) (d : Tmp) (v : Value), (x.put (some d) v).tmps.size = x.tmps.size := by intro x d v; simp [Act.put]
  refine wpIn_seq (wpIn_region ?_)
  have hr1 : List.range ops1.size = [0, 1, 2] := by rw [h1]; rfl
  rw [hr1]
  obtain ⟨d0, p0, g0⟩ := e0
  refine wpOps_value (o := o0) (v := .string (stv p)) (by rw [h1]; rfl) g0 (by rw [p0]; simp) (by simp [execOp, p0, ev0]) ?_
  rw [d0]
  have ev1 : (a.put (some tm) (.string (stv p))).eval (.tmp tm) = .string (stv p) := eval_put_same (by rw [hm]; exact l2)
  obtain ⟨d1, p1, g1⟩ := e1
  refine wpOps_value (o := o1) (v := .int .i64 (stv p).size) (by rw [h1]; rfl) g1 (by rw [p1]; simp) ?_ ?_
  · simp [execOp, p1, resolve, invoke, builtin, Builtin.len_, ev1, run_underlying_of hst, goInt]
  rw [d1]
  have ev2 : ((a.put (some tm) (.string (stv p))).put (some tl) (.int .i64 (stv p).size)).eval (.tmp tl) = .int .i64 (stv p).size := eval_put_same (by rw [sz, hm]; exact l3)
  obtain ⟨d2, ⟨y2, p2⟩, g2⟩ := e2
  refine wpOps_value (o := o2) (v := .bool (decide ((stv p).size > N))) (by rw [h1]; rfl) g2 (by rw [p2]; simp) ?_ ?_
  · have hc : ∀ ρ : Act, ρ.eval (.const (.int .i64 N)) = .int .i64 N := fun _ => rfl
    simp [execOp, p2, ev2, hc, eqGuard, binOp, Op.intCmp]
  rw [d2]
  have k3 := ((hf.fr.junk tm (.string (stv p))).junk tl (.int .i64 (stv p).size)).junk tb (.bool (decide ((stv p).size > N)))
  generalize hA : ((a.put (some tm) (.string (stv p))).put (some tl) (.int .i64 (stv p).size)).put (some tb) (.bool (decide ((stv p).size > N))) = A at k3 ⊢
  have hAd : A.defers = a.defers := by rw [← hA]; rfl
  have evb : A.eval (.tmp tb) = .bool (decide ((stv p).size > N)) := by rw [← hA]; exact eval_put_same (by rw [sz, sz, hm]; exact l4)
  have evt : A.eval (.tmp t) = .string (stv p) := by
    rw [← hA, eval_put_ne (Ne.symm n3), eval_put_ne (Ne.symm n2), eval_put_ne (Ne.symm n1)]; exact ev0
  have weak : ∀ {t0 : Tr Value} {d : Tmp} {mm : Nat} {tm0 : Array Value}, FrRel φ t0 mm tm0 → FrRel φ (t0.put d none) mm tm0 := by
    intro t0 d mm tm0 k
    refine ⟨k.1, fun x u hx => ?_⟩
    rw [Tr.get_put] at hx
    by_cases h : x = d
    · rw [if_pos h] at hx; cases hx
    · rw [if_neg h] at hx; exact k.2 x u hx
  refine wpIn_cond_split evb ?_ ?_
  · intro hc
    have hc := of_decide_eq_true hc
    refine wpIn_region ?_
    have hr2 : List.range ops2.size = [0, 1, 2] := by rw [h2]; rfl
    rw [hr2]
    have hAs : A.tmps.size = fr.n := k3.1
    obtain ⟨d3, p3, g3⟩ := e3
    refine wpOps_value (o := o3) (v := .string (stv p)) (by rw [h2]; rfl) g3 (by rw [p3]; simp) (by simp [execOp, p3, evt]) ?_
    rw [d3]
    have ev3 : (A.put (some ts) (.string (stv p))).eval (.tmp ts) = .string (stv p) := eval_put_same (by rw [hAs]; exact l5)
    obtain ⟨d4, p4, g4⟩ := e4
    refine wpOps_value (o := o4) (v := .string ((stv p).extract 0 N)) (by rw [h2]; rfl) g4 (by rw [p4]; simp) ?_ ?_
    · have hcc : ∀ ρ : Act, ρ.eval (.const (.int .i64 N)) = .int .i64 N := fun _ => rfl
      have hb : boundsA (stv p).size (stv p).size none (some (.int .i64 N)) none = some (0, N, (stv p).size) := by
        have h1 : decide (N ≤ (stv p).size) = true := by simp; omega
        simp [boundsA, boundA, asI, h1]
      obtain ⟨m', hr, _⟩ := bounds_run (φ := φ) (P := E.P) (W := W) (lo' := none) (hi' := some (.int .i64 N)) (mx' := none) false hb (Nat.le_refl _) trivial (.int _ _) trivial
      simp [execOp, p4, ev3, hcc, Instr.sliceAt, Instr.slice, run_underlying_of hst, hr]
    rw [d4]
    have ev4 : ((A.put (some ts) (.string (stv p))).put (some tr) (.string ((stv p).extract 0 N))).eval (.tmp tr) = .string ((stv p).extract 0 N) := eval_put_same (by rw [sz, hAs]; exact l6)
    obtain ⟨d5, p5, g5⟩ := e5
    refine wpOps_value (o := o5) (v := .string ((stv p).extract 0 N)) (by rw [h2]; rfl) g5 (by rw [p5]; simp) (by simp [execOp, p5, ev4]) ?_
    rw [d5]
    refine hQ _ ⟨?_, ?_⟩
    · have k5 := (k3.junk ts (.string (stv p))).junk tr (.string ((stv p).extract 0 N))
      refine k5.puts (dst := some t) (v := .string p') (fun d hd => by injection hd with hd; subst hd; exact l1) ?_ (fun x => ?_)
      · have : stv p' = (stv p).extract 0 N := by rw [hp, cutAt, if_pos hc]
        rw [← this]; exact .string _
      · rw [Tr.get_put]
        by_cases hx : x = t
        · subst hx; simp
        · rw [if_neg hx, if_neg (by intro h; injection h with h; exact hx h.symm)]
    · rw [put_defers', put_defers', put_defers', hAd]; exact hf.ds
  · intro hc
    have hc := of_decide_eq_false hc
    refine wpIn_skip (hQ A ⟨?_, by rw [hAd]; exact hf.ds⟩)
    have hps : stv p' = stv p := by rw [hp, cutAt, if_neg hc]
    have k5 := weak (d := tr) (weak (d := ts) k3)
    refine ⟨k5.1, fun x u hx => ?_⟩
    rw [Tr.get_put] at hx
    by_cases hxt : x = t
    · subst hxt
      rw [if_pos rfl] at hx; injection hx with hx; subst hx
      refine ⟨.string (stv p), ?_, by rw [← hps]; exact .string _⟩
      have hlt' : x < A.tmps.size := by rw [k3.1]; exact l1
      have : A.tmps.getD x undef = .string (stv p) := evt
      rw [Array.getD_eq_getD_getElem?, Array.getElem?_eq_getElem hlt'] at this
      rw [Array.getElem?_eq_getElem hlt']; exact congrArg some this
    · rw [if_neg hxt] at hx; exact k5.2 x u hx
end Go.AM
