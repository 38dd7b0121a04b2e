/- The abstract machine: results, frames of calls, rounds. -/
import Derived.Test.YtlbepbcgnhodaaaGreatDoorAmY
set_option linter.all false
namespace Go.AM
variable [Syms]
open Go.RowKit
section
variable {E : Env} {w0 : World} {call : CallF} {n : Nat}

theorem getD_tmp {φ : Ren} {t : Tr Value} {m : Nat} {tmps : Array Value} (k : FrRel φ t m tmps) {x : Nat} {v : Value} (h : t.get x = some v) : VRel φ v (tmps.getD x undef) := by
  obtain ⟨v', h1, h2⟩ := k.2 x v h
  rw [Array.getD_eq_getD_getElem?, h1]; exact h2

def resOne (tmps : Array Value) : ResultVar → Sem Value
  | .tmp t => pure (tmps.getD t undef)
  | .cell a t => do loadVar t (← asAddr (tmps.getD a undef))
theorem resultsL_rel (K : EOk E) {φ : Ren} {st : St} {W : World} {fr : Fr} {tmps : Array Value} (H : WRel E w0 φ st.h st.loops W) (hf : FrRel φ fr.t fr.n tmps) : ∀ (l : List ResultVar) (vs : List Value), resultsL E fr st l = some vs →
    ∃ vs', (l.mapM (resOne tmps)).run E.P W = .ok vs' W ∧ LRel φ vs vs'
  | [], vs, h => by
    simp only [resultsL, Option.some.injEq] at h
    subst h
    exact ⟨[], by simp, .nil⟩
  | .tmp t :: rest, vs, h => by
    simp only [resultsL, Option.pure_def, Option.bind_eq_bind, Option.bind_eq_some_iff, Option.some.injEq, ofOpt] at h
    obtain ⟨v, h1, us, h2, rfl⟩ := h
    obtain ⟨us', q1, q2⟩ := resultsL_rel K H hf rest us h2
    refine ⟨tmps.getD t undef :: us', ?_, .cons (getD_tmp hf h1) q2⟩
    rw [List.mapM_cons]
    simp only [resOne, Sem.run_bind, Sem.run_pure, Result.andThen_ok, q1]
  | .cell a t :: rest, vs, h => by
    simp only [resultsL, Option.pure_def, Option.bind_eq_bind, Option.bind_eq_some_iff, ofOpt] at h
    obtain ⟨av, h1, h⟩ := h
    split at h
    · rename_i ad
      simp only [Option.bind_eq_some_iff, Option.some.injEq] at h
      obtain ⟨v, h2, us, h3, rfl⟩ := h
      obtain ⟨us', q1, q2⟩ := resultsL_rel K H hf rest us h3
      obtain ⟨e, he, hs, e1⟩ := (getD_tmp hf h1).ptr_inv
      obtain ⟨v', q3, q4⟩ := loadV_rel K H he hs h2
      refine ⟨v' :: us', ?_, .cons q4 q2⟩
      have hq : (resOne tmps (.cell a t)).run E.P W = .ok v' W := by
        show (do loadVar t (← asAddr (tmps.getD a undef)) : Sem Value).run E.P W = .ok v' W
        rw [e1]
        simp only [Sem.run_bind, asAddr, Sem.run_pure, Result.andThen_ok, q3]
      rw [List.mapM_cons]
      simp only [Sem.run_bind, Sem.run_pure, Result.andThen_ok, q1, hq]
    · cases h

theorem results_rel (K : EOk E) {φ : Ren} {st : St} {W : World} {fr : Fr} {tmps : Array Value} {fi : FI} {fn : Func} (hr : fn.results.toList = fi.results) (H : WRel E w0 φ st.h st.loops W) (hf : FrRel φ fr.t fr.n tmps) {v : Value}
    (h : resultsA E fi fr st = some v) : ∃ v', (results fn tmps).run E.P W = .ok v' W ∧ VRel φ v v' := by
  simp only [resultsA, Option.pure_def, Option.bind_eq_bind, Option.bind_eq_some_iff] at h
  obtain ⟨vs, h1, h⟩ := h
  obtain ⟨vs', q1, q2⟩ := resultsL_rel K H hf _ _ h1
  have hm : (fn.results.mapM (resOne tmps)).run E.P W = .ok vs'.toArray W := by
    rw [Array.mapM_eq_mapM_toList, hr, map_eq_pure_bind]
    simp only [Sem.run_bind, q1, Result.andThen_ok, Sem.run_pure]
  have hres : results fn tmps = (do
    let vs ← fn.results.mapM (resOne tmps)
    pure (if h : vs.size = 1 then vs[0] else .tuple vs)) := rfl
  rw [hres]
  simp only [Sem.run_bind, Sem.run_pure, hm, Result.andThen_ok]
  split at h
  · rename_i v1
    simp only [Option.some.injEq] at h
    subst h
    cases q2 with
    | cons hv ht =>
      cases ht
      exact ⟨_, by simp, hv⟩
  · rename_i h1'
    simp only [Option.some.injEq] at h
    subst h
    have hl := q2.length
    refine ⟨.tuple vs'.toArray, ?_, VRel.tuple_of (by simpa [ARel] using q2)⟩
    have : ¬ vs'.toArray.size = 1 := by
      intro hh
      simp only [List.size_toArray] at hh
      rw [← hl] at hh
      obtain ⟨y, hy⟩ := List.length_eq_one_iff.1 hh
      exact h1' y hy
    rw [dif_neg this]

/-! Frames. -/
theorem foldl_put : ∀ (l : List Value) (t : Tr Value) (k : Nat), (∀ j, k ≤ j → t.get j = none) → ∀ i, ((l.foldl (fun (x : Tr Value × Nat) v => (x.1.put x.2 (some v), x.2 + 1)) (t, k)).1).get i = if i < k then t.get i else l[i - k]?
  | [], t, k, h, i => by
    simp only [List.foldl_nil, List.getElem?_nil]
    split
    · rfl
    · exact h i (by omega)
  | v :: l, t, k, h, i => by
    rw [List.foldl_cons, foldl_put l _ (k + 1) (fun j hj => by rw [Tr.get_put_ne _ _ (by omega)]; exact h j (by omega))]
    rcases Nat.lt_trichotomy i k with hik | hik | hik
    · rw [if_pos (by omega), if_pos hik, Tr.get_put_ne _ _ (by omega)]
    · subst hik; rw [if_pos (by omega), if_neg (by omega), Tr.get_put_same]; simp
    · rw [if_neg (by omega), if_neg (by omega)]
      have : i - k = (i - (k + 1)) + 1 := by omega
      rw [this]; rfl

theorem enterA_rel {φ : Ren} {k : Nat} {args args' : Array Value} (h : ARel φ args args') : FRel φ (enterA k args) { tmps := args' ++ Array.replicate (k - args'.size) undef, defers := [] } := by
  refine ⟨⟨?_, fun t v ht => ?_⟩, .nil⟩
  · have := h.size
    simp only [enterA, Array.size_append, Array.size_replicate]; omega
  · simp only [enterA] at ht
    rw [foldl_put _ _ _ (fun _ _ => rfl), if_neg (by omega), Nat.sub_zero] at ht
    obtain ⟨w, q1, q2⟩ := h.get' t v (by simpa using ht)
    refine ⟨w, ?_, q2⟩
    rw [Array.getElem?_append_left (Array.getElem?_eq_some_iff.1 q1).1]; exact q1

theorem setParams_rel {φ : Ren} : ∀ (ps : List Tmp) (vs : List Value) (fr fr' : Fr) (tmps : Array Value) (ws : List Value), setParams ps vs fr = some fr' → FrRel φ fr.t fr.n tmps → LRel φ vs ws →
    ps.length = vs.length ∧ FrRel φ fr'.t fr'.n ((ps.zip ws).foldl (fun tmps (t, a) => tmps.setIfInBounds t a) tmps) ∧ fr'.ds = fr.ds
  | [], [], fr, fr', tmps, ws, h, hf, hl => by
    simp only [setParams, Option.some.injEq] at h
    subst h
    exact ⟨rfl, hf, rfl⟩
  | p :: ps, v :: vs, fr, fr', tmps, ws, h, hf, hl => by
    simp only [setParams, Option.bind_eq_bind, Option.bind_eq_some_iff] at h
    obtain ⟨fr1, h1, h2⟩ := h
    cases hl with
    | cons hv ht =>
      have hp := put_inv h1
      obtain ⟨q1, q2, q3⟩ := hp
      obtain ⟨r1, r2, r3⟩ := setParams_rel ps vs fr1 fr' (tmps.setIfInBounds p _) _ h2 (by
        have := FrRel.puts (t' := fr1.t) (a := { tmps := tmps, defers := [] }) (dst := some p) hf (fun d hd => by injection hd with hd; subst hd; exact q3.1) hv (fun x => by
          rw [q3.2, Tr.get_put]
          by_cases hx : x = p
          · subst hx; simp
          · rw [if_neg hx, if_neg (by intro h; injection h with h; exact hx h.symm)])
        rw [q1]; exact this) ht
      refine ⟨by simp [r1], ?_, by rw [r3, q2]⟩
      simpa using r2
  | [], _ :: _, _, _, _, _, h, _, _ => by cases h
  | _ :: _, [], _, _, _, _, h, _, _ => by cases h

theorem run_beginRound {P : Program} {W : World} {r : Nat} {L : Loop} (hL : W.heap[r]? = some (.loop L)) (hs : L.state = .ready) :
    (Instr.beginRound r).run P W = .ok () (setB W r (.loop { L with state := .busy })) := by
  simp only [Instr.beginRound, Instr.getLoop, Sem.run_bind, run_getObj_of (P := P) hL (by intros; simp), Result.andThen_ok, Sem.run_pure, run_setObj_of (P := P) _ hL (by intros; simp), hs]
theorem run_endRound {P : Program} {W : World} {r : Nat} {L : Loop} {j : Option Code} (hL : W.heap[r]? = some (.loop L)) :
    (Instr.endRound r j).run P W = .ok (.bool j.isNone) (setB W r (.loop { L with state := if j.isNone then .ready else .done, pending := j })) := by
  simp only [Instr.endRound, Instr.getLoop, Sem.run_bind, run_getObj_of (P := P) hL (by intros; simp), Result.andThen_ok, Sem.run_pure, run_setObj_of (P := P) _ hL (by intros; simp)]

theorem setParams_len : ∀ (ps : List Tmp) (vs : List Value) (fr fr' : Fr), setParams ps vs fr = some fr' → ps.length = vs.length
  | [], [], _, _, _ => rfl
  | p :: ps, v :: vs, fr, fr', h => by
    simp only [setParams, Option.bind_eq_bind, Option.bind_eq_some_iff] at h
    obtain ⟨fr1, h1, h2⟩ := h
    simp [setParams_len ps vs fr1 fr' h2]
  | [], _ :: _, _, _, h => by cases h
  | _ :: _, [], _, _, h => by cases h

theorem roundF_ok (K : EOk E) (C : CallOk E w0 call) {m l : Nat} {args : Array Value} {st st' : St} {en : End} (hx : roundF E call m l args st = some (en, st')) {φ : Ren} {W : World} (H : WRel E w0 φ st.h st.loops W)
    (hnew : ∀ b, st.next ≤ b → φ b = none) (hl : E.lim ≤ st.next) :
    ∃ lp, st.loops.get l = some lp ∧ lp.params.size = args.size ∧ ∀ args' e' L, φ l = some e' → W.heap[e'.r]? = some (.loop L) → LpRel φ lp L → ARel φ args args' →
      RoundIn (Fw none) n E.P e'.r L.fn ((L.params.zip args').foldl (fun tmps (t, a) => tmps.setIfInBounds t a) L.tmps) L.assign L.body W (EPost E w0 φ st.next en st') := by
  unfold roundF at hx
  cases hb : Nat.ble E.lim l with
  | false => rw [hb] at hx; cases hx
  | true =>
    rw [hb] at hx
    have hll := Nat.le_of_ble_eq_true hb
    simp only [cond_true, Option.bind_eq_bind, Option.bind_eq_some_iff, ofOpt] at hx
    obtain ⟨lp, hlp, fr, hfr, ⟨x, fr1, st1⟩, h1, hx⟩ := hx
    cases x with
    | exit _ => cases hx
    | ret => cases hx
    | panic _ => cases hx
    | normal =>
    simp only [Option.bind_eq_some_iff] at hx
    obtain ⟨lp1, hlp1, hx⟩ := hx
    split at hx
    · rename_i hready
      simp only [Option.bind_eq_some_iff] at hx
      obtain ⟨⟨x2, fr2, st2⟩, h2, lp2, hlp2, hx⟩ := hx
      refine ⟨lp, hlp, by simpa using setParams_len _ _ _ _ hfr, fun args' e' L he hw hL ha => ?_⟩
      obtain ⟨p1, p2, p3, p4, p5, p6⟩ := hL
      have hf0 : FRel φ fr { tmps := (L.params.zip args').foldl (fun tmps (t, a) => tmps.setIfInBounds t a) L.tmps, defers := [] } := by
        obtain ⟨_, q1, q2⟩ := setParams_rel lp.params.toList args.toList _ fr L.tmps args'.toList hfr p6 ha
        refine ⟨?_, by rw [q2]; exact .nil⟩
        simp only
        rw [← Array.foldl_toList, Array.toList_zip, p3]; exact q1
      refine roundIn_of_wpIn trivial ?_
      rw [p4, p5]
      refine wpIn_mono (exec_wp (n := n) K C m (some l) (some e'.r) lp.assign fr st .normal fr1 st1 φ _ W ⟨e', he, rfl⟩ h1 H hf0 hnew hl) fun e a1 W1 => ?_
      rintro ⟨φ1, F1, hf1, hx1⟩
      have := hx1.normal_iff.1 rfl
      subst this
      obtain ⟨_, e1, L1, z1, z2, z3⟩ := F1.w.lp l lp1 hlp1
      have he1 := F1.le _ _ he
      rw [he1] at z1; injection z1 with z1; subst z1
      refine ⟨_, run_beginRound z2 (z3.1.trans hready), ?_⟩
      have H2 := F1.w.setLoop he1 hll hlp1 (some { lp1 with state := .busy }) (L := { L1 with state := .busy }) (fun y hy => by injection hy with hy; subst hy; exact ⟨rfl, z3.2.1, z3.2.2⟩)
      have F2 : Far E w0 φ st.next { st1 with loops := st1.loops.put l (some { lp1 with state := .busy }) } φ1 (setB W1 e'.r (.loop { L1 with state := .busy })) := ⟨F1.le, F1.old, F1.new, F1.up, H2⟩
      refine wpIn_mono (exec_wp (n := n) K C m (some l) (some e'.r) lp.body fr1 _ x2 fr2 st2 φ1 a1 _ ⟨e', he1, rfl⟩ h2 H2 hf1 F1.new (by have := F1.up; simp only; omega)) fun e a2 W2 => ?_
      rintro ⟨φ3, F3, hf3, hx3⟩
      have F4 := F2.trans F3
      have he3 := F4.le _ _ he
      obtain ⟨_, e3, L2, y1, y2, y3⟩ := F4.w.lp l lp2 hlp2
      rw [he3] at y1; injection y1 with y1; subst y1
      cases x2 with
      | panic _ => cases hx
      | normal =>
        have := hx3.normal_iff.1 rfl
        subst this
        simp only [Option.pure_def, Option.some.injEq, Prod.mk.injEq] at hx
        obtain ⟨rfl, rfl⟩ := hx
        have H5 := F4.w.setLoop he3 hll hlp2 (some { lp2 with state := .ready, pending := none }) (L := { L2 with state := .ready, pending := none }) (fun y hy => by injection hy with hy; subst hy; exact ⟨rfl, rfl, y3.2.2⟩)
        exact ⟨_, _, run_endRound y2, φ3, ⟨F4.le, F4.old, F4.new, F4.up, H5⟩, .bool true⟩
      | ret =>
        cases e <;> first | exact hx3.elim | skip
        simp only [Option.pure_def, Option.some.injEq, Prod.mk.injEq] at hx
        obtain ⟨rfl, rfl⟩ := hx
        have H5 := F4.w.setLoop he3 hll hlp2 (some { lp2 with state := .done, pending := some .ret }) (L := { L2 with state := .done, pending := some .ret }) (fun y hy => by injection hy with hy; subst hy; exact ⟨rfl, rfl, y3.2.2⟩)
        exact ⟨_, _, run_endRound y2, φ3, ⟨F4.le, F4.old, F4.new, F4.up, H5⟩, .bool false⟩
      | exit id =>
        cases e <;> first | exact hx3.elim | skip
        rename_i id'
        have : id = id' := hx3
        subst this
        simp only [Option.pure_def, Option.some.injEq, Prod.mk.injEq] at hx
        obtain ⟨rfl, rfl⟩ := hx
        have H5 := F4.w.setLoop he3 hll hlp2 (some { lp2 with state := .done, pending := some (.exit id) }) (L := { L2 with state := .done, pending := some (.exit id) }) (fun y hy => by injection hy with hy; subst hy; exact ⟨rfl, rfl, y3.2.2⟩)
        exact ⟨_, _, run_endRound y2, φ3, ⟨F4.le, F4.old, F4.new, F4.up, H5⟩, .bool false⟩
    · cases hx
end
end Go.AM
