/- The abstract machine: code is sound. -/
import Derived.Test.YtlbepbcgnhodaaaGreatDoorAmX
set_option linter.all false
namespace Go.AM
variable [Syms]
open Go.RowKit

/-! Rules of the walk that were lacking. -/
section rules
variable {F : Fence} {n : Nat} {P : Program} {Q : Exit → Act → World → Prop} {a : Act} {w : World}

theorem stepR_scope {c : Code} {b : Frame} {k : List Item} {cs : List Frame} : step P (lone (b.atR a (.code (.scope c) :: k)) cs w) = .next (lone (b.atR a (.code c :: .inScope c :: k)) cs w) :=
  step_lone_go (by simp [stepG, stepG.exec, Frame.atR])
theorem stepR_inScope {c : Code} {b : Frame} {k : List Item} {cs : List Frame} : step P (lone (b.atR a (.inScope c :: k)) cs w) = .next (lone (b.atR a k) cs w) :=
  step_lone_go (by simp [stepG, stepG.exec, Frame.atR])

theorem wpIn_scope {c : Code} (h : c.wpIn F n P (Exit.noGoto Q) a w) : (Code.scope c).wpIn F n P Q a w := by
  intro b k cs hro hb hr
  have h0 : (lone (b.atR a (.code (.scope c) :: k)) cs w).fenced P F := fenced_calm hb hr rfl
  obtain ⟨e, a₁, w₁, hq, harr⟩ := h b (.inScope c :: k) cs hro hb hr
  cases e with
  | normal => exact ⟨.normal, a₁, w₁, hq, .head h0 stepR_scope (StepsIn.trans harr (.one (fenced_calm hb hr rfl) stepR_inScope))⟩
  | exit id =>
    have hx : exitTo id (.inScope c :: k) = exitTo id k := by simp [exitTo]
    exact ⟨.exit id, a₁, w₁, hq, fun k' hk => .head h0 stepR_scope (harr.1 k' (by rw [hx]; exact hk)), fun hr' hk => let ⟨k₁, h1, h2⟩ := harr.2 hr' (by rw [hx]; exact hk); ⟨k₁, h1, .head h0 stepR_scope h2⟩⟩
  | goto l => exact hq.elim
  | ret => exact ⟨_, a₁, w₁, hq, .of_steps (.one h0 stepR_scope) harr⟩
  | panic ch => exact ⟨_, a₁, w₁, hq, .of_steps (.one h0 stepR_scope) harr⟩
  | outgrown => exact ⟨_, a₁, w₁, hq, .of_steps (.one h0 stepR_scope) harr⟩

theorem wpIn_loop_fuel {c : Code} (J : Nat → Act → World → Prop) (round : ∀ m a w, J m a w → c.wpIn F n P (Exit.then (fun a' w' => ∃ m', m' < m ∧ J m' a' w') Q) a w) (m : Nat) (h₀ : J m a w) : (Code.loop c).wpIn F n P Q a w := by
  intro b k cs hro hb hr
  have key : ∀ m a w, J m a w → ∃ e a' w', Q e a' w' ∧ ArrivesIn (Machine.fenced P F) P (lone (b.atR a (.code c :: .inLoop c :: k)) cs w) b k cs e a' w' := by
    intro m
    induction m using Nat.strongRecOn with
    | _ m ih =>
      intro a w hI
      obtain ⟨e, a₁, w₁, hq, harr⟩ := round m a w hI b (.inLoop c :: k) cs hro hb hr
      cases e with
      | normal =>
        obtain ⟨m', hlt, hI₁⟩ := hq
        obtain ⟨e₂, a₂, w₂, hq₂, harr₂⟩ := ih m' hlt a₁ w₁ hI₁
        exact ⟨e₂, a₂, w₂, hq₂, .of_steps (StepsIn.trans harr (.one (fenced_calm hb hr rfl) stepR_inLoop)) harr₂⟩
      | exit id => exact ⟨_, a₁, w₁, hq, .pass (x := .inLoop c) rfl (fun _ _ => .inl (by simp)) harr⟩
      | goto l => exact ⟨_, a₁, w₁, hq, .pass (x := .inLoop c) rfl (fun _ _ => .inl (by simp)) harr⟩
      | ret => exact ⟨_, a₁, w₁, hq, .pass (x := .inLoop c) rfl (fun _ _ => .inl (by simp)) harr⟩
      | panic ch => exact ⟨_, a₁, w₁, hq, .pass (x := .inLoop c) rfl (fun _ _ => .inl (by simp)) harr⟩
      | outgrown => exact ⟨_, a₁, w₁, hq, .pass (x := .inLoop c) rfl (fun _ _ => .inl (by simp)) harr⟩
  obtain ⟨e, a', w', hq, harr⟩ := key m a w h₀
  exact ⟨e, a', w', hq, .of_steps (.one (fenced_calm hb hr rfl) stepR_loop) harr⟩
end rules

/-! Records of loops. -/
theorem WRel.pushLoop {E : Env} {w0 : World} {φ : Ren} {h : Hp} {ls : Tr LoopA} {W : World} (k : WRel E w0 φ h ls W) {l : Nat} (hid : φ l = none) (hl : E.lim ≤ l) (hng : E.ng ≤ E.lim) (hh : h.get l = none)
    {e : Ent} (he : e.r = W.heap.size) {lp : LoopA} {L : Loop} (hL : LpRel (φ.upd l e) lp L) : WRel E w0 (φ.upd l e) h (ls.put l (some lp)) (pushW W (.loop L)) := by
  have hle := Ren.le_upd hid e
  have hbd : ∀ x ex, (φ.upd l e) x = some ex → x ≠ l → φ x = some ex := fun x ex hx hn => by rwa [Ren.upd_ne _ _ hn] at hx
  have hlv : ∀ x, x ≠ l → live h (ls.put l (some lp)) x → live h ls x := by
    intro x hx hlx
    unfold live at hlx ⊢
    rwa [Tr.get_put_ne _ _ hx] at hlx
  refine ⟨?_, ?_, ?_, ?_, ?_, ?_, below_pushW k.keep _⟩
  · intro x ex ox hx hox
    rw [pushW_get]
    by_cases hxi : x = l
    · subst hxi; rw [hh] at hox; cases hox
    · have hx' := hbd x ex hx hxi
      have hlt := k.bound x ex hx'
      rw [if_neg (by omega)]
      obtain ⟨o2, h1, h2⟩ := k.obj x ex ox hx' hox
      exact ⟨o2, h1, h2.mono hle⟩
  · intro l' lp' hlp
    by_cases hxi : l' = l
    · subst hxi
      rw [Tr.get_put_same] at hlp; injection hlp with hlp; subst hlp
      exact ⟨hh, e, L, Ren.upd_same _ _ _, by rw [pushW_get, if_pos he], hL⟩
    · rw [Tr.get_put_ne _ _ hxi] at hlp
      obtain ⟨hn, el, L', h1, h2, h3⟩ := k.lp l' lp' hlp
      refine ⟨hn, el, L', hle _ _ h1, ?_, h3.mono hle⟩
      have hlt := k.bound l' el h1
      rw [pushW_get, if_neg (by omega)]; exact h2
  · intro x y ex ey hx hy lx ly hr
    by_cases hxi : x = l
    · by_cases hyi : y = l
      · rw [hxi, hyi]
      · have hy' := hbd y ey hy hyi
        have := k.bound y ey hy'
        subst hxi; rw [Ren.upd_same] at hx; injection hx with hx; subst hx; omega
    · have hx' := hbd x ex hx hxi
      by_cases hyi : y = l
      · have := k.bound x ex hx'
        subst hyi; rw [Ren.upd_same] at hy; injection hy with hy; subst hy; omega
      · exact k.inj x y ex ey hx' (hbd y ey hy hyi) (hlv x hxi lx) (hlv y hyi ly) hr
  · intro x ex hx
    have hsz : (pushW W (.loop L)).heap.size = W.heap.size + 1 := by simp [pushW]
    rw [hsz]
    by_cases hxi : x = l
    · subst hxi; rw [Ren.upd_same] at hx; injection hx with hx; subst hx; omega
    · have := k.bound x ex (hbd x ex hx hxi); omega
  · intro g hg hsome
    obtain ⟨eg, h1, h2⟩ := k.glob g hg hsome
    exact ⟨eg, hle _ _ h1, h2⟩
  · intro x ex hx hlx
    by_cases hxi : x = l
    · subst hxi; rw [Ren.upd_same] at hx; injection hx with hx; subst hx; have := k.keep.size; omega
    · exact k.own x ex (hbd x ex hx hxi) hlx

theorem WRel.setLoop {E : Env} {w0 : World} {φ : Ren} {h : Hp} {ls : Tr LoopA} {W : World} (k : WRel E w0 φ h ls W) {l : Nat} {e : Ent} (he : φ l = some e) (hl : E.lim ≤ l) {lp0 : LoopA} (hlp : ls.get l = some lp0)
    (lp : Option LoopA) {L : Loop} (hL : ∀ x, lp = some x → LpRel φ x L) : WRel E w0 φ h (ls.put l lp) (setB W e.r (.loop L)) := by
  have hlive : live h ls l := .inr (by rw [hlp]; rfl)
  have hlv : ∀ x, live h (ls.put l lp) x → live h ls x := by
    intro x hlx
    by_cases hx : x = l
    · subst hx; exact hlive
    · unfold live at hlx ⊢; rwa [Tr.get_put_ne _ _ hx] at hlx
  have hln := (k.lp l lp0 hlp).1
  refine ⟨?_, ?_, fun x y ex ey hx hy lx ly hr => k.inj x y ex ey hx hy (hlv x lx) (hlv y ly) hr, ?_, k.glob, k.own, below_setB k.keep (k.own l e he hl) _⟩
  · intro x ex ox hx hox
    rw [setB_get _ _ _ _ (k.bound l e he)]
    have hxl : x ≠ l := by rintro rfl; rw [hln] at hox; cases hox
    rw [if_neg (fun hr => hxl (k.inj x l ex e hx he (.inl (by rw [hox]; rfl)) hlive hr))]
    exact k.obj x ex ox hx hox
  · intro l' lp' hlp'
    by_cases hxl : l' = l
    · subst hxl
      rw [Tr.get_put_same] at hlp'; subst hlp'
      exact ⟨hln, e, L, he, by rw [setB_get _ _ _ _ (k.bound l' e he), if_pos rfl], hL lp' rfl⟩
    · rw [Tr.get_put_ne _ _ hxl] at hlp'
      obtain ⟨hn, el, L', h1, h2, h3⟩ := k.lp l' lp' hlp'
      refine ⟨hn, el, L', h1, ?_, h3⟩
      rw [setB_get _ _ _ _ (k.bound l e he), if_neg (fun hr => hxl (k.inj l' l el e h1 he (.inr (by rw [hlp']; rfl)) hlive hr))]
      exact h2
  · intro x ex hx; have := k.bound x ex hx; simpa [setB] using this

/-- The round's loop, on both sides. -/
def RR (φ : Ren) : Option Nat → Option Nat → Prop
  | none, none => True
  | some l, some r => ∃ e, φ l = some e ∧ e.r = r
  | _, _ => False
theorem RR.mono {φ ψ : Ren} (h : φ.le ψ) {rd rr : Option Nat} (k : RR φ rd rr) : RR ψ rd rr := by
  cases rd <;> cases rr <;> simp only [RR] at k ⊢
  obtain ⟨e, h1, h2⟩ := k
  exact ⟨e, h _ _ h1, h2⟩
theorem RR.none {φ : Ren} {rd rr : Option Nat} (k : RR φ rd rr) : rd = none → rr = none := by
  rintro rfl; cases rr <;> simp only [RR] at k ⊢

section
variable {E : Env} {w0 : World} {call : CallF} {rd rr : Option Nat} {n : Nat}

theorem XRel.normal_iff {φ : Ren} {x : Xit} {e : Exit} (h : XRel φ x e) : x = .normal ↔ e = .normal := by
  cases x <;> cases e <;> simp_all [XRel]

def CodeOk (E : Env) (w0 : World) (call : CallF) (n m : Nat) : Prop :=
  ∀ (rd rr : Option Nat) (c : Code) (fr : Fr) (st : St) (x : Xit) (fr' : Fr) (st' : St) (φ : Ren) (a : Act) (W : World), RR φ rd rr → exec E call rd m c fr st = some (x, fr', st') → WRel E w0 φ st.h st.loops W → FRel φ fr a →
    (∀ b, st.next ≤ b → φ b = none) → E.lim ≤ st.next → c.wpIn (Fw rr) n E.P (XPost E w0 φ st.next x fr' st') a W

theorem Far.refl {φ : Ren} {st : St} {W : World} (H : WRel E w0 φ st.h st.loops W) (hnew : ∀ b, st.next ≤ b → φ b = none) : Far E w0 φ st.next st φ W := ⟨φ.le_refl, fun _ _ => rfl, hnew, Nat.le_refl _, H⟩
theorem XPost.here {φ : Ren} {st : St} {W : World} {x : Xit} {fr : Fr} {e : Exit} {a : Act} (H : WRel E w0 φ st.h st.loops W) (hnew : ∀ b, st.next ≤ b → φ b = none) (hf : FRel φ fr a) (hx : XRel φ x e) : XPost E w0 φ st.next x fr st e a W :=
  ⟨φ, Far.refl H hnew, hf, hx⟩

/-- On with what follows, when a piece of code has ended. -/
theorem then_mono {φ : Ren} {next : Nat} {x1 x : Xit} {fr1 fr' : Fr} {st1 st' : St} {K : Act → World → Prop} (hn : x1 ≠ .normal → x = x1 ∧ fr' = fr1 ∧ st' = st1)
    (hK : x1 = .normal → ∀ φ1 a1 W1, Far E w0 φ next st1 φ1 W1 → FRel φ1 fr1 a1 → K a1 W1) {e a' W'} (h : XPost E w0 φ next x1 fr1 st1 e a' W') : Exit.then K (XPost E w0 φ next x fr' st') e a' W' := by
  obtain ⟨φ1, h1, h2, h3⟩ := h
  by_cases hx : x1 = .normal
  · have he := h3.normal_iff.1 hx
    subst he
    exact hK hx φ1 a' W' h1 h2
  · have he : e ≠ .normal := fun hh => hx (h3.normal_iff.2 hh)
    obtain ⟨rfl, rfl, rfl⟩ := hn hx
    cases e <;> first | exact absurd rfl he | exact ⟨φ1, h1, h2, h3⟩

theorem run_enterLoop0 {P : Program} {W : World} {fn : FuncId} {tmps : Array Value} {ps : Array Tmp} {as body : Code} :
    (Instr.enterLoop fn tmps ps as body none).run P W = .ok (W.heap.size + 1, [{ target := .collected W.heap.size, args := #[] }])
      (pushW (pushW W (.deferred (some []))) (.loop { state := .ready, pending := none, fn, tmps, params := ps, assign := as, body, defers := W.heap.size })) := by
  simp only [Instr.enterLoop, Sem.run_bind, run_newObj, Result.andThen_ok, Sem.run_pure]
  simp [pushW]
theorem run_enterLoop1 {P : Program} {W : World} {fn : FuncId} {tmps : Array Value} {ps : Array Tmp} {as body : Code} {r : Nat} {L : Loop} (hL : W.heap[r]? = some (.loop L)) :
    (Instr.enterLoop fn tmps ps as body (some r)).run P W = .ok (W.heap.size, [])
      (pushW W (.loop { state := .ready, pending := none, fn, tmps, params := ps, assign := as, body, defers := L.defers })) := by
  simp only [Instr.enterLoop, Instr.getLoop, Sem.run_bind, run_getObj_of (P := P) hL (by intros; simp), run_newObj, Result.andThen_ok, Sem.run_pure]
theorem run_endLoop {P : Program} {W : World} {r : Nat} {L : Loop} (hL : W.heap[r]? = some (.loop L)) (hs : L.state ≠ .busy) :
    (Instr.endLoop r).run P W = .ok L.pending (setB W r (.loop { L with state := .exhausted })) := by
  simp only [Instr.endLoop, Instr.getLoop, Sem.run_bind, run_getObj_of (P := P) hL (by intros; simp), Result.andThen_ok, Sem.run_pure]
  have : (L.state == .busy) = false := by cases h : L.state <;> first | rfl | exact absurd h hs
  rw [if_neg (by rw [this]; simp)]
  simp only [Sem.run_bind, Sem.run_pure, Result.andThen_ok, run_setObj_of (P := P) _ hL (by intros; simp)]
theorem FnRel.func_inv {φ : Ren} {f : FuncId} {g : Fn} (h : FnRel φ (.func f) g) : g = .func f := by cases h; rfl

/-- The one call of a loop over a function, and what comes behind it. -/
theorem range_call (C : CallOk E w0 call) {m : Nat} (ih : CodeOk E w0 call n m) {l next : Nat} {lp : LoopA} {v : Value} {f' : FuncId} {args args' : Array Value} {st1 st2 st' : St} {x : Xit} {fr1 fr' : Fr} {φ φ1 : Ren} {W1 : World} {a1 : Act} {e : Ent}
    (hc : call (.fn f') args st1 = some (.ret v, st2)) (hlp : st2.loops.get l = some lp) (hb : lp.state ≠ .busy)
    (hj : (lp.pending = none ∧ x = .normal ∧ fr' = fr1 ∧ st' = { st2 with loops := st2.loops.put l none }) ∨ ∃ c, lp.pending = some c ∧ exec E call rd m c fr1 { st2 with loops := st2.loops.put l none } = some (x, fr', st'))
    (hr : RR φ1 rd rr) (F1 : Far E w0 φ next st1 φ1 W1) (hf1 : FRel φ1 fr1 a1) (he : φ1 l = some e) (hl : E.lim ≤ l) (hl1 : E.lim ≤ st1.next) (ha : ARel φ1 args args') :
    CallsIn (Fw rr) (n - 1) E.P f' args' W1 (rangePost (Fw rr) n E.P e.r (XPost E w0 φ next x fr' st') a1) := by
  refine CallsIn.mono (callsIn_fw (C.fn f' args st1 _ st2 hc φ1 W1 args' F1.w ha F1.new hl1)) ?_
  rintro e' W2 ⟨φ2, F2, hE⟩
  cases e' with
  | panicked _ => exact hE.elim
  | outgrown => exact hE.elim
  | returned v' =>
    have he2 := F2.le _ _ he
    obtain ⟨hln, e2, L, h1, h2, h3⟩ := F2.w.lp l lp hlp
    rw [he2] at h1; injection h1 with h1; subst h1
    obtain ⟨p1, p2, p3⟩ := h3
    obtain ⟨W3, hW3⟩ : ∃ W3, W3 = setB W2 e.r (.loop { L with state := .exhausted }) := ⟨_, rfl⟩
    refine ⟨L.pending, W3, by rw [hW3]; exact run_endLoop h2 (by rw [p1]; exact hb), ?_⟩
    have H3 : WRel E w0 φ2 st2.h (st2.loops.put l none) W3 := by rw [hW3]; exact F2.w.setLoop he2 hl hlp none (fun x hx => by cases hx)
    have F3 : Far E w0 φ next { st2 with loops := st2.loops.put l none } φ2 W3 := F1.trans ⟨F2.le, F2.old, F2.new, F2.up, H3⟩
    rw [p2]
    rcases hj with ⟨hp, rfl, rfl, rfl⟩ | ⟨c, hp, hx⟩
    · rw [hp]
      exact ⟨φ2, F3, hf1.mono F2.le, trivial⟩
    · rw [hp]
      have := ih rd rr c fr1 _ x fr' st' φ2 a1 _ (hr.mono F2.le) hx H3 (hf1.mono F2.le) F2.new (by have := F2.up; simp only; omega)
      exact wpIn_mono this fun e a w h => h.far F3

theorem invoke_rel (K : EOk E) {φ : Ren} {h : Hp} {ls : Tr LoopA} {W : World} (H : WRel E w0 φ h ls W) {f f' : FuncId} {first first' cap cap' args : Array Value} {l : Nat} {e : Ent} (he : φ l = some e) (h1 : ARel φ first first') (h2 : ARel φ cap cap')
    (ht : targetA E (.fn (.func f) cap) (first.toList ++ [Value.func (.yield l) #[] #[]]) = some (.enter f' args)) :
    ∃ args', (invoke (.fn (.func f) cap') (first' ++ #[Value.func (.yield e.r) #[] #[]])).run E.P W = .ok (.enter f' args') W ∧ ARel φ args args' := by
  have hy : VRel φ (.func (.yield l) #[] #[]) (.func (.yield e.r) #[] #[]) := .func_of (.yield he) .nil .nil
  have := targetA_rel (id := 0) K H (t' := .fn (.func f) cap') (args' := first' ++ #[Value.func (.yield e.r) #[] #[]]) (.fn (.func f) h2) (by simpa using LRel.append h1 (.cons hy .nil)) ht
  obtain ⟨args', q1, q2, _⟩ := this
  exact ⟨args', q1, q2⟩

theorem resolve_range {ρ : Operand → Value} {P : Program} {W : World} {g : Operand} {l : Nat} {fn : Fn} {first cap : Array Value} (h : ρ g = .func fn first cap) (hc : ∀ v, ρ (.const v) = v) :
    (resolve ρ (rangeCall g l) 0).run P W = .ok { target := .fn fn cap, args := first ++ #[Value.func (.yield l) #[] #[]] } W := by
  simp [resolve, Deferred.ofValue, h, hc]

theorem rangeFunc_wp (K : EOk E) (C : CallOk E w0 call) {m : Nat} (ih : CodeOk E w0 call n m) {g : Operand} {ps : Array Tmp} {as body : Code} {fr fr' : Fr} {st st' : St} {x : Xit} {φ : Ren} {a : Act} {W : World} (hr : RR φ rd rr)
    (hx : exec1 E call rd (exec E call rd m) (.rangeFunc g ps as body) fr st = some (x, fr', st')) (H : WRel E w0 φ st.h st.loops W) (hf : FRel φ fr a) (hnew : ∀ b, st.next ≤ b → φ b = none) (hl : E.lim ≤ st.next) :
    (Code.rangeFunc g ps as body).wpIn (Fw rr) n E.P (XPost E w0 φ st.next x fr' st') a W := by
  have hng := K.ngl
  simp only [exec1, Option.bind_eq_bind, Option.bind_eq_some_iff] at hx
  obtain ⟨gv, hg, hx⟩ := hx
  have hgv := ev_rel H hf.fr hg
  split at hx
  · rename_i f first cap
    obtain ⟨fn', first', cap', e1, q1, q2, q3⟩ := hgv.func_inv
    have := q1.func_inv
    subst this
    simp only [Option.bind_eq_some_iff] at hx
    obtain ⟨tr, ht, hx⟩ := hx
    split at hx
    · rename_i f' args
      cases rd with
      | none =>
        have hrr := hr.none rfl
        subst hrr
        simp only [Bool.and_true] at hx
        cases hh : (st.h.get st.next).isNone with
        | false => rw [hh] at hx; cases hx
        | true =>
          rw [hh, cond_true] at hx
          simp only [Option.bind_eq_some_iff] at hx
          obtain ⟨⟨en, st2⟩, hc, hx⟩ := hx
          cases en with
          | panic _ => cases hx
          | ret v =>
            simp only [Option.bind_eq_some_iff, ofOpt] at hx
            obtain ⟨lp, hlp, hx⟩ := hx
            have hbusy : lp.state ≠ .busy := by intro hb; simp only [hb] at hx; cases hx
            have hj : (lp.pending = none ∧ x = .normal ∧ fr' = { fr with ds := { target := .collected (st.next + 1), args := #[] } :: fr.ds } ∧ st' = { st2 with loops := st2.loops.put st.next none }) ∨
                ∃ c, lp.pending = some c ∧ exec E call none m c { fr with ds := { target := .collected (st.next + 1), args := #[] } :: fr.ds } { st2 with loops := st2.loops.put st.next none } = some (x, fr', st') := by
              split at hx
              · cases hx
              · split at hx
                · rename_i hp
                  simp only [Option.pure_def, Option.some.injEq, Prod.mk.injEq] at hx
                  exact .inl ⟨hp, hx.1.symm, hx.2.1.symm, hx.2.2.symm⟩
                · rename_i c hp
                  exact .inr ⟨c, hp, hx⟩
            refine wpIn_rangeFunc fun fn _ => ?_
            -- the block for the deferred calls
            have G1 := H.ghost (hnew (st.next + 1) (by omega)) (by omega) (some (.deferred (some [])))
            have G2 := G1.push (id := st.next + 1) (e := ⟨W.heap.size, 0, 0, 0, 0⟩) (o := .deferred (some [])) (o' := .deferred (some [])) (hnew _ (by omega)) (by omega) rfl (addObj_get _ rfl) trivial
            have hle1 := Ren.le_upd (hnew (st.next + 1) (by omega)) ⟨W.heap.size, 0, 0, 0, 0⟩
            have hn1 : (φ.upd (st.next + 1) ⟨W.heap.size, 0, 0, 0, 0⟩) st.next = none := by rw [Ren.upd_ne _ _ (by omega)]; exact hnew _ (Nat.le_refl _)
            have hle2 := Ren.le_upd hn1 ⟨W.heap.size + 1, 0, 0, 0, 0⟩
            have hle := Ren.le_trans hle1 hle2
            have G3 := G2.pushLoop (l := st.next) (e := ⟨W.heap.size + 1, 0, 0, 0, 0⟩) (lp := { fr := fr.t, n := fr.n, params := ps, assign := as, body := body, state := .ready, pending := none })
              (L := { state := .ready, pending := none, fn, tmps := a.tmps, params := ps, assign := as, body, defers := W.heap.size }) hn1 hl hng
              (by simp only [addObj]; rw [Tr.get_put_ne _ _ (by omega)]; cases hq : st.h.get st.next with | none => rfl | some _ => rw [hq] at hh; cases hh)
              (by simp [pushW]) ⟨rfl, rfl, rfl, rfl, rfl, hf.fr.mono hle⟩
            have hel : ((φ.upd (st.next + 1) ⟨W.heap.size, 0, 0, 0, 0⟩).upd st.next ⟨W.heap.size + 1, 0, 0, 0, 0⟩) st.next = some ⟨W.heap.size + 1, 0, 0, 0, 0⟩ := Ren.upd_same _ _ _
            have hed : ((φ.upd (st.next + 1) ⟨W.heap.size, 0, 0, 0, 0⟩).upd st.next ⟨W.heap.size + 1, 0, 0, 0, 0⟩) (st.next + 1) = some ⟨W.heap.size, 0, 0, 0, 0⟩ := by rw [Ren.upd_ne _ _ (by omega), Ren.upd_same]
            obtain ⟨args', i1, i2⟩ := invoke_rel K G3 hel (LRel.mono hle q2) (LRel.mono hle q3) ht
            have F1 : Far E w0 φ st.next { st with next := st.next + 2, h := addObj st.h (st.next + 1) (some (.deferred (some []))), loops := st.loops.put st.next (some { fr := fr.t, n := fr.n, params := ps, assign := as, body := body, state := .ready, pending := none }) }
                ((φ.upd (st.next + 1) ⟨W.heap.size, 0, 0, 0, 0⟩).upd st.next ⟨W.heap.size + 1, 0, 0, 0, 0⟩)
                (pushW (pushW W (.deferred (some []))) (.loop { state := .ready, pending := none, fn, tmps := a.tmps, params := ps, assign := as, body, defers := W.heap.size })) :=
              ⟨hle, fun b hb => by rw [Ren.upd_ne _ _ (by omega), Ren.upd_ne _ _ (by omega)], fun b hb => by simp only at hb; rw [Ren.upd_ne _ _ (by omega), Ren.upd_ne _ _ (by omega)]; exact hnew b (by omega), by simp only; omega, G3⟩
            refine ⟨W.heap.size + 1, [{ target := .collected W.heap.size, args := #[] }], _, _, _, f', args', _, run_enterLoop0, resolve_range e1 (fun _ => rfl), fun _ _ => trivial, i1, Fw_depth, ?_⟩
            exact range_call (a1 := { a with defers := [{ target := .collected W.heap.size, args := #[] }] ++ a.defers }) C ih (rd := none) (rr := none) hc hlp hbusy hj trivial F1 ⟨hf.fr.mono hle, .cons (show DRel _ { target := .collected _, args := #[] } { target := .collected _, args := #[] } from ⟨.collected hed, LRel.nil⟩) (hf.ds.mono hle)⟩ hel hl (by simp only; omega) i2
      | some l0 =>
        cases rr with
        | none => simp [RR] at hr
        | some r0 =>
        cases hh : ((st.h.get st.next).isNone && (st.loops.get l0).isSome) with
        | false => simp only [hh, cond_false] at hx; cases hx
        | true =>
          simp only [hh, cond_true, Option.bind_eq_some_iff] at hx
          simp only [Bool.and_eq_true] at hh
          obtain ⟨hh, hh0⟩ := hh
          obtain ⟨⟨en, st2⟩, hc, hx⟩ := hx
          cases en with
          | panic _ => cases hx
          | ret v =>
            simp only [Option.bind_eq_some_iff, ofOpt] at hx
            obtain ⟨lp, hlp, hx⟩ := hx
            have hbusy : lp.state ≠ .busy := by intro hb; simp only [hb] at hx; cases hx
            have hj : (lp.pending = none ∧ x = .normal ∧ fr' = fr ∧ st' = { st2 with loops := st2.loops.put st.next none }) ∨
                ∃ c, lp.pending = some c ∧ exec E call (some l0) m c fr { st2 with loops := st2.loops.put st.next none } = some (x, fr', st') := by
              split at hx
              · cases hx
              · split at hx
                · rename_i hp
                  simp only [Option.pure_def, Option.some.injEq, Prod.mk.injEq] at hx
                  exact .inl ⟨hp, hx.1.symm, hx.2.1.symm, hx.2.2.symm⟩
                · rename_i c hp
                  exact .inr ⟨c, hp, hx⟩
            refine wpIn_rangeFunc fun fn _ => ?_
            obtain ⟨e0, hr1, rfl⟩ := id hr
            cases hlp0 : st.loops.get l0 with
            | none => rw [hlp0] at hh0; cases hh0
            | some lp0 =>
            obtain ⟨_, e0', L0, z1, z2, _⟩ := H.lp l0 lp0 hlp0
            rw [hr1] at z1; injection z1 with z1; subst z1
            have hn1 : φ st.next = none := hnew _ (Nat.le_refl _)
            have hle := Ren.le_upd hn1 ⟨W.heap.size, 0, 0, 0, 0⟩
            have G3 := H.pushLoop (l := st.next) (e := ⟨W.heap.size, 0, 0, 0, 0⟩) (lp := { fr := fr.t, n := fr.n, params := ps, assign := as, body := body, state := .ready, pending := none })
              (L := { state := .ready, pending := none, fn, tmps := a.tmps, params := ps, assign := as, body, defers := L0.defers }) hn1 hl hng
              (by cases hq : st.h.get st.next with | none => rfl | some _ => rw [hq] at hh; cases hh)
              rfl ⟨rfl, rfl, rfl, rfl, rfl, hf.fr.mono hle⟩
            have hel : (φ.upd st.next ⟨W.heap.size, 0, 0, 0, 0⟩) st.next = some ⟨W.heap.size, 0, 0, 0, 0⟩ := Ren.upd_same _ _ _
            obtain ⟨args', i1, i2⟩ := invoke_rel K G3 hel (LRel.mono hle q2) (LRel.mono hle q3) ht
            have F1 : Far E w0 φ st.next { st with next := st.next + 2, loops := st.loops.put st.next (some { fr := fr.t, n := fr.n, params := ps, assign := as, body := body, state := .ready, pending := none }) }
                (φ.upd st.next ⟨W.heap.size, 0, 0, 0, 0⟩) (pushW W (.loop { state := .ready, pending := none, fn, tmps := a.tmps, params := ps, assign := as, body, defers := L0.defers })) :=
              ⟨hle, fun b hb => by rw [Ren.upd_ne _ _ (by omega)], fun b hb => by simp only at hb; rw [Ren.upd_ne _ _ (by omega)]; exact hnew b (by omega), by simp only; omega, G3⟩
            refine ⟨W.heap.size, [], _, _, _, f', args', _, run_enterLoop1 z2, resolve_range e1 (fun _ => rfl), fun _ _ => trivial, i1, Fw_depth, ?_⟩
            exact range_call C ih (rd := some l0) (rr := some e0.r) hc hlp hbusy hj (hr.mono hle) F1 (hf.mono hle) hel hl (by simp only; omega) i2
    · cases hx
  · cases hx

theorem exec_wp (K : EOk E) (C : CallOk E w0 call) : ∀ m, CodeOk E w0 call n m := by
  intro m
  induction m using Nat.strongRecOn with
  | _ m ih =>
  intro rd rr c fr st x fr' st' φ a W hr hx H hf hnew hl
  cases m with
  | zero => cases hx
  | succ m =>
  have ihm : CodeOk E w0 call n m := ih m (Nat.lt_succ_self m)
  simp only [exec] at hx
  cases c with
  | skip =>
    simp only [exec1, Option.some.injEq, Prod.mk.injEq] at hx
    obtain ⟨rfl, rfl, rfl⟩ := hx
    exact wpIn_skip (.here H hnew hf trivial)
  | label l =>
    simp only [exec1, Option.some.injEq, Prod.mk.injEq] at hx
    obtain ⟨rfl, rfl, rfl⟩ := hx
    exact wpIn_label (.here H hnew hf trivial)
  | exit id =>
    simp only [exec1, Option.some.injEq, Prod.mk.injEq] at hx
    obtain ⟨rfl, rfl, rfl⟩ := hx
    exact wpIn_exit (.here H hnew hf rfl)
  | ret =>
    simp only [exec1, Option.some.injEq, Prod.mk.injEq] at hx
    obtain ⟨rfl, rfl, rfl⟩ := hx
    exact wpIn_ret (.here H hnew hf trivial)
  | goto l => cases hx
  | refuse s => cases hx
  | region id ops draw =>
    cases draw with
    | true => exact drawRegion_wp K C hr.none hx H hf hnew hl
    | false => exact seqRegion_wp K C hr.none hx H hf hnew hl
  | seq p q =>
    simp only [exec1, Option.bind_eq_bind, Option.bind_eq_some_iff] at hx
    obtain ⟨⟨x1, fr1, st1⟩, h1, hx⟩ := hx
    refine wpIn_seq (wpIn_mono (ihm rd rr p fr st x1 fr1 st1 φ a W hr h1 H hf hnew hl) fun e a' W' => then_mono ?_ ?_)
    · intro hn
      cases x1 <;> first | exact absurd rfl hn | (simp only [Option.pure_def, Option.some.injEq, Prod.mk.injEq] at hx; exact ⟨hx.1.symm, hx.2.1.symm, hx.2.2.symm⟩)
    · rintro rfl φ1 a1 W1 F1 hf1
      exact wpIn_mono (ihm rd rr q fr1 st1 x fr' st' φ1 a1 W1 (hr.mono F1.le) hx F1.w hf1 F1.new (by have := F1.up; omega)) fun e a w h => h.far F1
  | cond b p q =>
    simp only [exec1, Option.bind_eq_bind, Option.bind_eq_some_iff] at hx
    obtain ⟨v, hv, hx⟩ := hx
    split at hx
    · rename_i t
      have hb := ev_rel H hf.fr hv
      have hb : a.eval b = .bool t := by generalize a.eval b = z at hb; cases hb; rfl
      refine wpIn_cond hb ?_
      have := ihm rd rr _ fr st x fr' st' φ a W hr hx H hf hnew hl
      cases t <;> exact this
    · cases hx
  | block id p =>
    simp only [exec1, Option.bind_eq_bind, Option.bind_eq_some_iff] at hx
    obtain ⟨⟨x1, fr1, st1⟩, h1, hx⟩ := hx
    refine wpIn_block (wpIn_mono (ihm rd rr p fr st x1 fr1 st1 φ a W hr h1 H hf hnew hl) fun e a' W' => ?_)
    rintro ⟨φ1, F1, hf1, hx1⟩
    cases x1 with
    | normal =>
      simp only [Option.pure_def, Option.some.injEq, Prod.mk.injEq] at hx
      obtain ⟨rfl, rfl, rfl⟩ := hx
      have := hx1.normal_iff.1 rfl
      subst this
      exact ⟨φ1, F1, hf1, trivial⟩
    | exit j =>
      cases e with
      | exit j' =>
        have : j = j' := hx1
        subst this
        simp only [Exit.inBlock]
        by_cases hj : j = id
        · subst hj
          have : j.beq j = true := Nat.beq_refl j
          simp only [this, cond_true, Option.pure_def, Option.some.injEq, Prod.mk.injEq] at hx
          obtain ⟨rfl, rfl, rfl⟩ := hx
          rw [if_pos rfl]
          exact ⟨φ1, F1, hf1, trivial⟩
        · have : j.beq id = false := by
            cases hbq : j.beq id with
            | false => rfl
            | true => exact absurd (Nat.eq_of_beq_eq_true hbq) hj
          simp only [this, cond_false, Option.pure_def, Option.some.injEq, Prod.mk.injEq] at hx
          obtain ⟨rfl, rfl, rfl⟩ := hx
          rw [if_neg hj]
          exact ⟨φ1, F1, hf1, rfl⟩
      | _ => exact hx1.elim
    | ret =>
      simp only [Option.pure_def, Option.some.injEq, Prod.mk.injEq] at hx
      obtain ⟨rfl, rfl, rfl⟩ := hx
      cases e <;> first | exact hx1.elim | exact ⟨φ1, F1, hf1, hx1⟩
    | panic ch =>
      simp only [Option.pure_def, Option.some.injEq, Prod.mk.injEq] at hx
      obtain ⟨rfl, rfl, rfl⟩ := hx
      cases e <;> first | exact hx1.elim | exact ⟨φ1, F1, hf1, hx1⟩
  | scope p =>
    simp only [exec1] at hx
    refine wpIn_scope (wpIn_mono (ihm rd rr p fr st x fr' st' φ a W hr hx H hf hnew hl) fun e a' W' => ?_)
    rintro ⟨φ1, F1, hf1, hx1⟩
    cases e with
    | goto l => cases x <;> exact hx1.elim
    | _ => exact ⟨φ1, F1, hf1, hx1⟩
  | rangeFunc g ps as body => exact rangeFunc_wp K C ihm hr hx H hf hnew hl
  | loop p =>
    have hloop : exec E call rd (m + 1) (.loop p) fr st = some (x, fr', st') := hx
    refine wpIn_loop_fuel (fun k a1 W1 => k ≤ m + 1 ∧ ∃ fr1 st1 φ1, exec E call rd k (.loop p) fr1 st1 = some (x, fr', st') ∧ Far E w0 φ st.next st1 φ1 W1 ∧ FRel φ1 fr1 a1) ?_ (m + 1) ⟨Nat.le_refl _, fr, st, φ, hloop, Far.refl H hnew, hf⟩
    rintro k a1 W1 ⟨hk, fr1, st1, φ1, hx1, F1, hf1⟩
    cases k with
    | zero => cases hx1
    | succ k =>
    simp only [exec, exec1, Option.bind_eq_bind, Option.bind_eq_some_iff] at hx1
    obtain ⟨⟨x2, fr2, st2⟩, h2, hx1⟩ := hx1
    refine wpIn_mono (ih k (by omega) rd rr p fr1 st1 x2 fr2 st2 φ1 a1 W1 (hr.mono F1.le) h2 F1.w hf1 F1.new (by have := F1.up; omega)) fun e a' W' h => then_mono (φ := φ) (next := st.next) ?_ ?_ (h.far F1)
    · intro hn
      cases x2 <;> first | exact absurd rfl hn | (simp only [Option.pure_def, Option.some.injEq, Prod.mk.injEq] at hx1; exact ⟨hx1.1.symm, hx1.2.1.symm, hx1.2.2.symm⟩)
    · rintro rfl φ3 a3 W3 F3 hf3
      exact ⟨k, Nat.lt_succ_self k, by omega, fr2, st2, φ3, hx1, F3, hf3⟩
end
end Go.AM
