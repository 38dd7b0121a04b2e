/- The abstract machine: one operation; regions in the text's order. -/
import Derived.Test.YtlbepbcgnhodaaaGreatDoorAmR
import Derived.RangeFuncLeaves
import Derived.RecoverIn
import Derived.OrdersIn
set_option linter.all false
namespace Go.AM
variable [Syms]
open Go.RowKit

/-- No fence; code of a function's activation (none) or of a round of that loop. -/
def Fw (r : Option Nat) : Fence := { fn := fun _ => True, depth := none, alive := false, round := r }
theorem Fw_depth {r : Option Nat} {n : Nat} : (Fw r).depth.isSome = true → 1 ≤ n := fun h => by simp [Fw] at h
theorem callsIn_fw {r : Option Nat} {n m : Nat} {P : Program} {f : FuncId} {args : Array Value} {w : World} {R : Ending → World → Prop} (h : CallsIn (Fw none) n P f args w R) : CallsIn (Fw r) m P f args w R :=
  ⟨trivial, fun cs _ => h.2 cs (fun d hd => by simp [Fw] at hd)⟩
theorem roundIn_fw {r r' : Option Nat} {n m : Nat} {P : Program} {l : Nat} {f : FuncId} {tmps : Array Value} {assign body : Code} {w : World} {R : Ending → World → Prop} (h : RoundIn (Fw r) n P l f tmps assign body w R) :
    RoundIn (Fw r') m P l f tmps assign body w R :=
  ⟨trivial, fun c cs _ => h.2 c cs (fun d hd => by simp [Fw] at hd)⟩

inductive DsRel (φ : Ren) : List Deferred → List Deferred → Prop
  | nil : DsRel φ [] []
  | cons {d d' ds ds'} (h : DRel φ d d') (t : DsRel φ ds ds') : DsRel φ (d :: ds) (d' :: ds')
theorem DRel.mono {φ ψ : Ren} (h : φ.le ψ) {d d' : Deferred} (k : DRel φ d d') : DRel ψ d d' := ⟨k.1.mono h, LRel.mono h k.2⟩
theorem DsRel.mono {φ ψ : Ren} (h : φ.le ψ) {a b : List Deferred} (k : DsRel φ a b) : DsRel ψ a b := by
  induction k with
  | nil => exact .nil
  | cons x _ ih => exact .cons (x.mono h) ih

structure FRel (φ : Ren) (f : Fr) (a : Act) : Prop where
  fr : FrRel φ f.t f.n a.tmps
  ds : DsRel φ f.ds a.defers
theorem FRel.mono {φ ψ : Ren} (h : φ.le ψ) {fr : Fr} {a : Act} (k : FRel φ fr a) : FRel ψ fr a := ⟨k.fr.mono h, k.ds.mono h⟩

def ChRel (φ : Ren) : List PanicEntry → List PanicEntry → Prop
  | [], [] => True
  | p :: ps, q :: qs => (VRel φ p.v q.v ∧ p.recovered = q.recovered ∧ p.goexit = q.goexit) ∧ ChRel φ ps qs
  | _, _ => False
theorem ChRel.mono {φ ψ : Ren} (h : φ.le ψ) : ∀ {a b : List PanicEntry}, ChRel φ a b → ChRel ψ a b
  | [], [], _ => trivial
  | _ :: _, _ :: _, k => ⟨⟨k.1.1.mono h, k.1.2⟩, ChRel.mono h k.2⟩
  | [], _ :: _, k => k.elim
  | _ :: _, [], k => k.elim

def XRel (φ : Ren) : Xit → Exit → Prop
  | .normal, .normal => True
  | .exit i, .exit j => i = j
  | .ret, .ret => True
  | .panic a, .panic b => ChRel φ a b
  | _, _ => False
def EndRel (φ : Ren) : End → Ending → Prop
  | .ret v, .returned w => VRel φ v w
  | .panic a, .panicked b => ChRel φ a b
  | _, _ => False

/-- How the abstract machine has gone on: from 'next' blocks on, everything that was there is as it was; the new ones are known. -/
structure Far (E : Env) (w0 : World) (φ : Ren) (next : Nat) (st' : St) (φ' : Ren) (W' : World) : Prop where
  le : φ.le φ'
  old : ∀ b, b < next → φ' b = φ b
  new : ∀ b, st'.next ≤ b → φ' b = none
  up : next ≤ st'.next
  w : WRel E w0 φ' st'.h st'.loops W'
theorem Far.trans {E : Env} {w0 : World} {φ φ1 φ2 : Ren} {next : Nat} {st1 st2 : St} {W1 W2 : World} (h : Far E w0 φ next st1 φ1 W1) (k : Far E w0 φ1 st1.next st2 φ2 W2) : Far E w0 φ next st2 φ2 W2 :=
  ⟨Ren.le_trans h.le k.le, fun b hb => (k.old b (by have := h.up; omega)).trans (h.old b hb), k.new, by have := h.up; have := k.up; omega, k.w⟩

/-- What a piece of code achieves. -/
def XPost (E : Env) (w0 : World) (φ : Ren) (next : Nat) (x : Xit) (fr' : Fr) (st' : St) : Exit → Act → World → Prop := fun e a' W' =>
  ∃ φ', Far E w0 φ next st' φ' W' ∧ FRel φ' fr' a' ∧ XRel φ' x e
/-- What a call achieves. -/
def EPost (E : Env) (w0 : World) (φ : Ren) (next : Nat) (e : End) (st' : St) : Ending → World → Prop := fun e' W' =>
  ∃ φ', Far E w0 φ next st' φ' W' ∧ EndRel φ' e e'

structure CallOk (E : Env) (w0 : World) (call : CallF) : Prop where
  fn : ∀ f args st e st', call (.fn f) args st = some (e, st') → ∀ φ W args', WRel E w0 φ st.h st.loops W → ARel φ args args' → (∀ b, st.next ≤ b → φ b = none) → E.lim ≤ st.next →
    CallsIn (Fw none) 0 E.P f args' W (EPost E w0 φ st.next e st')
  round : ∀ l args st e st', call (.round l) args st = some (e, st') → ∀ φ W, WRel E w0 φ st.h st.loops W → (∀ b, st.next ≤ b → φ b = none) → E.lim ≤ st.next →
    ∃ lp, st.loops.get l = some lp ∧ lp.params.size = args.size ∧ ∀ args' e' L, φ l = some e' → W.heap[e'.r]? = some (.loop L) → LpRel φ lp L → ARel φ args args' →
      RoundIn (Fw none) 0 E.P e'.r L.fn ((L.params.zip args').foldl (fun tmps (t, a) => tmps.setIfInBounds t a) L.tmps) L.assign L.body W (EPost E w0 φ st.next e st')

/-! Frames. -/
def Puts (fr fr' : Fr) (dst : Option Tmp) (v : Value) : Prop :=
  fr'.n = fr.n ∧ fr'.ds = fr.ds ∧ (match dst with | none => fr'.t = fr.t | some d => d < fr.n ∧ fr'.t = fr.t.put d (some v))
theorem put_inv {fr fr' : Fr} {dst : Option Tmp} {v : Value} (h : fr.put dst (some v) = some fr') : Puts fr fr' dst v := by
  unfold Fr.put at h
  cases dst with
  | none => simp only [Option.some.injEq] at h; subst h; exact ⟨rfl, rfl, rfl⟩
  | some d =>
    simp only at h
    cases hb : Nat.blt d fr.n with
    | false => simp only [hb, cond_false] at h; cases h
    | true =>
      simp only [hb, cond_true, Option.some.injEq] at h
      subst h
      exact ⟨rfl, rfl, Nat.blt_eq ▸ hb, rfl⟩
theorem put_defers' (a : Act) (dst : Option Tmp) (v : Value) : (a.put dst v).defers = a.defers := by cases dst <;> rfl
theorem Puts.rel {φ : Ren} {fr fr' : Fr} {dst : Option Tmp} {v v' : Value} {a : Act} (h : Puts fr fr' dst v) (k : FRel φ fr a) (hv : VRel φ v v') : FRel φ fr' (a.put dst v') := by
  obtain ⟨h1, h2, h3⟩ := h
  refine ⟨?_, by rw [h2, put_defers']; exact k.ds⟩
  cases dst with
  | none => simp only at h3; rw [h1, h3]; exact k.fr
  | some d =>
    obtain ⟨h3, h4⟩ := h3
    rw [h1, h4]
    obtain ⟨k1, k2⟩ := k.fr
    refine ⟨by simpa [Act.put] using k1, fun t u ht => ?_⟩
    rw [Tr.get_put] at ht
    simp only [Act.put, Array.getElem?_setIfInBounds]
    by_cases htd : t = d
    · subst htd
      rw [if_pos rfl] at ht; injection ht with ht; subst ht
      exact ⟨v', by rw [if_pos rfl, if_pos (by rw [k1]; exact h3)], hv⟩
    · rw [if_neg htd] at ht
      obtain ⟨u', q1, q2⟩ := k2 t u ht
      exact ⟨u', by rw [if_neg (fun h => htd h.symm)]; exact q1, q2⟩

theorem WRel.ghost {E : Env} {w0 : World} {φ : Ren} {h : Hp} {ls : Tr LoopA} {W : World} (k : WRel E w0 φ h ls W) {id : Nat} (hid : φ id = none) (hl : E.ng ≤ id) (ob : Option Obj) : WRel E w0 φ (addObj h id ob) ls W := by
  cases ob with
  | none => exact k
  | some ob =>
    have hg : ∀ b, φ b ≠ none → (addObj h id (some ob)).get b = h.get b := fun b hb => by
      simp only [addObj]; rw [Tr.get_put_ne]; rintro rfl; exact hb hid
    have hlv : ∀ b, φ b ≠ none → live (addObj h id (some ob)) ls b → live h ls b := fun b hb hl => by
      unfold live at hl ⊢; rwa [hg b hb] at hl
    refine ⟨fun b e o hb ho => k.obj b e o hb (by rwa [hg b (by rw [hb]; simp)] at ho), ?_, ?_, k.bound, ?_, k.own, k.keep⟩
    · intro l lp hlp
      obtain ⟨q1, q2⟩ := k.lp l lp hlp
      refine ⟨?_, q2⟩
      obtain ⟨e, L, he, _⟩ := q2
      rw [hg l (by rw [he]; simp)]; exact q1
    · intro b b' e e' hb hb' l1 l2
      exact k.inj b b' e e' hb hb' (hlv b (by rw [hb]; simp) l1) (hlv b' (by rw [hb']; simp) l2)
    · intro g hg' hs
      have : g ≠ id := by omega
      simp only [addObj] at hs
      rw [Tr.get_put_ne _ _ this] at hs
      exact k.glob g hg' hs

theorem addObj_get {h : Hp} {id : Nat} {ob : Option Obj} : ∀ x, ob = some x → (addObj h id ob).get id = some x := by
  rintro x rfl; simp only [addObj, Tr.get_put_same]

/-! Wanted or not. -/
theorem wanted_rel {φ : Ren} {ops : Array Oper} {fr : Tr Value} {tmps : Array Value} {o : Oper} {w : Bool}
    (hf : ∀ j want d v, o.guard = some (j, want) → (ops[j]?).bind (·.dst) = some d → fr.get d = some v → ∃ v', tmps[d]? = some v' ∧ VRel φ v v') (h : wantedA ops fr o = some w) :
    Region.wanted o (yielded ops tmps) = w := by
  unfold wantedA at h
  unfold Region.wanted
  split at h
  · rename_i hg; rw [hg]; simpa using h
  · rename_i j want hg
    rw [hg]
    simp only
    split at h
    · rename_i hd
      simp only [Option.some.injEq] at h
      subst h
      simp [yielded, hd]
    · rename_i d hd
      split at h
      · rename_i b hb
        simp only [Option.some.injEq] at h
        obtain ⟨v', h1, h2⟩ := hf j want d _ hg hd hb
        cases h2
        simp only [yielded, hd, Option.bind_some, h1]
        rw [← h]
        cases b <;> cases want <;> rfl
      · rename_i v hnb hb
        simp only [Option.some.injEq] at h
        obtain ⟨v', h1, h2⟩ := hf j want d _ hg hd hb
        subst h
        have : ∀ b, v' ≠ .bool b := by rintro b rfl; cases h2; exact hnb _ rfl
        simp only [yielded, hd, Option.bind_some, h1]
        cases v' <;> first | rfl | exact absurd rfl (this _)
      · cases h

section
variable {E : Env} {w0 : World} {call : CallF} {rd rr : Option Nat} {n : Nat}

theorem light_not_defer {E : Env} {h : Hp} {fr : Tr Value} {id : Nat} {o : Oper} {r} (hx : light E h fr id o = some r) : ∀ c, o.op ≠ .defer c := by
  intro c hc
  simp [light, hc, fail] at hx

/-- A light operation, carried out. -/
theorem light_wp (K : EOk E) {φ : Ren} {h σ : Hp} {ls : Tr LoopA} {W : World} {fr : Tr Value} {m : Nat} {a : Act} {id : Nat} {o : Oper} {v : Value} {ob : Option Obj}
    (H : WRel E w0 φ h ls W) (hf : FrRel φ fr m a.tmps) (hid : φ id = none) (hl : E.lim ≤ id) (hx : light E h fr id o = some (v, ob))
    (Hσ : WRel E w0 φ σ ls W) (hob : ∀ x, ob = some x → σ.get id = some x) {next : Act → World → Prop} {Q : Exit → Act → World → Prop}
    (hn : ∀ φ' v' W', φ.le φ' → (∀ b, b ≠ id → φ' b = φ b) → VRel φ' v v' → WRel E w0 φ' σ ls W' → next (a.put o.dst v') W') : o.wpIn (Fw rr) n E.P a W next Q := by
  obtain ⟨φ', v', W', q1, q2, q3, q4, q5⟩ := light_sound K H hf hid hl hx
  refine ⟨fun _ _ => trivial, ?_⟩
  rw [Oper.semAt_eq _ _ _ (light_not_defer hx), q3]
  exact hn φ' v' W' q1 q2 q4 (q5 σ Hσ hob)

/-- A heavy operation, carried out. -/
theorem heavy_wp (K : EOk E) (C : CallOk E w0 call) (hrr : rd = none → rr = none) {φ : Ren} {st st' : St} {W : World} {fr fr' : Fr} {frX : Tr Value} {m : Nat} {a : Act} {id : Nat} {o : Oper} {x : Xit}
    (hx : stepH E call rd id o fr st = some (x, fr', st')) (hsame : heavy E st.h frX id o = heavy E st.h fr.t id o)
    (H : WRel E w0 φ st.h st.loops W) (hf : FrRel φ frX m a.tmps) (hd : DsRel φ fr.ds a.defers) (hid : φ id = none) (hl : E.lim ≤ id) (hlt : id < st.next) (hnew : ∀ b, st.next ≤ b → φ b = none)
    {next : Act → World → Prop} {Q : Exit → Act → World → Prop}
    (hn : x = .normal → ∀ (φ' : Ren) (v v' : Value) (W' : World) (fr1 : Fr) (a1 : Act), φ.le φ' → (∀ b, b < st.next → b ≠ id → φ' b = φ b) → (∀ b, st'.next ≤ b → φ' b = none) → st.next ≤ st'.next → WRel E w0 φ' st'.h st'.loops W' →
      VRel φ' v v' → fr1.t = fr.t → fr1.n = fr.n → a1.tmps = a.tmps → DsRel φ' fr1.ds a1.defers → Puts fr1 fr' o.dst v → next (a1.put o.dst v') W')
    (hp : ∀ ch, x = .panic ch → fr' = fr → ∀ (φ' : Ren) ch' W', φ.le φ' → (∀ b, b < st.next → b ≠ id → φ' b = φ b) → (∀ b, st'.next ≤ b → φ' b = none) → st.next ≤ st'.next → WRel E w0 φ' st'.h st'.loops W' →
      ChRel φ' ch ch' → Q (.panic ch') a W') : o.wpIn (Fw rr) n E.P a W next Q := by
  unfold stepH at hx
  simp only [Option.pure_def, Option.bind_eq_bind, Option.bind_eq_some_iff] at hx
  obtain ⟨⟨r, h'⟩, hh, hx⟩ := hx
  rw [← hsame] at hh
  have hS := heavy_sound K H hf hid hl hh
  refine ⟨fun _ _ => trivial, ?_⟩
  have hnd : (∀ d, r ≠ .defer d) → ∀ c, o.op ≠ .defer c := by
    intro hr c hc
    simp only [heavy, hc, Option.pure_def, Option.bind_eq_bind, Option.bind_eq_some_iff, Option.some.injEq, Prod.mk.injEq] at hh
    obtain ⟨_, _, rfl, _⟩ := hh
    exact hr _ rfl
  cases r with
  | value v =>
    rw [Oper.semAt_eq _ _ _ (hnd (by intro d hd; cases hd))]
    simp only [Option.bind_eq_some_iff, Option.some.injEq, Prod.mk.injEq] at hx
    obtain ⟨fr2, hp2, rfl, rfl, rfl⟩ := hx
    obtain ⟨φ', v', W', q1, q2, q3, q4, q5⟩ := hS
    have hN := hn rfl φ' v v' W' fr a q1 (fun b _ hb => q2 b hb) (fun b hb => by rw [q2 b (by simp only at hb; omega)]; exact hnew b hb) (Nat.le_refl _) q5 q4 rfl rfl rfl (hd.mono q1) (put_inv hp2)
    rcases q3 with q3 | ⟨q3, rfl⟩
    · rw [q3]; exact hN
    · rw [q3]; exact hN
  | panic v =>
    rw [Oper.semAt_eq _ _ _ (hnd (by intro d hd; cases hd))]
    simp only [Option.some.injEq, Prod.mk.injEq] at hx
    obtain ⟨rfl, rfl, rfl⟩ := hx
    obtain ⟨v', q1, q2, q3⟩ := hS
    rw [q1]
    exact hp _ rfl rfl φ _ W φ.le_refl (fun _ _ _ => rfl) hnew (Nat.le_refl _) q3 ⟨⟨q2, rfl, rfl⟩, trivial⟩
  | defer d =>
    cases rd with
    | some l => cases hx
    | none =>
      have hrr := hrr rfl
      subst hrr
      simp only [Option.bind_eq_some_iff, Option.some.injEq, Prod.mk.injEq] at hx
      obtain ⟨fr2, hp2, rfl, rfl, rfl⟩ := hx
      obtain ⟨d', q1, q2, q3⟩ := hS
      rw [show (Fw none).round = none from rfl, Oper.semAt_none, q1]
      refine hn rfl φ undef undef W { fr with ds := d :: fr.ds } { a with defers := d' :: a.defers } φ.le_refl (fun _ _ _ => rfl) hnew (Nat.le_refl _) q3 (plain_refl rfl φ) rfl rfl rfl (.cons q2 hd) (put_inv hp2)
  | enter f args =>
    rw [Oper.semAt_eq _ _ _ (hnd (by intro d hd; cases hd))]
    simp only [Option.bind_eq_some_iff] at hx
    obtain ⟨⟨e, st2⟩, hc, hx⟩ := hx
    obtain ⟨args', q1, q2, q3⟩ := hS
    rw [q1]
    refine ⟨Fw_depth, ?_⟩
    have := C.fn f args _ e st2 hc φ W args' q3 q2 hnew (by simp only; omega)
    refine CallsIn.mono (callsIn_fw this) ?_
    rintro e' W' ⟨φ', hF, hE⟩
    cases e with
    | ret v =>
      simp only [Option.bind_eq_some_iff, Option.some.injEq, Prod.mk.injEq] at hx
      obtain ⟨fr2, hp2, rfl, rfl, rfl⟩ := hx
      cases e' with
      | returned v' => exact hn rfl φ' v v' W' fr a hF.le (fun b hb _ => hF.old b hb) hF.new hF.up hF.w hE rfl rfl rfl (hd.mono hF.le) (put_inv hp2)
      | panicked _ => exact hE.elim
      | outgrown => exact hE.elim
    | panic ch =>
      simp only [Option.some.injEq, Prod.mk.injEq] at hx
      obtain ⟨rfl, rfl, rfl⟩ := hx
      cases e' with
      | returned v' => exact hE.elim
      | panicked ch' => exact hp _ rfl rfl φ' ch' W' hF.le (fun b hb _ => hF.old b hb) hF.new hF.up hF.w hE
      | outgrown => exact hE.elim
  | round l args =>
    rw [Oper.semAt_eq _ _ _ (hnd (by intro d hd; cases hd))]
    simp only [Option.bind_eq_some_iff] at hx
    obtain ⟨⟨e, st2⟩, hc, hx⟩ := hx
    obtain ⟨q3, hS⟩ := hS
    obtain ⟨lp, hl1, hl2, hR⟩ := C.round l args _ e st2 hc φ W q3 hnew (by simp only; omega)
    obtain ⟨args', e', L, p1, p2, p3, p4, q1⟩ := hS lp hl1 hl2
    rw [q1]
    refine ⟨Fw_depth, ?_⟩
    refine RoundIn.mono (roundIn_fw (hR args' e' L p1 p2 p3 p4)) ?_
    rintro e' W' ⟨φ', hF, hE⟩
    cases e with
    | ret v =>
      simp only [Option.bind_eq_some_iff, Option.some.injEq, Prod.mk.injEq] at hx
      obtain ⟨fr2, hp2, rfl, rfl, rfl⟩ := hx
      cases e' with
      | returned v' => exact hn rfl φ' v v' W' fr a hF.le (fun b hb _ => hF.old b hb) hF.new hF.up hF.w hE rfl rfl rfl (hd.mono hF.le) (put_inv hp2)
      | panicked _ => exact hE.elim
      | outgrown => exact hE.elim
    | panic ch =>
      simp only [Option.some.injEq, Prod.mk.injEq] at hx
      obtain ⟨rfl, rfl, rfl⟩ := hx
      cases e' with
      | returned v' => exact hE.elim
      | panicked ch' => exact hp _ rfl rfl φ' ch' W' hF.le (fun b hb _ => hF.old b hb) hF.new hF.up hF.w hE
      | outgrown => exact hE.elim
end
end Go.AM
