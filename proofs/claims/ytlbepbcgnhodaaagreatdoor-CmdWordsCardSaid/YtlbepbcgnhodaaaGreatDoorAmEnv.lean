/- The abstract machine: a program's tables, and that they are true; a closed run. -/
import Derived.Test.YtlbepbcgnhodaaaGreatDoorAmZB
import Derived.KernelRfl
import Derived.Laws.Externs
set_option linter.all false
namespace Go.AM
open Go.RowKit

/-- A function's entry is the program's own. -/
def FnOk (P : Program) (f : Nat) (i : FI) : Prop := ∃ fn, P.funcs[f]? = some fn ∧ fn.ntmps = i.ntmps ∧ fn.body = i.body ∧ fn.results.toList = i.results ∧ fn.name ≠ "runtime.NumGoroutine"
theorem FnOk.of {P : Program} {f : Nat} {fn : Func} {n : Nat} {b : Option Code} {rs : Array ResultVar} (h : P.funcs[f]? = some fn) (hn : fn.ntmps = n) (hb : fn.body = b) (hr : fn.results = rs) (hname : (fn.name == "runtime.NumGoroutine") = false) :
    FnOk P f ⟨n, b, rs.toList⟩ := ⟨fn, h, hn, hb, by rw [hr], by simpa using hname⟩

variable [Syms]
/-! A property of all entries of a table. -/
def Tr.allI {α : Type} (p : Nat → α → Bool) (f : Nat → Nat) : Tr α → Bool
  | .nil => true
  | .node l v r => (match v with | some x => p (f 0) x | none => true) && (Tr.allI p (fun m => f (2 * m + 1)) l && Tr.allI p (fun m => f (2 * m + 2)) r)
theorem Tr.allI_get {α : Type} {p : Nat → α → Bool} : ∀ {t : Tr α} {f : Nat → Nat}, t.allI p f = true → ∀ {n : Nat} {x : α}, t.get n = some x → p (f n) x = true
  | .nil, f, _, n, x, hx => by rw [Tr.get_nil] at hx; cases hx
  | .node l v r, f, h, n, x, hx => by
    simp only [Tr.allI, Bool.and_eq_true] at h
    obtain ⟨h1, h2, h3⟩ := h
    rw [Tr.get_node] at hx
    by_cases h0 : n = 0
    · subst h0
      simp only [if_true] at hx
      subst hx
      exact h1
    · rw [if_neg h0] at hx
      by_cases hodd : n % 2 = 1
      · rw [if_pos hodd] at hx
        have := Tr.allI_get h2 hx
        have e : 2 * (n / 2) + 1 = n := by omega
        rw [e] at this; exact this
      · rw [if_neg hodd] at hx
        have := Tr.allI_get h3 hx
        have e : 2 * (n / 2 - 1) + 2 = n := by omega
        rw [e] at this; exact this

def Tr.AllP {α : Type} (p : Nat → α → Prop) (f : Nat → Nat) : Tr α → Prop
  | .nil => True
  | .node l v r => (match v with | some x => p (f 0) x | none => True) ∧ (Tr.AllP p (fun m => f (2 * m + 1)) l ∧ Tr.AllP p (fun m => f (2 * m + 2)) r)
theorem Tr.AllP_get {α : Type} {p : Nat → α → Prop} : ∀ {t : Tr α} {f : Nat → Nat}, t.AllP p f → ∀ {n : Nat} {x : α}, t.get n = some x → p (f n) x
  | .nil, f, _, n, x, hx => by rw [Tr.get_nil] at hx; cases hx
  | .node l v r, f, h, n, x, hx => by
    simp only [Tr.AllP] at h
    obtain ⟨h1, h2, h3⟩ := h
    rw [Tr.get_node] at hx
    by_cases h0 : n = 0
    · subst h0
      simp only [if_true] at hx
      subst hx
      exact h1
    · rw [if_neg h0] at hx
      by_cases hodd : n % 2 = 1
      · rw [if_pos hodd] at hx
        have := Tr.AllP_get h2 hx
        have e : 2 * (n / 2) + 1 = n := by omega
        rw [e] at this; exact this
      · rw [if_neg hodd] at hx
        have := Tr.AllP_get h3 hx
        have e : 2 * (n / 2 - 1) + 2 = n := by omega
        rw [e] at this; exact this

def eqFs : List (Nat × TypeId) → List (Nat × TypeId) → Bool
  | [], [] => true
  | a :: as, b :: bs => a.1.beq b.1 && a.2.beq b.2 && eqFs as bs
  | _, _ => false
theorem eqFs_eq : ∀ {a b : List (Nat × TypeId)}, eqFs a b = true → a = b
  | [], [], _ => rfl
  | (a1, a2) :: as, (b1, b2) :: bs, h => by
    simp only [eqFs, Bool.and_eq_true] at h
    rw [Nat.eq_of_beq_eq_true h.1.1, Nat.eq_of_beq_eq_true h.1.2, eqFs_eq h.2]
  | [], _ :: _, h => by cases h
  | _ :: _, [], h => by cases h
def eqD : D → D → Bool
  | .bool, .bool => true
  | .string, .string => true
  | .func, .func => true
  | .iface, .iface => true
  | .other, .other => true
  | .int j, .int k => decide (j = k)
  | .pointer a, .pointer b => a.beq b
  | .slice a, .slice b => a.beq b
  | .array n a, .array m b => n.beq m && a.beq b
  | .map a b, .map c d => a.beq c && b.beq d
  | .struct a, .struct b => eqFs a b
  | _, _ => false
theorem eqD_eq {a b : D} (h : eqD a b = true) : a = b := by
  cases a <;> cases b <;> first
    | rfl
    | (simp only [eqD, decide_eq_true_eq] at h; rw [h]; done)
    | (simp only [eqD] at h; rw [Nat.eq_of_beq_eq_true h]; done)
    | (simp only [eqD, Bool.and_eq_true] at h; rw [Nat.eq_of_beq_eq_true h.1, Nat.eq_of_beq_eq_true h.2]; done)
    | (simp only [eqD] at h; rw [eqFs_eq h]; done)
    | (simp [eqD] at h; done)

/-- The same value (complex ones too). -/
def eqZ : Option Value → Option Value → Bool
  | none, none => true
  | some (.complex k a b), some (.complex j c d) => decide (k = j) && decide (a = c) && decide (b = d)
  | some a, some b => same a b
  | _, _ => false
theorem eqZ_eq {a b : Option Value} (h : eqZ a b = true) : a = b := by
  unfold eqZ at h
  split at h
  · rfl
  · simp only [Bool.and_eq_true, decide_eq_true_eq] at h; rw [h.1.1, h.1.2, h.2]
  · rw [same_eq h]
  · cases h

def chkTy (P : Program) (t : Nat) (i : TI) : Bool :=
  match P.info? t, P.underlying t with
  | some info, some d => eqD (absD d) i.desc && info.size.beq i.size && info.bytes.beq i.bytes && eqZ info.zero i.zero && (match i.zero with | some z => plain z | none => true)
  | _, _ => false
theorem chkTy_ok {P : Program} {t : Nat} {i : TI} (h : chkTy P t i = true) :
    (∃ info d, P.info? t = some info ∧ P.underlying t = some d ∧ absD d = i.desc ∧ info.size = i.size ∧ info.bytes = i.bytes ∧ info.zero = i.zero) ∧ ∀ z, i.zero = some z → plain z = true := by
  unfold chkTy at h
  split at h
  · rename_i info d h1 h2
    simp only [Bool.and_eq_true] at h
    obtain ⟨⟨⟨⟨a1, a2⟩, a3⟩, a4⟩, a5⟩ := h
    refine ⟨⟨info, d, h1, h2, eqD_eq a1, Nat.eq_of_beq_eq_true a2, Nat.eq_of_beq_eq_true a3, eqZ_eq a4⟩, fun z hz => ?_⟩
    rw [hz] at a5; exact a5
  · cases h

theorem ext_ok {P : Program} {f : FuncId} {fn : Func} {e : Array Value → Sem Value} (hf : P.funcs[f]? = some fn) (hname : (fn.name == "runtime.NumGoroutine") = false) (hb : fn.body.isNone = true) (hn : Extern.findNext fn = none) (he : Extern.find fn = some e)
    {args : Array Value} {v : Value} (h : run0p P (e args) = some v) : plain v = true ∧ ∀ w, (callFunc f args).run P w = .ok (.value v) w := by
  simp only [run0p, Option.pure_def, Option.bind_eq_bind, Option.bind_eq_some_iff] at h
  obtain ⟨r, hr, h⟩ := h
  cases hp : plain r with
  | false => rw [hp] at h; cases h
  | true =>
    rw [hp] at h
    simp only [cond_true, Option.some.injEq] at h
    subst h
    refine ⟨hp, fun w => ?_⟩
    rw [run_callFunc_extern hf hname hb hn he, run0_run hr]
    rfl

/-- A run that reads nothing from outside. -/
theorem wrel_nil (E : Env) (w : World) : WRel E w (fun _ => none) .nil .nil w := by
  refine ⟨fun b e o h => (by cases h), fun l lp h => ?_, fun b b' e e' h => (by cases h), fun b e h => (by cases h), fun g hg h => ?_, fun b e h => (by cases h), ?_⟩
  · rw [Tr.get_nil] at h; cases h
  · rw [Tr.get_nil] at h; cases h
  · exact Below.refl _ _

theorem closed_run {E : Env} {k f : Nat} {st' : St} {v : Value} {next : Nat} (K : EOk E) (Pr : ∀ w, PrimOk E w) (hl : E.lim ≤ next) (h : callF E k (.fn f) #[] { h := .nil, next := next, loops := .nil } = some (.ret v, st')) (hp : plain v = true) (w : World) :
    Calls E.P f #[] w fun e w' => e = .returned v ∧ Below w.heap.size w w' := by
  have := (callF_ok K (Pr w) k).fn f #[] _ _ _ h (fun _ => none) w #[] (wrel_nil E w) .nil (fun _ _ => rfl) hl
  have : CallsIn Fence.wide 0 E.P f #[] w (EPost E w (fun _ => none) next (.ret v) st') := this
  refine Calls.mono (callsIn_wide.1 this) ?_
  rintro e w' ⟨φ, F, hE⟩
  cases e with
  | returned v' => rw [plain_eq hp hE]; exact ⟨rfl, F.w.keep⟩
  | panicked _ => exact hE.elim
  | outgrown => exact hE.elim
end Go.AM
