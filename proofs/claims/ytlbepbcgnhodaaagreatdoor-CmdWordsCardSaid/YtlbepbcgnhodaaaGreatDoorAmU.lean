/- The abstract machine: an operation looks at no other slots than its operands'. -/
import Derived.Test.YtlbepbcgnhodaaaGreatDoorAmT
set_option linter.all false
namespace Go.AM
variable [Syms]
section
variable {E : Env} {h : Hp} {fr fr' : Tr Value}

theorem ev_congr {x : Operand} (H : ∀ t, x = .tmp t → fr.get t = fr'.get t) : ev E h fr x = ev E h fr' x := by
  cases x <;> simp only [ev]
  rw [H _ rfl]
theorem evs_congr : ∀ {l : List Operand}, (∀ x ∈ l, ev E h fr x = ev E h fr' x) → evs E h fr l = evs E h fr' l
  | [], _ => rfl
  | x :: l, H => by
    rw [evs, evs, H x (by simp), evs_congr (l := l) fun y hy => H y (by simp [hy])]
theorem evOpt_congr {l : Option Operand} (H : ∀ x, l = some x → ev E h fr x = ev E h fr' x) : evOpt E h fr l = evOpt E h fr' l := by
  cases l with
  | none => rfl
  | some x => rw [evOpt, evOpt, H x rfl]

theorem light_congr {id : Nat} {o : Oper} (H : ∀ x ∈ o.op.operands, ev E h fr x = ev E h fr' x) : light E h fr id o = light E h fr' id o := by
  obtain ⟨dst, op, type, pos, after, guard⟩ := o
  simp only at H
  cases op <;> simp only [Op.operands] at H <;> simp only [light]
  case build t ps => rw [evs_congr fun x hx => H x (by simpa using hx)]
  case buildSlice t n ps => rw [evs_congr fun x hx => H x (by simpa using hx)]
  case makeFunc fn first captured => rw [evs_congr (l := first.toList) fun x hx => H x (by simp at hx; simp [hx]), evs_congr (l := captured.toList) fun x hx => H x (by simp at hx; simp [hx])]
  case slice t x lo hi mx =>
    rw [H x (by simp), evOpt_congr (l := lo) fun y hy => H y (by simp [hy]), evOpt_congr (l := hi) fun y hy => H y (by simp [hy]), evOpt_congr (l := mx) fun y hy => H y (by simp [hy])]
  case makeMap t r =>
    cases r with
    | none => rfl
    | some r => simp only; rw [H r (by simp)]
  case call c =>
    obtain ⟨callee, args, ts⟩ := c
    cases callee with
    | builtin b =>
      have h1 : evs E h fr args.toList = evs E h fr' args.toList := evs_congr fun x hx => H x (by simp [Call.operands]; simpa using hx)
      simp only [h1]
    | value f => rfl
    | invoke r m => rfl
  all_goals first | rfl | (simp only [H _ (Array.mem_singleton.2 rfl)]; done) | skip
  all_goals (simp only [List.mem_toArray, List.mem_cons, List.not_mem_nil, or_false, forall_eq_or_imp, forall_eq] at H)
  all_goals (obtain ⟨h1, h2⟩ := H)
  all_goals first | (simp only [h1, h2]; done) | (obtain ⟨h2, h3⟩ := h2; simp only [h1, h2, h3])

theorem resolveA_congr {c : Call} (H : ∀ x ∈ c.operands, ev E h fr x = ev E h fr' x) : resolveA E h fr c = resolveA E h fr' c := by
  obtain ⟨callee, args, ts⟩ := c
  have h1 : evs E h fr args.toList = evs E h fr' args.toList := evs_congr fun x hx => H x (by simp [Call.operands]; exact .inr (by simpa using hx))
  unfold resolveA
  simp only [h1]
  cases callee with
  | value f => simp only [H f (by simp [Call.operands])]
  | invoke r m => simp only [H r (by simp [Call.operands])]
  | builtin b => rfl

theorem heavy_congr {id : Nat} {o : Oper} (H : ∀ x ∈ o.op.operands, ev E h fr x = ev E h fr' x) : heavy E h fr id o = heavy E h fr' id o := by
  obtain ⟨dst, op, type, pos, after, guard⟩ := o
  simp only at H
  cases op <;> simp only [Op.operands] at H <;> simp only [heavy]
  case call c =>
    have hr := resolveA_congr H
    obtain ⟨callee, args, ts⟩ := c
    cases callee with
    | builtin b =>
      have h1 : evs E h fr args.toList = evs E h fr' args.toList := evs_congr fun x hx => H x (by simp [Call.operands]; simpa using hx)
      simp only [h1]
    | value f => simp only [hr]
    | invoke r m => simp only [hr]
  case defer c => rw [resolveA_congr H]
  all_goals first | rfl | (simp only [H _ (Array.mem_singleton.2 rfl)]; done) | skip
  all_goals (simp only [List.mem_toArray, List.mem_cons, List.not_mem_nil, or_false, forall_eq_or_imp, forall_eq] at H)
  all_goals (obtain ⟨h1, h2⟩ := H)
  all_goals first | (simp only [h1, h2]; done) | (obtain ⟨h2, h3⟩ := h2; simp only [h1, h2, h3])
end
end Go.AM
