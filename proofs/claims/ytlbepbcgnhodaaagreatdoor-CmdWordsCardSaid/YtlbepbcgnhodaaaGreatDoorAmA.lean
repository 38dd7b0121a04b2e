/- The abstract machine: a deterministic big-step reading of the model's code (definitions). -/
import Derived.WalkKit
set_option linter.all false
namespace Go.AM

/-! A trie over numbers. -/
inductive Tr (α : Type) where
  | nil
  | node (l : Tr α) (v : Option α) (r : Tr α)

def Tr.get {α : Type} : Tr α → Nat → Option α
  | .nil, _ => none
  | .node l v r, n => bif n.beq 0 then v else bif (n % 2).beq 1 then l.get (n / 2) else r.get (n / 2 - 1)

def Tr.putF {α : Type} (v : Option α) : Nat → Tr α → Nat → Tr α
  | 0, t, _ => t
  | f + 1, .nil, n =>
    bif n.beq 0 then .node .nil v .nil
    else bif (n % 2).beq 1 then .node (Tr.putF v f .nil (n / 2)) none .nil else .node .nil none (Tr.putF v f .nil (n / 2 - 1))
  | f + 1, .node l w r, n =>
    bif n.beq 0 then .node l v r
    else bif (n % 2).beq 1 then .node (Tr.putF v f l (n / 2)) w r else .node l w (Tr.putF v f r (n / 2 - 1))

def Tr.put {α : Type} (t : Tr α) (n : Nat) (v : Option α) : Tr α := Tr.putF v (n + 1) t n

theorem beq_f {n m : Nat} (h : n ≠ m) : n.beq m = false := by
  cases hh : n.beq m with
  | true => exact absurd (Nat.eq_of_beq_eq_true hh) h
  | false => rfl

theorem Tr.get_nil {α : Type} (n : Nat) : (Tr.nil : Tr α).get n = none := rfl

theorem Tr.get_node {α : Type} (l r : Tr α) (v : Option α) (n : Nat) :
    (Tr.node l v r).get n = if n = 0 then v else if n % 2 = 1 then l.get (n / 2) else r.get (n / 2 - 1) := by
  simp only [Tr.get]
  by_cases h : n = 0
  · simp [h]
  · have : n.beq 0 = false := beq_f h
    simp only [this, cond_false, h, if_false]
    by_cases h2 : n % 2 = 1
    · simp [h2]
    · have : (n % 2).beq 1 = false := beq_f h2
      simp [this, h2]

theorem Tr.putF_nil {α : Type} (v : Option α) (f n : Nat) : Tr.putF v (f + 1) .nil n =
    if n = 0 then .node .nil v .nil
    else if n % 2 = 1 then .node (Tr.putF v f .nil (n / 2)) none .nil else .node .nil none (Tr.putF v f .nil (n / 2 - 1)) := by
  simp only [Tr.putF]
  by_cases h : n = 0
  · simp [h]
  · have : n.beq 0 = false := beq_f h
    simp only [this, cond_false, h, if_false]
    by_cases h2 : n % 2 = 1
    · simp [h2]
    · have : (n % 2).beq 1 = false := beq_f h2
      simp [this, h2]

theorem Tr.putF_node {α : Type} (v : Option α) (f n : Nat) (l r : Tr α) (w : Option α) : Tr.putF v (f + 1) (.node l w r) n =
    if n = 0 then .node l v r
    else if n % 2 = 1 then .node (Tr.putF v f l (n / 2)) w r else .node l w (Tr.putF v f r (n / 2 - 1)) := by
  simp only [Tr.putF]
  by_cases h : n = 0
  · simp [h]
  · have : n.beq 0 = false := beq_f h
    simp only [this, cond_false, h, if_false]
    by_cases h2 : n % 2 = 1
    · simp [h2]
    · have : (n % 2).beq 1 = false := beq_f h2
      simp [this, h2]

theorem Tr.get_putF {α : Type} (v : Option α) : ∀ (f : Nat) (t : Tr α) (n m : Nat), n < f →
    (Tr.putF v f t n).get m = if m = n then v else t.get m := by
  intro f
  induction f with
  | zero => intro t n m h; omega
  | succ f ih =>
    intro t n m h
    cases t with
    | nil =>
      rw [Tr.putF_nil]
      by_cases h0 : n = 0
      · subst h0
        rw [if_pos rfl, Tr.get_node]
        by_cases hm : m = 0
        · simp [hm]
        · simp [hm, Tr.get_nil]
      · rw [if_neg h0]
        by_cases h2 : n % 2 = 1
        · rw [if_pos h2, Tr.get_node, ih _ _ _ (by omega)]
          by_cases hm : m = 0
          · subst hm; rw [if_pos rfl, if_neg (by omega)]; rfl
          · rw [if_neg hm]
            by_cases hm2 : m % 2 = 1
            · rw [if_pos hm2]
              by_cases e : m = n
              · subst e; simp
              · rw [if_neg (by omega), if_neg e]; rfl
            · rw [if_neg hm2, if_neg (by omega)]; rfl
        · rw [if_neg h2, Tr.get_node, ih _ _ _ (by omega)]
          by_cases hm : m = 0
          · subst hm; rw [if_pos rfl, if_neg (by omega)]; rfl
          · rw [if_neg hm]
            by_cases hm2 : m % 2 = 1
            · rw [if_pos hm2, if_neg (by omega)]; rfl
            · rw [if_neg hm2]
              by_cases e : m = n
              · subst e; simp
              · rw [if_neg (by omega), if_neg e]; rfl
    | node l w r =>
      rw [Tr.putF_node]
      by_cases h0 : n = 0
      · subst h0
        rw [if_pos rfl, Tr.get_node]
        by_cases hm : m = 0
        · simp [hm]
        · simp [hm, Tr.get_node]
      · rw [if_neg h0]
        by_cases h2 : n % 2 = 1
        · rw [if_pos h2, Tr.get_node, Tr.get_node, ih _ _ _ (by omega)]
          by_cases hm : m = 0
          · subst hm; rw [if_pos rfl, if_neg (by omega)]; rfl
          · rw [if_neg hm]
            by_cases hm2 : m % 2 = 1
            · rw [if_pos hm2]
              by_cases e : m = n
              · subst e; simp
              · rw [if_neg (by omega), if_neg e, if_neg hm, if_pos hm2]
            · rw [if_neg hm2, if_neg (by omega), if_neg hm, if_neg hm2]
        · rw [if_neg h2, Tr.get_node, Tr.get_node, ih _ _ _ (by omega)]
          by_cases hm : m = 0
          · subst hm; rw [if_pos rfl, if_neg (by omega)]; rfl
          · rw [if_neg hm]
            by_cases hm2 : m % 2 = 1
            · rw [if_pos hm2, if_neg (by omega), if_neg hm, if_pos hm2]
            · rw [if_neg hm2]
              by_cases e : m = n
              · subst e; simp
              · rw [if_neg (by omega), if_neg e, if_neg hm, if_neg hm2]

theorem Tr.get_put {α : Type} (t : Tr α) (n m : Nat) (v : Option α) : (t.put n v).get m = if m = n then v else t.get m :=
  Tr.get_putF v (n + 1) t n m (by omega)
theorem Tr.get_put_same {α : Type} (t : Tr α) (n : Nat) (v : Option α) : (t.put n v).get n = v := by rw [Tr.get_put, if_pos rfl]
theorem Tr.get_put_ne {α : Type} (t : Tr α) {n m : Nat} (v : Option α) (h : m ≠ n) : (t.put n v).get m = t.get m := by rw [Tr.get_put, if_neg h]

end Go.AM
