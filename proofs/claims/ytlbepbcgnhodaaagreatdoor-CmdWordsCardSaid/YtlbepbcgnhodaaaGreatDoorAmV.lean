/- The abstract machine: what stands ahead of what in a region that draws its order. -/
import Derived.Test.YtlbepbcgnhodaaaGreatDoorAmU
set_option linter.all false
namespace Go.AM
variable [Syms]

/-- i stands ahead of j. -/
def Ah (ops : Array Oper) (i j : Nat) : Prop := (bits (aheadOf ops) j).testBit i = true
def stepBits (b : Tr Nat) (s : Nat) (e : Edge) : Nat := bif Region.binds .any e then s ||| 2 ^ e.on ||| bits b e.on else s

theorem aheadL_cons (o : Oper) (rest : List Oper) (i : Nat) (b : Tr Nat) : aheadL (o :: rest) i b = aheadL rest (i + 1) (b.put i (some (o.after.toList.foldl (stepBits b) 0))) := rfl
theorem aheadL_old : ∀ (l : List Oper) (i : Nat) (b : Tr Nat) (k : Nat), k < i → (aheadL l i b).get k = b.get k
  | [], _, _, _, _ => rfl
  | o :: rest, i, b, k, h => by
    rw [aheadL_cons, aheadL_old rest (i + 1) _ k (by omega), Tr.get_put_ne _ _ (by omega)]

theorem foldl_bits_congr (b c : Tr Nat) : ∀ (es : List Edge) (s : Nat), (∀ e ∈ es, Region.binds .any e = true → bits b e.on = bits c e.on) → es.foldl (stepBits b) s = es.foldl (stepBits c) s
  | [], _, _ => rfl
  | e :: es, s, h => by
    rw [List.foldl_cons, List.foldl_cons]
    have : stepBits b s e = stepBits c s e := by
      unfold stepBits
      cases hb : Region.binds .any e with
      | false => rfl
      | true => rw [h e (by simp) hb]
    rw [this]
    exact foldl_bits_congr b c es _ fun x hx => h x (by simp [hx])

theorem aheadL_get : ∀ (l : List Oper) (i : Nat) (b : Tr Nat) (p : Nat) (o : Oper), l[p]? = some o → (∀ e ∈ o.after.toList, Region.binds .any e = true → e.on < i + p) →
    bits (aheadL l i b) (i + p) = o.after.toList.foldl (stepBits (aheadL l i b)) 0
  | [], _, _, _, _, h, _ => by simp at h
  | o' :: rest, i, b, 0, o, h, he => by
    simp only [List.getElem?_cons_zero, Option.some.injEq] at h
    subst h
    have h1 : bits (aheadL (o' :: rest) i b) (i + 0) = o'.after.toList.foldl (stepBits b) 0 := by
      rw [aheadL_cons]; unfold bits; rw [aheadL_old _ _ _ _ (by omega)]
      rw [show i + 0 = i from rfl, Tr.get_put_same]; rfl
    rw [h1]
    refine foldl_bits_congr _ _ _ _ fun e hm hb => ?_
    have := he e hm hb
    unfold bits
    rw [aheadL_old _ _ _ _ (by omega)]
  | o' :: rest, i, b, p + 1, o, h, he => by
    rw [aheadL_cons, show i + (p + 1) = (i + 1) + p by omega]
    exact aheadL_get rest (i + 1) _ p o (by simpa using h) (fun e hm hb => by have := he e hm hb; omega)

theorem edgesOk_spec {ops : Array Oper} (h : edgesOk ops = true) {j : Nat} {o : Oper} (ho : ops[j]? = some o) : ∀ e ∈ o.after, Region.binds .any e = true → e.on < j := by
  intro e he hb
  unfold edgesOk at h
  rw [List.all_eq_true] at h
  have hm : (o, j) ∈ ops.toList.zipIdx := by
    rw [List.mem_zipIdx_iff_getElem?]; simpa using ho
  have h1 := h _ hm
  rw [List.all_eq_true] at h1
  have h2 := h1 e (by simpa using he)
  rw [hb] at h2
  simp only [Bool.not_true, Bool.false_or] at h2
  exact Nat.blt_eq ▸ h2

theorem testBit_foldl (b : Tr Nat) (i : Nat) : ∀ (es : List Edge) (s : Nat), (es.foldl (stepBits b) s).testBit i = true ↔ s.testBit i = true ∨ ∃ e ∈ es, Region.binds .any e = true ∧ (e.on = i ∨ (bits b e.on).testBit i = true)
  | [], s => by simp
  | e :: es, s => by
    rw [List.foldl_cons, testBit_foldl b i es]
    unfold stepBits
    cases hb : Region.binds .any e with
    | false => simp [hb]
    | true =>
      simp only [cond_true, Nat.testBit_or, Bool.or_eq_true, Nat.testBit_two_pow, decide_eq_true_eq, List.mem_cons, exists_eq_or_imp, hb, true_and]
      constructor
      · rintro (((h | h) | h) | h)
        · exact .inl h
        · exact .inr (.inl (.inl h))
        · exact .inr (.inl (.inr h))
        · exact .inr (.inr h)
      · rintro (h | (h | h) | h)
        · exact .inl (.inl (.inl h))
        · exact .inl (.inl (.inr h))
        · exact .inl (.inr h)
        · exact .inr h

theorem Ah_iff {ops : Array Oper} (h : edgesOk ops = true) {j : Nat} {o : Oper} (ho : ops[j]? = some o) {i : Nat} :
    Ah ops i j ↔ ∃ e ∈ o.after, Region.binds .any e = true ∧ (e.on = i ∨ Ah ops i e.on) := by
  have hl : ops.toList[j]? = some o := by simpa using ho
  have := aheadL_get ops.toList 0 .nil j o hl (fun e he hb => by have := edgesOk_spec h ho e (by simpa using he) hb; omega)
  rw [Nat.zero_add] at this
  unfold Ah aheadOf
  rw [this, testBit_foldl]
  simp

theorem aheadL_none : ∀ (l : List Oper) (i : Nat) (b : Tr Nat) (k : Nat), i + l.length ≤ k → (aheadL l i b).get k = b.get k
  | [], _, _, _, _ => rfl
  | o :: rest, i, b, k, h => by
    simp only [List.length_cons] at h
    rw [aheadL_cons, aheadL_none rest (i + 1) _ k (by omega), Tr.get_put_ne _ _ (by omega)]
theorem Ah_size {ops : Array Oper} {i j : Nat} (h : Ah ops i j) : j < ops.size := by
  rcases Nat.lt_or_ge j ops.size with h1 | h1
  · exact h1
  · unfold Ah bits aheadOf at h
    rw [aheadL_none _ _ _ _ (by simpa using h1), Tr.get_nil] at h
    simp at h

theorem Ah_lt {ops : Array Oper} (h : edgesOk ops = true) : ∀ {j i : Nat}, Ah ops i j → i < j := by
  intro j
  induction j using Nat.strongRecOn with
  | _ j ih =>
    intro i hA
    have hj := Ah_size hA
    have ho : ops[j]? = some ops[j] := by simp [hj]
    obtain ⟨e, he, hb, h1⟩ := (Ah_iff h ho).1 hA
    have h2 := edgesOk_spec h ho e he hb
    rcases h1 with h1 | h1
    · omega
    · have := ih _ h2 h1; omega

theorem Ah_trans {ops : Array Oper} (h : edgesOk ops = true) {i j : Nat} (h1 : Ah ops i j) : ∀ {k : Nat}, Ah ops j k → Ah ops i k := by
  intro k
  induction k using Nat.strongRecOn with
  | _ k ih =>
    intro hA
    have hk := Ah_size hA
    have ho : ops[k]? = some ops[k] := by simp [hk]
    obtain ⟨e, he, hb, h2⟩ := (Ah_iff h ho).1 hA
    have h3 := edgesOk_spec h ho e he hb
    refine (Ah_iff h ho).2 ⟨e, he, hb, .inr ?_⟩
    rcases h2 with h2 | h2
    · rw [h2]; exact h1
    · exact ih _ h3 h2

/-! The heavy ones. -/
theorem mem_heaviesL : ∀ (l : List Oper) (i x : Nat), x ∈ heaviesL l i ↔ ∃ p o, l[p]? = some o ∧ x = i + p ∧ isLight o.op = false
  | [], i, x => by simp [heaviesL]
  | o :: rest, i, x => by
    have ih := mem_heaviesL rest (i + 1) x
    rw [heaviesL]
    constructor
    · intro h
      cases hl : isLight o.op with
      | true =>
        rw [hl, cond_true] at h
        obtain ⟨p, q, h1, h2, h3⟩ := ih.1 h
        exact ⟨p + 1, q, by simpa using h1, by omega, h3⟩
      | false =>
        rw [hl, cond_false] at h
        rcases List.mem_cons.1 h with h | h
        · exact ⟨0, o, rfl, by omega, hl⟩
        · obtain ⟨p, q, h1, h2, h3⟩ := ih.1 h
          exact ⟨p + 1, q, by simpa using h1, by omega, h3⟩
    · rintro ⟨p, q, h1, h2, h3⟩
      cases p with
      | zero =>
        simp only [List.getElem?_cons_zero, Option.some.injEq] at h1
        subst h1
        rw [h3, cond_false, h2]; simp
      | succ p =>
        have : x ∈ heaviesL rest (i + 1) := ih.2 ⟨p, q, by simpa using h1, by omega, h3⟩
        cases isLight o.op with
        | true => exact this
        | false => exact List.mem_cons_of_mem _ this
theorem mem_heavies {ops : Array Oper} {x : Nat} : x ∈ heaviesOf ops ↔ ∃ o, ops[x]? = some o ∧ isLight o.op = false := by
  unfold heaviesOf
  rw [mem_heaviesL]
  constructor
  · rintro ⟨p, o, h1, h2, h3⟩
    exact ⟨o, by rw [h2, Nat.zero_add]; simpa using h1, h3⟩
  · rintro ⟨o, h1, h2⟩
    exact ⟨x, o, by simpa using h1, by omega, h2⟩

theorem chained_spec {ops : Array Oper} (h : edgesOk ops = true) : ∀ {l : List Nat}, chained (aheadOf ops) l = true → l.Pairwise (Ah ops)
  | [], _ => .nil
  | [i], _ => by simp
  | i :: j :: rest, hc => by
    simp only [chained, Bool.and_eq_true] at hc
    have ih := chained_spec h hc.2
    refine List.pairwise_cons.2 ⟨?_, ih⟩
    intro x hx
    rcases List.mem_cons.1 hx with rfl | hx
    · exact hc.1
    · exact Ah_trans h hc.1 ((List.pairwise_cons.1 ih).1 x hx)

theorem prefix_filter {p : Nat → Bool} : ∀ {l : List Nat}, l.Pairwise (fun x y => p y = true → p x = true) → ∀ (a x : Nat), l[a]? = some x → (p x = true ↔ a < (l.filter p).length)
  | [], _, _, _, h => by simp at h
  | y :: l, hp, a, x, h => by
    obtain ⟨h1, h2⟩ := List.pairwise_cons.1 hp
    by_cases hy : p y = true
    · rw [List.filter_cons_of_pos hy]
      cases a with
      | zero => simp only [List.getElem?_cons_zero, Option.some.injEq] at h; subst h; simp [hy]
      | succ a =>
        have := prefix_filter h2 a x (by simpa using h)
        rw [this]; simp
    · have hall : ∀ z ∈ l, ¬ p z = true := fun z hz hpz => hy (h1 z hz hpz)
      rw [List.filter_cons_of_neg hy, List.filter_eq_nil_iff.2 hall]
      cases a with
      | zero => simp only [List.getElem?_cons_zero, Option.some.injEq] at h; subst h; simp [hy]
      | succ a =>
        have hm : x ∈ l := List.mem_of_getElem? (by simpa using h)
        simp [hall x hm]

structure Reg (ops : Array Oper) : Prop where
  edges : edgesOk ops = true
  chain : chained (aheadOf ops) (heaviesOf ops) = true
  slots : slotsOk ops (aheadOf ops) = true

def lo (ops : Array Oper) (i : Nat) : Nat := loOf (aheadOf ops) (heaviesOf ops) i
def hi (ops : Array Oper) (i : Nat) : Nat := hiOf (aheadOf ops) (heaviesOf ops) i

section
variable {ops : Array Oper} (G : Reg ops)
include G

theorem lo_iff {a x i : Nat} (h : (heaviesOf ops)[a]? = some x) : Ah ops x i ↔ a < lo ops i := by
  refine prefix_filter (p := fun h => (bits (aheadOf ops) i).testBit h) ?_ a x h
  refine (chained_spec G.edges G.chain).imp ?_
  intro y z h1 h2
  exact Ah_trans G.edges h1 h2
theorem hi_iff {a x i : Nat} (h : (heaviesOf ops)[a]? = some x) : ¬ Ah ops i x ↔ a < hi ops i := by
  have := prefix_filter (p := fun h => !(bits (aheadOf ops) h).testBit i) (l := heaviesOf ops) ?_ a x h
  · unfold hi hiOf
    rw [← this]
    unfold Ah
    simp
  · refine (chained_spec G.edges G.chain).imp ?_
    intro y z h1 h2
    simp only [Bool.not_eq_true'] at h2 ⊢
    cases hh : (bits (aheadOf ops) y).testBit i with
    | false => rfl
    | true => have : Ah ops i z := Ah_trans G.edges hh h1; unfold Ah at this; rw [this] at h2; cases h2
theorem lo_le {i : Nat} : lo ops i ≤ (heaviesOf ops).length := by unfold lo loOf; exact List.length_filter_le _ _
theorem lo_heavy {a x : Nat} (h : (heaviesOf ops)[a]? = some x) : lo ops x = a := by
  have ha : a < (heaviesOf ops).length := (List.getElem?_eq_some_iff.1 h).1
  have hself : ¬ a < lo ops x := fun hlt => by have := Ah_lt G.edges ((lo_iff G h).2 hlt); omega
  rcases Nat.lt_or_ge (lo ops x) a with h1 | h1
  · exfalso
    have hlt : lo ops x < (heaviesOf ops).length := by omega
    have hy : (heaviesOf ops)[lo ops x]? = some (heaviesOf ops)[lo ops x] := by simp [hlt]
    have hp := List.pairwise_iff_getElem.1 (chained_spec G.edges G.chain) _ _ hlt ha h1
    have hax : (heaviesOf ops)[a] = x := by have := List.getElem?_eq_getElem ha; rw [this] at h; injection h
    rw [hax] at hp
    have := (lo_iff G hy).1 hp
    omega
  · omega
theorem lo_mono {i j : Nat} (h : Ah ops i j) : lo ops i ≤ lo ops j := by
  rcases Nat.lt_or_ge (lo ops j) (lo ops i) with h1 | h1
  · exfalso
    have hlt : lo ops j < (heaviesOf ops).length := by have := lo_le G (i := i); omega
    have hy : (heaviesOf ops)[lo ops j]? = some (heaviesOf ops)[lo ops j] := by simp [hlt]
    have := (lo_iff G hy).1 (Ah_trans G.edges ((lo_iff G hy).2 h1) h)
    omega
  · exact h1
theorem lo_lt {a x j : Nat} (hx : (heaviesOf ops)[a]? = some x) (h : Ah ops x j) : lo ops x < lo ops j := by
  rw [lo_heavy G hx]; exact (lo_iff G hx).1 h
end

/-- The place of an operation in the abstract machine's order. -/
def key (ops : Array Oper) (i : Nat) : Nat := lo ops i * (ops.size + 1) + (match ops[i]? with | some o => if isLight o.op = true then i else ops.size | none => ops.size)
theorem key_light {ops : Array Oper} {i : Nat} {o : Oper} (ho : ops[i]? = some o) (hl : isLight o.op = true) : key ops i = lo ops i * (ops.size + 1) + i := by simp [key, ho, hl]
theorem key_heavy {ops : Array Oper} {i : Nat} {o : Oper} (ho : ops[i]? = some o) (hl : isLight o.op = false) : key ops i = lo ops i * (ops.size + 1) + ops.size := by simp [key, ho, hl]
theorem lt_of_get {ops : Array Oper} {i : Nat} {o : Oper} (ho : ops[i]? = some o) : i < ops.size := (Array.getElem?_eq_some_iff.1 ho).1

theorem mul_step {a b n x y : Nat} (h : a < b) (hx : x ≤ n) : a * (n + 1) + x < b * (n + 1) + y := by
  have : (a + 1) * (n + 1) ≤ b * (n + 1) := Nat.mul_le_mul_right _ h
  rw [Nat.succ_mul] at this
  omega
theorem mul_lt_iff {a b n x y : Nat} (hx : x ≤ n) (hy : y ≤ n) : a * (n + 1) + x < b * (n + 1) + y ↔ a < b ∨ (a = b ∧ x < y) := by
  constructor
  · intro h
    rcases Nat.lt_trichotomy a b with h1 | h1 | h1
    · exact .inl h1
    · subst h1; exact .inr ⟨rfl, by omega⟩
    · have := mul_step (x := y) (y := x) h1 hy; omega
  · rintro (h | ⟨rfl, h⟩)
    · exact mul_step h hx
    · omega

theorem key_lt {ops : Array Oper} (G : Reg ops) {i j : Nat} (h : Ah ops i j) : key ops i < key ops j := by
  have hj := Ah_size h
  have hij := Ah_lt G.edges h
  have hoi : ops[i]? = some ops[i] := by rw [Array.getElem?_eq_getElem (by omega)]
  have hoj : ops[j]? = some ops[j] := by rw [Array.getElem?_eq_getElem hj]
  have hm := lo_mono G h
  have hh : isLight ops[i].op = false → lo ops i < lo ops j := fun hl => by
    obtain ⟨a, ha⟩ := List.mem_iff_getElem?.1 (mem_heavies.2 ⟨_, hoi, hl⟩)
    exact lo_lt G ha h
  cases hi : isLight ops[i].op <;> cases hjl : isLight ops[j].op
  · rw [key_heavy hoi hi, key_heavy hoj hjl]; exact mul_step (hh hi) (Nat.le_refl _)
  · rw [key_heavy hoi hi, key_light hoj hjl]; exact mul_step (hh hi) (Nat.le_refl _)
  · rw [key_light hoi hi, key_heavy hoj hjl, mul_lt_iff (by omega) (Nat.le_refl _)]; omega
  · rw [key_light hoi hi, key_light hoj hjl, mul_lt_iff (by omega) (by omega)]; omega

/-! Who writes which slot. -/
def Wr (ops : Array Oper) (t j : Nat) : Prop := (ops[j]?).bind (·.dst) = some t
instance {ops : Array Oper} {t j : Nat} : Decidable (Wr ops t j) := by unfold Wr; infer_instance

theorem slots_spec {ops : Array Oper} (G : Reg ops) {i j t : Nat} {o : Oper} (ho : ops[i]? = some o) (ht : t ∈ namesOf ops o) (hw : Wr ops t j) : i = j ∨ Ah ops (min i j) (max i j) := by
  have h := G.slots
  unfold slotsOk at h
  simp only [List.all_eq_true] at h
  have hm : (o, i) ∈ ops.toList.zipIdx := by rw [List.mem_zipIdx_iff_getElem?]; simpa using ho
  unfold Wr at hw
  cases hj : ops[j]? with
  | none => rw [hj] at hw; simp at hw
  | some oj =>
    rw [hj] at hw
    simp only [Option.bind_some] at hw
    have hmj : (t, j) ∈ (ops.toList.zipIdx.filterMap fun (o, j) => o.dst.map fun d => (d, j)) := by
      rw [List.mem_filterMap]
      exact ⟨(oj, j), by rw [List.mem_zipIdx_iff_getElem?]; simpa using hj, by simp [hw]⟩
    have := h (o, i) hm t ht (t, j) hmj
    simp only [Bool.or_eq_true, Bool.not_eq_true'] at this
    rcases this with (h1 | h1) | h1
    · exfalso; have : Nat.beq t t = true := Nat.beq_refl t; rw [this] at h1; cases h1
    · exact .inl (Nat.eq_of_beq_eq_true h1)
    · exact .inr h1
theorem slots_lt {ops : Array Oper} (G : Reg ops) {i j t : Nat} {o : Oper} (ho : ops[i]? = some o) (ht : t ∈ namesOf ops o) (hw : Wr ops t j) (h : j < i) : Ah ops j i := by
  rcases slots_spec G ho ht hw with h1 | h1
  · omega
  · rwa [Nat.min_eq_right (by omega), Nat.max_eq_left (by omega)] at h1
theorem slots_gt {ops : Array Oper} (G : Reg ops) {i j t : Nat} {o : Oper} (ho : ops[i]? = some o) (ht : t ∈ namesOf ops o) (hw : Wr ops t j) (h : i < j) : Ah ops i j := by
  rcases slots_spec G ho ht hw with h1 | h1
  · omega
  · rwa [Nat.min_eq_left (by omega), Nat.max_eq_right (by omega)] at h1
theorem dst_name {ops : Array Oper} {o : Oper} {d : Tmp} (h : o.dst = some d) : d ∈ namesOf ops o := by simp [namesOf, h]
theorem operand_name {ops : Array Oper} {o : Oper} {t : Tmp} (h : Operand.tmp t ∈ o.op.operands) : t ∈ namesOf ops o := by
  simp only [namesOf, List.mem_append, List.mem_filterMap]
  exact .inl (.inr ⟨.tmp t, by simpa using h, rfl⟩)
theorem guard_name {ops : Array Oper} {o : Oper} {j : Nat} {want : Bool} {d : Tmp} (h : o.guard = some (j, want)) (hd : (ops[j]?).bind (·.dst) = some d) : d ∈ namesOf ops o := by
  simp only [namesOf, h, hd, List.mem_append]
  exact .inr (by simp)

/-- The slots when the operations of D have been carried out: those that they write hold the last one's value. -/
def sv (ops : Array Oper) (f0 : Tr Value) (V : Nat → Option Value) (D : Nat → Bool) : Nat → Tr Value
  | 0 => f0
  | k + 1 => match (ops[k]?).bind (·.dst), D k with
    | some d, true => (sv ops f0 V D k).put d (V k)
    | _, _ => sv ops f0 V D k
theorem sv_succ {ops : Array Oper} {f0 : Tr Value} {V : Nat → Option Value} {D : Nat → Bool} {k t : Nat} :
    (sv ops f0 V D (k + 1)).get t = if Wr ops t k ∧ D k = true then V k else (sv ops f0 V D k).get t := by
  rw [sv]
  by_cases hw : Wr ops t k ∧ D k = true
  · rw [if_pos hw]
    obtain ⟨h1, h2⟩ := hw
    unfold Wr at h1
    simp only [h1, h2, Tr.get_put_same]
  · rw [if_neg hw]
    split
    · rename_i d h1 h2
      rw [Tr.get_put_ne]
      rintro rfl
      exact hw ⟨h1, h2⟩
    · rfl
theorem sv_congr {ops : Array Oper} {f0 : Tr Value} {V V' : Nat → Option Value} {D D' : Nat → Bool} {t : Nat} : ∀ {k : Nat}, (∀ j, j < k → Wr ops t j → D j = D' j ∧ (D j = true → V j = V' j)) →
    (sv ops f0 V D k).get t = (sv ops f0 V' D' k).get t
  | 0, _ => rfl
  | k + 1, h => by
    rw [sv_succ, sv_succ]
    have ih := sv_congr (f0 := f0) (k := k) fun j hj => h j (by omega)
    by_cases hw : Wr ops t k
    · obtain ⟨h1, h2⟩ := h k (by omega) hw
      by_cases hD : D k = true
      · rw [if_pos ⟨hw, hD⟩, if_pos ⟨hw, h1 ▸ hD⟩, h2 hD]
      · rw [if_neg (fun hh => hD hh.2), if_neg (fun hh => hD (h1 ▸ hh.2)), ih]
    · rw [if_neg (fun hh => hw hh.1), if_neg (fun hh => hw hh.1), ih]
theorem sv_top {ops : Array Oper} {f0 : Tr Value} {V : Nat → Option Value} {D : Nat → Bool} {t i : Nat} (hD : D i = true) (hw : Wr ops t i) : ∀ {k : Nat}, i < k → (∀ j, i < j → j < k → Wr ops t j → D j = false) → (sv ops f0 V D k).get t = V i
  | 0, h, _ => by omega
  | k + 1, h, hj => by
    rw [sv_succ]
    rcases Nat.lt_or_ge i k with h1 | h1
    · rw [if_neg (fun hh => by rw [hj k h1 (by omega) hh.1] at hh; exact Bool.noConfusion hh.2)]
      exact sv_top hD hw h1 fun j a b => hj j a (by omega)
    · have : i = k := by omega
      subst this
      rw [if_pos ⟨hw, hD⟩]
theorem sv_none {ops : Array Oper} {f0 : Tr Value} {V : Nat → Option Value} {D : Nat → Bool} {t : Nat} (h : ∀ j, ¬ Wr ops t j) : ∀ {k : Nat}, (sv ops f0 V D k).get t = f0.get t
  | 0 => rfl
  | k + 1 => by rw [sv_succ, if_neg (fun hh => h k hh.1)]; exact sv_none h
end Go.AM
