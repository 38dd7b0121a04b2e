/- The abstract machine: the stages of a region that draws its order, on the abstract side alone. -/
import Derived.Test.YtlbepbcgnhodaaaGreatDoorAmV
set_option linter.all false
namespace Go.AM
variable [Syms]

theorem mul_eq {a b n x y : Nat} (hx : x ≤ n) (hy : y ≤ n) (h : a * (n + 1) + x = b * (n + 1) + y) : a = b ∧ x = y := by
  have h1 := (mul_lt_iff (a := a) (b := b) hx hy)
  have h2 := (mul_lt_iff (a := b) (b := a) hy hx)
  omega

theorem heavy_get {ops : Array Oper} {i : Nat} {o : Oper} (ho : ops[i]? = some o) (hl : isLight o.op = false) : ∃ a : Nat, (heaviesOf ops)[a]? = some i := List.mem_iff_getElem?.1 (mem_heavies.2 ⟨o, ho, hl⟩)

theorem key_inj {ops : Array Oper} (G : Reg ops) {i j : Nat} (hi : i < ops.size) (hj : j < ops.size) (h : key ops i = key ops j) : i = j := by
  have hoi : ops[i]? = some ops[i] := by rw [Array.getElem?_eq_getElem hi]
  have hoj : ops[j]? = some ops[j] := by rw [Array.getElem?_eq_getElem hj]
  cases hil : isLight ops[i].op <;> cases hjl : isLight ops[j].op
  · rw [key_heavy hoi hil, key_heavy hoj hjl] at h
    obtain ⟨a, ha⟩ := heavy_get hoi hil
    obtain ⟨a', ha'⟩ := heavy_get hoj hjl
    have := (mul_eq (Nat.le_refl _) (Nat.le_refl _) h).1
    rw [lo_heavy G ha, lo_heavy G ha'] at this
    subst this; rw [ha] at ha'; injection ha'
  · rw [key_heavy hoi hil, key_light hoj hjl] at h; have := (mul_eq (Nat.le_refl _) (by omega) h).2; omega
  · rw [key_light hoi hil, key_heavy hoj hjl] at h; have := (mul_eq (by omega) (Nat.le_refl _) h).2; omega
  · rw [key_light hoi hil, key_light hoj hjl] at h; exact (mul_eq (by omega) (by omega) h).2

def before (ops : Array Oper) (c : Nat) : Nat → Bool := fun j => Nat.blt (key ops j) c
theorem before_iff {ops : Array Oper} {c j : Nat} : before ops c j = true ↔ key ops j < c := by unfold before; rw [Nat.blt_eq]
theorem before_false {ops : Array Oper} {c j : Nat} : before ops c j = false ↔ c ≤ key ops j := by
  rw [← Bool.not_eq_true, before_iff]; omega
theorem bool_eq {a b : Bool} (h : a = true ↔ b = true) : a = b := by cases a <;> cases b <;> simp_all
def below (i : Nat) : Nat → Bool := fun j => Nat.blt j i
theorem below_iff {i j : Nat} : below i j = true ↔ j < i := by unfold below; rw [Nat.blt_eq]

def updV (V : Nat → Option Value) (i : Nat) (v : Value) : Nat → Option Value := fun j => if j = i then some v else V j
theorem updV_same {V : Nat → Option Value} {i : Nat} {v : Value} : updV V i v i = some v := by simp [updV]
theorem updV_ne {V : Nat → Option Value} {i j : Nat} {v : Value} (h : j ≠ i) : updV V i v j = V j := by simp [updV, h]

structure SeenOk (ops : Array Oper) (m : Nat) (f0 : Tr Value) (V : Nat → Option Value) (i : Nat) (o : Oper) (s : Seen) : Prop where
  fr : ∀ t, t ∈ namesOf ops o → s.fr.get t = (sv ops f0 V (below i) ops.size).get t
  want : wantedA ops s.fr o = some s.want
  val : V i = some s.v
  undef : s.want = false → s.v = Go.undef
  dst : ∀ d, o.dst = some d → d < m

theorem SeenOk.more {ops : Array Oper} {m : Nat} (G : Reg ops) {f0 : Tr Value} {V V' : Nat → Option Value} {i : Nat} {o : Oper} {s : Seen} (ho : ops[i]? = some o) (k : SeenOk ops m f0 V i o s) (h : ∀ j, key ops j ≤ key ops i → V' j = V j) : SeenOk ops m f0 V' i o s := by
  refine ⟨fun t ht => ?_, k.want, by rw [h i (Nat.le_refl _)]; exact k.val, k.undef, k.dst⟩
  rw [k.fr t ht]
  refine sv_congr fun j _ hw => ⟨rfl, fun hD => ?_⟩
  exact (h j (Nat.le_of_lt (key_lt G (slots_lt G ho ht hw (below_iff.1 hD))))).symm

structure SPre (ops : Array Oper) (f0 : Tr Value) (V : Nat → Option Value) (c : Nat) (f : Fr) (sn : Tr Seen) : Prop where
  fr : ∀ t, f.t.get t = (sv ops f0 V (before ops c) ops.size).get t
  seen : ∀ i o, ops[i]? = some o → isLight o.op = true → key ops i < c → ∃ s, sn.get i = some s ∧ SeenOk ops f.n f0 V i o s

theorem frame_step {ops : Array Oper} (G : Reg ops) {f0 : Tr Value} {V : Nat → Option Value} {c i : Nat} {o : Oper} {fr fr' : Fr} {v : Value} (h : ∀ t, fr.t.get t = (sv ops f0 V (before ops c) ops.size).get t)
    (ho : ops[i]? = some o) (hk : key ops i = c) (hp : Puts fr fr' o.dst v) : ∀ t, fr'.t.get t = (sv ops f0 (updV V i v) (before ops (c + 1)) ops.size).get t := by
  intro t
  have hi := lt_of_get ho
  obtain ⟨_, _, hp⟩ := hp
  by_cases hw : Wr ops t i
  · have hd : o.dst = some t := by unfold Wr at hw; rw [ho] at hw; simpa using hw
    rw [hd] at hp
    rw [hp.2, Tr.get_put_same, sv_top (before_iff.2 (by omega)) hw hi, updV_same]
    intro j h1 h2 hwj
    exact before_false.2 (by have := key_lt G (slots_gt G ho (dst_name hd) hwj h1); omega)
  · have hd : fr'.t.get t = fr.t.get t := by
      cases hdst : o.dst with
      | none => rw [hdst] at hp; simp only at hp; rw [hp]
      | some d =>
        rw [hdst] at hp
        rw [hp.2, Tr.get_put_ne]
        rintro rfl
        exact hw (by unfold Wr; rw [ho]; simpa using hdst)
    rw [hd, h t]
    refine sv_congr fun j hj hwj => ?_
    have hji : j ≠ i := by rintro rfl; exact hw hwj
    have : key ops j ≠ c := fun hh => hji (key_inj G hj hi (hh.trans hk.symm))
    refine ⟨bool_eq ?_, fun _ => (updV_ne hji).symm⟩
    rw [before_iff, before_iff]; omega

theorem SPre.skip {ops : Array Oper} {f0 : Tr Value} {V : Nat → Option Value} {c c' : Nat} {fr : Fr} {sn : Tr Seen} (k : SPre ops f0 V c fr sn) (h : ∀ j, j < ops.size → (key ops j < c ↔ key ops j < c')) : SPre ops f0 V c' fr sn := by
  refine ⟨fun t => ?_, fun i o ho hl hk => k.seen i o ho hl ((h i (lt_of_get ho)).2 hk)⟩
  rw [k.fr t]
  refine sv_congr fun j hj _ => ⟨bool_eq ?_, fun _ => rfl⟩
  rw [before_iff, before_iff]; exact h j hj

/-- A light operation, first carried out. -/
theorem SPre.light {ops : Array Oper} (G : Reg ops) {f0 : Tr Value} {V : Nat → Option Value} {c i : Nat} {o : Oper} {fr fr' : Fr} {sn : Tr Seen} {v : Value} {w : Bool} {ob : Option Obj} (k : SPre ops f0 V c fr sn)
    (ho : ops[i]? = some o) (hk : key ops i = c) (hp : Puts fr fr' o.dst v) (hw : wantedA ops fr.t o = some w) (hu : w = false → v = undef) :
    SPre ops f0 (updV V i v) (c + 1) fr' (sn.put i (some ⟨fr.t, w, v, ob⟩)) := by
  have hi := lt_of_get ho
  refine ⟨frame_step G k.fr ho hk hp, fun j oj hj hl hkj => ?_⟩
  by_cases hji : j = i
  · subst hji
    rw [ho] at hj; injection hj with hj; subst hj
    refine ⟨_, Tr.get_put_same _ _ _, ?_, hw, updV_same, hu, ?_⟩
    rotate_left
    · intro d hd; obtain ⟨q1, _, q2⟩ := hp; rw [hd] at q2; rw [q1]; exact q2.1
    intro t ht
    simp only
    rw [k.fr t]
    refine sv_congr fun x hx hwx => ?_
    have h1 : x < j → key ops x < c := fun h => hk ▸ key_lt G (slots_lt G ho ht hwx h)
    have h2 : j < x → c < key ops x := fun h => hk ▸ key_lt G (slots_gt G ho ht hwx h)
    refine ⟨bool_eq ?_, fun hb => ?_⟩
    · rw [before_iff, below_iff]
      constructor
      · intro hh
        rcases Nat.lt_trichotomy x j with h | h | h
        · exact h
        · subst h; omega
        · have := h2 h; omega
      · exact h1
    · refine (updV_ne ?_).symm
      rintro rfl
      rw [before_iff] at hb; omega
  · have hne : key ops j ≠ c := fun hh => hji (key_inj G (lt_of_get hj) hi (hh.trans hk.symm))
    obtain ⟨s, h1, h2⟩ := k.seen j oj hj hl (by omega)
    rw [hp.1]
    refine ⟨s, by rw [Tr.get_put_ne _ _ hji]; exact h1, h2.more G hj ?_⟩
    intro x hx
    refine updV_ne ?_
    rintro rfl
    omega

/-- What a light operation that may now be carried out is known to do. -/
def LFact (E : Env) (base : Nat) (h' : Hp) (i : Nat) (o : Oper) (s : Seen) : Prop :=
  ∃ hm ob, (∀ b x, hm.get b = some x → h'.get b = some x) ∧ light E hm s.fr (base + i) o = some (s.v, ob) ∧ ∀ x, ob = some x → h'.get (base + i) = some x

structure SPost (E : Env) (base : Nat) (ops : Array Oper) (f0 : Tr Value) (k i0 : Nat) (V : Nat → Option Value) (sn : Tr Seen) (fr : Fr) (h : Hp) (V' : Nat → Option Value) (sn' : Tr Seen) (fr' : Fr) (h' : Hp) : Prop where
  agree : ∀ j, key ops j < k * (ops.size + 1) + i0 → V' j = V j
  n : fr'.n = fr.n
  ds : fr'.ds = fr.ds
  pre : SPre ops f0 V' (k * (ops.size + 1) + ops.size) fr' sn'
  more : ∀ b x, h.get b = some x → h'.get b = some x
  only : ∀ b, h'.get b ≠ h.get b → ∃ j o, ops[j]? = some o ∧ isLight o.op = true ∧ lo ops j = k ∧ b = base + j
  old : ∀ j, (j < i0 ∨ lo ops j ≠ k) → sn'.get j = sn.get j
  fact : ∀ i o, i0 ≤ i → ops[i]? = some o → isLight o.op = true → lo ops i ≤ k → k ≤ hi ops i → ∃ s, sn'.get i = some s ∧ (s.want = true → LFact E base h' i o s)

theorem recheck_spec {E : Env} {h : Hp} {id : Nat} {o : Oper} {s : Seen} (hr : recheck E h id o s = true) (hw : s.want = true) : ∃ ob, light E h s.fr id o = some (s.v, ob) ∧ ∀ x, ob = some x → h.get id = some x := by
  unfold recheck at hr
  rw [hw, cond_true] at hr
  split at hr
  · rename_i v ob hl
    simp only [Bool.and_eq_true] at hr
    have hv := same_eq hr.1
    subst hv
    refine ⟨ob, hl, ?_⟩
    rintro x rfl
    have hr := hr.2
    split at hr
    · rename_i h1 h2; cases h1
    · rename_i x' y h1 h2
      injection h1 with h1; subst h1
      split at hr
      · rename_i z hz
        simp only [Bool.and_eq_true] at hr
        have e1 := sameObj_eq hr.1
        have e2 := sameObj_eq hr.2
        rw [hz, e1, e2]
      · cases hr
    · cases hr
  · cases hr

theorem stage_ok {E : Env} {base : Nat} {ops : Array Oper} (G : Reg ops) {f0 : Tr Value} {k : Nat} : ∀ (l : List Oper) (i0 : Nat) (V : Nat → Option Value) (sn : Tr Seen) (fr : Fr) (h : Hp) (sn' : Tr Seen) (fr' : Fr) (h' : Hp),
    l = ops.toList.drop i0 → i0 ≤ ops.size → stageA E base ops (aheadOf ops) (heaviesOf ops) k l i0 sn fr h = some (sn', fr', h') → SPre ops f0 V (k * (ops.size + 1) + i0) fr sn →
    ∃ V', SPost E base ops f0 k i0 V sn fr h V' sn' fr' h' := by
  intro l
  induction l with
  | nil =>
    intro i0 V sn fr h sn' fr' h' hl hle hx P
    simp only [stageA, Option.some.injEq, Prod.mk.injEq] at hx
    obtain ⟨rfl, rfl, rfl⟩ := hx
    have : ops.size ≤ i0 := by have := congrArg List.length hl; simpa [eq_comm, Nat.sub_eq_zero_iff_le] using this
    have : i0 = ops.size := by omega
    subst this
    refine ⟨V, fun _ _ => rfl, rfl, rfl, P, fun _ _ h => h, fun b hb => absurd rfl hb, fun _ _ => rfl, ?_⟩
    intro i o hi ho; have := lt_of_get ho; omega
  | cons o rest ih =>
    intro i0 V sn fr h sn' fr' h' hl hle hx P
    have hi0 : i0 < ops.size := by
      have := congrArg List.length hl
      simp at this; omega
    have ho : ops[i0]? = some o := by
      have : (ops.toList.drop i0)[0]? = some o := by rw [← hl]; rfl
      simpa using this
    have hrest : rest = ops.toList.drop (i0 + 1) := by
      have : ops.toList.drop (i0 + 1) = (ops.toList.drop i0).tail := by simp
      rw [this, ← hl]; rfl
    have hlo : loOf (aheadOf ops) (heaviesOf ops) i0 = lo ops i0 := rfl
    have hhi : hiOf (aheadOf ops) (heaviesOf ops) i0 = hi ops i0 := rfl
    have hskip : (isLight o.op = true → lo ops i0 ≠ k) → ∀ j, j < ops.size → (key ops j < k * (ops.size + 1) + i0 ↔ key ops j < k * (ops.size + 1) + (i0 + 1)) := by
      intro hs j hj
      have : key ops j ≠ k * (ops.size + 1) + i0 := by
        intro hh
        have hoj : ops[j]? = some ops[j] := by rw [Array.getElem?_eq_getElem hj]
        cases hjl : isLight ops[j].op with
        | false => rw [key_heavy hoj hjl] at hh; have := (mul_eq (Nat.le_refl _) (by omega) hh).2; omega
        | true =>
          rw [key_light hoj hjl] at hh
          obtain ⟨h1, h2⟩ := mul_eq (by omega) (by omega) hh
          subst h2
          rw [ho] at hoj; injection hoj with hoj
          rw [← hoj] at hjl
          exact hs hjl h1
      omega
    simp only [stageA, hlo, hhi] at hx
    cases hlt : isLight o.op with
    | false =>
      simp only [hlt, cond_false] at hx
      obtain ⟨V', Q⟩ := ih (i0 + 1) V sn fr h sn' fr' h' hrest hi0 hx (P.skip (hskip (by rw [hlt]; simp)))
      refine ⟨V', fun j hj => Q.agree j (by omega), Q.n, Q.ds, Q.pre, Q.more, Q.only, fun j hj => Q.old j (by omega), ?_⟩
      intro i o' hi' ho' hl' h1 h2
      by_cases he : i = i0
      · subst he; rw [ho] at ho'; injection ho' with ho'; subst ho'; rw [hlt] at hl'; cases hl'
      · exact Q.fact i o' (by omega) ho' hl' h1 h2
    | true =>
      simp only [hlt, cond_true] at hx
      cases hb : (lo ops i0).beq k with
      | false =>
        have hne : lo ops i0 ≠ k := fun hh => by rw [hh] at hb; have := Nat.beq_refl k; rw [this] at hb; cases hb
        simp only [hb, cond_false] at hx
        cases hc : (Nat.blt (lo ops i0) k && Nat.ble k (hi ops i0)) with
        | false =>
          simp only [hc, cond_false] at hx
          obtain ⟨V', Q⟩ := ih (i0 + 1) V sn fr h sn' fr' h' hrest hi0 hx (P.skip (hskip fun _ => hne))
          refine ⟨V', fun j hj => Q.agree j (by omega), Q.n, Q.ds, Q.pre, Q.more, Q.only, fun j hj => Q.old j (by omega), ?_⟩
          intro i o' hi' ho' hl' h1 h2
          by_cases he : i = i0
          · exfalso; subst he
            have : (Nat.blt (lo ops i) k && Nat.ble k (hi ops i)) = true := by
              simp only [Bool.and_eq_true]; exact ⟨by rw [Nat.blt_eq]; omega, Nat.ble_eq ▸ h2⟩
            rw [this] at hc; cases hc
          · exact Q.fact i o' (by omega) ho' hl' h1 h2
        | true =>
          simp only [hc, cond_true, Option.bind_eq_bind, Option.bind_eq_some_iff, ofOpt] at hx
          obtain ⟨s, hs, hx⟩ := hx
          cases hr : recheck E h (base + i0) o s with
          | false => simp only [hr, cond_false] at hx; cases hx
          | true =>
            simp only [hr, cond_true] at hx
            obtain ⟨V', Q⟩ := ih (i0 + 1) V sn fr h sn' fr' h' hrest hi0 hx (P.skip (hskip fun _ => hne))
            refine ⟨V', fun j hj => Q.agree j (by omega), Q.n, Q.ds, Q.pre, Q.more, Q.only, fun j hj => Q.old j (by omega), ?_⟩
            intro i o' hi' ho' hl' h1 h2
            by_cases he : i = i0
            · subst he
              rw [ho] at ho'; injection ho' with ho'; subst ho'
              refine ⟨s, by rw [Q.old i (.inr hne)]; exact hs, fun hw => ?_⟩
              obtain ⟨ob, q1, q2⟩ := recheck_spec hr hw
              exact ⟨h, ob, Q.more, q1, fun x hx => Q.more _ _ (q2 x hx)⟩
            · exact Q.fact i o' (by omega) ho' hl' h1 h2
      | true =>
        have heq : lo ops i0 = k := Nat.eq_of_beq_eq_true hb
        have hkey : key ops i0 = k * (ops.size + 1) + i0 := by rw [key_light ho hlt, heq]
        simp only [hb, cond_true, Option.bind_eq_bind, Option.bind_eq_some_iff] at hx
        obtain ⟨w, hw, hx⟩ := hx
        cases w with
        | false =>
          simp only [cond_false, Option.bind_eq_some_iff] at hx
          obtain ⟨fr1, hp, hx⟩ := hx
          have hp := put_inv hp
          obtain ⟨V', Q⟩ := ih (i0 + 1) _ _ fr1 h sn' fr' h' hrest hi0 hx (P.light G ho hkey hp hw fun _ => rfl)
          refine ⟨V', fun j hj => ?_, Q.n.trans hp.1, Q.ds.trans hp.2.1, Q.pre, Q.more, Q.only, fun j hj => ?_, ?_⟩
          · rw [Q.agree j (by omega)]; exact updV_ne (by rintro rfl; omega)
          · have hji : j ≠ i0 := by rintro rfl; omega
            rw [Q.old j (by omega), Tr.get_put_ne _ _ hji]
          · intro i o' hi' ho' hl' h1 h2
            by_cases he : i = i0
            · subst he
              refine ⟨_, by rw [Q.old i (.inl (by omega)), Tr.get_put_same], fun hh => ?_⟩
              simp only at hh; cases hh
            · exact Q.fact i o' (by omega) ho' hl' h1 h2
        | true =>
          simp only [cond_true, Option.bind_eq_some_iff] at hx
          obtain ⟨⟨v, ob⟩, hv, fr1, hp, hx⟩ := hx
          have hp := put_inv hp
          cases hfr : (ob.isNone || (h.get (base + i0)).isNone) with
          | false => simp only [hfr, cond_false] at hx; cases hx
          | true =>
            simp only [hfr, cond_true] at hx
            have hmore : ∀ b x, h.get b = some x → (addObj h (base + i0) ob).get b = some x := by
              intro b x hbx
              cases ob with
              | none => exact hbx
              | some y =>
                simp only [Option.isNone_some, Bool.false_or] at hfr
                simp only [addObj]
                rw [Tr.get_put_ne]; · exact hbx
                rintro rfl; rw [hbx] at hfr; cases hfr
            obtain ⟨V', Q⟩ := ih (i0 + 1) _ _ fr1 _ sn' fr' h' hrest hi0 hx (P.light G ho hkey hp hw fun hh => by cases hh)
            refine ⟨V', fun j hj => ?_, Q.n.trans hp.1, Q.ds.trans hp.2.1, Q.pre, fun b x hbx => Q.more _ _ (hmore b x hbx), ?_, fun j hj => ?_, ?_⟩
            · rw [Q.agree j (by omega)]; exact updV_ne (by rintro rfl; omega)
            · intro b hb'
              by_cases h1 : h'.get b = (addObj h (base + i0) ob).get b
              · refine ⟨i0, o, ho, hlt, heq, ?_⟩
                rw [h1] at hb'
                cases ob with
                | none => exact absurd rfl hb'
                | some y =>
                  simp only [addObj] at hb'
                  rcases Nat.decEq b (base + i0) with hne | he
                  · rw [Tr.get_put_ne _ _ hne] at hb'; exact absurd rfl hb'
                  · exact he
              · exact Q.only b h1
            · have hji : j ≠ i0 := by rintro rfl; omega
              rw [Q.old j (by omega), Tr.get_put_ne _ _ hji]
            · intro i o' hi' ho' hl' h1 h2
              by_cases he : i = i0
              · subst he
                rw [ho] at ho'; injection ho' with ho'; subst ho'
                refine ⟨_, by rw [Q.old i (.inl (by omega)), Tr.get_put_same], fun _ => ?_⟩
                exact ⟨h, ob, fun b x hbx => Q.more _ _ (hmore b x hbx), hv, fun x hx => Q.more _ _ (addObj_get x hx)⟩
              · exact Q.fact i o' (by omega) ho' hl' h1 h2
end Go.AM
