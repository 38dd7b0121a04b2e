/- The abstract machine: regions that draw their order are sound. -/
import Derived.Test.YtlbepbcgnhodaaaGreatDoorAmW
set_option linter.all false
namespace Go.AM
variable [Syms]
open Go.RowKit

theorem WRel.same {E : Env} {w0 : World} {φ : Ren} {h h' : Hp} {ls : Tr LoopA} {W : World} (k : WRel E w0 φ h ls W) (hg : ∀ b, φ b ≠ none → h'.get b = h.get b) (hng : ∀ g, g < E.ng → h'.get g = h.get g) : WRel E w0 φ h' ls W := by
  have hlv : ∀ b, φ b ≠ none → live h' ls b → live h ls b := fun b hb hl => by
    unfold live at hl ⊢; rwa [hg b hb] at hl
  refine ⟨fun b e o hb ho => k.obj b e o hb (by rwa [hg b (by rw [hb]; simp)] at ho), ?_, ?_, k.bound, ?_, k.own, k.keep⟩
  · intro l lp hlp
    obtain ⟨q1, q2⟩ := k.lp l lp hlp
    refine ⟨?_, q2⟩
    obtain ⟨e, L, he, _⟩ := q2
    rw [hg l (by rw [he]; simp)]; exact q1
  · intro b b' e e' hb hb' l1 l2
    exact k.inj b b' e e' hb hb' (hlv b (by rw [hb]; simp) l1) (hlv b' (by rw [hb']; simp) l2)
  · intro g hg' hs
    rw [hng g hg'] at hs
    exact k.glob g hg' hs
theorem WRel.sub {E : Env} {w0 : World} {φ : Ren} {h h' : Hp} {ls : Tr LoopA} {W : World} (k : WRel E w0 φ h ls W) (hs : ∀ b x, h'.get b = some x → h.get b = some x) : WRel E w0 φ h' ls W := by
  have hso : ∀ b, (h'.get b).isSome = true → (h.get b).isSome = true := by
    intro b hb
    cases hh : h'.get b with
    | none => rw [hh] at hb; cases hb
    | some x => rw [hs b x hh]; rfl
  have hlv : ∀ b, live h' ls b → live h ls b := fun b hl => hl.imp (hso b) id
  refine ⟨fun b e o hb ho => k.obj b e o hb (hs b o ho), ?_, fun b b' e e' hb hb' l1 l2 => k.inj b b' e e' hb hb' (hlv b l1) (hlv b' l2), k.bound, fun g hg h => k.glob g hg (hso g h), k.own, k.keep⟩
  intro l lp hlp
  obtain ⟨q1, q2⟩ := k.lp l lp hlp
  refine ⟨?_, q2⟩
  cases hh : h'.get l with
  | none => rfl
  | some x => have := hs l x hh; rw [q1] at this; cases this

theorem FrRel.congr {φ : Ren} {t t' : Tr Value} {m : Nat} {tmps : Array Value} (k : FrRel φ t m tmps) (h : ∀ x, t'.get x = t.get x) : FrRel φ t' m tmps :=
  ⟨k.1, fun x v hx => k.2 x v (by rw [← h x]; exact hx)⟩
theorem FrRel.puts {φ : Ren} {t t' : Tr Value} {m : Nat} {a : Act} {dst : Option Tmp} {v v' : Value} (k : FrRel φ t m a.tmps) (hd : ∀ d, dst = some d → d < m) (hv : VRel φ v v')
    (h : ∀ x, t'.get x = if dst = some x then some v else t.get x) : FrRel φ t' m (a.put dst v').tmps := by
  cases dst with
  | none => exact k.congr fun x => by rw [h x]; simp
  | some d =>
    have hd := hd d rfl
    obtain ⟨k1, k2⟩ := k
    refine ⟨by simpa [Act.put] using k1, fun x u hx => ?_⟩
    rw [h x] at hx
    simp only [Act.put, Array.getElem?_setIfInBounds]
    by_cases hxd : d = x
    · subst hxd
      rw [if_pos rfl] at hx; injection hx with hx; subst hx
      exact ⟨v', by rw [if_pos rfl, if_pos (by rw [k1]; exact hd)], hv⟩
    · rw [if_neg (by simpa using hxd)] at hx
      obtain ⟨u', q1, q2⟩ := k2 x u hx
      exact ⟨u', by rw [if_neg hxd]; exact q1, q2⟩

theorem foldl_forget : ∀ (l : List Oper) (t : Tr Value) (x : Nat) (v : Value), (l.foldl (fun t o => match o.dst with | some d => t.put d none | none => t) t).get x = some v → (∀ o ∈ l, o.dst ≠ some x) ∧ t.get x = some v
  | [], _, _, _, h => ⟨fun _ ho => (by cases ho), h⟩
  | o :: l, t, x, v, h => by
    rw [List.foldl_cons] at h
    obtain ⟨h1, h2⟩ := foldl_forget l _ x v h
    cases hd : o.dst with
    | none =>
      simp only [hd] at h2
      refine ⟨fun o' ho' => ?_, h2⟩
      rcases List.mem_cons.1 ho' with rfl | ho'
      · rw [hd]; simp
      · exact h1 o' ho'
    | some d =>
      simp only [hd] at h2
      by_cases hx : x = d
      · subst hx; rw [Tr.get_put_same] at h2; cases h2
      · rw [Tr.get_put_ne _ _ hx] at h2
        refine ⟨fun o' ho' => ?_, h2⟩
        rcases List.mem_cons.1 ho' with rfl | ho'
        · rw [hd]; intro h; injection h with h; exact hx h.symm
        · exact h1 o' ho'
theorem forget_get {ops : Array Oper} {t : Tr Value} {x : Nat} {v : Value} (h : (forget ops t).get x = some v) : (∀ j, ¬ Wr ops x j) ∧ t.get x = some v := by
  obtain ⟨h1, h2⟩ := foldl_forget _ _ _ _ h
  refine ⟨fun j hw => ?_, h2⟩
  unfold Wr at hw
  cases ho : ops[j]? with
  | none => rw [ho] at hw; simp at hw
  | some o => rw [ho] at hw; exact h1 o (by have := Array.mem_of_getElem? ho; simpa using this) (by simpa using hw)

def updD (D : Nat → Bool) (i : Nat) : Nat → Bool := fun j => if j = i then true else D j
theorem updD_iff {D : Nat → Bool} {i j : Nat} : updD D i j = true ↔ j = i ∨ D j = true := by
  unfold updD; by_cases h : j = i <;> simp [h]
theorem updD_ne {D : Nat → Bool} {i j : Nat} (h : j ≠ i) : updD D i j = D j := by simp [updD, h]
theorem countP_lt {p q : Nat → Bool} : ∀ {l : List Nat}, (∀ x, p x = true → q x = true) → ∀ {i}, i ∈ l → q i = true → p i = false → l.countP p < l.countP q
  | [], _, _, h, _, _ => by cases h
  | y :: l, hpq, i, h, hq, hp => by
    have hle : ∀ l : List Nat, l.countP p ≤ l.countP q := fun l => List.countP_mono_left fun x _ hx => hpq x hx
    rcases List.mem_cons.1 h with rfl | h
    · rw [List.countP_cons_of_pos hq, List.countP_cons_of_neg (by rw [hp]; simp)]
      have := hle l; omega
    · have ih := countP_lt (l := l) hpq h hq hp
      rw [List.countP_cons, List.countP_cons]
      cases hy : p y with
      | false => cases q y <;> simp <;> omega
      | true => rw [hpq y hy]; simp; omega

def tailA (E : Env) (call : CallF) (rd : Option Nat) (base : Nat) (ops : Array Oper) (b : Tr Nat) (hs : List Nat) (rest : List Nat) (k : Nat) (sn : Tr Seen) (fr : Fr) (st : St) : R (Xit × Fr × St) :=
  match rest with
  | [] => some (.normal, fr, st)
  | i :: rest => do
    let o ← ofOpt ops[i]? "stages"
    let w ← wantedA ops fr.t o
    bif w then do
      let (x, fr, st) ← stepH E call rd (base + i) o fr st
      match x with
      | .normal => stagesA E call rd base ops b hs rest (k + 1) sn fr st
      | x => pure (x, { fr with t := forget ops fr.t }, st)
    else do
      let fr ← fr.put o.dst (some undef)
      stagesA E call rd base ops b hs rest (k + 1) sn fr st
theorem stagesA_eq {E : Env} {call : CallF} {rd : Option Nat} {base : Nat} {ops : Array Oper} {b : Tr Nat} {hs rest : List Nat} {k : Nat} {sn : Tr Seen} {fr : Fr} {st : St} :
    stagesA E call rd base ops b hs rest k sn fr st = (stageA E base ops b hs k ops.toList 0 sn fr st.h).bind fun r => tailA E call rd base ops b hs rest k r.1 r.2.1 { st with h := r.2.2 } := by
  cases rest <;> rfl

section
variable {E : Env} {w0 : World} {call : CallF} {rd rr : Option Nat} {n : Nat} {ops : Array Oper} {base : Nat} {φ0 : Ren} {f0 : Tr Value}

/-- What the real run has done, and how it stands to the abstract one, ahead of a stage. -/
structure DAny (E : Env) (w0 : World) (ops : Array Oper) (base : Nat) (φ0 : Ren) (f0 : Tr Value) (V : Nat → Option Value) (k : Nat) (f : Fr) (st : St) (D : Nat → Bool) (φ : Ren) (a : Act) (W : World) : Prop where
  down : ∀ i j, Ah ops i j → D j = true → D i = true
  heavy : ∀ j o, ops[j]? = some o → isLight o.op = false → (D j = true ↔ lo ops j < k)
  kle : k ≤ (heaviesOf ops).length
  slots : FrRel φ (sv ops f0 V D ops.size) f.n a.tmps
  ds : DsRel φ f.ds a.defers
  w : WRel E w0 φ st.h st.loops W
  le : φ0.le φ
  old : ∀ b, b < base → φ b = φ0 b
  mid : ∀ j, j < ops.size → D j = false → φ (base + j) = none
  new : ∀ b, st.next ≤ b → φ b = none
  up : base + ops.size ≤ st.next

theorem DAny.light_le (G : Reg ops) {V k f st D φ a W} (I : DAny E w0 ops base φ0 f0 V k f st D φ a W) {j : Nat} (h : D j = true) : lo ops j ≤ k := by
  rcases Nat.lt_or_ge k (lo ops j) with h1 | h1
  · exfalso
    have hlt : k < (heaviesOf ops).length := by have := lo_le G (i := j); omega
    have hy : (heaviesOf ops)[k]? = some (heaviesOf ops)[k] := by simp [hlt]
    obtain ⟨o, ho, hl⟩ := mem_heavies.1 (List.mem_of_getElem? hy)
    have := (I.heavy _ o ho hl).1 (I.down _ _ ((lo_iff G hy).2 h1) h)
    rw [lo_heavy G hy] at this; omega
  · exact h1

structure DInv (E : Env) (w0 : World) (ops : Array Oper) (base : Nat) (φ0 : Ren) (f0 : Tr Value) (V : Nat → Option Value) (k : Nat) (sn : Tr Seen) (f : Fr) (st : St) (D : Nat → Bool) (φ : Ren) (a : Act) (W : World) : Prop
    extends DAny E w0 ops base φ0 f0 V k f st D φ a W where
  pre : SPre ops f0 V (k * (ops.size + 1) + ops.size) f sn
  fact : ∀ i o, ops[i]? = some o → isLight o.op = true → lo ops i ≤ k → k ≤ hi ops i → ∃ s, sn.get i = some s ∧ (s.want = true → LFact E base st.h i o s)

theorem enter_stage (K : EOk E) (G : Reg ops) (hb : E.lim ≤ base) {V k sn f st D φ a W rest res} (hx : stagesA E call rd base ops (aheadOf ops) (heaviesOf ops) rest k sn f st = some res)
    (I : DAny E w0 ops base φ0 f0 V k f st D φ a W) (P : SPre ops f0 V (k * (ops.size + 1)) f sn) (hD : ∀ j o, ops[j]? = some o → isLight o.op = true → lo ops j = k → D j = false) :
    ∃ V' sn' f' h', tailA E call rd base ops (aheadOf ops) (heaviesOf ops) rest k sn' f' { st with h := h' } = some res ∧ DInv E w0 ops base φ0 f0 V' k sn' f' { st with h := h' } D φ a W := by
  rw [stagesA_eq, Option.bind_eq_some_iff] at hx
  obtain ⟨⟨sn', f', h'⟩, h1, h2⟩ := hx
  obtain ⟨V', Q⟩ := stage_ok G ops.toList 0 V sn f st.h sn' f' h' rfl (Nat.zero_le _) h1 P
  have hV : ∀ j, j < ops.size → D j = true → V' j = V j := by
    intro j hj hDj
    refine Q.agree j ?_
    have hoj : ops[j]? = some ops[j] := by rw [Array.getElem?_eq_getElem hj]
    cases hl : isLight ops[j].op with
    | true =>
      have h1 := I.light_le G hDj
      have h2 : lo ops j ≠ k := fun h => by rw [hD j _ hoj hl h] at hDj; cases hDj
      rw [key_light hoj hl]; exact mul_step (by omega) (by omega)
    | false =>
      have h1 := (I.heavy j _ hoj hl).1 hDj
      rw [key_heavy hoj hl]; exact mul_step h1 (Nat.le_refl _)
  have hout : ∀ b, h'.get b ≠ st.h.get b → E.ng ≤ b ∧ φ b = none := by
    intro b hbne
    obtain ⟨j, o, ho, hl, hk, rfl⟩ := Q.only b hbne
    exact ⟨by have := K.ngl; omega, I.mid j (lt_of_get ho) (hD j o ho hl hk)⟩
  refine ⟨V', sn', f', h', h2, ⟨⟨I.down, I.heavy, I.kle, ?_, by rw [Q.ds]; exact I.ds, ?_, I.le, I.old, I.mid, I.new, I.up⟩, Q.pre, fun i o ho hl h3 h4 => Q.fact i o (Nat.zero_le _) ho hl h3 h4⟩⟩
  · rw [Q.n]
    exact I.slots.congr fun x => sv_congr fun j hj _ => ⟨rfl, fun h => hV j hj h⟩
  · refine I.w.same (fun b hb' => ?_) (fun g hg => ?_)
    · by_cases h : h'.get b = st.h.get b
      · exact h
      · exact absurd (hout b h).2 hb'
    · by_cases h : h'.get g = st.h.get g
      · exact h
      · have := (hout g h).1; omega
theorem sv_add {V D i o} (ho : ops[i]? = some o) (hg : ∀ j, Ah ops i j → D j = false) (G : Reg ops) (x : Nat) :
    (sv ops f0 V (updD D i) ops.size).get x = if o.dst = some x then V i else (sv ops f0 V D ops.size).get x := by
  by_cases hd : o.dst = some x
  · rw [if_pos hd]
    have hw : Wr ops x i := by unfold Wr; rw [ho]; simpa using hd
    refine sv_top (updD_iff.2 (.inl rfl)) hw (lt_of_get ho) fun j h1 _ hwj => ?_
    rw [updD_ne (by omega)]
    exact hg j (slots_gt G ho (dst_name hd) hwj h1)
  · rw [if_neg hd]
    refine sv_congr fun j _ hw => ⟨updD_ne ?_, fun _ => rfl⟩
    rintro rfl
    exact hd (by unfold Wr at hw; rw [ho] at hw; simpa using hw)

/-- What an operation that is ready finds in the slots that it names: what those ahead of it in the text have written. -/
theorem sv_named {V D i o} (G : Reg ops) (ho : ops[i]? = some o) (hi : D i = false) (hpre : ∀ j, Ah ops j i → D j = true) (hg : ∀ j, Ah ops i j → D j = false) {t : Nat} (ht : t ∈ namesOf ops o) :
    (sv ops f0 V (below i) ops.size).get t = (sv ops f0 V D ops.size).get t := by
  refine sv_congr fun j _ hw => ⟨bool_eq ?_, fun _ => rfl⟩
  rw [below_iff]
  constructor
  · intro h; exact hpre j (slots_lt G ho ht hw h)
  · intro h
    rcases Nat.lt_trichotomy j i with h1 | h1 | h1
    · exact h1
    · subst h1; rw [hi] at h; cases h
    · rw [hg j (slots_gt G ho ht hw h1)] at h; cases h

theorem ready_of {listed : Array Bool} (hs : listed.size = ops.size) {i : Nat} (h : i ∈ Region.ready .any ops listed) :
    ∃ o, ops[i]? = some o ∧ listed.getD i false = false ∧ ∀ e ∈ o.after, Region.binds .any e = true → listed.getD e.on false = true := by
  obtain ⟨h0, o, ho, hall⟩ := mem_ready.1 h
  refine ⟨o, ho, ?_, hall⟩
  have hi := lt_of_get ho
  simp only [Array.getD_eq_getD_getElem?, Array.getElem?_eq_getElem (by omega : i < listed.size), Option.getD_some] at h0 ⊢
  exact h0
theorem all_of_ready_nil (G : Reg ops) {listed : Array Bool} (hs : listed.size = ops.size) (h : Region.ready .any ops listed = []) : ∀ j, j < ops.size → listed.getD j false = true := by
  intro j
  induction j using Nat.strongRecOn with
  | _ j ih =>
    intro hj
    cases hd : listed.getD j false with
    | true => rfl
    | false =>
      exfalso
      have ho : ops[j]? = some ops[j] := by rw [Array.getElem?_eq_getElem hj]
      have : j ∈ Region.ready .any ops listed := by
        refine mem_ready.2 ⟨?_, _, ho, fun e he hb => ?_⟩
        · simp only [Array.getD_eq_getD_getElem?, Array.getElem?_eq_getElem (by omega : j < listed.size), Option.getD_some] at hd ⊢
          exact hd
        · have := edgesOk_spec G.edges ho e he hb
          exact ih _ this (by omega)
      rw [h] at this; cases this
theorem ready_nil_of_all {listed : Array Bool} (hs : listed.size = ops.size) (h : ∀ j, j < ops.size → listed.getD j false = true) : Region.ready .any ops listed = [] := by
  cases hr : Region.ready .any ops listed with
  | nil => rfl
  | cons i l =>
    exfalso
    obtain ⟨o, ho, h1, _⟩ := ready_of hs (i := i) (by rw [hr]; simp)
    rw [h i (lt_of_get ho)] at h1; cases h1

/-- All has been carried out. -/
theorem draw_end (G : Reg ops) {V k sn f st D φ a W x f' st'} (I : DInv E w0 ops base φ0 f0 V k sn f st D φ a W) (hall : ∀ j, j < ops.size → D j = true)
    (hx : tailA E call rd base ops (aheadOf ops) (heaviesOf ops) ((heaviesOf ops).drop k) k sn f st = some (x, f', st')) : XPost E w0 φ0 base x f' st' .normal a W := by
  have hk : (heaviesOf ops).length ≤ k := by
    rcases Nat.lt_or_ge k (heaviesOf ops).length with h1 | h1
    · exfalso
      have hy : (heaviesOf ops)[k]? = some (heaviesOf ops)[k] := by simp [h1]
      obtain ⟨o, ho, hl⟩ := mem_heavies.1 (List.mem_of_getElem? hy)
      have := (I.heavy _ o ho hl).1 (hall _ (lt_of_get ho))
      rw [lo_heavy G hy] at this; omega
    · exact h1
  rw [List.drop_eq_nil_of_le hk] at hx
  simp only [tailA, Option.some.injEq, Prod.mk.injEq] at hx
  obtain ⟨rfl, rfl, rfl⟩ := hx
  refine ⟨φ, ⟨I.le, I.old, I.new, by have := I.up; omega, I.w⟩, ⟨?_, I.ds⟩, trivial⟩
  refine I.slots.congr fun t => ?_
  rw [I.pre.fr t]
  refine sv_congr fun j hj _ => ⟨?_, fun _ => rfl⟩
  rw [hall j hj, before_iff]
  have hoj : ops[j]? = some ops[j] := by rw [Array.getElem?_eq_getElem hj]
  cases hl : isLight ops[j].op with
  | true => rw [key_light hoj hl]; have := I.light_le G (hall j hj); rw [mul_lt_iff (by omega) (Nat.le_refl _)]; omega
  | false => rw [key_heavy hoj hl]; exact mul_step ((I.heavy j _ hoj hl).1 (hall j hj)) (Nat.le_refl _)

theorem heavy_index (G : Reg ops) {V k f st D φ a W} (I : DAny E w0 ops base φ0 f0 V k f st D φ a W) {i o} (ho : ops[i]? = some o) (hl : isLight o.op = false) (hi : D i = false) (hpre : ∀ j, Ah ops j i → D j = true) :
    (heaviesOf ops)[k]? = some i := by
  obtain ⟨b, hb⟩ := heavy_get ho hl
  have h1 := lo_heavy G hb
  have h2 : ¬ b < k := fun h => by rw [(I.heavy i o ho hl).2 (by omega)] at hi; cases hi
  rcases Nat.lt_or_ge k b with h3 | h3
  · exfalso
    have hlen : b < (heaviesOf ops).length := (List.getElem?_eq_some_iff.1 hb).1
    have hy : (heaviesOf ops)[k]? = some (heaviesOf ops)[k] := by rw [List.getElem?_eq_getElem (by omega)]
    obtain ⟨o', ho', hl'⟩ := mem_heavies.1 (List.mem_of_getElem? hy)
    have := (I.heavy _ o' ho' hl').1 (hpre _ ((lo_iff G hy).2 (by omega)))
    rw [lo_heavy G hy] at this; omega
  · have : b = k := by omega
    rw [← this]; exact hb

theorem draw_wp (K : EOk E) (C : CallOk E w0 call) (hrr : rd = none → rr = none) (G : Reg ops) (hb : E.lim ≤ base) {x : Xit} {f' : Fr} {st' : St} : ∀ (fuel : Nat) (V : Nat → Option Value) (k : Nat) (sn : Tr Seen) (f : Fr) (st : St) (listed : Array Bool) (φ : Ren) (a : Act) (W : World),
    listed.size = ops.size → (List.range ops.size).countP (fun j => !listed.getD j false) ≤ fuel →
    tailA E call rd base ops (aheadOf ops) (heaviesOf ops) ((heaviesOf ops).drop k) k sn f st = some (x, f', st') → DInv E w0 ops base φ0 f0 V k sn f st (fun j => listed.getD j false) φ a W →
    wpAnyIn (Fw rr) n E.P .any ops (XPost E w0 φ0 base x f' st') fuel listed a W := by
  intro fuel
  induction fuel with
  | zero =>
    intro V k sn f st listed φ a W hs hc hx I
    have hall : ∀ j, j < ops.size → listed.getD j false = true := by
      intro j hj
      have h0 := List.countP_eq_zero.1 (Nat.le_zero.1 hc) j (List.mem_range.2 hj)
      simpa using h0
    exact ⟨ready_nil_of_all hs hall, draw_end G I hall hx⟩
  | succ fuel ih =>
    intro V k sn f st listed φ a W hs hc hx I
    refine ⟨fun h => draw_end G I (all_of_ready_nil G hs h) hx, fun i hi => ?_⟩
    obtain ⟨o, ho, hiD, hedge⟩ := ready_of hs hi
    have hin := lt_of_get ho
    have hpre : ∀ j, Ah ops j i → listed.getD j false = true := by
      intro j hA
      obtain ⟨e, he, hbnd, h1⟩ := (Ah_iff G.edges ho).1 hA
      rcases h1 with h1 | h1
      · rw [← h1]; exact hedge e he hbnd
      · exact I.down _ _ h1 (hedge e he hbnd)
    have hpost : ∀ j, Ah ops i j → listed.getD j false = false := by
      intro j hA
      cases hj : listed.getD j false with
      | false => rfl
      | true => have := I.down _ _ hA hj; rw [hiD] at this; cases this
    have hs' : (listed.setIfInBounds i true).size = ops.size := by simpa using hs
    have hD' : ∀ j, (listed.setIfInBounds i true).getD j false = updD (fun j => listed.getD j false) i j := by
      intro j
      by_cases hji : j = i
      · subst hji; simp [updD, Array.getD_eq_getD_getElem?, hs, hin]
      · rw [updD_ne hji]; exact getD_set_ne false (Ne.symm hji)
    have hDf : (fun j => (listed.setIfInBounds i true).getD j false) = updD (fun j => listed.getD j false) i := funext hD'
    have hc' : (List.range ops.size).countP (fun j => !(listed.setIfInBounds i true).getD j false) ≤ fuel := by
      have := countP_lt (p := fun j => !(listed.setIfInBounds i true).getD j false) (q := fun j => !listed.getD j false) (l := List.range ops.size) ?_ (List.mem_range.2 hin) (by simp only [hiD]; rfl) (by simp only [hD']; simp [updD])
      · omega
      · intro y hy
        simp only [hD', Bool.not_eq_true'] at hy ⊢
        cases hyd : listed.getD y false with
        | false => rfl
        | true => rw [updD_iff.2 (.inr hyd)] at hy; cases hy
    have hnamed : ∀ {t : Nat}, t ∈ namesOf ops o → (sv ops f0 V (below i) ops.size).get t = (sv ops f0 V (fun j => listed.getD j false) ops.size).get t := fun ht => sv_named G ho hiD hpre hpost ht
    have hdown' : ∀ p q, Ah ops p q → updD (fun j => listed.getD j false) i q = true → updD (fun j => listed.getD j false) i p = true := by
      intro p q hA hq
      rcases updD_iff.1 hq with rfl | hq
      · exact updD_iff.2 (.inr (hpre p hA))
      · exact updD_iff.2 (.inr (I.down p q hA hq))
    have hmid' : ∀ {ψ : Ren}, (∀ b, b < st.next → b ≠ base + i → ψ b = φ b) → ∀ j, j < ops.size → updD (fun j => listed.getD j false) i j = false → ψ (base + j) = none := by
      intro ψ hψ j hj hDj
      have hji : j ≠ i := by rintro rfl; simp [updD] at hDj
      rw [updD_ne hji] at hDj
      rw [hψ _ (by have := I.up; omega) (by omega)]
      exact I.mid j hj hDj
    have hidn : φ (base + i) = none := I.mid i hin hiD
    unfold wpOpIn
    simp only [ho]
    cases hl : isLight o.op with
    | true =>
      have h1 : lo ops i ≤ k := by
        rcases Nat.lt_or_ge k (lo ops i) with h1 | h1
        · exfalso
          have hlt : k < (heaviesOf ops).length := by have := lo_le G (i := i); omega
          have hy : (heaviesOf ops)[k]? = some (heaviesOf ops)[k] := by simp [hlt]
          obtain ⟨o', ho', hl'⟩ := mem_heavies.1 (List.mem_of_getElem? hy)
          have := (I.heavy _ o' ho' hl').1 (hpre _ ((lo_iff G hy).2 h1))
          rw [lo_heavy G hy] at this; omega
        · exact h1
      have h2 : k ≤ Go.AM.hi ops i := by
        rcases Nat.lt_or_ge (Go.AM.hi ops i) k with h2 | h2
        · exfalso
          have hlt : Go.AM.hi ops i < (heaviesOf ops).length := by have := I.kle; omega
          have hy : (heaviesOf ops)[Go.AM.hi ops i]? = some (heaviesOf ops)[Go.AM.hi ops i] := by simp [hlt]
          have hA : Ah ops i (heaviesOf ops)[Go.AM.hi ops i] := by
            apply Classical.byContradiction
            intro hA
            have := (hi_iff G hy).1 hA
            omega
          obtain ⟨o', ho', hl'⟩ := mem_heavies.1 (List.mem_of_getElem? hy)
          have h3 := (I.heavy _ o' ho' hl').2 (by rw [lo_heavy G hy]; exact h2)
          have h4 := hpost _ hA
          rw [h3] at h4; cases h4
        · exact h2
      obtain ⟨s, hsn, hfact⟩ := I.fact i o ho hl h1 h2
      obtain ⟨s', hsn', hS⟩ := I.pre.seen i o ho hl (by rw [key_light ho hl, mul_lt_iff (by omega) (Nat.le_refl _)]; omega)
      rw [hsn] at hsn'; injection hsn' with hsn'; subst hsn'
      have hframe : ∀ t, t ∈ namesOf ops o → (sv ops f0 V (fun j => listed.getD j false) ops.size).get t = s.fr.get t := fun t ht => by rw [hS.fr t ht, hnamed ht]
      have hw : wantedA ops (sv ops f0 V (fun j => listed.getD j false) ops.size) o = some s.want := by
        rw [← hS.want]
        unfold wantedA
        cases hg : o.guard with
        | none => rfl
        | some jw =>
          obtain ⟨j, want⟩ := jw
          simp only
          cases hd : (ops[j]?).bind (·.dst) with
          | none => rfl
          | some d => simp only [hframe d (guard_name hg hd)]
      have hwr := wanted_rel (φ := φ) (tmps := a.tmps) (fun j want d v _ _ h => I.slots.2 d v h) hw
      rw [hwr]
      have hnext : ∀ φ' v' W', φ.le φ' → (∀ b, b ≠ base + i → φ' b = φ b) → VRel φ' s.v v' → WRel E w0 φ' st.h st.loops W' → wpAnyIn (Fw rr) n E.P .any ops (XPost E w0 φ0 base x f' st') fuel (listed.setIfInBounds i true) (a.put o.dst v') W' := by
        intro φ' v' W' q1 q2 q3 q4
        refine ih V k sn f st _ φ' _ W' hs' hc' hx ?_
        rw [hDf]
        refine ⟨⟨hdown', ?_, I.kle, ?_, by rw [put_defers']; exact I.ds.mono q1, q4, Ren.le_trans I.le q1, ?_, hmid' (fun b _ => q2 b), ?_, I.up⟩, I.pre, I.fact⟩
        · intro j oj hj hlj
          have hji : j ≠ i := by rintro rfl; rw [ho] at hj; injection hj with hj; subst hj; rw [hl] at hlj; cases hlj
          rw [updD_ne hji]; exact I.heavy j oj hj hlj
        · refine (I.slots.mono q1).puts hS.dst q3 fun t => ?_
          rw [sv_add ho hpost G, hS.val]
        · intro b hbb; rw [q2 b (by omega)]; exact I.old b hbb
        · intro b hbb; rw [q2 b (by have := I.up; omega)]; exact I.new b hbb
      cases hwant : s.want with
      | false =>
        rw [if_neg (by simp)]
        refine ⟨fun _ _ => trivial, ?_⟩
        have hu := hS.undef hwant
        exact hnext φ undef W φ.le_refl (fun _ _ => rfl) (by rw [hu]; exact plain_refl rfl φ) I.w
      | true =>
        rw [if_pos rfl]
        obtain ⟨hm, ob, p1, p2, p3⟩ := hfact hwant
        have hev : light E hm (sv ops f0 V (fun j => listed.getD j false) ops.size) (base + i) o = some (s.v, ob) := by
          rw [← p2]
          refine light_congr fun y hy => ev_congr fun t ht => ?_
          subst ht
          exact hframe t (operand_name hy)
        exact light_wp K (I.w.sub p1) I.slots hidn (by omega) hev I.w p3 hnext
    | false =>
      have hk := heavy_index G I.toDAny ho hl hiD hpre
      have hklt : k < (heaviesOf ops).length := (List.getElem?_eq_some_iff.1 hk).1
      have hlo := lo_heavy G hk
      have hkey : key ops i = k * (ops.size + 1) + ops.size := by rw [key_heavy ho hl, hlo]
      have hdrop : (heaviesOf ops).drop k = i :: (heaviesOf ops).drop (k + 1) := by
        rw [List.drop_eq_getElem_cons hklt]
        congr 1
        rw [List.getElem?_eq_getElem hklt] at hk; injection hk
      have hframe : ∀ t, t ∈ namesOf ops o → (sv ops f0 V (fun j => listed.getD j false) ops.size).get t = f.t.get t := fun t ht => by
        rw [I.pre.fr t]
        refine sv_congr fun j hj hw => ⟨bool_eq ?_, fun _ => rfl⟩
        rw [before_iff]
        rcases Nat.lt_trichotomy j i with h | h | h
        · have hA := slots_lt G ho ht hw h
          have := key_lt G hA
          exact ⟨fun _ => (by omega), fun _ => hpre j hA⟩
        · subst h; exact ⟨fun h => (by rw [hiD] at h; cases h), fun h => (by omega)⟩
        · have hA := slots_gt G ho ht hw h
          have := key_lt G hA
          exact ⟨fun h => (by rw [hpost j hA] at h; cases h), fun h => (by omega)⟩
      rw [hdrop] at hx
      simp only [tailA, ofOpt, ho, Option.bind_eq_bind, Option.bind_eq_some_iff, Option.some.injEq, exists_eq_left'] at hx
      obtain ⟨w, hw, hx⟩ := hx
      have hw2 : wantedA ops (sv ops f0 V (fun j => listed.getD j false) ops.size) o = some w := by
        rw [← hw]
        unfold wantedA
        cases hg : o.guard with
        | none => rfl
        | some jw =>
          obtain ⟨j, want⟩ := jw
          simp only
          cases hd : (ops[j]?).bind (·.dst) with
          | none => rfl
          | some d => simp only [hframe d (guard_name hg hd)]
      have hwr := wanted_rel (φ := φ) (tmps := a.tmps) (fun j want d v _ _ h => I.slots.2 d v h) hw2
      rw [hwr]
      -- on behind it
      have hgo : ∀ (φ' : Ren) (v v' : Value) (W' : World) (fr1 fr2 : Fr) (st1 : St) (a1 : Act), φ.le φ' → (∀ b, b < st.next → b ≠ base + i → φ' b = φ b) → (∀ b, st1.next ≤ b → φ' b = none) → st.next ≤ st1.next → WRel E w0 φ' st1.h st1.loops W' →
          VRel φ' v v' → fr1.t = f.t → fr1.n = f.n → a1.tmps = a.tmps → DsRel φ' fr1.ds a1.defers → Puts fr1 fr2 o.dst v →
          stagesA E call rd base ops (aheadOf ops) (heaviesOf ops) ((heaviesOf ops).drop (k + 1)) (k + 1) sn fr2 st1 = some (x, f', st') →
          wpAnyIn (Fw rr) n E.P .any ops (XPost E w0 φ0 base x f' st') fuel (listed.setIfInBounds i true) (a1.put o.dst v') W' := by
        intro φ' v v' W' fr1 fr2 st1 a1 q1 q2 q3 q4 q5 q6 q7 q8 q9 q10 q11 hx2
        have hc1 : k * (ops.size + 1) + ops.size + 1 = (k + 1) * (ops.size + 1) := by rw [Nat.succ_mul]; omega
        have hVD : ∀ j, listed.getD j false = true → V j = updV V i v j := fun j hj => (updV_ne (by rintro rfl; rw [hiD] at hj; cases hj)).symm
        have A : DAny E w0 ops base φ0 f0 (updV V i v) (k + 1) fr2 st1 (updD (fun j => listed.getD j false) i) φ' (a1.put o.dst v') W' := by
          refine ⟨hdown', ?_, by omega, ?_, by rw [put_defers', q11.2.1]; exact q10, q5, Ren.le_trans I.le q1, ?_, hmid' q2, q3, by have := I.up; omega⟩
          · intro j oj hj hlj
            rw [updD_iff, I.heavy j oj hj hlj]
            constructor
            · rintro (rfl | h)
              · omega
              · omega
            · intro h
              rcases Nat.lt_or_ge (lo ops j) k with h1 | h1
              · exact .inr h1
              · obtain ⟨b, hb'⟩ := heavy_get hj hlj
                have h2 := lo_heavy G hb'
                have : b = k := by omega
                subst this
                rw [hk] at hb'; injection hb' with hb'
                exact .inl hb'.symm
          · rw [q11.1, q8]
            have h3 : FrRel φ' (sv ops f0 V (fun j => listed.getD j false) ops.size) f.n a1.tmps := by rw [q9]; exact I.slots.mono q1
            refine h3.puts ?_ q6 fun t => ?_
            · intro d hd; have := q11.2.2; rw [hd] at this; rw [← q8]; exact this.1
            · rw [sv_add ho hpost G, updV_same]
              split
              · rfl
              · exact (sv_congr fun j _ _ => ⟨rfl, fun h => hVD j h⟩).symm
          · intro b hbb; rw [q2 b (by have := I.up; omega) (by omega)]; exact I.old b hbb
        have Pr : SPre ops f0 (updV V i v) ((k + 1) * (ops.size + 1)) fr2 sn := by
          rw [← hc1]
          refine ⟨frame_step (fr := fr1) G (by rw [q7]; exact I.pre.fr) ho hkey q11, ?_⟩
          intro j oj hj hlj hkj
          have hne : j ≠ i := by rintro rfl; rw [ho] at hj; injection hj with hj; subst hj; rw [hl] at hlj; cases hlj
          have hkne : key ops j ≠ key ops i := fun hh => hne (key_inj G (lt_of_get hj) hin hh)
          obtain ⟨s, p1, p2⟩ := I.pre.seen j oj hj hlj (by omega)
          refine ⟨s, p1, ?_⟩
          rw [q11.1, q8]
          refine p2.more G hj fun y hy => updV_ne ?_
          rintro rfl; omega
        obtain ⟨V', sn', f2, h', r1, r2⟩ := enter_stage K G hb hx2 A Pr (by
          intro j oj hj hlj hlok
          have hne : j ≠ i := by rintro rfl; rw [ho] at hj; injection hj with hj; subst hj; rw [hl] at hlj; cases hlj
          rw [updD_ne hne]
          exact hpost j ((lo_iff G hk).2 (by omega)))
        refine ih V' (k + 1) sn' f2 _ _ φ' _ W' hs' hc' r1 ?_
        rw [hDf]; exact r2
      cases w with
      | false =>
        simp only [cond_false, Option.bind_eq_some_iff] at hx
        obtain ⟨fr2, hp, hx⟩ := hx
        rw [if_neg (by simp)]
        refine ⟨fun _ _ => trivial, ?_⟩
        exact hgo φ undef undef W f fr2 st a φ.le_refl (fun _ _ _ => rfl) I.new (Nat.le_refl _) I.w (plain_refl rfl φ) rfl rfl rfl I.ds (put_inv hp) hx
      | true =>
        simp only [cond_true, Option.bind_eq_some_iff] at hx
        obtain ⟨⟨x1, fr2, st1⟩, hv, hx⟩ := hx
        rw [if_pos rfl]
        have hsame : heavy E st.h (sv ops f0 V (fun j => listed.getD j false) ops.size) (base + i) o = heavy E st.h f.t (base + i) o := heavy_congr fun y hy => ev_congr fun t ht => by
          subst ht; exact hframe t (operand_name hy)
        refine heavy_wp K C hrr hv hsame I.w I.slots I.ds hidn (by omega) (by have := I.up; omega) I.new ?_ ?_
        · rintro rfl φ' v v' W' fr1 a1 q1 q2 q3 q4 q5 q6 q7 q8 q9 q10 q11
          exact hgo φ' v v' W' fr1 fr2 st1 a1 q1 q2 q3 q4 q5 q6 q7 q8 q9 q10 q11 hx
        · rintro ch rfl rfl φ' ch' W' q1 q2 q3 q4 q5 q6
          simp only [Option.pure_def, Option.some.injEq, Prod.mk.injEq] at hx
          obtain ⟨rfl, rfl, rfl⟩ := hx
          refine ⟨φ', ⟨Ren.le_trans I.le q1, ?_, q3, by have := I.up; omega, q5⟩, ⟨?_, I.ds.mono q1⟩, q6⟩
          · intro b hbb; rw [q2 b (by have := I.up; omega) (by omega)]; exact I.old b hbb
          · refine ⟨I.slots.1, fun t u hu => ?_⟩
            obtain ⟨h1, h2⟩ := forget_get hu
            rw [I.pre.fr t, sv_none h1] at h2
            obtain ⟨u', r1, r2⟩ := I.slots.2 t u (by rw [sv_none h1]; exact h2)
            exact ⟨u', r1, r2.mono q1⟩

theorem drawRegion_wp (K : EOk E) (C : CallOk E w0 call) (hrr : rd = none → rr = none) {id : Nat} {fr fr' : Fr} {st st' : St} {x : Xit} {φ : Ren} {a : Act} {W : World}
    (hx : regionA E call rd ops true fr st = some (x, fr', st')) (H : WRel E w0 φ st.h st.loops W) (hf : FRel φ fr a) (hnew : ∀ b, st.next ≤ b → φ b = none) (hl : E.lim ≤ st.next) :
    (Code.region id ops true).wpIn (Fw rr) n E.P (XPost E w0 φ st.next x fr' st') a W := by
  simp only [regionA, cond_true] at hx
  cases hc : ((E.mixed || !Region.departs ops) && edgesOk ops && chained (aheadOf ops) (heaviesOf ops) && slotsOk ops (aheadOf ops)) with
  | false => rw [hc] at hx; cases hx
  | true =>
    rw [hc, cond_true] at hx
    simp only [Bool.and_eq_true] at hc
    obtain ⟨⟨⟨c1, c2⟩, c3⟩, c4⟩ := hc
    have G : Reg ops := ⟨c2, c3, c4⟩
    have hsch : ∀ t, Region.schedule (E.P.follows .mixedOrders) ops t = Region.linearise .any ops t := by
      intro t
      unfold Region.schedule
      rw [if_pos]
      simp only [Bool.or_eq_true] at c1 ⊢
      exact c1.imp K.mixed fun h => h
    refine wpIn_region_draw fun t => ?_
    rw [hsch t]
    refine wpAnyIn_sound ops.size t _ a _ ?_
    have hD : (fun j => (Array.replicate ops.size false).getD j false) = fun _ => false := by
      funext j
      rw [Array.getD_eq_getD_getElem?, Array.getElem?_replicate]
      split <;> rfl
    have A : DAny E w0 ops st.next φ fr.t (fun _ => none) 0 fr { st with next := st.next + ops.size } (fun _ => false) φ a { W with drawn := W.drawn + 1 } := by
      refine ⟨fun _ _ _ h => (by cases h), fun _ _ _ _ => ⟨fun h => (by cases h), fun h => (by omega)⟩, Nat.zero_le _, ?_, hf.ds, H.drawn _, φ.le_refl, fun _ _ => rfl, fun j _ _ => hnew _ (by omega), fun b hb => hnew b (by simp only at hb; omega), Nat.le_refl _⟩
      refine hf.fr.congr fun t => ?_
      have : ∀ k, (sv ops fr.t (fun _ => none) (fun _ => false) k).get t = fr.t.get t := by
        intro k
        induction k with
        | zero => rfl
        | succ k ih => rw [sv_succ, if_neg (by simp)]; exact ih
      exact this _
    have P : SPre ops fr.t (fun _ => none) (0 * (ops.size + 1)) fr .nil := by
      refine ⟨fun t => ?_, fun i o _ _ h => by omega⟩
      have : ∀ k, (sv ops fr.t (fun _ => none) (before ops (0 * (ops.size + 1))) k).get t = fr.t.get t := by
        intro k
        induction k with
        | zero => rfl
        | succ k ih =>
          rw [sv_succ, if_neg]; exact ih
          rintro ⟨_, h⟩
          rw [before_iff] at h; omega
      rw [this]
    obtain ⟨V', sn', f', h', r1, r2⟩ := enter_stage K G hl hx A P (fun _ _ _ _ _ => rfl)
    refine draw_wp (f0 := fr.t) K C hrr G hl ops.size V' 0 sn' f' _ _ φ a _ (by simp) ?_ r1 ?_
    · refine Nat.le_trans List.countP_le_length ?_
      simp
    · rw [hD]; exact r2
end
end Go.AM
