/- The abstract machine: regions in the text's order. -/
import Derived.Test.YtlbepbcgnhodaaaGreatDoorAmS
set_option linter.all false
namespace Go.AM
variable [Syms]
open Go.RowKit
section
variable {E : Env} {w0 : World} {call : CallF} {rd rr : Option Nat} {n : Nat}

theorem FrRel.put {φ : Ren} {t : Tr Value} {m : Nat} {tmps : Array Value} (k : FrRel φ t m tmps) : ∀ j want d v, (o : Oper) → (ops : Array Oper) → o.guard = some (j, want) → (ops[j]?).bind (·.dst) = some d → t.get d = some v →
    ∃ v', tmps[d]? = some v' ∧ VRel φ v v' := fun _ _ d v _ _ _ _ h => k.2 d v h

theorem XPost.far {φ φ1 : Ren} {next : Nat} {x : Xit} {fr' : Fr} {st st' : St} {W : World} (h : Far E w0 φ next st φ1 W) {e a' W'} (k : XPost E w0 φ1 st.next x fr' st' e a' W') : XPost E w0 φ next x fr' st' e a' W' := by
  obtain ⟨φ', h1, h2, h3⟩ := k
  exact ⟨φ', h.trans h1, h2, h3⟩

/-- What is known within a region, in the text's order, ahead of operation i. -/
structure SeqInv (E : Env) (w0 : World) (φ0 : Ren) (base size i : Nat) (fr : Fr) (st : St) (φ : Ren) (a : Act) (W : World) : Prop where
  le : φ0.le φ
  old : ∀ b, b < base → φ b = φ0 b
  mid : ∀ b, base + i ≤ b → b < base + size → φ b = none
  new : ∀ b, st.next ≤ b → φ b = none
  up : base + size ≤ st.next
  w : WRel E w0 φ st.h st.loops W
  fr : FRel φ fr a

theorem seqOps_wp (K : EOk E) (C : CallOk E w0 call) (hrr : rd = none → rr = none) {ops : Array Oper} {base : Nat} {φ0 : Ren} (hb : E.lim ≤ base) : ∀ (l : List Oper) (i : Nat) (fr : Fr) (st : St) (x : Xit) (fr' : Fr) (st' : St) (φ : Ren) (a : Act) (W : World),
    l = ops.toList.drop i → seqOps E call rd ops l (base + i) fr st = some (x, fr', st') → SeqInv E w0 φ0 base ops.size i fr st φ a W →
    wpOpsIn (Fw rr) n E.P ops (XPost E w0 φ0 base x fr' st') (List.range' i (ops.size - i)) a W := by
  intro l
  induction l with
  | nil =>
    intro i fr st x fr' st' φ a W hl hx I
    simp only [seqOps, Option.some.injEq, Prod.mk.injEq] at hx
    obtain ⟨rfl, rfl, rfl⟩ := hx
    have : ops.size - i = 0 := by
      have := congrArg List.length hl
      simpa [eq_comm] using this
    rw [this]
    refine ⟨φ, ⟨I.le, I.old, I.new, by have := I.up; omega, I.w⟩, I.fr, trivial⟩
  | cons o rest ih =>
    intro i fr st x fr' st' φ a W hl hx I
    have hi : i < ops.size := by
      have := congrArg List.length hl
      simp at this; omega
    have hsz : ops.size - i = (ops.size - (i + 1)) + 1 := by omega
    have ho : ops[i]? = some o := by
      have : (ops.toList.drop i)[0]? = some o := by rw [← hl]; rfl
      simpa using this
    have hrest : rest = ops.toList.drop (i + 1) := by
      have : ops.toList.drop (i + 1) = (ops.toList.drop i).tail := by simp
      rw [this, ← hl]; rfl
    rw [hsz, List.range'_succ]
    simp only [wpOpsIn, ho]
    simp only [seqOps, Option.bind_eq_bind, Option.bind_eq_some_iff] at hx
    obtain ⟨w, hw, hx⟩ := hx
    have hwr := wanted_rel (φ := φ) (tmps := a.tmps) (fun j want d v _ _ h => I.fr.fr.2 d v h) hw
    rw [hwr]
    have hmid : ∀ b, base + (i + 1) ≤ b → b < base + ops.size → φ b = none := fun b h1 h2 => I.mid b (by omega) h2
    have hid : φ (base + i) = none := I.mid _ (Nat.le_refl _) (by omega)
    cases w with
    | false =>
      simp only [cond_false, Option.bind_eq_some_iff] at hx
      obtain ⟨fr1, hp, hx⟩ := hx
      rw [if_neg (by simp)]
      refine ⟨fun _ _ => trivial, ?_⟩
      exact ih (i + 1) fr1 st x fr' st' φ _ W hrest hx ⟨I.le, I.old, hmid, I.new, I.up, I.w, (put_inv hp).rel I.fr (plain_refl rfl φ)⟩
    | true =>
      rw [if_pos rfl]
      simp only [cond_true] at hx
      cases hlt : isLight o.op with
      | true =>
        simp only [hlt, cond_true, Option.bind_eq_some_iff] at hx
        obtain ⟨⟨v, ob⟩, hv, fr1, hp, hx⟩ := hx
        refine light_wp K I.w I.fr.fr hid (by omega) hv (I.w.ghost hid (by have := K.ngl; omega) ob) addObj_get ?_
        intro φ' v' W' q1 q2 q3 q4
        refine ih (i + 1) fr1 { st with h := addObj st.h (base + i) ob } x fr' st' φ' _ W' hrest hx ⟨Ren.le_trans I.le q1, ?_, ?_, ?_, I.up, q4, (put_inv hp).rel (I.fr.mono q1) q3⟩
        · intro b hbb; rw [q2 b (by omega)]; exact I.old b hbb
        · intro b h1 h2; rw [q2 b (by omega)]; exact hmid b h1 h2
        · intro b h1; have := I.up; rw [q2 b (by simp only at h1; omega)]; exact I.new b h1
      | false =>
        simp only [hlt, cond_false, Option.bind_eq_some_iff] at hx
        obtain ⟨⟨x1, fr1, st1⟩, hv, hx⟩ := hx
        refine heavy_wp K C hrr hv rfl I.w I.fr.fr I.fr.ds hid (by omega) (by have := I.up; omega) I.new ?_ ?_
        · rintro rfl φ' v v' W' fr2 a2 q1 q2 q3 q4 q5 q6 q7 q8 q9 q10 q11
          refine ih (i + 1) fr1 st1 x fr' st' φ' _ W' hrest hx ⟨Ren.le_trans I.le q1, ?_, ?_, q3, by have := I.up; omega, q5, q11.rel ⟨?_, q10⟩ q6⟩
          · intro b hbb; rw [q2 b (by have := I.up; omega) (by omega)]; exact I.old b hbb
          · intro b h1 h2; rw [q2 b (by have := I.up; omega) (by omega)]; exact hmid b h1 h2
          · rw [q7, q8, q9]; exact (I.fr.mono q1).fr
        · rintro ch rfl rfl φ' ch' W' q1 q2 q3 q4 q5 q6
          simp only [Option.pure_def, Option.some.injEq, Prod.mk.injEq] at hx
          obtain ⟨rfl, rfl, rfl⟩ := hx
          refine ⟨φ', ⟨Ren.le_trans I.le q1, ?_, q3, by have := I.up; omega, q5⟩, I.fr.mono q1, q6⟩
          intro b hbb; rw [q2 b (by have := I.up; omega) (by omega)]; exact I.old b hbb

theorem seqRegion_wp (K : EOk E) (C : CallOk E w0 call) (hrr : rd = none → rr = none) {ops : Array Oper} {id : Nat} {fr fr' : Fr} {st st' : St} {x : Xit} {φ : Ren} {a : Act} {W : World}
    (hx : seqOps E call rd ops ops.toList st.next fr { st with next := st.next + ops.size } = some (x, fr', st')) (H : WRel E w0 φ st.h st.loops W) (hf : FRel φ fr a) (hnew : ∀ b, st.next ≤ b → φ b = none) (hl : E.lim ≤ st.next) :
    (Code.region id ops false).wpIn (Fw rr) n E.P (XPost E w0 φ st.next x fr' st') a W := by
  refine wpIn_region ?_
  rw [List.range_eq_range']
  have := seqOps_wp (n := n) (rd := rd) K C hrr (ops := ops) (base := st.next) (φ0 := φ) hl ops.toList 0 fr { st with next := st.next + ops.size } x fr' st' φ a W rfl hx
    ⟨φ.le_refl, fun _ _ => rfl, fun b h1 _ => hnew b (by omega), fun b h1 => hnew b (by simp only at h1; omega), Nat.le_refl _, H, hf⟩
  exact this
end
end Go.AM
