/- The abstract machine: deferred calls, calls: the last theorem. -/
import Derived.Test.YtlbepbcgnhodaaaGreatDoorAmZ
set_option linter.all false
namespace Go.AM
variable [Syms]
open Go.RowKit

def MRel (φ : Ren) : Option (List PanicEntry) → FrameMode → Prop
  | none, .returning => True
  | some a, .panicking b => ChRel φ a b
  | _, _ => False
theorem MRel.mono {φ ψ : Ren} (h : φ.le ψ) {u : Option (List PanicEntry)} {m : FrameMode} (k : MRel φ u m) : MRel ψ u m := by
  cases u <;> cases m <;> simp only [MRel] at k ⊢
  exact k.mono h
theorem MRel.not_run {φ : Ren} {u : Option (List PanicEntry)} {m : FrameMode} (k : MRel φ u m) : m ≠ .run := by
  rintro rfl; cases u <;> exact k.elim

theorem ChRel.append {φ : Ren} : ∀ {a b c d : List PanicEntry}, ChRel φ a b → ChRel φ c d → ChRel φ (a ++ c) (b ++ d)
  | [], [], _, _, _, k => k
  | _ :: _, _ :: _, _, _, h, k => ⟨h.1, ChRel.append h.2 k⟩
  | [], _ :: _, _, _, h, _ => h.elim
  | _ :: _, [], _, _, h, _ => h.elim
theorem ChRel.dropWhile {φ : Ren} : ∀ {a b : List PanicEntry}, ChRel φ a b → ChRel φ (a.dropWhile (!·.goexit)) (b.dropWhile (!·.goexit))
  | [], [], _ => trivial
  | p :: ps, q :: qs, h => by
    rw [List.dropWhile_cons, List.dropWhile_cons, h.1.2.2]
    split
    · exact ChRel.dropWhile h.2
    · exact h
  | [], _ :: _, h => h.elim
  | _ :: _, [], h => h.elim

theorem settle_rel {φ : Ren} {u : Option (List PanicEntry)} {m : FrameMode} (k : MRel φ u m) : MRel φ (settleA u) (settle m) := by
  cases u with
  | none => cases m <;> first | exact k.elim | exact trivial
  | some ch =>
    cases m with
    | run => exact k.elim
    | returning => exact k.elim
    | panicking ch' =>
      have k : ChRel φ ch ch' := k
      match ch, ch', k with
      | [], [], _ => exact trivial
      | p :: ps, q :: qs, k =>
        obtain ⟨pv, pr, pg⟩ := p
        obtain ⟨qv, qr, qg⟩ := q
        obtain ⟨⟨k1, k2, k3⟩, k4⟩ := k
        simp only at k1 k2 k3
        subst k2; subst k3
        cases pr with
        | false => exact ⟨⟨k1, rfl, rfl⟩, k4⟩
        | true =>
          have hd := k4.dropWhile
          simp only [settleA, settle]
          generalize List.dropWhile (fun x => !x.goexit) ps = A at hd
          generalize List.dropWhile (fun x => !x.goexit) qs = B at hd
          cases A with
          | nil => cases B with | nil => exact trivial | cons _ _ => exact hd.elim
          | cons _ _ => cases B with | nil => exact hd.elim | cons _ _ => exact hd
theorem raised_rel {φ : Ren} {u : Option (List PanicEntry)} {m : FrameMode} {ch ch' : List PanicEntry} (k : MRel φ u m) (h : ChRel φ ch ch') : MRel φ (raisedA u ch) (raised m ch') := by
  cases u <;> cases m <;> first | exact k.elim | exact h | exact ChRel.append h k

theorem recover_rel {φ : Ren} {u : Option (List PanicEntry)} {c0 : Frame} {cs : List Frame} (k : MRel φ u c0.mode) :
    ∃ v' m', MRel φ (recoverA u).2 m' ∧ VRel φ (recoverA u).1 v' ∧
      (recoverD (c0 :: cs) = some (v', { c0 with mode := m' } :: cs) ∨ (recoverD (c0 :: cs) = none ∧ v' = .nilIface ∧ m' = c0.mode)) := by
  cases hm : c0.mode with
  | run => rw [hm] at k; cases u <;> exact k.elim
  | returning =>
    rw [hm] at k
    cases u with
    | none => exact ⟨.nilIface, .returning, trivial, .nilIface, .inr ⟨by simp [recoverD, hm], rfl, rfl⟩⟩
    | some _ => exact k.elim
  | panicking ch' =>
    rw [hm] at k
    cases u with
    | none => exact k.elim
    | some ch =>
      have k : ChRel φ ch ch' := k
      match ch, ch', k with
      | [], [], _ => exact ⟨.nilIface, .panicking [], trivial, .nilIface, .inr ⟨by simp [recoverD, hm], rfl, rfl⟩⟩
      | p :: ps, q :: qs, k =>
        obtain ⟨pv, pr, pg⟩ := p
        obtain ⟨qv, qr, qg⟩ := q
        obtain ⟨⟨k1, k2, k3⟩, k4⟩ := k
        simp only at k1 k2 k3
        subst k2; subst k3
        cases pr with
        | true => exact ⟨.nilIface, .panicking (⟨qv, true, pg⟩ :: qs), ⟨⟨k1, rfl, rfl⟩, k4⟩, .nilIface, .inr ⟨by simp [recoverD, hm], rfl, rfl⟩⟩
        | false =>
          cases pg with
          | true => exact ⟨.nilIface, .panicking (⟨qv, false, true⟩ :: qs), ⟨⟨k1, rfl, rfl⟩, k4⟩, .nilIface, .inr ⟨by simp [recoverD, hm], rfl, rfl⟩⟩
          | false => exact ⟨qv, .panicking ({ v := qv, recovered := true } :: qs), ⟨⟨k1, rfl, rfl⟩, k4⟩, k1, .inl (by simp [recoverD, hm])⟩

section
variable {E : Env} {w0 : World} {call : CallF} {n : Nat}

/-- What the code of a deferred function achieves. -/
def SPostD (E : Env) (w0 : World) (φ : Ren) (next : Nat) (c0 : Frame) (cs : List Frame) (x : Xit) (fr' : Fr) (u' : Option (List PanicEntry)) (st' : St) : Exit → Act → List Frame → World → Prop := fun e a' cs' W' =>
  ∃ φ' m', cs' = { c0 with mode := m' } :: cs ∧ Far E w0 φ next st' φ' W' ∧ FRel φ' fr' a' ∧ XRel φ' x e ∧ MRel φ' u' m'

theorem run_recover {P : Program} {a : Act} {o : Oper} {W : World} (h : isRecover o = true) : (execOp a.eval o).run P W = .ok .recover W := by
  unfold isRecover at h
  split at h
  · rename_i ho
    simp only [execOp, ho, resolve, Sem.run_bind, Sem.run_pure, Result.andThen_ok, invoke]
    rfl
  · cases h

theorem seqOpsD_wp (K : EOk E) {ops : Array Oper} {base : Nat} {φ0 : Ren} (hb : E.lim ≤ base) {c0 : Frame} {cs : List Frame} : ∀ (l : List Oper) (i : Nat) (fr : Fr) (u : Option (List PanicEntry)) (st : St) (fr' : Fr) (u' : Option (List PanicEntry)) (st' : St) (φ : Ren) (a : Act) (m : FrameMode) (W : World),
    l = ops.toList.drop i → seqOpsD E ops l (base + i) fr u st = some (fr', u', st') → SeqInv E w0 φ0 base ops.size i fr st φ a W → MRel φ u m →
    wpOpsSIn (Fw none) n E.P ops (SPostD E w0 φ0 base c0 cs .normal fr' u' st') (List.range' i (ops.size - i)) a ({ c0 with mode := m } :: cs) W := by
  intro l
  induction l with
  | nil =>
    intro i fr u st fr' u' st' φ a m W hl hx I M
    simp only [seqOpsD, Option.some.injEq, Prod.mk.injEq] at hx
    obtain ⟨rfl, rfl, rfl⟩ := hx
    have : ops.size - i = 0 := by
      have := congrArg List.length hl
      simpa [eq_comm] using this
    rw [this]
    exact ⟨φ, m, rfl, ⟨I.le, I.old, I.new, by have := I.up; omega, I.w⟩, I.fr, trivial, M⟩
  | cons o rest ih =>
    intro i fr u st fr' u' st' φ a m W hl hx I M
    have hi : i < ops.size := by
      have := congrArg List.length hl
      simp at this; omega
    have hsz : ops.size - i = (ops.size - (i + 1)) + 1 := by omega
    have ho : ops[i]? = some o := by
      have : (ops.toList.drop i)[0]? = some o := by rw [← hl]; rfl
      simpa using this
    have hrest : rest = ops.toList.drop (i + 1) := by
      have : ops.toList.drop (i + 1) = (ops.toList.drop i).tail := by simp
      rw [this, ← hl]; rfl
    rw [hsz, List.range'_succ]
    simp only [wpOpsSIn, ho]
    refine ⟨fun _ _ => trivial, ?_⟩
    simp only [seqOpsD, Option.bind_eq_bind, Option.bind_eq_some_iff] at hx
    obtain ⟨w, hw, hx⟩ := hx
    have hwr := wanted_rel (φ := φ) (tmps := a.tmps) (fun j want d v _ _ h => I.fr.fr.2 d v h) hw
    rw [hwr]
    have hmid : ∀ b, base + (i + 1) ≤ b → b < base + ops.size → φ b = none := fun b h1 h2 => I.mid b (by omega) h2
    have hid : φ (base + i) = none := I.mid _ (Nat.le_refl _) (by omega)
    cases w with
    | false =>
      simp only [cond_false, Option.bind_eq_some_iff] at hx
      obtain ⟨fr1, hp, hx⟩ := hx
      rw [if_neg (by simp)]
      exact ih (i + 1) fr1 u st fr' u' st' φ _ m W hrest hx ⟨I.le, I.old, hmid, I.new, I.up, I.w, (put_inv hp).rel I.fr (plain_refl rfl φ)⟩ M
    | true =>
      rw [if_pos rfl]
      simp only [cond_true] at hx
      cases hrec : isRecover o with
      | true =>
        simp only [hrec, cond_true, Option.bind_eq_some_iff] at hx
        obtain ⟨fr1, hp, hx⟩ := hx
        rw [run_recover hrec]
        obtain ⟨v', m', q1, q2, q3⟩ := recover_rel (c0 := { c0 with mode := m }) (cs := cs) M
        simp only
        have I' : SeqInv E w0 φ0 base ops.size (i + 1) fr1 st φ (a.put o.dst v') W := ⟨I.le, I.old, hmid, I.new, I.up, I.w, (put_inv hp).rel I.fr q2⟩
        rcases q3 with q3 | ⟨q3, q4, q5⟩
        · rw [q3]
          exact ih (i + 1) fr1 _ st fr' u' st' φ _ m' W hrest hx I' q1
        · rw [q3]
          have q5 : m' = m := q5
          subst q5; subst q4
          exact ih (i + 1) fr1 _ st fr' u' st' φ _ m' W hrest hx I' q1
      | false =>
        simp only [hrec, cond_false] at hx
        cases hlt : isLight o.op with
        | true =>
          simp only [hlt, cond_true, Option.bind_eq_some_iff] at hx
          obtain ⟨⟨v, ob⟩, hv, fr1, hp, hx⟩ := hx
          obtain ⟨φ', v', W', q1, q2, q3, q4, q5⟩ := light_sound K I.w I.fr.fr hid (by omega) hv
          rw [q3]
          have q6 := q5 (addObj st.h (base + i) ob) (I.w.ghost hid (by have := K.ngl; omega) ob) addObj_get
          refine ih (i + 1) fr1 u { st with h := addObj st.h (base + i) ob } fr' u' st' φ' _ m W' hrest hx ⟨Ren.le_trans I.le q1, ?_, ?_, ?_, I.up, q6, (put_inv hp).rel (I.fr.mono q1) q4⟩ (M.mono q1)
          · intro b hbb; rw [q2 b (by omega)]; exact I.old b hbb
          · intro b h1 h2; rw [q2 b (by omega)]; exact hmid b h1 h2
          · intro b h1; have := I.up; rw [q2 b (by simp only at h1; omega)]; exact I.new b h1
        | false =>
          simp only [hlt, cond_false, Option.bind_eq_some_iff] at hx
          obtain ⟨⟨r, h'⟩, hv, hx⟩ := hx
          have hS := heavy_sound K I.w I.fr.fr hid (by omega) hv
          cases r with
          | value v =>
            simp only [Option.bind_eq_some_iff] at hx
            obtain ⟨fr1, hp, hx⟩ := hx
            obtain ⟨φ', v', W', q1, q2, q3, q4, q5⟩ := hS
            have I' : SeqInv E w0 φ0 base ops.size (i + 1) fr1 { st with h := h' } φ' (a.put o.dst v') W' := by
              refine ⟨Ren.le_trans I.le q1, ?_, ?_, ?_, I.up, q5, (put_inv hp).rel (I.fr.mono q1) q4⟩
              · intro b hbb; rw [q2 b (by omega)]; exact I.old b hbb
              · intro b h1 h2; rw [q2 b (by omega)]; exact hmid b h1 h2
              · intro b h1; have := I.up; rw [q2 b (by simp only at h1; omega)]; exact I.new b h1
            have := ih (i + 1) fr1 u _ fr' u' st' φ' _ m W' hrest hx I' (M.mono q1)
            rcases q3 with q3 | ⟨q3, rfl⟩
            · rw [q3]; exact this
            · rw [q3]; exact this
          | _ => cases hx

theorem execD_wp (K : EOk E) (C : CallOk E w0 call) {k : Nat} {c0 : Frame} {cs : List Frame} : ∀ (j : Nat) (c : Code) (fr : Fr) (u : Option (List PanicEntry)) (st : St) (x : Xit) (fr' : Fr) (u' : Option (List PanicEntry)) (st' : St) (φ : Ren) (a : Act) (m : FrameMode) (W : World),
    execD E call k j c fr u st = some (x, fr', u', st') → WRel E w0 φ st.h st.loops W → FRel φ fr a → MRel φ u m → (∀ b, st.next ≤ b → φ b = none) → E.lim ≤ st.next →
    c.wpSIn (Fw none) n E.P (SPostD E w0 φ st.next c0 cs x fr' u' st') a ({ c0 with mode := m } :: cs) W := by
  intro j
  induction j with
  | zero => intro c fr u st x fr' u' st' φ a m W hx; cases hx
  | succ j ih =>
    intro c fr u st x fr' u' st' φ a m W hx H hf M hnew hl
    simp only [execD] at hx
    have hplain : ∀ c : Code, (do let (x, fr, st) ← exec E call none k c fr st; pure (x, fr, u, st) : R (Xit × Fr × Option (List PanicEntry) × St)) = some (x, fr', u', st') →
        c.wpSIn (Fw none) n E.P (SPostD E w0 φ st.next c0 cs x fr' u' st') a ({ c0 with mode := m } :: cs) W := by
      intro c hx
      simp only [Option.pure_def, Option.bind_eq_bind, Option.bind_eq_some_iff, Option.some.injEq, Prod.mk.injEq] at hx
      obtain ⟨⟨x1, fr1, st1⟩, h1, rfl, rfl, rfl, rfl⟩ := hx
      refine wpSIn_of_wpIn rfl (wpIn_mono (exec_wp (n := n) K C k none none c fr st x1 fr1 st1 φ a W trivial h1 H hf hnew hl) fun e a' W' => ?_)
      rintro ⟨φ', F, hf', hx'⟩
      exact ⟨φ', m, rfl, F, hf', hx', M.mono F.le⟩
    cases c with
    | seq p q =>
      simp only [execD1, Option.bind_eq_bind, Option.bind_eq_some_iff] at hx
      obtain ⟨⟨x1, fr1, u1, st1⟩, h1, hx⟩ := hx
      refine wpSIn_seq fun b k' e1 e2 e3 e4 => ?_
      obtain ⟨e, a1, cs1, W1, l1, Q1, r1⟩ := ih p fr u st x1 fr1 u1 st1 φ a m W h1 H hf M hnew hl b k' e1 e2 e3 e4
      refine ⟨e, a1, cs1, W1, l1, ?_, r1⟩
      obtain ⟨φ1, m1, rfl, F1, hf1, hx1, M1⟩ := Q1
      by_cases hn : x1 = .normal
      · have he := hx1.normal_iff.1 hn
        subst he; subst hn
        have := ih q fr1 u1 st1 x fr' u' st' φ1 a1 m1 W1 hx F1.w hf1 M1 F1.new (by have := F1.up; omega)
        intro b k' e1 e2 e3 e4
        obtain ⟨e, a2, cs2, W2, l2, Q2, r2⟩ := this b k' e1 e2 e3 e4
        refine ⟨e, a2, cs2, W2, l2, ?_, r2⟩
        obtain ⟨φ2, m2, rfl, F2, hf2, hx2, M2⟩ := Q2
        exact ⟨φ2, m2, rfl, F1.trans F2, hf2, hx2, M2⟩
      · have he : e ≠ .normal := fun hh => hn (hx1.normal_iff.2 hh)
        have : x = x1 ∧ fr' = fr1 ∧ u' = u1 ∧ st' = st1 := by
          cases x1 <;> first | exact absurd rfl hn | (simp only [Option.pure_def, Option.some.injEq, Prod.mk.injEq] at hx; exact ⟨hx.1.symm, hx.2.1.symm, hx.2.2.1.symm, hx.2.2.2.symm⟩)
        obtain ⟨rfl, rfl, rfl, rfl⟩ := this
        cases e <;> first | exact absurd rfl he | exact ⟨φ1, m1, rfl, F1, hf1, hx1, M1⟩
    | cond b p q =>
      simp only [execD1, Option.bind_eq_bind, Option.bind_eq_some_iff] at hx
      obtain ⟨v, hv, hx⟩ := hx
      split at hx
      · rename_i t
        have hb := ev_rel H hf.fr hv
        have hb : a.eval b = .bool t := by generalize a.eval b = z at hb; cases hb; rfl
        refine wpSIn_cond hb ?_
        have := ih _ fr u st x fr' u' st' φ a m W hx H hf M hnew hl
        cases t <;> exact this
      · cases hx
    | region id ops draw =>
      cases draw with
      | true => exact hplain _ hx
      | false =>
        simp only [execD1] at hx
        cases hr : ops.any isRecover with
        | false => simp only [hr, cond_false] at hx; exact hplain _ hx
        | true =>
          simp only [hr, cond_true, Option.pure_def, Option.bind_eq_bind, Option.bind_eq_some_iff, Option.some.injEq, Prod.mk.injEq] at hx
          obtain ⟨⟨fr1, u1, st1⟩, h1, rfl, rfl, rfl, rfl⟩ := hx
          refine wpSIn_region ?_
          rw [List.range_eq_range']
          exact seqOpsD_wp (n := n) K (ops := ops) (base := st.next) (φ0 := φ) hl ops.toList 0 fr u { st with next := st.next + ops.size } fr1 u1 st1 φ a m W rfl h1
            ⟨φ.le_refl, fun _ _ => rfl, fun b h1 _ => hnew b (by omega), fun b h1 => hnew b (by simp only at h1; omega), Nat.le_refl _, H, hf⟩ M
    | _ => exact hplain _ hx

theorem callD_ok (K : EOk E) (C : CallOk E w0 call) {k : Nat} {f : FuncId} {args args' : Array Value} {u u' : Option (List PanicEntry)} {st st' : St} {en : End} (hx : callD E call k f args u st = some (en, u', st')) {φ : Ren} {m : FrameMode} {W : World}
    (H : WRel E w0 φ st.h st.loops W) (ha : ARel φ args args') (M : MRel φ u m) (hnew : ∀ b, st.next ≤ b → φ b = none) (hl : E.lim ≤ st.next) :
    CallsDIn (Fw none) n E.P f args' m W fun e' m' W' => ∃ φ', Far E w0 φ st.next st' φ' W' ∧ EndRel φ' en e' ∧ MRel φ' u' m' := by
  simp only [callD, Option.bind_eq_bind, Option.bind_eq_some_iff, ofOpt] at hx
  obtain ⟨fi, hfi, c, hc, ⟨x, fr1, u1, st1⟩, h1, hx⟩ := hx
  obtain ⟨fn, hf1, hf2, hf3, hf4, hf5⟩ := K.fns f fi hfi
  refine callsDIn_of_wpSIn hf1 (by rw [hf3]; exact hc) trivial fun c0 cs hc0 => ?_
  have hA := execD_wp (n := n) K C (c0 := c0) (cs := cs) k c (enterA fi.ntmps args) u st x fr1 u1 st1 φ { tmps := args' ++ Array.replicate (fn.ntmps - args'.size) undef, defers := [] } m W h1 H (by rw [hf2]; exact enterA_rel ha) M hnew hl
  have hc00 : ({ c0 with mode := m } : Frame) = c0 := by rw [← hc0]
  rw [hc00] at hA
  intro b k' e1 e2 e3 e4
  obtain ⟨e, a1, cs1, W1, l1, Q1, r1⟩ := hA b k' e1 e2 e3 e4
  refine ⟨e, a1, cs1, W1, l1, ?_, r1⟩
  obtain ⟨φ1, m1, rfl, F1, hf1', hx1, M1⟩ := Q1
  split at hx
  · rename_i hds
    have hd : a1.defers = [] := by
      have := hf1'.ds
      rw [hds] at this
      generalize a1.defers = z at this
      cases this; rfl
    cases x with
    | exit _ => cases hx
    | panic ch =>
      simp only [Option.pure_def, Option.some.injEq, Prod.mk.injEq] at hx
      obtain ⟨rfl, rfl, rfl⟩ := hx
      cases e <;> first | exact hx1.elim | exact ⟨hd, m1, rfl, φ1, F1, hx1, M1⟩
    | normal =>
      simp only [Option.pure_def, Option.bind_eq_some_iff, Option.some.injEq, Prod.mk.injEq] at hx
      obtain ⟨v, hv, rfl, rfl, rfl⟩ := hx
      obtain ⟨v', q1, q2⟩ := results_rel K hf4 F1.w hf1'.fr hv
      cases e <;> first | exact hx1.elim | exact ⟨hd, m1, rfl, v', q1, φ1, F1, q2, M1⟩
    | ret =>
      simp only [Option.pure_def, Option.bind_eq_some_iff, Option.some.injEq, Prod.mk.injEq] at hx
      obtain ⟨v, hv, rfl, rfl, rfl⟩ := hx
      obtain ⟨v', q1, q2⟩ := results_rel K hf4 F1.w hf1'.fr hv
      cases e <;> first | exact hx1.elim | exact ⟨hd, m1, rfl, v', q1, φ1, F1, q2, M1⟩
  · cases hx

theorem WRel.shut {φ : Ren} {h : Hp} {ls : Tr LoopA} {W : World} (k : WRel E w0 φ h ls W) {b : Nat} {e : Ent} (hb : φ b = some e) (hl : E.lim ≤ b) (hng : E.ng ≤ E.lim) {o : Obj} (ho : h.get b = some o) (o' : Obj) :
    WRel E w0 φ (h.put b none) ls (setB W e.r o') := by
  have hlive : live h ls b := .inl (by rw [ho]; rfl)
  have hne : ∀ x ex, φ x = some ex → live h ls x → x ≠ b → ex.r ≠ e.r := fun x ex hx hlx hxb hr => hxb (k.inj x b ex e hx hb hlx hlive hr)
  have hlv : ∀ x, live (h.put b none) ls x → live h ls x := by
    intro x hlx
    by_cases hx : x = b
    · subst hx; exact hlive
    · unfold live at hlx ⊢; rwa [Tr.get_put_ne _ _ hx] at hlx
  refine ⟨?_, ?_, fun x y ex ey hx hy lx ly hr => k.inj x y ex ey hx hy (hlv x lx) (hlv y ly) hr, ?_, ?_, k.own, below_setB k.keep (k.own b e hb hl) _⟩
  · intro x ex ox hx hox
    have hxb : x ≠ b := by rintro rfl; rw [Tr.get_put_same] at hox; cases hox
    rw [Tr.get_put_ne _ _ hxb] at hox
    rw [setB_get _ _ _ _ (k.bound b e hb), if_neg (hne x ex hx (.inl (by rw [hox]; rfl)) hxb)]
    exact k.obj x ex ox hx hox
  · intro l lp hlp
    obtain ⟨hn, el, L, h1, h2, h3⟩ := k.lp l lp hlp
    have hlb : l ≠ b := by rintro rfl; rw [hn] at ho; cases ho
    refine ⟨by rw [Tr.get_put_ne _ _ hlb]; exact hn, el, L, h1, ?_, h3⟩
    rw [setB_get _ _ _ _ (k.bound b e hb), if_neg (hne l el h1 (.inr (by rw [hlp]; rfl)) hlb)]
    exact h2
  · intro x ex hx; have := k.bound x ex hx; simpa [setB] using this
  · intro g hg hs
    rw [Tr.get_put_ne _ _ (by omega)] at hs
    exact k.glob g hg hs

theorem runDefers_ok (K : EOk E) (C : CallOk E w0 call) {k : Nat} {fn : Func} {tmps : Array Value} {R : Ending → World → Prop} : ∀ (ds : List Deferred) (u : Option (List PanicEntry)) (st : St) (u' : Option (List PanicEntry)) (st' : St) (φ : Ren) (m : FrameMode) (W : World) (ds' : List Deferred),
    runDefers E call k ds u st = some (u', st') → MRel φ u m → DsRel φ ds ds' → WRel E w0 φ st.h st.loops W → (∀ b, st.next ≤ b → φ b = none) → E.lim ≤ st.next →
    (∀ φ' m' W', Far E w0 φ st.next st' φ' W' → MRel φ' u' m' → LeavesInM (Fw none) n E.P fn tmps R [] m' W') → LeavesInM (Fw none) n E.P fn tmps R ds' m W := by
  intro ds
  induction ds with
  | nil =>
    intro u st u' st' φ m W ds' hx M D H hnew hl hR
    simp only [runDefers, Option.some.injEq, Prod.mk.injEq] at hx
    obtain ⟨rfl, rfl⟩ := hx
    cases D
    exact hR φ m W (Far.refl H hnew) M
  | cons d ds ih =>
    intro u st u' st' φ m W ds0 hx M D H hnew hl hR
    cases D with
    | cons hd ht =>
    rename_i d' ds'
    refine ⟨M.not_run, ?_⟩
    obtain ⟨dt, da⟩ := d
    obtain ⟨dt', da'⟩ := d'
    obtain ⟨hT, hA⟩ := hd
    simp only at hT hA
    have hfn : (∀ b, dt ≠ .collected b) → (do
          match ← targetA E dt da.toList with
          | .enter f args => do
            let (e, u, st) ← callD E call k f args u st
            match e with
            | .ret _ => runDefers E call k ds (settleA u) st
            | .panic ch => runDefers E call k ds (raisedA u ch) st
          | _ => fail "runDefers" : Option (Option (List PanicEntry) × St)) = some (u', st') → (∃ fv cap, dt' = .fn fv cap) →
        ((Fw none).depth.isSome = true → 1 ≤ n) ∧ ∃ fv cap f args, dt' = .fn fv cap ∧ (invoke dt' da').run E.P W = .ok (.enter f args) W ∧ (∀ g, Target.leads E.P W dt' da' = some g → (Fw none).fn g) ∧
        CallsDIn (Fw none) (n - 1) E.P f args m W fun
          | .returned _, u', w' => LeavesInM (Fw none) n E.P fn tmps R ds' (settle u') w'
          | .panicked chain, u', w' => LeavesInM (Fw none) n E.P fn tmps R ds' (raised u' chain) w'
          | .outgrown, _, w' => R .outgrown w' := by
      intro _ hx ⟨fv, cap, hfv⟩
      simp only [Option.bind_eq_bind, Option.bind_eq_some_iff] at hx
      obtain ⟨r, hr, hx⟩ := hx
      have hS := targetA_rel (id := 0) K H (args' := da') hT hA hr
      split at hx
      · rename_i f args
        simp only [Option.bind_eq_some_iff] at hx
        obtain ⟨⟨en, u1, st1⟩, h1, hx⟩ := hx
        obtain ⟨args', q1, q2, q3⟩ := hS
        refine ⟨Fw_depth, fv, cap, f, args', hfv, q1, fun _ _ => trivial, ?_⟩
        refine CallsDIn.mono (callD_ok (n := n - 1) K C h1 q3 q2 M hnew hl) ?_
        rintro e' m' W' ⟨φ', F, hE, M'⟩
        cases en with
        | ret v =>
          cases e' with
          | returned v' => exact ih _ st1 u' st' φ' _ W' ds' hx (settle_rel M') (ht.mono F.le) F.w F.new (by have := F.up; omega) fun φ2 m2 W2 F2 M2 => hR φ2 m2 W2 (F.trans F2) M2
          | panicked _ => exact hE.elim
          | outgrown => exact hE.elim
        | panic ch =>
          cases e' with
          | returned v' => exact hE.elim
          | panicked ch' => exact ih _ st1 u' st' φ' _ W' ds' hx (raised_rel M' hE) (ht.mono F.le) F.w F.new (by have := F.up; omega) fun φ2 m2 W2 F2 M2 => hR φ2 m2 W2 (F.trans F2) M2
          | outgrown => exact hE.elim
      · cases hx
    cases dt with
    | collected b =>
      refine .inl ?_
      cases hT with | collected he =>
      rename_i e
      simp only [runDefers] at hx
      split at hx
      · rename_i hg
        cases hlb : Nat.ble E.lim b with
        | false => rw [hlb] at hx; cases hx
        | true =>
          rw [hlb, cond_true] at hx
          have hlb := Nat.le_of_ble_eq_true hlb
          obtain ⟨o', h1, h2⟩ := H.obj b e _ he hg
          have ho' : o' = .deferred (some []) := by
            unfold ORel at h2
            split at h2 <;> first | (rename_i hq; cases hq; done) | rfl | exact h2.elim
          subst ho'
          refine ⟨e.r, setB W e.r (.deferred none), rfl, ?_, ?_⟩
          · simp only [Instr.takeDeferred, Sem.run_bind, run_getObj_of (P := E.P) h1 (by intros; simp), Result.andThen_ok, Sem.run_pure, run_setObj_of (P := E.P) _ h1 (by intros; simp)]
          · have H2 := H.shut he hlb K.ngl hg (.deferred none)
            have F : Far E w0 φ st.next { st with h := st.h.put b none } φ (setB W e.r (.deferred none)) := ⟨φ.le_refl, fun _ _ => rfl, hnew, Nat.le_refl _, H2⟩
            exact ih u _ u' st' φ m _ ds' hx M ht H2 hnew hl fun φ2 m2 W2 F2 M2 => hR φ2 m2 W2 (F.trans F2) M2
      · cases hx
    | fn fv cap =>
      refine .inr (hfn (by intro b; simp) hx ?_)
      cases hT with | fn _ _ => exact ⟨_, _, rfl⟩
    | builtin _ _ _ _ => cases hT
    | _ => cases hT

theorem funF_ok (K : EOk E) (C : CallOk E w0 call) {k : Nat} {f : FuncId} {args args' : Array Value} {st st' : St} {en : End} (hx : funF E call k f args st = some (en, st')) {φ : Ren} {W : World}
    (H : WRel E w0 φ st.h st.loops W) (ha : ARel φ args args') (hnew : ∀ b, st.next ≤ b → φ b = none) (hl : E.lim ≤ st.next) : CallsIn (Fw none) n E.P f args' W (EPost E w0 φ st.next en st') := by
  simp only [funF, Option.bind_eq_bind, Option.bind_eq_some_iff, ofOpt] at hx
  obtain ⟨fi, hfi, c, hc, ⟨x, fr1, st1⟩, h1, hx⟩ := hx
  have hx : ∃ u u1 st2, (match x with | .normal | .ret => some none | .panic ch => some (some ch) | .exit _ => none) = some u ∧ runDefers E call k fr1.ds u st1 = some (u1, st2) ∧
      (match u1 with | none => (resultsA E fi fr1 st2).bind fun v => some (.ret v, st2) | some ch => some (.panic ch, st2)) = some (en, st') := by
    cases x with
    | exit _ => cases hx
    | normal => simp only [Option.bind_some, Option.bind_eq_some_iff] at hx; obtain ⟨⟨u1, st2⟩, h2, h3⟩ := hx; exact ⟨_, u1, st2, rfl, h2, h3⟩
    | ret => simp only [Option.bind_some, Option.bind_eq_some_iff] at hx; obtain ⟨⟨u1, st2⟩, h2, h3⟩ := hx; exact ⟨_, u1, st2, rfl, h2, h3⟩
    | panic ch => simp only [Option.bind_some, Option.bind_eq_some_iff] at hx; obtain ⟨⟨u1, st2⟩, h2, h3⟩ := hx; exact ⟨_, u1, st2, rfl, h2, h3⟩
  obtain ⟨u, u1, st2, hu, h2, hx⟩ := hx
  obtain ⟨fn, hf1, hf2, hf3, hf4, hf5⟩ := K.fns f fi hfi
  refine callsIn_of_wp_marks hf1 (by rw [hf3]; exact hc) trivial ?_
  refine wpIn_mono (exec_wp (n := n) K C k none none c (enterA fi.ntmps args) st x fr1 st1 φ _ W trivial h1 H (by rw [hf2]; exact enterA_rel ha) hnew hl) fun e a1 W1 => ?_
  rintro ⟨φ1, F1, hfr, hx1⟩
  have hend : ∀ φ' m' W', Far E w0 φ1 st1.next st2 φ' W' → MRel φ' u1 m' → LeavesInM (Fw none) n E.P fn a1.tmps (EPost E w0 φ st.next en st') [] m' W' := by
    intro φ' m' W' F2 M2
    cases u1 with
    | none =>
      simp only [Option.pure_def, Option.bind_eq_some_iff, Option.some.injEq, Prod.mk.injEq] at hx
      obtain ⟨v, hv, rfl, rfl⟩ := hx
      obtain ⟨v', q1, q2⟩ := results_rel K hf4 F2.w (hfr.fr.mono F2.le) hv
      cases m' <;> first | exact M2.elim | exact ⟨v', q1, φ', F1.trans F2, q2⟩
    | some ch =>
      simp only [Option.pure_def, Option.some.injEq, Prod.mk.injEq] at hx
      obtain ⟨rfl, rfl⟩ := hx
      cases m' <;> first | exact M2.elim | exact ⟨φ', F1.trans F2, M2⟩
  have go : ∀ m, MRel φ1 u m → LeavesInM (Fw none) n E.P fn a1.tmps (EPost E w0 φ st.next en st') a1.defers m W1 := fun m M =>
    runDefers_ok K C fr1.ds u st1 u1 st2 φ1 m W1 a1.defers h2 M hfr.ds F1.w F1.new (by have := F1.up; omega) hend
  cases x with
  | exit _ => cases hu
  | normal =>
    simp only [Option.some.injEq] at hu; subst hu
    cases e <;> first | exact hx1.elim | exact go .returning trivial
  | ret =>
    simp only [Option.some.injEq] at hu; subst hu
    cases e <;> first | exact hx1.elim | exact go .returning trivial
  | panic ch =>
    simp only [Option.some.injEq] at hu; subst hu
    cases e <;> first | exact hx1.elim | exact go (.panicking _) hx1

/-- The functions that are taken by a contract. -/
def PrimOk (E : Env) (w0 : World) : Prop := ∀ f args h next v h' next', E.prim f args h next = some (v, h', next') → ∀ φ ls W args', WRel E w0 φ h ls W → ARel φ args args' → (∀ b, next ≤ b → φ b = none) → E.lim ≤ next →
  CallsIn (Fw none) 0 E.P f args' W (EPost E w0 φ next (.ret v) { h := h', next := next', loops := ls })

/-- WHAT THE ABSTRACT MACHINE ANSWERS, THE PROGRAM ANSWERS, ON EVERY TAPE. -/
theorem callF_ok (K : EOk E) (Pr : PrimOk E w0) : ∀ k, CallOk E w0 (callF E k) := by
  intro k
  induction k with
  | zero => exact ⟨fun _ _ _ _ _ h => (by cases h), fun _ _ _ _ _ h => (by cases h)⟩
  | succ k ih =>
    refine ⟨fun f args st en st' hx φ W args' H ha hnew hl => ?_, fun l args st en st' hx φ W H hnew hl => roundF_ok (n := 0) K ih hx H hnew hl⟩
    simp only [callF] at hx
    split at hx
    · rename_i v h next hp
      simp only [Option.pure_def, Option.some.injEq, Prod.mk.injEq] at hx
      obtain ⟨rfl, rfl⟩ := hx
      exact Pr f args st.h st.next v h next hp φ st.loops W args' H ha hnew hl
    · exact funF_ok (n := 0) K ih hx H ha hnew hl
end
end Go.AM
