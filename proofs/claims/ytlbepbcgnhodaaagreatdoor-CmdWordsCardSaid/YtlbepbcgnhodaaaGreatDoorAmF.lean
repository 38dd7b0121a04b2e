/- The abstract machine: its light operations answer as the model's. -/
import Derived.Test.YtlbepbcgnhodaaaGreatDoorAmE
set_option linter.all false
namespace Go.AM
variable [Syms]
open Go.RowKit

section
variable {E : Env} {w0 : World} {φ : Ren} {h : Hp} {ls : Tr LoopA} {W : World}

/-! Types. -/
theorem inf_of (K : EOk E) {t : TypeId} {i : TI} (h : inf E t = some i) : ∃ info, E.P.info? t = some info ∧ info.size = i.size ∧ info.bytes = i.bytes ∧ info.zero = i.zero := by
  obtain ⟨info, d, h1, _, _, h2, h3, h4⟩ := K.ty t i h
  exact ⟨info, h1, h2, h3, h4⟩
theorem und_of (K : EOk E) {t : TypeId} {d : D} (h : und E t = some d) : ∃ d', E.P.underlying t = some d' ∧ absD d' = d := by
  unfold und at h
  cases hi : inf E t with
  | none => rw [hi] at h; cases h
  | some i =>
    rw [hi] at h
    simp only [Option.pure_def, Option.bind_eq_bind, Option.bind_some, Option.some.injEq] at h
    obtain ⟨info, d', _, h1, h2, _⟩ := K.ty t i hi
    exact ⟨d', h1, h2.trans h⟩
theorem run_underlying_of {P : Program} {t : TypeId} {d : TypeDesc} (h : P.underlying t = some d) (w : World) : (underlying t).run P w = .ok d w := by
  simp [underlying, h]
theorem run_typeInfo_of {P : Program} {t : TypeId} {d : TypeInfo} (h : P.info? t = some d) (w : World) : (typeInfo t).run P w = .ok d w := by
  simp [typeInfo, h]
theorem run_sizeOf_of (K : EOk E) {t : TypeId} {i : TI} (h : inf E t = some i) (w : World) : (sizeOf t).run E.P w = .ok i.size w := by
  obtain ⟨info, h1, h2, _⟩ := inf_of K h
  simp [sizeOf, run_typeInfo_of h1, h2]
theorem run_zero_of (K : EOk E) {t : TypeId} {z : Value} (h : zeroV E t = some z) (w : World) : (zeroValue t).run E.P w = .ok z w ∧ plain z = true := by
  unfold zeroV at h
  cases hi : inf E t with
  | none => rw [hi] at h; cases h
  | some i =>
    rw [hi] at h
    simp only [ofOpt, Option.bind_eq_bind, Option.bind_some] at h
    obtain ⟨info, h1, _, _, h4⟩ := inf_of K hi
    refine ⟨by simp [zeroValue, run_typeInfo_of h1, h4, h], K.zero t i z hi h⟩
theorem isAgg_of {d' : TypeDesc} {d : D} (h : absD d' = d) : (match d' with | .struct _ | .array _ _ => true | _ => false) = isAggD d := by
  subst h; cases d' <;> rfl
theorem run_isAgg_of (K : EOk E) {t : TypeId} {d : D} (h : und E t = some d) (w : World) : (isAgg t).run E.P w = .ok (isAggD d) w := by
  obtain ⟨d', h1, h2⟩ := und_of K h
  rw [← isAgg_of h2]
  simp only [isAgg, Sem.run_bind, run_underlying_of h1, Result.andThen_ok]
  cases d' <;> rfl

/-! Operands. -/
theorem ev_rel (H : WRel E w0 φ h ls W) {fr : Tr Value} {n : Nat} {a : Act} (hf : FrRel φ fr n a.tmps) {x : Operand} {v : Value} (he : ev E h fr x = some v) : VRel φ v (a.eval x) := by
  cases x with
  | tmp t =>
    simp only [ev, ofOpt] at he
    obtain ⟨v', h1, h2⟩ := hf.2 t v he
    simp only [Act.eval, Array.getD_eq_getD_getElem?, h1]; exact h2
  | const c =>
    simp only [ev] at he
    cases hp : plain c with
    | false => rw [hp] at he; cases he
    | true => rw [hp] at he; simp only [cond_true, Option.some.injEq] at he; subst he; exact plain_refl hp φ
  | global g =>
    simp only [ev] at he
    cases hp : Nat.blt g E.ng && (h.get g).isSome with
    | false => rw [hp] at he; cases he
    | true =>
      rw [hp] at he; simp only [cond_true, Option.some.injEq] at he; subst he
      rw [Bool.and_eq_true] at hp
      obtain ⟨e, h1, h2, h3⟩ := H.glob g (by simpa using hp.1) hp.2
      have := VRel.ptr (φ := φ) (o := 0) h1
      rw [h2, h3] at this
      exact this
  | func f => simp only [ev, Option.some.injEq] at he; subst he; exact plain_refl rfl φ

theorem evs_rel (H : WRel E w0 φ h ls W) {fr : Tr Value} {n : Nat} {a : Act} (hf : FrRel φ fr n a.tmps) : ∀ {xs : List Operand} {vs : List Value}, evs E h fr xs = some vs → LRel φ vs (xs.map a.eval)
  | [], vs, he => by simp only [evs, Option.some.injEq] at he; subst he; exact .nil
  | x :: xs, vs, he => by
    simp only [evs, Option.pure_def, Option.bind_eq_bind, Option.bind_eq_some_iff, Option.some.injEq] at he
    obtain ⟨v, h1, us, h2, rfl⟩ := he
    exact .cons (ev_rel H hf h1) (evs_rel H hf h2)

/-! Reading. -/
theorem cellsAt_rel (H : WRel E w0 φ h ls W) {b : Nat} {e : Ent} (hb : φ b = some e) {c t f} (hc : cellsAt h b = some (c, t, f)) :
    h.get b = some (.cells c t f) ∧ ∃ c' f', W.heap[e.r]? = some (.cells c' t f') ∧ CRel E φ e c t f c' f' := by
  unfold cellsAt at hc
  split at hc
  · rename_i c1 t1 f1 hg
    simp only [Option.some.injEq, Prod.mk.injEq] at hc
    obtain ⟨rfl, rfl, rfl⟩ := hc
    obtain ⟨o', h1, h2⟩ := H.obj b e _ hb hg
    refine ⟨hg, ?_⟩
    cases o' with
    | cells c' t' f' => obtain ⟨h3, h4⟩ := h2; subst h3; exact ⟨c', f', h1, h4⟩
    | _ => exact h2.elim
  · cases hc
  · cases hc

theorem cells_rel {e : Ent} {c t f c' f'} (k : CRel E φ e c t f c' f') {off n : Nat} (hle : off + n ≤ c.size) : LRel φ ((c.toList.drop off).take n) ((c'.toList.drop (e.o + off)).take n) := by
  have h1 := k.asz; have h2 := k.csz; have h3 := k.le
  refine LRel.of ?_ fun i v w hv hw => ?_
  · simp; omega
  · rw [List.getElem?_take] at hv hw
    split at hv
    · rename_i hi
      rw [if_pos hi] at hw
      rw [List.getElem?_drop] at hv hw
      obtain ⟨v', a, b⟩ := k.cell (off + i) v (by simpa using hv)
      have : c'[e.o + (off + i)]? = some w := by simpa [Nat.add_assoc] using hw
      rw [a] at this; injection this with this; exact this ▸ b
    · cases hv

theorem loadC_rel (H : WRel E w0 φ h ls W) {a : Addr} {e : Ent} (ha : φ a.block = some e) (hs : a.spot = none) {n : Nat} {cs : Array Value} (hl : loadC h a n = some cs) :
    ∃ cs', (loadCells ⟨e.r, e.o + a.off, none⟩ n).run E.P W = .ok cs' W ∧ ARel φ cs cs' := by
  simp only [loadC, Option.pure_def, Option.bind_eq_bind, Option.bind_eq_some_iff] at hl
  obtain ⟨⟨c, t, f⟩, h1, h2⟩ := hl
  obtain ⟨hg, c', f', h3, k⟩ := cellsAt_rel H ha h1
  simp only [hs, Option.isNone_none, Bool.true_and] at h2
  cases hb : Nat.ble (a.off + n) c.size with
  | false => rw [hb] at h2; cases h2
  | true =>
    rw [hb] at h2; simp only [cond_true, Option.some.injEq] at h2; subst h2
    have hle : a.off + n ≤ c.size := Nat.le_of_ble_eq_true hb
    have h4 := k.asz; have h5 := k.csz; have h6 := k.le
    exact ⟨_, run_loadCells h3 (by omega), cells_rel k hle⟩

theorem loadV_rel (K : EOk E) (H : WRel E w0 φ h ls W) {t : TypeId} {a : Addr} {e : Ent} (ha : φ a.block = some e) (hs : a.spot = none) {v : Value} (hl : loadV E h t a = some v) :
    ∃ v', (loadVar t ⟨e.r, e.o + a.off, none⟩).run E.P W = .ok v' W ∧ VRel φ v v' := by
  simp only [loadV, Option.pure_def, Option.bind_eq_bind, Option.bind_eq_some_iff] at hl
  obtain ⟨d, hd, hl⟩ := hl
  simp only [loadVar, Sem.run_bind, run_isAgg_of K hd, Result.andThen_ok]
  cases hda : isAggD d with
  | true =>
    rw [hda] at hl
    simp only [cond_true, Option.bind_eq_some_iff, Option.some.injEq] at hl
    obtain ⟨i, hi, cs, hc, rfl⟩ := hl
    obtain ⟨cs', h1, h2⟩ := loadC_rel H ha hs hc
    refine ⟨.agg cs', ?_, .agg_of h2⟩
    simp [run_sizeOf_of K hi, h1]
  | false =>
    rw [hda] at hl
    simp only [cond_false, Option.bind_eq_some_iff] at hl
    obtain ⟨⟨c, t', f⟩, h1, h2⟩ := hl
    obtain ⟨hg, c', f', h3, k⟩ := cellsAt_rel H ha h1
    simp only [hs, Option.isNone_none, cond_true, ofOpt] at h2
    obtain ⟨v', h4, h5⟩ := k.cell _ _ h2
    refine ⟨v', ?_, h5⟩
    have : W.cell? ⟨e.r, e.o + a.off, none⟩ = some v' := by rw [cell_mk W _ _ h3]; exact h4
    simp [run_load_cell this]

theorem bytes_rel : ∀ {c : List Value} {bs : List UInt8}, bytesOfA c = some bs → ∃ l : List Int, c = l.map (fun n => Value.int .u8 n) ∧ bs = l.map fun n => UInt8.ofNat n.toNat
  | [], bs, h => by simp only [bytesOfA, Option.some.injEq] at h; subst h; exact ⟨[], rfl, rfl⟩
  | v :: c, bs, h => by
    unfold bytesOfA at h
    split at h
    · rename_i heq; cases heq
    · rename_i n rest heq
      injection heq with h1 h2
      subst h1; subst h2
      simp only [Option.pure_def, Option.bind_eq_bind, Option.bind_eq_some_iff, Option.some.injEq] at h
      obtain ⟨r, hr, rfl⟩ := h
      obtain ⟨l, rfl, rfl⟩ := bytes_rel hr
      exact ⟨n :: l, rfl, rfl⟩
    · cases h

theorem ints_rel {l : List Int} : ∀ {m : List Value}, LRel φ (l.map (fun n => Value.int .u8 n)) m → m = l.map (fun n => Value.int .u8 n) := by
  induction l with
  | nil => intro m h; cases h; rfl
  | cons x xs ih => intro m h; cases h with | cons a b => cases a; rw [ih b]; rfl

/-! Maps. -/
theorem scalar_plain {v : Value} (h : scalar v = true) : plain v = true := by cases v <;> first | rfl | (simpa [scalar, plain, plainN] using h) | (simp [scalar] at h)
theorem keyOk_scalar {d : D} {k : Value} (h : keyOk d k = true) : scalar k = true := by
  unfold keyOk at h; split at h <;> first | rfl | exact h | cases h
theorem keyEq_now {d' : TypeDesc} {k x : Value} {b : Bool} (hk : keyOk (absD d') k = true) (h : keyEq k x = some b) : Instr.sameNow d' k x = some b ∧ scalar x = true := by
  unfold keyEq at h
  split at h
  · rename_i j a k' c
    by_cases hjk : j = k'
    · subst hjk
      simp only [decide_true, cond_true, Option.some.injEq] at h
      refine ⟨?_, rfl⟩
      cases d' <;> simp_all [Instr.sameNow, absD, keyOk]
    · simp [hjk, fail] at h
  · rename_i a c
    cases hp : (isPh a || isPh c) with
    | true => rw [hp] at h; cases h
    | false =>
      rw [hp] at h
      simp only [cond_false, Option.some.injEq] at h
      simp only [Bool.or_eq_false_iff] at hp
      refine ⟨?_, by simp [scalar, hp.2]⟩
      cases d' <;> simp_all [Instr.sameNow, absD, keyOk]
  · rename_i a c
    simp only [Option.some.injEq] at h
    refine ⟨?_, rfl⟩
    cases d' <;> simp_all [Instr.sameNow, absD, keyOk]
  · cases h

theorem ba_beq {a b : ByteArray} (h : (a == b) = true) : a = b := by
  cases a with | mk x => cases b with | mk y =>
  have : (x == y) = true := h
  rw [eq_of_beq this]
theorem keyEq_true {k x : Value} (h : keyEq k x = some true) : x = k := by
  cases k <;> cases x <;> simp only [keyEq, fail, Option.some.injEq, reduceCtorEq] at h
  case int.int j a k b =>
    by_cases hjk : j = k
    · subst hjk; simp only [decide_true, cond_true, Option.some.injEq, beq_iff_eq] at h; rw [h]
    · simp [hjk] at h
  case string.string s t =>
    cases hp : (isPh s || isPh t) with
    | true => rw [hp] at h; cases h
    | false => rw [hp] at h; simp only [cond_false, Option.some.injEq] at h; rw [ba_beq h]
  case bool.bool => rw [eq_of_beq h]

theorem findA_now {d' : TypeDesc} {k : Value} (hk : keyOk (absD d') k = true) {es es' : List MapEntry} (hr : ERel φ es es') : ∀ {i : Nat} {r : Option (Nat × Value)}, findA k es i = some r →
    match r with
    | none => Instr.findNow d' k es' i = some none
    | some (j, v) => ∃ v', Instr.findNow d' k es' i = some (some (j, v')) ∧ VRel φ v v' ∧ i ≤ j ∧ ∃ e, es[j - i]? = some e ∧ e.val = v ∧ ∃ e', es'[j - i]? = some e' ∧ e'.val = v' ∧ e'.key = k := by
  induction hr with
  | nil => intro i r h; simp only [findA, Option.some.injEq] at h; subst h; rfl
  | @cons e e' es es' hkk hv hb _ ih =>
    intro i r h
    simp only [findA, Option.pure_def, Option.bind_eq_bind, Option.bind_eq_some_iff] at h
    obtain ⟨b, h1, h2⟩ := h
    obtain ⟨h3, h4⟩ := keyEq_now hk h1
    have h5 : e'.key = e.key := plain_eq (scalar_plain h4) hkk
    cases b with
    | true =>
      simp only [cond_true, Option.some.injEq] at h2
      subst h2
      refine ⟨e'.val, by simp only [Instr.findNow, h5, h3], hv, Nat.le_refl _, e, by simp, rfl, e', by simp, rfl, ?_⟩
      rw [h5]
      exact keyEq_true h1
    | false =>
      simp only [cond_false] at h2
      have h6 := ih h2
      cases r with
      | none => simpa only [Instr.findNow, h5, h3] using h6
      | some p =>
        obtain ⟨j, v⟩ := p
        obtain ⟨v', q1, q2, q3, x, q4, q5, x', q6, q7, q8⟩ := h6
        refine ⟨v', by simpa only [Instr.findNow, h5, h3] using q1, q2, by omega, x, ?_, q5, x', ?_, q7, q8⟩
        · have : j - i = (j - (i + 1)) + 1 := by omega
          rw [this]; simpa using q4
        · have : j - i = (j - (i + 1)) + 1 := by omega
          rw [this]; simpa using q6

theorem run_checkKeyN {P : Program} {t : TypeId} {d' : TypeDesc} (ht : P.underlying t = some d') {k : Value} (hk : keyOk (absD d') k = true) (empty : Bool) (w : World) (n : Nat) :
    (Instr.checkKey empty (n + 1) t k).run P w = .ok () w := by
  simp only [Instr.checkKey, Sem.run_bind, run_underlying_of ht, Result.andThen_ok]
  cases d' <;> cases k <;> first | rfl | (simp [keyOk, absD] at hk)

theorem run_checkKey {P : Program} {t : TypeId} {d' : TypeDesc} (ht : P.underlying t = some d') {k : Value} (hk : keyOk (absD d') k = true) (empty : Bool) (w : World) :
    (Instr.checkKey empty 10000 t k).run P w = .ok () w := run_checkKeyN ht hk empty w 9999

theorem run_findKey {P : Program} {t : TypeId} {d' : TypeDesc} (ht : P.underlying t = some d') {k : Value} {es : List MapEntry} {r : Option (Nat × Value)} (h : Instr.findNow d' k es 0 = some r) (w : World) :
    (Instr.findKey t k es).run P w = .ok r w := by
  simp only [Instr.findKey, Sem.run_bind, run_underlying_of ht, Result.andThen_ok, h, Sem.run_pure]

theorem mapAt_rel (H : WRel E w0 φ h ls W) {r : Nat} {e : Ent} (hr : φ r = some e) {es : Array MapEntry} {n : Nat} (hm : mapAt h r = some (es, n)) :
    h.get r = some (.map es n) ∧ ∃ es', W.heap[e.r]? = some (.map es' n) ∧ ERel φ es.toList es'.toList := by
  unfold mapAt at hm
  split at hm
  · rename_i es1 n1 hg
    simp only [Option.some.injEq, Prod.mk.injEq] at hm
    obtain ⟨rfl, rfl⟩ := hm
    obtain ⟨o', h1, h2⟩ := H.obj r e _ hr hg
    refine ⟨hg, ?_⟩
    cases o' with
    | map es' n' => obtain ⟨h3, h4⟩ := h2; subst h3; exact ⟨es', h1, h4⟩
    | _ => exact h2.elim
  · cases hm
theorem run_getObj_of {P : Program} {r : Nat} {o : Obj} (hr : W.heap[r]? = some o) (hc : ∀ c t f, o ≠ .cells c t f) : (getObj r).run P W = .ok o W := by
  cases o <;> first | (simp only [getObj, Sem.run, hr]; done) | exact absurd rfl (hc _ _ _)
theorem run_setObj_of {P : Program} {r : Nat} {o : Obj} (x : Obj) (hr : W.heap[r]? = some o) (hc : ∀ c t f, o ≠ .cells c t f) : (setObj r x).run P W = .ok () (setB W r x) := by
  cases o <;> first | (simp only [setObj, Sem.run, hr, setB]; done) | exact absurd rfl (hc _ _ _)
theorem run_newRow {P : Program} (t : TypeId) (c : Array Value) : (newRow t c).run P W = .ok ⟨W.heap.size, 0, none⟩ (pushW W (.cells c t)) := rfl
theorem run_newObj {P : Program} (o : Obj) : (newObj o).run P W = .ok W.heap.size (pushW W o) := rfl

def eszOf (E : Env) (t : TypeId) : Nat := match E.ty.get t with | some i => i.size | none => 0
theorem new_cells {ψ : Ren} {cs cs' : Array Value} (elem : TypeId) (r : Nat) (hr : ARel ψ cs cs') :
    ORel E ψ ⟨r, 0, cs.size, eszOf E elem, cs.size⟩ (.cells cs elem rigid) (.cells cs' elem (0, 0)) := by
  refine ⟨rfl, ⟨rfl, hr.size.symm, by simp, fun _ => by simp, fun i v hv => ?_, fun i _ => by simp, Nat.le_refl _, fun ti hti => by simp [eszOf, hti]⟩⟩
  obtain ⟨w, a, b⟩ := hr.get' i v hv
  exact ⟨w, by simpa using a, b⟩

/-- What a light operation's soundness says. -/
def LPost (E : Env) (w0 : World) (φ : Ren) (ls : Tr LoopA) (W : World) (id : Nat) (v : Value) (ob : Option Obj) (r : Result Next) : Prop :=
  ∃ φ' v' W', φ.le φ' ∧ (∀ b, b ≠ id → φ' b = φ b) ∧ r = .ok (.value v') W' ∧ VRel φ' v v' ∧
    ∀ σ, WRel E w0 φ σ ls W → (∀ x, ob = some x → σ.get id = some x) → WRel E w0 φ' σ ls W'

theorem LPost.pure {id : Nat} {v v' : Value} {r : Result Next} (hr : r = .ok (.value v') W) (hv : VRel φ v v') : LPost E w0 φ ls W id v none r :=
  ⟨φ, v', W, φ.le_refl, fun _ _ => rfl, hr, hv, fun _ k _ => k⟩
theorem LPost.new {id : Nat} (hid : φ id = none) (hl : E.lim ≤ id) {e : Ent} (he : e.r = W.heap.size) {v v' : Value} {o o' : Obj} {r : Result Next} (n : Nat)
    (hr : r = .ok (.value v') { pushW W o' with drawn := n }) (hv : VRel (φ.upd id e) v v') (ho : ORel E (φ.upd id e) e o o') : LPost E w0 φ ls W id v (some o) r :=
  ⟨φ.upd id e, v', _, Ren.le_upd hid e, fun _ hb => Ren.upd_ne _ _ hb, hr, hv, fun _ k hs => (k.push hid hl he (hs o rfl) ho).drawn n⟩
theorem ptrTo_rel {id : Nat} {e : Ent} (he : e.o = 0) : VRel (φ.upd id e) (ptrTo id) (.pointer (some ⟨e.r, 0, none⟩)) := by
  have := VRel.ptr (φ := φ.upd id e) (o := 0) (Ren.upd_same φ id e)
  rw [he] at this; exact this
end
end Go.AM
