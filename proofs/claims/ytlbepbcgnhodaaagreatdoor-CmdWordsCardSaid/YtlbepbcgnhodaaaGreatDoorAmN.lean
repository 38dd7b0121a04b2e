/- The abstract machine: its heavy operations (stores, maps, iterators). -/
import Derived.Test.YtlbepbcgnhodaaaGreatDoorAmM
set_option linter.all false
namespace Go.AM
variable [Syms]
open Go.RowKit

inductive TRel (φ : Ren) : Target → Target → Prop
  | fn {f g : Fn} {c d : Array Value} (hf : FnRel φ f g) (hc : ARel φ c d) : TRel φ (.fn f c) (.fn g d)
  | collected {b : Nat} {e : Ent} (h : φ b = some e) : TRel φ (.collected b) (.collected e.r)
theorem TRel.mono {φ ψ : Ren} (h : φ.le ψ) {a b : Target} (k : TRel φ a b) : TRel ψ a b := by
  cases k with
  | fn hf hc => exact .fn (hf.mono h) (LRel.mono h hc)
  | collected hb => exact .collected (h _ _ hb)
def DRel (φ : Ren) (d d' : Deferred) : Prop := TRel φ d.target d'.target ∧ ARel φ d.args d'.args

/-- What a heavy operation's soundness says. -/
def HPost (E : Env) (w0 : World) (φ : Ren) (ls : Tr LoopA) (W : World) (id : Nat) (h' : Hp) (res : Result Next) : HRes → Prop
  | .value v => ∃ φ' v' W', φ.le φ' ∧ (∀ b, b ≠ id → φ' b = φ b) ∧ (res = .ok (.value v') W' ∨ (res = .ok .skip W' ∧ v' = undef)) ∧ VRel φ' v v' ∧ WRel E w0 φ' h' ls W'
  | .panic v => ∃ v', res = .halt (.panic v') W ∧ VRel φ v v' ∧ WRel E w0 φ h' ls W
  | .enter f args => ∃ args', res = .ok (.enter f args') W ∧ ARel φ args args' ∧ WRel E w0 φ h' ls W
  | .round l args => WRel E w0 φ h' ls W ∧ ∀ lp, ls.get l = some lp → lp.params.size = args.size → ∃ args' e L, φ l = some e ∧ W.heap[e.r]? = some (.loop L) ∧ LpRel φ lp L ∧ ARel φ args args' ∧
      res = .ok (.round e.r L.fn ((L.params.zip args').foldl (fun tmps (t, a) => tmps.setIfInBounds t a) L.tmps) L.assign L.body) W
  | .defer d => ∃ d', res = .ok (.defer d') W ∧ DRel φ d d' ∧ WRel E w0 φ h' ls W

section
variable {E : Env} {w0 : World} {φ : Ren} {h h' : Hp} {ls : Tr LoopA} {W : World} {fr : Tr Value} {n : Nat} {a : Act} {id : Nat} {o : Oper} {r : HRes}

theorem HPost.skip {W' : World} {res : Result Next} (hr : res = .ok .skip W') (k : WRel E w0 φ h' ls W') : HPost E w0 φ ls W id h' res (.value undef) :=
  ⟨φ, undef, W', φ.le_refl, fun _ _ => rfl, .inr ⟨hr, rfl⟩, plain_refl rfl φ, k⟩
theorem HPost.val {W' : World} {res : Result Next} {v v' : Value} (hr : res = .ok (.value v') W') (hv : VRel φ v v') (k : WRel E w0 φ h' ls W') : HPost E w0 φ ls W id h' res (.value v) :=
  ⟨φ, v', W', φ.le_refl, fun _ _ => rfl, .inl hr, hv, k⟩

theorem all_one {vs vs' : List Value} (h : LRel φ vs vs') (h1 : vs.all one = true) : vs'.all one = true := by
  induction h with
  | nil => rfl
  | cons a _ ih => simp only [List.all_cons, Bool.and_eq_true] at h1 ⊢; exact ⟨by rw [a.one]; exact h1.1, ih h1.2⟩

theorem storeC_rel (H : WRel E w0 φ h ls W) {ad : Addr} {e : Ent} (he : φ ad.block = some e) (_ : ad.spot = none) {vs vs' : List Value} (hv : LRel φ vs vs') (hst : storeC E.lim h ad vs = some h') :
    ∃ W', (storeCells ⟨e.r, e.o + ad.off, none⟩ vs').run E.P W = .ok () W' ∧ WRel E w0 φ h' ls W' := by
  simp only [storeC, Option.pure_def, Option.bind_eq_bind, Option.bind_eq_some_iff] at hst
  obtain ⟨⟨c, t, f⟩, h1, h2⟩ := hst
  obtain ⟨hg, c', f', h3, k⟩ := cellsAt_rel H he h1
  cases hok : (ad.spot.isNone && Nat.ble (ad.off + vs.length) c.size && Nat.ble E.lim ad.block && vs.all one) with
  | false => simp only [hok, cond_false] at h2; cases h2
  | true =>
    simp only [hok, cond_true, Option.some.injEq] at h2
    subst h2
    simp only [Bool.and_eq_true] at hok
    obtain ⟨⟨⟨_, o2⟩, o3⟩, o4⟩ := hok
    have o2 := Nat.le_of_ble_eq_true o2
    have o3 := Nat.le_of_ble_eq_true o3
    have hl := hv.length
    have k1 := k.asz; have k2 := k.csz; have k3 := k.le
    refine ⟨_, run_storeCells vs' 0 W c' h3 (by omega) k.free (all_one hv o4), ?_⟩
    refine H.put he o3 (by rw [hg]; rfl) ⟨rfl, ⟨by rw [wr_size]; exact k1, by rw [wr_size]; exact k2, k3, k.rigid, ?_, by rw [wr_size]; exact k.free, k.fle, k.elem⟩⟩
    intro i v hi
    rw [wr_get _ _ _ _ (by omega)] at hi
    rw [wr_get _ _ _ _ (by omega), ← hl]
    simp only [Nat.add_zero]
    split at hi
    · rename_i hr
      obtain ⟨w, q1, q2⟩ := hv.get _ _ hi
      refine ⟨w, ?_, q2⟩
      rw [if_pos (by omega), ← q1]
      congr 1; omega
    · rename_i hr
      obtain ⟨w, q1, q2⟩ := k.cell _ _ hi
      exact ⟨w, by rw [if_neg (by omega)]; exact q1, q2⟩

theorem h_store (K : EOk E) (H : WRel E w0 φ h ls W) (hf : FrRel φ fr n a.tmps) {t : TypeId} {x y : Operand} (ho : o.op = .store t x y) (hx : heavy E h fr id o = some (r, h')) :
    HPost E w0 φ ls W id h' ((execOp a.eval o).run E.P W) r := by
  simp only [heavy, ho, Option.pure_def, Option.bind_eq_bind, Option.bind_eq_some_iff] at hx
  obtain ⟨u1, h1, u2, h2, hx⟩ := hx
  split at hx
  · rename_i ad
    simp only [storeV, Option.pure_def, Option.bind_eq_bind, Option.bind_eq_some_iff, Option.some.injEq, Prod.mk.injEq] at hx
    obtain ⟨h2', ⟨i, hi, hst⟩, rfl, rfl⟩ := hx
    cases hsz : u1.cells.size.beq i.size with
    | false => rw [hsz] at hst; cases hst
    | true =>
      rw [hsz] at hst
      simp only [cond_true] at hst
      have hsz := Nat.eq_of_beq_eq_true hsz
      obtain ⟨e, he, hsp, e1⟩ := (ev_rel H hf h2).ptr_inv
      have hc := (ev_rel H hf h1).cells
      obtain ⟨W', q1, q2⟩ := storeC_rel H he hsp hc hst
      refine HPost.skip ?_ q2
      have e2 : (a.eval y).cells.size = i.size := by rw [← hc.size]; exact hsz
      have : (Instr.storeAt t (a.eval x) (a.eval y)).run E.P W = .ok () W' := by
        simp only [Instr.storeAt, Sem.run_bind, e1, Instr.sureAddr, Sem.run_pure, Result.andThen_ok, storeVar, run_sizeOf_of K hi]
        rw [if_neg (by simpa using e2)]
        exact q1
      simp [execOp, ho, this]
  · cases hx

/-! Maps. -/
theorem ERel.append {a b c d : List MapEntry} (h : ERel φ a b) (k : ERel φ c d) : ERel φ (a ++ c) (b ++ d) := by
  induction h with
  | nil => exact k
  | cons hk hv hb _ ih => exact .cons hk hv hb ih
theorem ERel.modify {a b : List MapEntry} (h : ERel φ a b) (i : Nat) {f g : MapEntry → MapEntry}
    (hfg : ∀ e e', VRel φ e.key e'.key → VRel φ e.val e'.val → e.born = e'.born → VRel φ (f e).key (g e').key ∧ VRel φ (f e).val (g e').val ∧ (f e).born = (g e').born) : ERel φ (a.modify i f) (b.modify i g) := by
  induction h generalizing i with
  | nil => simp; exact .nil
  | cons hk hv hb t ih =>
    cases i with
    | zero => obtain ⟨p, q, s⟩ := hfg _ _ hk hv hb; exact .cons p q s t
    | succ i => exact .cons hk hv hb (ih i)
theorem ERel.eraseIdx {a b : List MapEntry} (h : ERel φ a b) (i : Nat) : ERel φ (a.eraseIdx i) (b.eraseIdx i) := by
  induction h generalizing i with
  | nil => simp; exact .nil
  | cons hk hv hb t ih =>
    cases i with
    | zero => exact t
    | succ i => exact .cons hk hv hb (ih i)

theorem sameBits_refl {k : Value} (hk : scalar k = true) (m : Nat) : Instr.sameBits m k k = true := by
  cases k <;> first | (simp [scalar] at hk; done) | (simp [Instr.sameBits]; done) | skip
  case string s => 
    have : (s == s) = true := by cases s with | mk d => exact (beq_self_eq_true d : (d == d) = true)
    simp [Instr.sameBits, this]
theorem run_keyStays {P : Program} {k : Value} (hk : scalar k = true) (w : World) : (Instr.keyThatStays k k).run P w = .ok k w := by
  unfold Instr.keyThatStays
  rw [if_pos (sameBits_refl hk 10000)]; rfl

theorem updA_rel (K : EOk E) (H : WRel E w0 φ h ls W) {t : TypeId} {m m' k v v' : Value} (hm : VRel φ m m') (hv : VRel φ v v') (hu : updA E h t m k v = some h') :
    scalar k = true ∧ ∃ W', (Instr.mapUpdate t m' k v').run E.P W = .ok () W' ∧ WRel E w0 φ h' ls W' := by
  simp only [updA, Option.pure_def, Option.bind_eq_bind, Option.bind_eq_some_iff] at hu
  obtain ⟨d, hd, hu⟩ := hu
  obtain ⟨d', hd1, hd2⟩ := und_of K hd
  split at hu
  · rename_i kt el rr
    simp only [Option.bind_eq_some_iff] at hu
    obtain ⟨kd, hkd, ⟨es, clock⟩, hes, hu⟩ := hu
    obtain ⟨kd', hk1, hk2⟩ := und_of K hkd
    obtain ⟨e, he, rfl⟩ := hm.map_inv
    obtain ⟨hg, es', hw, hrel⟩ := mapAt_rel H he hes
    cases hok : (keyOk kd k && Nat.ble E.lim rr) with
    | false => simp only [hok, cond_false] at hu; cases hu
    | true =>
      simp only [hok, cond_true, Option.bind_eq_some_iff] at hu
      rw [Bool.and_eq_true] at hok
      obtain ⟨q, hq, hu⟩ := hu
      have hks := keyOk_scalar hok.1
      have hlim := Nat.le_of_ble_eq_true hok.2
      have hok1 := hok.1
      rw [← hk2] at hok1
      have hfn := findA_now hok1 hrel hq
      have hne : ∀ c t f, (Obj.map es' clock) ≠ .cells c t f := by intros; simp
      cases d' <;> simp only [absD, reduceCtorEq] at hd2
      injection hd2 with hd2 hd3; rw [hd2, hd3] at hd1; clear hd2 hd3
      refine ⟨hks, ?_⟩
      cases q with
      | none =>
        simp only [Option.some.injEq] at hu
        subst hu
        refine ⟨_, ?_, H.put he hlim (by rw [hg]; rfl) (o' := .map (es'.push { key := k, val := v', born := clock }) (clock + 1)) ⟨rfl, ?_⟩⟩
        · simp only [Instr.mapUpdate, Sem.run_bind, run_underlying_of hd1, Result.andThen_ok, run_getObj_of (P := E.P) hw hne, run_checkKey hk1 hok1, run_findKey hk1 hfn, run_setObj_of (P := E.P) _ hw hne]
        · simp only [Array.toList_push]
          exact hrel.append (.cons (plain_refl (scalar_plain hks) φ) hv rfl .nil)
      | some p =>
        obtain ⟨i, u⟩ := p
        obtain ⟨u', g1, g2, g3, x, g4, g5, x', g6, g7, g8⟩ := hfn
        simp only [Option.some.injEq] at hu
        subst hu
        have hkey : ((es'[i]?).map (·.key)).getD k = k := by
          have : es'[i]? = some x' := by simpa using g6
          rw [this]; exact g8
        refine ⟨_, ?_, H.put he hlim (by rw [hg]; rfl) (o' := .map (es'.modify i fun e => { e with key := k, val := v' }) clock) ⟨rfl, ?_⟩⟩
        · simp only [Instr.mapUpdate, Sem.run_bind, run_underlying_of hd1, Result.andThen_ok, run_getObj_of (P := E.P) hw hne, run_checkKey hk1 hok1, run_findKey hk1 g1, hkey, run_keyStays hks, run_setObj_of (P := E.P) _ hw hne]
        · simp only [Array.toList_modify]
          exact hrel.modify i fun _ _ _ _ hb => ⟨plain_refl (scalar_plain hks) φ, hv, hb⟩
  · cases hu

theorem h_update (K : EOk E) (H : WRel E w0 φ h ls W) (hf : FrRel φ fr n a.tmps) {t : TypeId} {x y z : Operand} (ho : o.op = .mapUpdate t x y z ∨ o.op = .insert t x y z) (hx : heavy E h fr id o = some (r, h')) :
    HPost E w0 φ ls W id h' ((execOp a.eval o).run E.P W) r := by
  rcases ho with ho | ho <;>
  · simp only [heavy, ho, Option.pure_def, Option.bind_eq_bind, Option.bind_eq_some_iff, Option.some.injEq, Prod.mk.injEq] at hx
    obtain ⟨m, h1, k, h2, v, h3, h2', hu, rfl, rfl⟩ := hx
    obtain ⟨hk, W', q1, q2⟩ := updA_rel K H (ev_rel H hf h1) (ev_rel H hf h3) hu
    refine HPost.skip ?_ q2
    have e2 : a.eval y = k := plain_eq (scalar_plain hk) (ev_rel H hf h2)
    simp [execOp, ho, e2, q1]

theorem born_rel {es es' : List MapEntry} (hr : ERel φ es es') : ∀ (i : Nat), (es[i]?).map (·.born) = (es'[i]?).map (·.born) := by
  induction hr with
  | nil => intro i; rfl
  | cons hk hv hb t ih => intro i; cases i with
    | zero => simp [hb]
    | succ i => simpa using ih i

theorem h_mapEntry (K : EOk E) (H : WRel E w0 φ h ls W) (hf : FrRel φ fr n a.tmps) {t : TypeId} {x y : Operand} (ho : o.op = .mapEntry t x y) (hx : heavy E h fr id o = some (r, h')) :
    HPost E w0 φ ls W id h' ((execOp a.eval o).run E.P W) r := by
  simp only [heavy, ho, Option.pure_def, Option.bind_eq_bind, Option.bind_eq_some_iff] at hx
  obtain ⟨m, h1, k, h2, d, hd, hx⟩ := hx
  obtain ⟨d', hd1, hd2⟩ := und_of K hd
  split at hx
  · rename_i kt el rr
    simp only [Option.bind_eq_some_iff] at hx
    obtain ⟨kd, hkd, z, hz, ⟨es, clock⟩, hes, hx⟩ := hx
    obtain ⟨kd', hk1, hk2⟩ := und_of K hkd
    obtain ⟨z1, z2⟩ := run_zero_of K hz W
    obtain ⟨e, he, em⟩ := (ev_rel H hf h1).map_inv
    obtain ⟨hg, es', hw, hrel⟩ := mapAt_rel H he hes
    cases hok : (keyOk kd k && Nat.ble E.lim rr) with
    | false => simp only [hok, cond_false] at hx; cases hx
    | true =>
      simp only [hok, cond_true, Option.bind_eq_some_iff] at hx
      rw [Bool.and_eq_true] at hok
      obtain ⟨q, hq, hx⟩ := hx
      have hks := keyOk_scalar hok.1
      have hlim := Nat.le_of_ble_eq_true hok.2
      have hok1 := hok.1
      rw [← hk2] at hok1
      have ek : a.eval y = k := plain_eq (scalar_plain hks) (ev_rel H hf h2)
      have hfn := findA_now hok1 hrel hq
      have hne : ∀ c t f, (Obj.map es' clock) ≠ .cells c t f := by intros; simp
      cases d' <;> simp only [absD, reduceCtorEq] at hd2
      injection hd2 with hd2 hd3; rw [hd2, hd3] at hd1; clear hd2 hd3
      cases q with
      | none =>
        simp only [Option.some.injEq, Prod.mk.injEq] at hx
        obtain ⟨rfl, rfl⟩ := hx
        refine HPost.val (v' := .tuple #[z, .int .i64 clock]) ?_ (tup2 (plain_refl z2 φ) (.int _ _)) (H.put he hlim (by rw [hg]; rfl) (o' := .map (es'.push { key := k, val := z, born := clock }) (clock + 1)) ⟨rfl, ?_⟩)
        · simp only [execOp, ho]
          refine run_andThen_value ?_
          simp only [Instr.mapEntry, Sem.run_bind, run_underlying_of hd1, Result.andThen_ok, em, ek, run_getObj_of (P := E.P) hw hne, run_checkKey hk1 hok1, run_findKey hk1 hfn, z1, run_setObj_of (P := E.P) _ hw hne, Sem.run_pure]
          rfl
        · simp only [Array.toList_push]
          exact hrel.append (.cons (plain_refl (scalar_plain hks) φ) (plain_refl z2 φ) rfl .nil)
      | some p =>
        obtain ⟨i, u⟩ := p
        obtain ⟨u', g1, g2, g3, x0, g4, g5, x', g6, g7, g8⟩ := hfn
        simp only [Option.some.injEq, Prod.mk.injEq] at hx
        obtain ⟨rfl, rfl⟩ := hx
        have hkey : ((es'[i]?).map (·.key)).getD k = k := by
          have : es'[i]? = some x' := by simpa using g6
          rw [this]; exact g8
        have hborn : ((es[i]?).map (·.born)).getD 0 = ((es'[i]?).map (·.born)).getD 0 := by
          have := born_rel hrel i
          simp only [Array.getElem?_toList] at this
          rw [this]
        refine HPost.val (v' := .tuple #[u', .int .i64 (((es[i]?).map (·.born)).getD 0 : Nat)]) ?_ (tup2 g2 (.int _ _)) (H.put he hlim (by rw [hg]; rfl) (o' := .map (es'.modify i fun e => { e with key := k }) clock) ⟨rfl, ?_⟩)
        · simp only [execOp, ho]
          refine run_andThen_value ?_
          simp only [Instr.mapEntry, Sem.run_bind, run_underlying_of hd1, Result.andThen_ok, em, ek, run_getObj_of (P := E.P) hw hne, run_checkKey hk1 hok1, run_findKey hk1 g1, hkey, run_keyStays hks, run_setObj_of (P := E.P) _ hw hne, Sem.run_pure, hborn]
          have e6 : es'[i]? = some x' := by simpa using g6
          simp only [e6, Option.map_some, Option.getD_some]
          rfl
        · simp only [Array.toList_modify]
          exact hrel.modify i fun _ _ _ hv hb => ⟨plain_refl (scalar_plain hks) φ, hv, hb⟩
  · cases hx

theorem arr_findIdx {α : Type} (xs : Array α) (p : α → Bool) : xs.findIdx? p = xs.toList.findIdx? p := by cases xs; simp

theorem findIdx_born {es es' : List MapEntry} (hr : ERel φ es es') (s : Int) : es.findIdx? (fun e => (e.born : Int) == s) = es'.findIdx? (fun e => (e.born : Int) == s) := by
  induction hr with
  | nil => rfl
  | cons hk hv hb t ih => simp only [List.findIdx?_cons, hb, ih]

theorem h_entryStore (K : EOk E) (H : WRel E w0 φ h ls W) (hf : FrRel φ fr n a.tmps) {t : TypeId} {x y z : Operand} (ho : o.op = .entryStore t x y z) (hx : heavy E h fr id o = some (r, h')) :
    HPost E w0 φ ls W id h' ((execOp a.eval o).run E.P W) r := by
  simp only [heavy, ho, Option.pure_def, Option.bind_eq_bind, Option.bind_eq_some_iff] at hx
  obtain ⟨m, h1, s, h2, v, h3, si, hsi, hx⟩ := hx
  obtain ⟨kk, _, e2⟩ := asI_rel hsi (ev_rel H hf h2)
  split at hx
  · rename_i rr
    simp only [Option.bind_eq_some_iff, ofOpt] at hx
    obtain ⟨⟨es, clock⟩, hes, i, hi, hx⟩ := hx
    obtain ⟨e, he, em⟩ := (ev_rel H hf h1).map_inv
    obtain ⟨hg, es', hw, hrel⟩ := mapAt_rel H he hes
    cases hok : Nat.ble E.lim rr with
    | false => simp only [hok, cond_false] at hx; cases hx
    | true =>
      simp only [hok, cond_true, Option.some.injEq, Prod.mk.injEq] at hx
      obtain ⟨rfl, rfl⟩ := hx
      have hlim := Nat.le_of_ble_eq_true hok
      have hne : ∀ c t f, (Obj.map es' clock) ≠ .cells c t f := by intros; simp
      have hi' : es'.findIdx? (fun e => (e.born : Int) == si) = some i := by
        rw [arr_findIdx] at hi ⊢; rw [← findIdx_born hrel]; exact hi
      refine HPost.skip (W' := setB W e.r (.map (es'.modify i fun e => { e with val := a.eval z }) clock)) ?_ (H.put he hlim (by rw [hg]; rfl) ⟨rfl, ?_⟩)
      · have : (Instr.entryStore t (a.eval x) (a.eval y) (a.eval z)).run E.P W = .ok () (setB W e.r (.map (es'.modify i fun e => { e with val := a.eval z }) clock)) := by
          simp only [Instr.entryStore, em, e2, asInt, asIntOf, Sem.run_bind, run_getObj_of (P := E.P) hw hne, Result.andThen_ok, Sem.run_pure, hi', run_setObj_of (P := E.P) _ hw hne]
        simp [execOp, ho, this]
      · simp only [Array.toList_modify]
        exact hrel.modify i fun _ _ hk _ hb => ⟨hk, ev_rel H hf h3, hb⟩
  · cases hx
end
end Go.AM
