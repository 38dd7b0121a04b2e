/- The abstract machine: conversions, builds, the light builtins; the soundness of all light operations. -/
import Derived.Test.YtlbepbcgnhodaaaGreatDoorAmK
set_option linter.all false
namespace Go.AM
variable [Syms]
open Go.RowKit

section
variable {E : Env} {w0 : World} {φ : Ren} {h : Hp} {ls : Tr LoopA} {W : World} {fr : Tr Value} {n : Nat} {a : Act} {id : Nat} {o : Oper} {v : Value} {ob : Option Obj}

theorem push_fold : ∀ (l : List Int) (s : ByteArray), l.foldl (fun (r : ByteArray) (n : Int) => r.push (UInt8.ofNat n.toNat)) s = ⟨s.data ++ (l.map fun n => UInt8.ofNat n.toNat).toArray⟩
  | [], s => by simp
  | x :: xs, s => by
    rw [List.foldl_cons, push_fold xs]
    simp [ByteArray.push]

theorem l_convert (K : EOk E) (H : WRel E w0 φ h ls W) (hf : FrRel φ fr n a.tmps) (hid : φ id = none) (hl : E.lim ≤ id) {src dst : TypeId} {x : Operand} (ho : o.op = .convert src dst x) (hx : light E h fr id o = some (v, ob)) :
    LPost E w0 φ ls W id v ob ((execOp a.eval o).run E.P W) := by
  simp only [light, ho, Option.pure_def, Option.bind_eq_bind, Option.bind_eq_some_iff] at hx
  obtain ⟨u1, h1, ds, hds, dd, hdd, hx⟩ := hx
  obtain ⟨ds', hs1, hs2⟩ := und_of K hds
  obtain ⟨dd', hd1, hd2⟩ := und_of K hdd
  have r1 := ev_rel H hf h1
  split at hx
  · -- string to bytes
    rename_i el s
    simp only [Option.bind_eq_some_iff] at hx
    obtain ⟨de, hde, hx⟩ := hx
    obtain ⟨de', he1, he2⟩ := und_of K hde
    split at hx
    · simp only [Option.bind_eq_some_iff] at hx
      obtain ⟨i, hi, hx⟩ := hx
      cases hz0 : (i.size.beq 1 && !isPh s) with
      | false => rw [hz0] at hx; cases hx
      | true =>
        rw [hz0] at hx
        simp only [Bool.and_eq_true, Bool.not_eq_true'] at hz0
        obtain ⟨hz1, hps⟩ := hz0
        simp only [cond_true, Option.some.injEq, Prod.mk.injEq] at hx
        obtain ⟨rfl, rfl⟩ := hx
        have hz1 := Nat.eq_of_beq_eq_true hz1
        have e1 : a.eval x = .string s := r1.string_inv hps
        cases dd' <;> simp only [absD, reduceCtorEq] at hd2
        injection hd2 with hd2; rw [hd2] at hd1; clear hd2
        cases de' <;> simp only [absD, reduceCtorEq] at he2
        injection he2 with he2; subst he2
        have hcap : s.size ≤ (Question.appendCap s.size 0 el).cut (W.tape W.drawn (Question.appendCap s.size 0 el)) := by simp only [Question.cut]; omega
        generalize hcapd : (Question.appendCap s.size 0 el).cut (W.tape W.drawn (Question.appendCap s.size 0 el)) = cap at hcap
        have hsz : s.data.size = s.size := rfl
        have hcs' : ((s.data.map fun (b : UInt8) => Value.int .u8 b.toNat) ++ Array.replicate (cap - s.size) (Value.int .u8 0)).size = cap := by
          simp [hsz]; omega
        generalize hcsd : ((s.data.map fun (b : UInt8) => Value.int .u8 b.toNat) ++ Array.replicate (cap - s.size) (Value.int .u8 0)) = cs' at hcs'
        have hget : ∀ (i : Nat) v, (s.data.map fun (b : UInt8) => Value.int .u8 b.toNat)[i]? = some v → cs'[i]? = some v := by
          intro i v hv
          rw [← hcsd, Array.getElem?_append_left]
          · exact hv
          · rcases Nat.lt_or_ge i (s.data.map fun (b : UInt8) => Value.int .u8 b.toNat).size with h | h
            · exact h
            · rw [Array.getElem?_eq_none h] at hv; cases hv
        have hrun : (convert src dst (.string s)).run E.P W = .ok (.slice (some ⟨W.heap.size, 0, none⟩) s.size cap) { pushW W (.cells cs' el (cap, cap + 1)) with drawn := W.drawn + 1 } := by
          have q1 : (Conv.stringToBytes el s).run E.P W = .ok (.slice (some ⟨W.heap.size, 0, none⟩) s.size cap) { pushW W (.cells cs' el (cap, cap + 1)) with drawn := W.drawn + 1 } := by
            have hch : ∀ k : Nat → Sem Value, (choose (.appendCap s.size 0 el) >>= k).run E.P W = (k cap).run E.P { W with drawn := W.drawn + 1 } := by
              intro k
              rw [Sem.run_bind]
              simp only [choose, Sem.run, Question.forced, Bool.false_eq_true, if_false, hcapd, Result.andThen_ok]
            simp only [Conv.stringToBytes]
            rw [hch]
            simp only [Sem.run_bind, run_newRow, Result.andThen_ok, hcsd]
            have hpush : (pushW { W with drawn := W.drawn + 1 } (.cells cs' el)).heap[W.heap.size]? = some (.cells cs' el (0, 0)) := by rw [pushW_get, if_pos rfl]
            rw [run_markStringish hpush]
            simp only [Result.andThen_ok, Sem.run_pure, beq_self_eq_true, if_true, hcs']
            congr 1
            exact setB_pushW { W with drawn := W.drawn + 1 } _ _
          simp only [convert, Sem.run_bind, run_underlying_of hs1, run_underlying_of hd1, Result.andThen_ok]
          cases ds' <;> simp only [Sem.run_bind, run_underlying_of he1, Result.andThen_ok, q1]
        refine LPost.new hid hl (e := ⟨W.heap.size, 0, s.size, 1, cap⟩) rfl (v' := .slice (some ⟨W.heap.size, 0, none⟩) s.size cap) (o' := .cells cs' el (cap, cap + 1)) (W.drawn + 1) ?_ ?_ ?_
        · simp only [execOp, ho, e1]
          exact run_andThen_value hrun
        · exact VRel.slice (o := 0) (Ren.upd_same φ id _) (.inr ⟨by simp, hcap, by simp, by simp⟩)
        · refine ⟨rfl, ⟨by simp [hsz], hcs', by simpa using hcap, fun hh => by simp [elastic] at hh, fun i v hv => ?_, fun i hi => by simp; omega, by simp, fun ti hti => ?_⟩⟩
          · refine ⟨v, by simpa using hget i v hv, ?_⟩
            rw [Array.getElem?_map] at hv
            cases hb : s.data[i]? with
            | none => rw [hb] at hv; cases hv
            | some b => rw [hb] at hv; simp only [Option.map_some, Option.some.injEq] at hv; subst hv; exact .int _ _
          · have : inf E el = some ti := hti
            rw [hi] at this; injection this with this; subst this; exact hz1
    · cases hx
  · -- bytes to string
    rename_i el ad len cap
    simp only [Option.bind_eq_some_iff] at hx
    obtain ⟨de, hde, hx⟩ := hx
    obtain ⟨de', he1, he2⟩ := und_of K hde
    split at hx
    · cases de' <;> simp only [absD, reduceCtorEq] at he2
      injection he2 with he2; subst he2
      cases ds' <;> simp only [absD, reduceCtorEq] at hs2
      injection hs2 with hs2; rw [hs2] at hs1; clear hs2
      cases dd' <;> simp only [absD, reduceCtorEq] at hd2
      have wrap : ∀ (r : ByteArray), (Conv.bytesToString (a.eval x)).run E.P W = .ok (.string r) W → (∃ p l c, a.eval x = .slice p l c) → (execOp a.eval o).run E.P W = .ok (.value (.string r)) W := by
        intro r hr hsl
        obtain ⟨p, l, c, hsl⟩ := hsl
        simp only [execOp, ho]
        refine run_andThen_value ?_
        rw [hsl] at hr ⊢
        simp only [convert, Sem.run_bind, run_underlying_of hs1, run_underlying_of hd1, Result.andThen_ok, run_underlying_of he1]
        exact hr
      split at hx
      · simp only [Option.some.injEq, Prod.mk.injEq] at hx
        obtain ⟨rfl, rfl⟩ := hx
        have e1 : a.eval x = .slice none len cap := plain_eq rfl r1
        exact LPost.pure (v' := .string .empty) (wrap _ (by rw [e1]; rfl) ⟨_, _, _, e1⟩) (.str rfl)
      · rename_i ad
        simp only [Option.bind_eq_some_iff] at hx
        obtain ⟨cs, hc, bs, hbs, hx⟩ := hx
        cases hps : isPh ⟨bs.toArray⟩ with
        | true => rw [hps] at hx; cases hx
        | false =>
        rw [hps] at hx
        simp only [cond_false, Option.some.injEq, Prod.mk.injEq] at hx
        obtain ⟨rfl, rfl⟩ := hx
        obtain ⟨e, y', c', he, hsp, e1, hrel⟩ := r1.slice_inv
        obtain ⟨l, hl1, rfl⟩ := bytes_rel hbs
        have hload : ∃ cs', (loadCells ⟨e.r, y', none⟩ len).run E.P W = .ok cs' W ∧ ARel φ cs cs' := by
          rcases hrel with ⟨rfl, _⟩ | ⟨h0, _⟩
          · exact loadC_rel H he hsp hc
          · subst h0
            refine ⟨#[], rfl, ?_⟩
            have : cs = #[] := by
              simp only [loadC, Option.pure_def, Option.bind_eq_bind, Option.bind_eq_some_iff] at hc
              obtain ⟨⟨c, t, f⟩, _, h2⟩ := hc
              cases hb : (ad.spot.isNone && Nat.ble (ad.off + 0) c.size) with
              | false => rw [hb] at h2; cases h2
              | true => rw [hb] at h2; simp only [cond_true, List.take_zero, Option.some.injEq] at h2; exact h2.symm
            rw [this]; exact .nil
        obtain ⟨cs', q1, q2⟩ := hload
        have hcs' : cs'.toList = l.map (fun n => Value.int .u8 n) := by
          unfold ARel at q2; rw [hl1] at q2; exact ints_rel q2
        refine LPost.pure (v' := .string ⟨(l.map fun n => UInt8.ofNat n.toNat).toArray⟩) (wrap _ ?_ ⟨_, _, _, e1⟩) (.str hps)
        rw [e1, run_bytesToString (P := E.P) W _ len c' l (by rw [q1]; congr 1; exact Array.ext' hcs'), push_fold]
        simp
    · cases hx
  · -- the same slice
    rename_i _ el ad len cap
    simp only [Option.bind_eq_some_iff] at hx
    obtain ⟨⟨c0, bt, f0⟩, hc0, de, hde, hx⟩ := hx
    obtain ⟨de', he1, he2⟩ := und_of K hde
    split at hx
    · cases hok : (src.beq dst && Nat.ble E.lim ad.block) with
      | false => rw [hok] at hx; cases hx
      | true =>
        rw [hok] at hx
        simp only [cond_true, Option.some.injEq, Prod.mk.injEq] at hx
        obtain ⟨rfl, rfl⟩ := hx
        rw [Bool.and_eq_true] at hok
        have hsd := Nat.eq_of_beq_eq_true hok.1
        have hlb := Nat.le_of_ble_eq_true hok.2
        cases ds' <;> simp only [absD, reduceCtorEq] at hs2
        cases dd' <;> simp only [absD, reduceCtorEq] at hd2
        injection hd2 with hd2; rw [hd2] at hd1; clear hd2
        cases de' <;> simp only [absD, reduceCtorEq] at he2
        injection he2 with he2; subst he2
        obtain ⟨e, y', c', he, hsp, e1, hrel⟩ := r1.slice_inv
        obtain ⟨hg, cc, ff, hcc, kc⟩ := cellsAt_rel H he hc0
        have hmark := run_markStringish (P := E.P) (o := y') hcc
        refine ⟨φ, a.eval x, _, φ.le_refl, fun _ _ => rfl, ?_, r1, fun σ k _ => k.mark he hlb hcc (f' := if ff.1 == ff.2 then (cc.size, cc.size + 1) else (min ff.1 cc.size, max ff.2 (cc.size + 1))) ?_ ?_⟩
        · simp only [execOp, ho]
          refine run_andThen_value ?_
          rw [e1]
          simp only [convert, Sem.run_bind, run_underlying_of hs1, run_underlying_of hd1, Result.andThen_ok, run_underlying_of he1, hsd, beq_self_eq_true, hmark, Sem.run_pure]
        · intro i hi
          have h1 := kc.free i hi
          have h2 := kc.fle
          split
          · simp only []; omega
          · rename_i hne
            have hne : ff.1 ≠ ff.2 := by simpa using hne
            have h3 := kc.free ff.1
            simp only []
            omega
        · have h2 := kc.fle
          split <;> simp only [] <;> omega
    · cases hx
  · -- plain
    rename_i hno1 hno2 hno3
    cases hp : plain u1 with
    | false => rw [hp] at hx; cases hx
    | true =>
      rw [hp] at hx
      simp only [cond_true, Option.bind_eq_some_iff, Option.some.injEq, Prod.mk.injEq] at hx
      obtain ⟨r, hr, rfl, rfl⟩ := hx
      obtain ⟨q1, q2⟩ := run0p_run hr
      refine LPost.pure (v' := r) ?_ (plain_refl q2 φ)
      simp only [execOp, ho, plain_eq hp r1]
      exact run_andThen_value (q1 W)

theorem run_min_max (H : WRel E w0 φ h ls W) (hf : FrRel φ fr n a.tmps) {xs : Array Operand} {vs : List Value} (h1 : evs E h fr xs.toList = some vs) (hp : vs.all plain = true) : (xs.map a.eval) = vs.toArray := by
  have := plains_eq hp (evs_rel H hf h1)
  apply Array.ext'
  simp [this]

theorem l_builtin (K : EOk E) (H : WRel E w0 φ h ls W) (hf : FrRel φ fr n a.tmps) {b : Builtin} {args : Array Operand} {ts : Array TypeId} (ho : o.op = .call { callee := .builtin b, args := args, argTypes := ts })
    (hx : light E h fr id o = some (v, ob)) : LPost E w0 φ ls W id v ob ((execOp a.eval o).run E.P W) := by
  simp only [light, ho, Option.pure_def, Option.bind_eq_bind, Option.bind_eq_some_iff] at hx
  obtain ⟨vs, h1, hx⟩ := hx
  have r1 := evs_rel H hf h1
  have hargs : (args.map a.eval).toList = args.toList.map a.eval := by simp
  split at hx
  · -- len
    simp only [Option.bind_eq_some_iff, ofOpt] at hx
    obtain ⟨t, ht, d, hd, hx⟩ := hx
    obtain ⟨d', hd1, hd2⟩ := und_of K hd
    have wrap : ∀ (k : Int), (Builtin.len_ ts o.type (args.map a.eval)).run E.P W = .ok (goInt k) W → LPost E w0 φ ls W id (.int .i64 k) none ((execOp a.eval o).run E.P W) := by
      intro k hr
      refine LPost.pure (v' := .int .i64 k) ?_ (.int _ _)
      simp only [execOp, ho, resolve, Sem.run_bind, Sem.run_pure, Result.andThen_ok, invoke, builtin]
      rw [hr]; rfl
    have at0 : ∀ {x : Value}, args.toList.map a.eval = [x] → (args.map a.eval)[0]? = some x := by
      intro x hx; rw [← Array.getElem?_toList, hargs, hx]; rfl
    have one : ∀ {u : Value}, vs = [u] → ∃ x, args.toList.map a.eval = [x] ∧ VRel φ u x := by
      intro u hu
      subst hu
      generalize args.toList.map a.eval = l at r1
      cases r1 with | cons hh ht => cases ht; exact ⟨_, rfl, hh⟩
    split at hx
    · rename_i s
      cases hps : isPh s with
      | true => rw [hps] at hx; cases hx
      | false =>
      rw [hps] at hx
      simp only [cond_false, Option.some.injEq, Prod.mk.injEq] at hx
      obtain ⟨rfl, rfl⟩ := hx
      obtain ⟨x, hx1, hx2⟩ := one rfl
      have := hx2.string_inv hps; subst this
      cases d' <;> simp only [absD, reduceCtorEq] at hd2
      exact wrap _ (by simp only [Builtin.len_, ht, at0 hx1, Sem.run_bind, run_underlying_of hd1, Result.andThen_ok]; rfl)
    · simp only [Option.some.injEq, Prod.mk.injEq] at hx
      obtain ⟨rfl, rfl⟩ := hx
      obtain ⟨x, hx1, hx2⟩ := one rfl
      cases d' <;> simp only [absD, reduceCtorEq] at hd2
      injection hd2 with hd2 hd3
      subst hd2
      exact wrap _ (by simp only [Builtin.len_, ht, at0 hx1, Sem.run_bind, run_underlying_of hd1, Result.andThen_ok]; rfl)
    · simp only [Option.some.injEq, Prod.mk.injEq] at hx
      obtain ⟨rfl, rfl⟩ := hx
      obtain ⟨x, hx1, hx2⟩ := one rfl
      cases d' <;> simp only [absD, reduceCtorEq] at hd2
      cases hx2 <;> exact wrap _ (by simp only [Builtin.len_, ht, at0 hx1, Sem.run_bind, run_underlying_of hd1, Result.andThen_ok]; rfl)
    · simp only [Option.some.injEq, Prod.mk.injEq] at hx
      obtain ⟨rfl, rfl⟩ := hx
      obtain ⟨x, hx1, hx2⟩ := one rfl
      have := plain_eq rfl hx2; subst this
      cases d' <;> simp only [absD, reduceCtorEq] at hd2
      exact wrap _ (by simp only [Builtin.len_, ht, at0 hx1, Sem.run_bind, run_underlying_of hd1, Result.andThen_ok]; rfl)
    · rename_i r
      simp only [Option.bind_eq_some_iff, Option.some.injEq, Prod.mk.injEq] at hx
      obtain ⟨⟨es, clock⟩, hm, rfl, rfl⟩ := hx
      obtain ⟨x, hx1, hx2⟩ := one rfl
      obtain ⟨e, he, rfl⟩ := hx2.map_inv
      obtain ⟨_, es', hw, hrel⟩ := mapAt_rel H he hm
      have hlen : es'.size = es.size := by have := hrel.length; simpa using this.symm
      cases d' <;> simp only [absD, reduceCtorEq] at hd2
      refine wrap _ ?_
      simp only [Builtin.len_, ht, at0 hx1, Sem.run_bind, run_underlying_of hd1, run_getObj_of (P := E.P) hw (by intros; simp), Result.andThen_ok, Sem.run_pure, hlen]
    · rename_i arr u
      simp only [Option.bind_eq_some_iff] at hx
      obtain ⟨d2, hd2', hx⟩ := hx
      obtain ⟨d2', hq1, hq2⟩ := und_of K hd2'
      split at hx
      · simp only [Option.some.injEq, Prod.mk.injEq] at hx
        obtain ⟨rfl, rfl⟩ := hx
        obtain ⟨x, hx1, hx2⟩ := one rfl
        cases d' <;> simp only [absD, reduceCtorEq] at hd2
        injection hd2 with hd2
        subst hd2
        cases d2' <;> simp only [absD, reduceCtorEq] at hq2
        injection hq2 with hq2 hq3
        subst hq2
        refine wrap _ ?_
        simp only [Builtin.len_, ht, at0 hx1, Sem.run_bind, run_underlying_of hd1, run_underlying_of hq1, Result.andThen_ok, Sem.run_pure]
      · cases hx
    · cases hx
  · -- cap
    simp only [Option.bind_eq_some_iff, ofOpt] at hx
    obtain ⟨t, ht, d, hd, hx⟩ := hx
    obtain ⟨d', hd1, hd2⟩ := und_of K hd
    have one : ∀ {u : Value}, vs = [u] → ∃ x, args.toList.map a.eval = [x] ∧ VRel φ u x := by
      intro u hu
      subst hu
      generalize args.toList.map a.eval = l at r1
      cases r1 with | cons hh ht => cases ht; exact ⟨_, rfl, hh⟩
    have wrap : ∀ (p : Option Addr) (l : Nat) (k : Nat), args.toList.map a.eval = [.slice p l k] → (∃ e, d' = .slice e) →
        LPost E w0 φ ls W id (.int .i64 k) none ((execOp a.eval o).run E.P W) := by
      intro p l k hx hde
      obtain ⟨e, rfl⟩ := hde
      refine LPost.pure (v' := .int .i64 k) ?_ (.int _ _)
      have hx0 : (args.map a.eval)[0]? = some (.slice p l k) := by rw [← Array.getElem?_toList, hargs, hx]; rfl
      simp only [execOp, ho, resolve, Sem.run_bind, Sem.run_pure, Result.andThen_ok, invoke, builtin]
      have q : (Builtin.cap_ ts o.type (args.map a.eval)).run E.P W = .ok (goInt k) W := by
        simp only [Builtin.cap_, ht, hx0, Sem.run_bind, run_underlying_of hd1, Result.andThen_ok]
        rfl
      rw [q]; rfl
    split at hx
    · simp only [Option.some.injEq, Prod.mk.injEq] at hx
      obtain ⟨rfl, rfl⟩ := hx
      obtain ⟨x, hx1, hx2⟩ := one rfl
      have := plain_eq rfl hx2; subst this
      cases d' <;> simp only [absD, reduceCtorEq] at hd2
      exact wrap _ _ _ hx1 ⟨_, rfl⟩
    · rename_i elem ad len c
      simp only [Option.bind_eq_some_iff] at hx
      obtain ⟨⟨c0, bt, f0⟩, hc0, hx⟩ := hx
      cases hf1 : f0.1.beq 0 with
      | false => rw [hf1] at hx; cases hx
      | true =>
        rw [hf1] at hx
        simp only [cond_true, Option.some.injEq, Prod.mk.injEq] at hx
        obtain ⟨rfl, rfl⟩ := hx
        obtain ⟨x, hx1, hx2⟩ := one rfl
        obtain ⟨e, y', c', he, hsp, rfl, hrel⟩ := hx2.slice_inv
        obtain ⟨hg, cc, ff, hcc, kc⟩ := cellsAt_rel H he hc0
        have hrig := kc.rigid (Nat.eq_of_beq_eq_true hf1)
        have hcc' : c' = c := by
          rcases hrel with ⟨rfl, rfl | ⟨z1, z2, z3, z4⟩⟩ | ⟨_, rfl, rfl | ⟨z1, z2, z3⟩⟩
          · rfl
          · have h5 : c' * e.esz ≤ c * e.esz := by omega
            have := Nat.le_of_mul_le_mul_right h5 z1
            omega
          · rfl
          · have h5 : c' * e.esz ≤ 0 * e.esz := by omega
            have := Nat.le_of_mul_le_mul_right h5 z1
            omega
        subst hcc'
        cases d' <;> simp only [absD, reduceCtorEq] at hd2
        exact wrap _ _ _ hx1 ⟨_, rfl⟩
    · cases hx
  · -- min
    cases hp : vs.all plain with
    | false => rw [hp] at hx; cases hx
    | true =>
      rw [hp] at hx
      simp only [cond_true, Option.bind_eq_some_iff, Option.some.injEq, Prod.mk.injEq] at hx
      obtain ⟨r, hr, rfl, rfl⟩ := hx
      obtain ⟨q1, q2⟩ := run0p_run hr
      refine LPost.pure (v' := r) ?_ (plain_refl q2 φ)
      simp only [execOp, ho, resolve, Sem.run_bind, Sem.run_pure, Result.andThen_ok, invoke, builtin, run_min_max H hf h1 hp]
      rw [show Builtin.min_ ts o.type vs.toArray = Builtin.min_ #[] 0 vs.toArray from rfl, q1 W]; rfl
  · -- max
    cases hp : vs.all plain with
    | false => rw [hp] at hx; cases hx
    | true =>
      rw [hp] at hx
      simp only [cond_true, Option.bind_eq_some_iff, Option.some.injEq, Prod.mk.injEq] at hx
      obtain ⟨r, hr, rfl, rfl⟩ := hx
      obtain ⟨q1, q2⟩ := run0p_run hr
      refine LPost.pure (v' := r) ?_ (plain_refl q2 φ)
      simp only [execOp, ho, resolve, Sem.run_bind, Sem.run_pure, Result.andThen_ok, invoke, builtin, run_min_max H hf h1 hp]
      rw [show Builtin.max_ ts o.type vs.toArray = Builtin.max_ #[] 0 vs.toArray from rfl, q1 W]; rfl
  · cases hx
end
end Go.AM
