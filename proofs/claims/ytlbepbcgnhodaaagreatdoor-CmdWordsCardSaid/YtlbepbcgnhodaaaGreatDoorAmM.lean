/- The abstract machine: composite literals; the soundness of all light operations. -/
import Derived.Test.YtlbepbcgnhodaaaGreatDoorAmL
set_option linter.all false
namespace Go.AM
variable [Syms]
open Go.RowKit

section
variable {E : Env} {w0 : World} {φ : Ren} {h : Hp} {ls : Tr LoopA} {W : World} {fr : Tr Value} {n : Nat} {a : Act} {id : Nat} {o : Oper} {v : Value} {ob : Option Obj}

theorem fold_wr (vs : List Value) : ∀ (k off : Nat) (c : Array Value), (vs.zipIdx k).foldl (fun (cs : Array Value) (p : Value × Nat) => cs.setIfInBounds (off + p.2) p.1) c = wr c (off + k) vs := by
  induction vs with
  | nil => intro k off c; rfl
  | cons v vs ih => intro k off c; simp only [List.zipIdx_cons, List.foldl_cons, wr]; rw [ih]; rfl

theorem over_get (c vs : List Value) (off k : Nat) (h : off + vs.length ≤ c.length) : (overL c off vs)[k]? = if off ≤ k ∧ k < off + vs.length then vs[k - off]? else c[k]? := by
  unfold overL
  rw [List.append_assoc]
  by_cases h1 : k < off
  · rw [List.getElem?_append_left (by simp; omega), if_neg (by omega), List.getElem?_take, if_pos h1]
  · rw [List.getElem?_append_right (by simp; omega)]
    have e : k - (c.take off).length = k - off := by simp; omega
    rw [e]
    by_cases h2 : k < off + vs.length
    · rw [List.getElem?_append_left (by omega), if_pos (by omega)]
    · rw [List.getElem?_append_right (by omega), if_neg (by omega), List.getElem?_drop]
      congr 1; omega
theorem over_length (c vs : List Value) (off : Nat) (h : off + vs.length ≤ c.length) : (overL c off vs).length = c.length := by
  unfold overL; simp; omega

theorem over_rel {c : List Value} {c' : Array Value} {vs : List Value} {vs' : List Value} {off : Nat} (hc : LRel φ c c'.toList) (hv : LRel φ vs vs') (hle : off + vs.length ≤ c.length) :
    LRel φ (overL c off vs) (wr c' off vs').toList := by
  have h1 := hc.length
  have h2 := hv.length
  have h1' : c.length = c'.size := by simpa using h1
  refine LRel.of ?_ fun i x y hx hy => ?_
  · rw [over_length _ _ _ hle]; simp [wr_size]; omega
  · rw [over_get _ _ _ _ hle] at hx
    have hy : (wr c' off vs')[i]? = some y := by simpa using hy
    rw [wr_get _ _ _ _ (by omega)] at hy
    rw [← h2] at hy
    split at hx
    · rename_i hi
      rw [if_pos hi] at hy
      obtain ⟨w, q1, q2⟩ := hv.get _ _ hx
      rw [hy] at q1; injection q1 with q1; exact q1 ▸ q2
    · rename_i hi
      rw [if_neg hi] at hy
      obtain ⟨w, q1, q2⟩ := hc.get _ _ hx
      have : c'[i]? = some w := by simpa using q1
      rw [hy] at this; injection this with this; exact this ▸ q2

theorem fill_rel {place : Nat → Option (Nat × Nat)} {places : List (Nat × Nat)} (hp : ∀ i p, places[i]? = some p → place i = some p) : ∀ {is : List Nat} {vs vs' : List Value} {c : List Value} {c' : Array Value} {r : List Value},
    LRel φ c c'.toList → LRel φ vs vs' → fillA places c (is.zip vs) = some r → ∃ r', Instr.fill place c' (is.zip vs') = some r' ∧ LRel φ r r'.toList
  | [], vs, vs', c, c', r, hc, hv, h => by
    simp only [List.zip_nil_left, fillA, Option.some.injEq] at h; subst h
    exact ⟨c', by simp [Instr.fill], hc⟩
  | i :: is, vs, vs', c, c', r, hc, hv, h => by
    cases hv with
    | nil =>
      simp only [List.zip_nil_right, fillA, Option.some.injEq] at h; subst h
      exact ⟨c', by simp [Instr.fill], hc⟩
    | @cons x y vs vs' hxy ht =>
      simp only [List.zip_cons_cons, fillA] at h
      cases hpl : places[i]? with
      | none => rw [hpl] at h; cases h
      | some p =>
        obtain ⟨off, size⟩ := p
        rw [hpl] at h
        cases hok : (x.cells.size.beq size && Nat.ble (off + size) c.length) with
        | false => simp only [hok, cond_false] at h; cases h
        | true =>
          simp only [hok, cond_true] at h
          rw [Bool.and_eq_true] at hok
          have e1 := Nat.eq_of_beq_eq_true hok.1
          have e2 := Nat.le_of_ble_eq_true hok.2
          have hcl : LRel φ x.cells.toList y.cells.toList := hxy.cells
          have e3 : y.cells.size = x.cells.size := by have := hcl.length; simpa using this.symm
          have e4 : c.length = c'.size := by have := hc.length; simpa using this
          have hstep := over_rel hc hcl (off := off) (by simpa using by omega)
          obtain ⟨r', q1, q2⟩ := fill_rel hp hstep ht h
          refine ⟨r', ?_, q2⟩
          simp only [List.zip_cons_cons, Instr.fill, hp i _ hpl]
          rw [if_neg (by simp; omega)]
          rw [← q1]
          congr 1
          rw [← Array.foldl_toList, Array.toList_zipIdx]
          exact fold_wr _ 0 off c'

theorem places_run (K : EOk E) : ∀ (fs : List Field) (ps : List (Nat × Nat)), placesA E (fs.map fun f => (f.offset, f.type)) = some ps →
    (fs.mapM fun f => (do pure (f.offset, ← sizeOf f.type) : Sem (Nat × Nat))).run E.P W = .ok ps W
  | [], ps, h => by simp only [List.map_nil, placesA, Option.some.injEq] at h; subst h; simp
  | f :: fs, ps, h => by
    simp only [List.map_cons, placesA, Option.pure_def, Option.bind_eq_bind, Option.bind_eq_some_iff, Option.some.injEq] at h
    obtain ⟨i, hi, qs, hqs, rfl⟩ := h
    simp only [List.mapM_cons, Sem.run_bind, run_sizeOf_of K hi, Result.andThen_ok, Sem.run_pure, places_run K fs qs hqs]

theorem parts_map {parts : Array (Nat × Operand)} {ρ : Operand → Value} : (parts.map fun (i, x) => (i, ρ x)).toList = (parts.toList.map (·.1)).zip ((parts.toList.map (·.2)).map ρ) := by
  rw [Array.toList_map]
  induction parts.toList with
  | nil => rfl
  | cons p ps ih => simp [ih]

theorem rowPlaces_get {n size : Nat} : ∀ i p, (rowPlaces n size)[i]? = some p → some (i * size, size) = some p := by
  intro i p h
  unfold rowPlaces at h
  rw [List.getElem?_map] at h
  rcases Nat.lt_or_ge i n with hi | hi
  · rw [List.getElem?_range hi] at h; exact h
  · have : (List.range n)[i]? = none := by simp; omega
    rw [this] at h; cases h

theorem l_build (K : EOk E) (H : WRel E w0 φ h ls W) (hf : FrRel φ fr n a.tmps) {t : TypeId} {parts : Array (Nat × Operand)} (ho : o.op = .build t parts) (hx : light E h fr id o = some (v, ob)) :
    LPost E w0 φ ls W id v ob ((execOp a.eval o).run E.P W) := by
  simp only [light, ho, Option.pure_def, Option.bind_eq_bind, Option.bind_eq_some_iff] at hx
  obtain ⟨vs, h1, z, hz, d, hd, hx⟩ := hx
  have r1 := evs_rel H hf h1
  obtain ⟨q1, q2⟩ := run_zero_of K hz W
  obtain ⟨d', hd1, hd2⟩ := und_of K hd
  have wrap : ∀ (cs : List Value) (cs' : Array Value), LRel φ cs cs'.toList → (Instr.build t (parts.map fun (i, x) => (i, a.eval x))).run E.P W = .ok (.agg cs') W →
      LPost E w0 φ ls W id (.agg cs.toArray) none ((execOp a.eval o).run E.P W) := by
    intro cs cs' hcs hr
    refine LPost.pure (v' := .agg cs') ?_ (.agg_of (by unfold ARel; simpa using hcs))
    simp only [execOp, ho]
    exact run_andThen_value hr
  split at hx
  · rename_i fields
    simp only [Option.bind_eq_some_iff, Option.some.injEq, Prod.mk.injEq, ofOpt] at hx
    obtain ⟨places, hpl, cs, hcs, rfl, rfl⟩ := hx
    cases d' <;> simp only [absD, reduceCtorEq] at hd2
    rename_i fs
    injection hd2 with hd2
    rw [← hd2] at hpl
    obtain ⟨cs', g1, g2⟩ := fill_rel (φ := φ) (place := fun i => places.toArray[i]?) (places := places) (c' := z.cells) (fun i p hp => by simpa using hp) (zero_rel q2) r1 hcs
    refine wrap _ _ g2 ?_
    simp only [Instr.build, Sem.run_bind, q1, Result.andThen_ok, run_underlying_of hd1, Array.mapM_eq_mapM_toList, Sem.run_map, places_run K _ _ hpl]
    rw [parts_map, g1]
    rfl
  · rename_i m elem
    simp only [Option.bind_eq_some_iff, Option.some.injEq, Prod.mk.injEq, ofOpt] at hx
    obtain ⟨i, hi, cs, hcs, rfl, rfl⟩ := hx
    cases d' <;> simp only [absD, reduceCtorEq] at hd2
    injection hd2 with hd2 hd3; rw [hd2, hd3] at hd1; clear hd2 hd3
    obtain ⟨cs', g1, g2⟩ := fill_rel (φ := φ) (place := fun k => some (k * i.size, i.size)) (c' := z.cells) (rowPlaces_get (n := m) (size := i.size)) (zero_rel q2) r1 hcs
    refine wrap _ _ g2 ?_
    simp only [Instr.build, Sem.run_bind, q1, Result.andThen_ok, run_underlying_of hd1, run_sizeOf_of K hi]
    rw [parts_map, g1]
    rfl
  · cases hx

theorem l_buildSlice (K : EOk E) (H : WRel E w0 φ h ls W) (hf : FrRel φ fr n a.tmps) (hid : φ id = none) (hl : E.lim ≤ id) {t : TypeId} {len : Nat} {parts : Array (Nat × Operand)} (ho : o.op = .buildSlice t len parts)
    (hx : light E h fr id o = some (v, ob)) : LPost E w0 φ ls W id v ob ((execOp a.eval o).run E.P W) := by
  simp only [light, ho, Option.pure_def, Option.bind_eq_bind, Option.bind_eq_some_iff] at hx
  obtain ⟨vs, h1, d, hd, hx⟩ := hx
  have r1 := evs_rel H hf h1
  obtain ⟨d', hd1, hd2⟩ := und_of K hd
  split at hx
  · rename_i elem
    simp only [Option.bind_eq_some_iff] at hx
    obtain ⟨i, hi, z, hz, hx⟩ := hx
    obtain ⟨q1, q2⟩ := run_zero_of K hz W
    cases hok : (Nat.ble (len * i.size) (2 ^ 24) && z.cells.size.beq i.size) with
    | false => rw [hok] at hx; cases hx
    | true =>
      rw [hok] at hx
      simp only [cond_true, Option.bind_eq_some_iff, Option.some.injEq, Prod.mk.injEq, ofOpt] at hx
      obtain ⟨cs, hcs, rfl, rfl⟩ := hx
      rw [Bool.and_eq_true] at hok
      have e1 := Nat.le_of_ble_eq_true hok.1
      have e2 := Nat.eq_of_beq_eq_true hok.2
      cases d' <;> simp only [absD, reduceCtorEq] at hd2
      injection hd2 with hd2; rw [hd2] at hd1; clear hd2
      have hrow : (Array.range (len * i.size)).map (fun q => z.cells[q % z.cells.size]!) = (List.replicate len z.cells.toList).flatten.toArray := by
        apply Array.ext'
        rw [range_zero z.cells i.size len e2]
      obtain ⟨cs', g1, g2⟩ := fill_rel (φ := φ) (place := fun k => some (k * i.size, i.size)) (c' := (List.replicate len z.cells.toList).flatten.toArray) (rowPlaces_get (n := len) (size := i.size)) (by simpa using rep_rel (zero_rel q2) len) r1 hcs
      refine LPost.new hid hl (e := ⟨W.heap.size, 0, cs.toArray.size, eszOf E elem, cs.toArray.size⟩) rfl (v' := .slice (some ⟨W.heap.size, 0, none⟩) len len) (o' := .cells cs' elem (0, 0)) W.drawn ?_ ?_ (new_cells elem _ ?_)
      · simp only [execOp, ho]
        refine run_andThen_value ?_
        simp only [Instr.buildSlice, Sem.run_bind, run_underlying_of hd1, Result.andThen_ok, run_sizeOf_of K hi]
        rw [if_neg (by omega)]
        by_cases hn : len * i.size = 0
        · have q0 : ∀ g : Nat → Value, (Array.range 0).map g = #[] := by intro g; simp
          simp only [hn, if_true, Sem.run_bind, Sem.run_pure, Result.andThen_ok, q0]
          have : (List.replicate len z.cells.toList).flatten.toArray = #[] := by rw [← hrow, hn, q0]
          rw [this] at g1
          rw [parts_map, g1]
          simp only [Sem.run_bind, run_newRow, Result.andThen_ok, Sem.run_pure]
          rfl
        · simp only [hn, if_false, Sem.run_bind, q1, Sem.run_pure, Result.andThen_ok, hrow]
          rw [parts_map, g1]
          simp only [Sem.run_bind, run_newRow, Result.andThen_ok, Sem.run_pure]
          rfl
      · exact VRel.slice (o := 0) (Ren.upd_same φ id _) (.inl rfl)
      · unfold ARel; simpa using g2.mono (Ren.le_upd hid _)
  · cases hx

/-- EVERY LIGHT OPERATION THAT THE ABSTRACT MACHINE CARRIES OUT IS CARRIED OUT BY THE MODEL, WITH A VALUE THAT BELONGS TO THE ABSTRACT ONE. -/
theorem light_sound (K : EOk E) (H : WRel E w0 φ h ls W) (hf : FrRel φ fr n a.tmps) (hid : φ id = none) (hl : E.lim ≤ id) (hx : light E h fr id o = some (v, ob)) :
    LPost E w0 φ ls W id v ob ((execOp a.eval o).run E.P W) := by
  cases ho : o.op with
  | move x => exact l_move H hf (.inl ho) hx
  | assign x => exact l_move H hf (.inr ho) hx
  | pick c x y => exact l_pick H hf ho hx
  | alloc t => exact l_alloc K hid hl ho hx
  | box t x => exact l_box H hf hid hl ho hx
  | build t ps => exact l_build K H hf ho hx
  | buildSlice t k ps => exact l_buildSlice K H hf hid hl ho hx
  | load t x => exact l_load K H hf ho hx
  | nilCheck x => exact l_nilCheck H hf ho hx
  | binOp op t x y t' => exact l_bin K H hf ho hx
  | unOp op t x => exact l_un H hf ho hx
  | convert s d x => exact l_convert K H hf hid hl ho hx
  | sliceToArrayPointer t x => exact l_s2ap K H hf ho hx
  | makeInterface t x => exact l_makeInterface K H hf ho hx
  | makeFunc f x y => exact l_makeFunc H hf ho hx
  | makeMap t x => exact l_makeMap K H hf hid hl ho hx
  | makeSlice t x y => exact l_makeSlice K H hf hid hl ho hx
  | slice t x lo hi mx => exact l_slice K H hf ho hx
  | fieldAddr t x f => exact l_fieldAddr K H hf ho hx
  | field t x f => exact l_field K H hf ho hx
  | indexAddr t x y => exact l_indexAddr K H hf ho hx
  | index t x y => exact l_index K H hf ho hx
  | lookup t x y ok => exact l_lookup K H hf ho hx
  | extract x k => exact l_extract H hf ho hx
  | typeAssert x t t2 ok => exact l_typeAssert K H hf ho hx
  | range t x => exact l_range K H hf hid hl ho hx
  | call c =>
    obtain ⟨callee, args, ts⟩ := c
    cases callee with
    | builtin b => exact l_builtin K H hf ho hx
    | _ => simp [light, ho, fail] at hx
  | _ => simp [light, ho, fail] at hx
end
end Go.AM
