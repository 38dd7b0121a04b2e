/- The abstract machine: append. -/
import Derived.Test.YtlbepbcgnhodaaaGreatDoorAmP
set_option linter.all false
namespace Go.AM
variable [Syms]
open Go.RowKit

section
variable {E : Env} {w0 : World} {φ : Ren} {h h' : Hp} {ls : Tr LoopA} {W : World} {fr : Tr Value} {n : Nat} {a : Act} {id : Nat} {o : Oper} {r : HRes}

theorem loops_none (H : WRel E w0 φ h ls W) (hid : φ id = none) : ls.get id = none := by
  cases hh : ls.get id with
  | none => rfl
  | some lp => obtain ⟨_, e, _, he, _⟩ := H.lp id lp hh; rw [hid] at he; cases he

/-- The rest of 'append', when it is known how many are appended: the model's own lines. -/
def appendRest (zeros : Bool) (elem : TypeId) (size : Nat) (base : Option Addr) (sLen sCap : Nat) (s x : Value) (n : Nat) : Sem Value := do
  let appended : Sem (Array Value) :=
    if !zeros then Builtin.firstCells size n x
    else if n * size = 0 then pure #[]
    else do pure (Builtin.zeroCells (← zeroValue elem).cells n)
  let need := sLen + n
  if need ≤ sCap then
    let new ← appended
    if let some a := base then storeCells (a.add (sLen * size)) new.toList
    pure (.slice base need sCap)
  else
    if (need : Int) > IntKind.i64.max ∧ (zeros ∨ (← typeInfo elem).bytes = 0) then runtimePanic (.error "growslice: len out of range")
    if Builtin.nextslicecap need sCap * (← typeInfo elem).bytes > 2 ^ 48 then (if zeros then runtimePanic (.error "growslice: len out of range") else do
      if !(← Builtin.mayShare size sLen n base x) then mark .noRoom
      unsupported (.resourceLimit "append: a slice or a string whose bytes no memory bears"))
    let newCap ← choose (.appendCap need sCap elem)
    askRoom (newCap * (← typeInfo elem).bytes)
    let old ← Builtin.firstCells size sLen s
    let new ← appended
    let rest := Builtin.zeroCells (← zeroValue elem).cells (newCap - need)
    pure (.slice (some (← newRow elem (old ++ new ++ rest))) need newCap)

theorem append_run_len {P : Program} {ts : Array TypeId} {ty st xt : TypeId} {elem : TypeId} {xd' : TypeDesc} {base : Option Addr} {sLen sCap size nn : Nat} {x : Value} {W : World}
    (h0 : ts[0]? = some st) (h1 : ts[1]? = some xt) (hs : P.underlying st = some (.slice elem)) (hx : P.underlying xt = some xd') (hsz : (sizeOf elem).run P W = .ok size W)
    (hz : ∀ k, xd' ≠ .int k) (hn : (Builtin.lenOf x).run P W = .ok nn W) :
    (Builtin.append_ ts ty #[.slice base sLen sCap, x]).run P W = (appendRest false elem size base sLen sCap (.slice base sLen sCap) x nn).run P W := by
  have e0 : (#[Value.slice base sLen sCap, x] : Array Value)[0]? = some (.slice base sLen sCap) := rfl
  have e1 : (#[Value.slice base sLen sCap, x] : Array Value)[1]? = some x := rfl
  cases xd' with
  | int k => exact absurd rfl (hz k)
  | _ =>
    simp only [Builtin.append_, appendRest, h0, h1, e0, e1, Sem.run_bind, run_underlying_of hs, Result.andThen_ok, hsz, run_underlying_of hx, Sem.run_pure, Bool.false_eq_true, if_false, hn]
    rfl

theorem append_run_make {P : Program} {ts : Array TypeId} {ty st xt : TypeId} {elem : TypeId} {kd k0 : IntKind} {base : Option Addr} {sLen sCap size : Nat} {k : Int} {info : TypeInfo} {W : World}
    (h0 : ts[0]? = some st) (h1 : ts[1]? = some xt) (hs : P.underlying st = some (.slice elem)) (hx : P.underlying xt = some (.int kd)) (hsz : (sizeOf elem).run P W = .ok size W)
    (hw : IntKind.i64.wrap k = k) (hk : ¬ k < 0) (hi : P.info? elem = some info) (hb : ¬ k * info.bytes > 2 ^ 48) :
    (Builtin.append_ ts ty #[.slice base sLen sCap, .int k0 k]).run P W = (appendRest true elem size base sLen sCap (.slice base sLen sCap) (.int k0 k) k.toNat).run P W := by
  have e0 : (#[Value.slice base sLen sCap, .int k0 k] : Array Value)[0]? = some (.slice base sLen sCap) := rfl
  have e1 : (#[Value.slice base sLen sCap, .int k0 k] : Array Value)[1]? = some (.int k0 k) := rfl
  simp only [Builtin.append_, h0, h1, e0, e1, Sem.run_bind, run_underlying_of hs, Result.andThen_ok, hsz, run_underlying_of hx, Sem.run_pure, if_true, asInt, asIntOf, hw, hk, if_false, run_typeInfo_of hi, hb, appendRest]
  rfl

/-- The rest of 'append', carried out: in place. -/
theorem rest_room {P : Program} {zeros : Bool} {elem : TypeId} {size : Nat} {base : Option Addr} {sLen sCap : Nat} {s x : Value} {n : Nat} {W W' : World} {new : Array Value}
    (hnew : (if !zeros then Builtin.firstCells size n x else if n * size = 0 then pure #[] else do pure (Builtin.zeroCells (← zeroValue elem).cells n) : Sem (Array Value)).run P W = .ok new W)
    (hle : sLen + n ≤ sCap) (hst : (match base with | some a => storeCells (a.add (sLen * size)) new.toList | none => pure () : Sem Unit).run P W = .ok () W') :
    (appendRest zeros elem size base sLen sCap s x n).run P W = .ok (.slice base (sLen + n) sCap) W' := by
  simp only [appendRest]
  rw [if_pos hle]
  simp only [Sem.run_bind, hnew, Result.andThen_ok]
  cases base with
  | none => simp only [Sem.run_pure, Result.ok.injEq, true_and] at hst; subst hst; rfl
  | some a => simp only [Sem.run_bind, hst, Result.andThen_ok, Sem.run_pure]

/-- .. in a new row. -/
theorem rest_grow {P : Program} {zeros : Bool} {elem : TypeId} {size : Nat} {base : Option Addr} {sLen sCap : Nat} {s x : Value} {n : Nat} {W : World} {new old : Array Value} {z : Value} {info : TypeInfo}
    (hnew : ∀ m, (if !zeros then Builtin.firstCells size n x else if n * size = 0 then pure #[] else do pure (Builtin.zeroCells (← zeroValue elem).cells n) : Sem (Array Value)).run P { W with drawn := m } = .ok new { W with drawn := m })
    (hold : ∀ m, (Builtin.firstCells size sLen s).run P { W with drawn := m } = .ok old { W with drawn := m })
    (hgt : ¬ sLen + n ≤ sCap) (hi : P.info? elem = some info) (hz : ∀ w, (zeroValue elem).run P w = .ok z w) (hmax : ¬ ((sLen + n : Nat) : Int) > IntKind.i64.max)
    (hroom : ¬ Builtin.nextslicecap (sLen + n) sCap * info.bytes > 2 ^ 48) :
    ∃ newCap, sLen + n ≤ newCap ∧ (appendRest zeros elem size base sLen sCap s x n).run P W =
      .ok (.slice (some ⟨W.heap.size, 0, none⟩) (sLen + n) newCap) { pushW W (.cells (old ++ new ++ Builtin.zeroCells z.cells (newCap - (sLen + n))) elem) with drawn := W.drawn + 1 } := by
  refine ⟨(Question.appendCap (sLen + n) sCap elem).cut (W.tape W.drawn (.appendCap (sLen + n) sCap elem)), by simp only [Question.cut]; omega, ?_⟩
  simp only [appendRest]
  rw [if_neg hgt]
  simp only [Sem.run_bind, run_typeInfo_of hi, Result.andThen_ok]
  rw [if_neg (fun h => hmax h.1)]
  simp only [Sem.run_bind, Sem.run_pure, Result.andThen_ok, run_typeInfo_of hi]
  rw [if_neg hroom]
  simp only [Sem.run_bind, Sem.run_pure, Result.andThen_ok, choose_cap_run, run_typeInfo_of hi, askRoom_run, hold, hnew, hz, run_newRow]
  rfl

theorem append_rel (K : EOk E) (H : WRel E w0 φ h ls W) (hid : φ id = none) (hl : E.lim ≤ id) {ts : Array TypeId} {ty : TypeId} {s x s' x' v : Value} (hs : VRel φ s s') (hx : VRel φ x x') (ha : appendA E h id ts s x = some (v, h')) :
    ∃ φ' v' W', φ.le φ' ∧ (∀ b, b ≠ id → φ' b = φ b) ∧ (Builtin.append_ ts ty #[s', x']).run E.P W = .ok v' W' ∧ VRel φ' v v' ∧ WRel E w0 φ' h' ls W' := by
  have hls := loops_none H hid
  simp only [appendA, Option.pure_def, Option.bind_eq_bind, Option.bind_eq_some_iff, ofOpt] at ha
  obtain ⟨st, h0, xt, h1, sd, hsd, ha⟩ := ha
  obtain ⟨sd', hsd1, hsd2⟩ := und_of K hsd
  split at ha
  case h_2 => cases ha
  rename_i elem base sLen sCap
  simp only [Option.bind_eq_some_iff] at ha
  obtain ⟨i, hi, z, hz, xd, hxd, ⟨nn, new⟩, hn, ha⟩ := ha
  obtain ⟨info, hi1, hi2, hi3, hi4⟩ := inf_of K hi
  have hzr := fun w => run_zero_of K hz w
  obtain ⟨xd', hxd1, new', hnr, hnl, hcase⟩ := new_rel K H hi hz hxd hx hn
  cases sd' <;> simp only [absD, reduceCtorEq] at hsd2
  injection hsd2 with hsd2; rw [hsd2] at hsd1; clear hsd2
  -- the model's run comes to its rest
  have main : ∀ (base' : Option Addr) (cap' : Nat), s' = .slice base' sLen cap' → ∃ zeros, (Builtin.append_ ts ty #[s', x']).run E.P W = (appendRest zeros elem i.size base' sLen cap' s' x' nn).run E.P W ∧
      ∀ m, (if (!zeros) = true then Builtin.firstCells i.size nn x' else if nn * i.size = 0 then pure #[] else do pure (Builtin.zeroCells (← zeroValue elem).cells nn) : Sem (Array Value)).run E.P { W with drawn := m } = .ok new' { W with drawn := m } := by
    intro base' cap' hs'
    subst hs'
    rcases hcase with ⟨kd, k0, k, rfl, rfl, rfl, c1, c2, c3, c4⟩ | ⟨c1, c2, c3⟩
    · refine ⟨true, append_run_make h0 h1 hsd1 hxd1 (run_sizeOf_of K hi W) (IntWalk.i64_in k (by omega)) (by omega) hi1 (by rw [hi3]; omega), c4⟩
    · exact ⟨false, append_run_len h0 h1 hsd1 hxd1 (run_sizeOf_of K hi W) c1 (c2 W), c3⟩
  have hnsz : new'.size = new.length := by have := hnr.length; simpa using this.symm
  cases hroom : Nat.ble (sLen + nn) sCap with
  | true =>
    -- room in both
    simp only [hroom, cond_true] at ha
    have hle := Nat.le_of_ble_eq_true hroom
    cases base with
    | none =>
      cases hz0 : (new.length).beq 0 with
      | false => simp only [hz0, cond_false] at ha; cases ha
      | true =>
        simp only [hz0, cond_true, Option.some.injEq, Prod.mk.injEq] at ha
        obtain ⟨rfl, rfl⟩ := ha
        have e1 : s' = .slice none sLen sCap := plain_eq rfl hs
        obtain ⟨zeros, r1, r2⟩ := main none sCap e1
        exact ⟨φ, .slice none (sLen + nn) sCap, W, φ.le_refl, fun _ _ => rfl, r1.trans (rest_room (r2 W.drawn) hle rfl), .slice0 _ _, H⟩
    | some ad =>
      obtain ⟨e, y, c', he, hsp, e1, hrel⟩ := hs.slice_inv
      obtain ⟨ab, ao, asp⟩ := ad
      simp only at hsp he hrel
      subst hsp
      obtain ⟨zeros, r1, r2⟩ := main (some ⟨e.r, y, none⟩) c' e1
      have hle' : sLen + nn ≤ c' := by rcases hrel with ⟨_, rfl | ⟨_, h2, _⟩⟩ | ⟨_, h2, _⟩ <;> omega
      have hres : ∀ ψ : Ren, φ.le ψ → VRel ψ (.slice (some ⟨ab, ao, none⟩) (sLen + nn) sCap) (.slice (some ⟨e.r, y, none⟩) (sLen + nn) c') := by
        intro ψ hψ
        rcases hrel with ⟨rfl, hc⟩ | ⟨h1, h2, hc⟩
        · exact .slice (hψ _ _ he) hc
        · have : sLen + nn = 0 := by omega
          rw [this, h2]
          exact .sliceE (hψ _ _ he) hc
      cases hz0 : (new.length).beq 0 with
      | true =>
        simp only [hz0, cond_true, Option.some.injEq, Prod.mk.injEq] at ha
        obtain ⟨rfl, rfl⟩ := ha
        have h0 := Nat.eq_of_beq_eq_true hz0
        have hn0 : new'.toList = [] := by apply List.length_eq_zero_iff.1; rw [Array.length_toList]; omega
        refine ⟨φ, _, W, φ.le_refl, fun _ _ => rfl, r1.trans (rest_room (r2 W.drawn) hle' ?_), hres φ φ.le_refl, H⟩
        simp only [hn0, storeCells]; rfl
      | false =>
        simp only [hz0, cond_false, Option.bind_eq_some_iff, Option.some.injEq, Prod.mk.injEq] at ha
        obtain ⟨h1', hst, rfl, rfl⟩ := ha
        have hy : y = e.o + ao := by
          rcases hrel with ⟨h, _⟩ | ⟨h1, h2, _⟩
          · exact h
          · exfalso
            have : nn = 0 := by omega
            subst this
            have : new.length ≠ 0 := by intro hh; rw [hh] at hz0; simp at hz0
            rcases hnl with hh | ⟨_, _, hh⟩
            · rw [Nat.zero_mul] at hh; omega
            · omega
        subst hy
        rw [add_mk] at hst
        obtain ⟨W', q1, q2⟩ := storeC_rel H (ad := ⟨ab, ao + sLen * i.size, none⟩) he rfl hnr hst
        refine ⟨φ, _, W', φ.le_refl, fun _ _ => rfl, r1.trans (rest_room (r2 W.drawn) hle' ?_), hres φ φ.le_refl, q2⟩
        simp only [add_mk, Nat.add_assoc]
        exact q1
  | false =>
    simp only [hroom, cond_false] at ha
    have hgt : sCap < sLen + nn := by
      rcases Nat.lt_or_ge sCap (sLen + nn) with h | h
      · exact h
      · rw [Nat.ble_eq_true_of_le h] at hroom; cases hroom
    cases hok : (Nat.ble ((2 * (sLen + nn) + 192) * i.bytes) (2 ^ 47) && Nat.ble (sLen + nn) (2 ^ 47) && z.cells.size.beq i.size && Nat.blt 0 i.size && new.all one) with
    | false => simp only [hok, cond_false] at ha; cases ha
    | true =>
      simp only [hok, cond_true, Option.bind_eq_some_iff] at ha
      obtain ⟨old, hold, h1, hdrop, ha⟩ := ha
      simp only [Bool.and_eq_true] at hok
      obtain ⟨⟨⟨⟨o1, o2⟩, o3⟩, o4⟩, o5⟩ := hok
      have o1 := Nat.le_of_ble_eq_true o1
      have o2 := Nat.le_of_ble_eq_true o2
      have o3 := Nat.eq_of_beq_eq_true o3
      have o4 : 0 < i.size := by simpa using o4
      cases hlen : (old ++ new).length.beq ((sLen + nn) * i.size) with
      | false => simp only [hlen, cond_false] at ha; cases ha
      | true =>
        simp only [hlen, cond_true, Option.some.injEq, Prod.mk.injEq] at ha
        obtain ⟨rfl, rfl⟩ := ha
        have hlen := Nat.eq_of_beq_eq_true hlen
        obtain ⟨old', g1, g2, g3⟩ := firstA_rel H hs (fun p l c hh => by injection hh with _ h2 _; omega) hold
        have g3 : old.length = sLen * i.size := g3
        have hnl' : new.length = nn * i.size := by
          rw [List.length_append, g3, Nat.add_mul] at hlen; omega
        have hosz : old'.size = old.length := by have := g2.length; simpa using this.symm
        have hnext : ∀ c2, c2 < sLen + nn → ¬ Builtin.nextslicecap (sLen + nn) c2 * info.bytes > 2 ^ 48 := by
          intro c2 hc2
          have h1 := next_le hc2
          have h2 : Builtin.nextslicecap (sLen + nn) c2 * info.bytes ≤ (2 * (sLen + nn) + 192) * info.bytes := Nat.mul_le_mul_right _ h1
          rw [hi3] at h2 ⊢
          omega
        have hdH : WRel E w0 φ h1 ls W := by
          unfold dropA at hdrop
          split at hdrop
          · simp only [Option.some.injEq] at hdrop; subst hdrop; exact H
          · simp only [Option.pure_def, Option.bind_eq_bind, Option.bind_eq_some_iff] at hdrop
            obtain ⟨⟨c0, t0, f0⟩, _, hdrop⟩ := hdrop
            cases ht : t0.beq elem with
            | false => simp only [ht, cond_false] at hdrop; cases hdrop
            | true =>
              simp only [ht, cond_true] at hdrop
              cases hf0 : f0.1.beq 0 with
              | true => simp only [hf0, cond_true, Option.some.injEq] at hdrop; subst hdrop; exact H
              | false =>
                simp only [hf0, cond_false] at hdrop
                rename_i ad _
                cases hlb : Nat.ble E.lim ad.block with
                | false => simp only [hlb, cond_false] at hdrop; cases hdrop
                | true => simp only [hlb, cond_true, Option.some.injEq] at hdrop; subst hdrop; exact H.kill _
        have hcells : ∀ k v, (old ++ new).toArray[k]? = some v → (k < old.length ∧ old[k]? = some v) ∨ (old.length ≤ k ∧ new[k - old.length]? = some v) := by
          intro k v hv
          have hv : (old ++ new)[k]? = some v := by simpa using hv
          rcases Nat.lt_or_ge k old.length with hk | hk
          · rw [List.getElem?_append_left hk] at hv; exact .inl ⟨hk, hv⟩
          · rw [List.getElem?_append_right hk] at hv; exact .inr ⟨hk, hv⟩
        -- a new row in the model
        have grow : ∀ (base' : Option Addr) (c' : Nat), s' = .slice base' sLen c' → c' < sLen + nn → ∃ φ' v' W', φ.le φ' ∧ (∀ b, b ≠ id → φ' b = φ b) ∧ (Builtin.append_ ts ty #[s', x']).run E.P W = .ok v' W' ∧
            VRel φ' (.slice (some ⟨id, 0, none⟩) (sLen + nn) (sLen + nn)) v' ∧ WRel E w0 φ' (h1.put id (some (.cells (old ++ new).toArray elem elastic))) ls W' := by
          intro base' c' e1 hc'
          obtain ⟨zeros, r1, r2⟩ := main base' c' e1
          have g1' := g1
          obtain ⟨newCap, c1, c2⟩ := rest_grow (P := E.P) (zeros := zeros) (elem := elem) (size := i.size) (base := base') (sLen := sLen) (sCap := c') (s := s') (x := x') (n := nn) (W := W) r2 g1 (by omega) hi1 (fun w => (hzr w).1)
            (by have : IntKind.i64.max = 9223372036854775807 := by decide
                omega) (hnext c' hc')
          have hrest : (Builtin.zeroCells z.cells (newCap - (sLen + nn))).size = (newCap - (sLen + nn)) * i.size := by
            rw [← Array.length_toList, zeroCells_eq]
            simp only [List.length_flatten, List.map_replicate, List.sum_replicate_nat, Array.length_toList, o3]
          have hmul : (newCap - (sLen + nn)) * i.size + (sLen + nn) * i.size = newCap * i.size := by rw [← Nat.add_mul]; congr 1; omega
          have hlen' := hlen
          rw [List.length_append] at hlen'
          refine ⟨φ.upd id ⟨W.heap.size, 0, (sLen + nn) * i.size, i.size, newCap * i.size⟩, _, _, Ren.le_upd hid _, fun b hb => Ren.upd_ne _ _ hb, r1.trans c2, ?_, ?_⟩
          · exact VRel.slice (o := 0) (Ren.upd_same φ id _) (.inr ⟨o4, c1, by simp, by simp⟩)
          · refine ((hdH.fresh K hid hl hls _).push hid hl (e := ⟨W.heap.size, 0, (sLen + nn) * i.size, i.size, newCap * i.size⟩) rfl (o := .cells (old ++ new).toArray elem elastic) (o' := .cells (old' ++ new' ++ Builtin.zeroCells z.cells (newCap - (sLen + nn))) elem (0, 0)) (Tr.get_put_same _ _ _) ⟨rfl, ?_⟩).drawn _
            refine ⟨by simpa using hlen, by simp only [Array.size_append, hrest]; omega, by simp only []; omega, fun hh => by simp [elastic] at hh, ?_, fun k _ => by simp, Nat.le_refl _, fun ti hti => ?_⟩
            · intro k v hv
              rcases hcells k v hv with ⟨hk, hv⟩ | ⟨hk, hv⟩
              · obtain ⟨w, p1, p2⟩ := g2.get _ _ hv
                refine ⟨w, ?_, p2.mono (Ren.le_upd hid _)⟩
                have p1 : old'[k]? = some w := by simpa using p1
                simp only [Nat.zero_add]
                rw [Array.append_assoc, Array.getElem?_append_left (by omega)]; exact p1
              · obtain ⟨w, p1, p2⟩ := hnr.get _ _ hv
                refine ⟨w, ?_, p2.mono (Ren.le_upd hid _)⟩
                have p1 : new'[k - old.length]? = some w := by simpa using p1
                have hklt : k - old.length < new'.size := by
                  rcases Nat.lt_or_ge (k - old.length) new'.size with h | h
                  · exact h
                  · rw [Array.getElem?_eq_none h] at p1; cases p1
                simp only [Nat.zero_add]
                rw [Array.append_assoc, Array.getElem?_append_right (by omega), Array.getElem?_append_left (by omega), hosz]; exact p1
            · have : inf E elem = some ti := hti
              rw [hi] at this; injection this with this; subst this; rfl
        cases base with
        | none => exact grow none sCap (plain_eq rfl hs) hgt
        | some ad =>
          obtain ⟨e, y, c', he, hsp, e1, hrel⟩ := hs.slice_inv
          by_cases hc' : c' < sLen + nn
          · exact grow _ c' e1 hc'
          · -- in place in the model
            obtain ⟨ab, ao, asp⟩ := ad
            simp only at hsp he hrel
            subst hsp
            simp only [dropA, Option.pure_def, Option.bind_eq_bind, Option.bind_eq_some_iff] at hdrop
            obtain ⟨⟨c0, t0, f0⟩, hc0, hdrop⟩ := hdrop
            obtain ⟨hg, cc, ff, hcc, kc⟩ := cellsAt_rel H he hc0
            cases ht : t0.beq elem with
            | false => simp only [ht, cond_false] at hdrop; cases hdrop
            | true =>
              simp only [ht, cond_true] at hdrop
              have ht := Nat.eq_of_beq_eq_true ht
              subst ht
              have hesz : i.size = e.esz := kc.elem i hi
              -- where the row ends
              have hend : 0 < e.esz ∧ y + c' * e.esz ≤ e.csz ∧ (f0.1 = 0 → False) ∧ (sLen = 0 ∨ y = e.o + ao) := by
                rcases hrel with ⟨rfl, rfl | ⟨z1, z2, z3, z4⟩⟩ | ⟨rfl, rfl, rfl | ⟨z1, z2, z3⟩⟩
                · omega
                · refine ⟨z1, z4, fun hf => ?_, .inr rfl⟩
                  have := kc.rigid hf
                  have h5 : c' * e.esz ≤ sCap * e.esz := by omega
                  have := Nat.le_of_mul_le_mul_right h5 z1
                  omega
                · omega
                · refine ⟨z1, z3, fun hf => ?_, .inl rfl⟩
                  have := kc.rigid hf
                  have h5 : c' * e.esz ≤ 0 * e.esz := by omega
                  have := Nat.le_of_mul_le_mul_right h5 z1
                  omega
              obtain ⟨z1, z2, z3, z4⟩ := hend
              cases hf0 : f0.1.beq 0 with
              | true => exact (z3 (Nat.eq_of_beq_eq_true hf0)).elim
              | false =>
                simp only [hf0, cond_false] at hdrop
                cases hlb : Nat.ble E.lim ab with
                | false => simp only [hlb, cond_false] at hdrop; cases hdrop
                | true =>
                  simp only [hlb, cond_true, Option.some.injEq] at hdrop
                  subst hdrop
                  have hlb := Nat.le_of_ble_eq_true hlb
                  obtain ⟨zeros, r1, r2⟩ := main (some ⟨e.r, y, none⟩) c' e1
                  have hcs := kc.csz
                  have hmul : (sLen + nn) * i.size ≤ c' * e.esz := by rw [hesz]; exact Nat.mul_le_mul_right _ (by omega)
                  have hsplit : (sLen + nn) * i.size = sLen * i.size + nn * i.size := Nat.add_mul _ _ _
                  have hst := run_storeCells (P := E.P) (r := e.r) (o := y + sLen * i.size) new'.toList 0 W cc hcc (by rw [Array.length_toList]; omega) kc.free (all_one hnr o5)
                  refine ⟨φ.upd id ⟨e.r, y, (sLen + nn) * i.size, i.size, e.csz⟩, _, _, Ren.le_upd hid _, fun b hb => Ren.upd_ne _ _ hb, r1.trans (rest_room (r2 W.drawn) (by omega) (W' := setB W e.r (.cells (wr cc (y + sLen * i.size + 0) new'.toList) t0 ff)) ?_), ?_, ?_⟩
                  · simp only [add_mk]; exact hst
                  · have := VRel.slice (φ := φ.upd id ⟨e.r, y, (sLen + nn) * i.size, i.size, e.csz⟩) (o := 0) (n := sLen + nn) (c := sLen + nn) (c' := c') (Ren.upd_same φ id _) (.inr ⟨o4, by omega, by simp, by simp only [Nat.add_zero]; rw [hesz]; exact z2⟩)
                    simpa using this
                  · refine H.moved he hlb (by rw [hg]; rfl) hid hl K.ngl (e := ⟨e.r, y, (sLen + nn) * i.size, i.size, e.csz⟩) rfl (o := .cells (old ++ new).toArray t0 elastic) (o' := .cells (wr cc (y + sLen * i.size + 0) new'.toList) t0 ff) hls ⟨rfl, ?_⟩
                    refine ⟨by simpa using hlen, by rw [wr_size]; exact hcs, by simp only []; omega, fun hh => by simp [elastic] at hh, ?_, by rw [wr_size]; exact kc.free, kc.fle, fun ti hti => ?_⟩
                    · intro k v hv
                      simp only []
                      rw [wr_get _ _ _ _ (by rw [Array.length_toList]; omega)]
                      rcases hcells k v hv with ⟨hk, hv⟩ | ⟨hk, hv⟩
                      · rw [if_neg (by omega)]
                        rcases z4 with h0 | hy
                        · subst h0; simp at g3; omega
                        · obtain ⟨w, p1, p2⟩ := g2.get _ _ hv
                          refine ⟨w, ?_, p2.mono (Ren.le_upd hid _)⟩
                          have hrun := g1 W.drawn
                          have hload := run_loadCells (P := E.P) (o := y) (n := sLen * i.size) hcc (by omega)
                          rw [e1] at hrun
                          have : (Builtin.firstCells i.size sLen (.slice (some ⟨e.r, y, none⟩) sLen c')).run E.P W = .ok ((cc.toList.drop y).take (sLen * i.size)).toArray W := hload
                          have hrun : (Builtin.firstCells i.size sLen (.slice (some ⟨e.r, y, none⟩) sLen c')).run E.P W = .ok old' W := hrun
                          rw [this] at hrun
                          injection hrun with hrun _
                          subst hrun
                          simp only [List.getElem?_take, List.getElem?_drop] at p1
                          split at p1
                          · simpa using p1
                          · cases p1
                      · obtain ⟨w, p1, p2⟩ := hnr.get _ _ hv
                        refine ⟨w, ?_, p2.mono (Ren.le_upd hid _)⟩
                        have hklt : k - old.length < new'.toList.length := by
                          rcases Nat.lt_or_ge (k - old.length) new'.toList.length with h | h
                          · exact h
                          · rw [List.getElem?_eq_none h] at p1; cases p1
                        rw [if_pos (by omega), ← p1]
                        congr 1; omega
                    · have : inf E t0 = some ti := hti
                      rw [hi] at this; injection this with this; subst this; rfl
end
end Go.AM
