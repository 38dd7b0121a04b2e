/- The abstract machine: append, copy, clear, delete. -/
import Derived.Test.YtlbepbcgnhodaaaGreatDoorAmO
set_option linter.all false
namespace Go.AM
variable [Syms]
open Go.RowKit

section
variable {E : Env} {w0 : World} {φ : Ren} {h h' : Hp} {ls : Tr LoopA} {W : World} {fr : Tr Value} {n : Nat} {a : Act} {id : Nat} {o : Oper} {r : HRes}

theorem grow_le (newLen : Nat) : ∀ (k c : Nat), Builtin.growBy newLen k c ≤ max c (newLen + (newLen + 768) / 4)
  | 0, c => by simp only [Builtin.growBy]; omega
  | k + 1, c => by
    simp only [Builtin.growBy]
    split
    · omega
    · have := grow_le newLen k (c + (c + 768) / 4); omega
theorem next_le {need cap : Nat} (h : cap < need) : Builtin.nextslicecap need cap ≤ 2 * need + 192 := by
  unfold Builtin.nextslicecap
  split
  · omega
  · split
    · omega
    · have := grow_le need 4 cap; omega

theorem lenA_rel {x x' : Value} {k : Nat} (h : lenA x = some k) (hx : VRel φ x x') (w : World) : (Builtin.lenOf x').run E.P w = .ok k w ∧ (∀ p l c, x = .slice p l c → l = k) := by
  unfold lenA at h
  split at h
  · simp only [Option.some.injEq] at h; subst h
    refine ⟨?_, fun p l c hh => by injection hh with _ h2 _; exact h2.symm⟩
    cases hx <;> rfl
  · rename_i s
    cases hps : isPh s with
    | true => rw [hps] at h; cases h
    | false =>
    rw [hps] at h
    simp only [cond_false, Option.some.injEq] at h; subst h
    refine ⟨?_, fun p l c hh => by cases hh⟩
    have := hx.string_inv hps; subst this; rfl
  · cases h

theorem loadC_relm (H : WRel E w0 φ h ls W) {a : Addr} {e : Ent} (ha : φ a.block = some e) (hs : a.spot = none) {n : Nat} {cs : Array Value} (hl : loadC h a n = some cs) :
    ∃ cs', (∀ m, (loadCells ⟨e.r, e.o + a.off, none⟩ n).run E.P { W with drawn := m } = .ok cs' { W with drawn := m }) ∧ ARel φ cs cs' := by
  simp only [loadC, Option.pure_def, Option.bind_eq_bind, Option.bind_eq_some_iff] at hl
  obtain ⟨⟨c, t, f⟩, h1, h2⟩ := hl
  obtain ⟨hg, c', f', h3, k⟩ := cellsAt_rel H ha h1
  simp only [hs, Option.isNone_none, Bool.true_and] at h2
  cases hb : Nat.ble (a.off + n) c.size with
  | false => rw [hb] at h2; cases h2
  | true =>
    rw [hb] at h2; simp only [cond_true, Option.some.injEq] at h2; subst h2
    have hle : a.off + n ≤ c.size := Nat.le_of_ble_eq_true hb
    have h4 := k.asz; have h5 := k.csz; have h6 := k.le
    exact ⟨_, fun m => run_loadCells (W := { W with drawn := m }) h3 (by omega), cells_rel k hle⟩

theorem firstA_rel (H : WRel E w0 φ h ls W) {x x' : Value} {size k : Nat} {L : List Value} (hx : VRel φ x x') (hl : ∀ p l c, x = .slice p l c → k ≤ l) (hf : firstA h size k x = some L) :
    ∃ L', (∀ m, (Builtin.firstCells size k x').run E.P { W with drawn := m } = .ok L' { W with drawn := m }) ∧ LRel φ L L'.toList ∧ L.length = k * (match x with | .string _ => 1 | _ => size) := by
  unfold firstA at hf
  split at hf
  · rename_i ad len cap
    simp only [Option.pure_def, Option.bind_eq_bind, Option.bind_eq_some_iff, Option.some.injEq] at hf
    obtain ⟨cs, hc, rfl⟩ := hf
    have hlen : cs.toList.length = k * size := by
      simp only [loadC, Option.pure_def, Option.bind_eq_bind, Option.bind_eq_some_iff] at hc
      obtain ⟨⟨c, t, f⟩, _, h2⟩ := hc
      cases hb : (ad.spot.isNone && Nat.ble (ad.off + k * size) c.size) with
      | false => simp only [hb, cond_false] at h2; cases h2
      | true =>
        simp only [hb, cond_true, Option.some.injEq] at h2; subst h2
        rw [Bool.and_eq_true] at hb
        have := Nat.le_of_ble_eq_true hb.2
        simp; omega
    obtain ⟨e, y, c', he, hsp, rfl, hrel⟩ := hx.slice_inv
    rcases hrel with ⟨rfl, _⟩ | ⟨h0, _⟩
    · obtain ⟨cs', q1, q2⟩ := loadC_relm H he hsp hc
      exact ⟨cs', q1, q2, hlen⟩
    · subst h0
      have : k = 0 := by have := hl _ _ _ rfl; omega
      subst this
      refine ⟨#[], fun m => by simp [Builtin.firstCells, loadCells, loadCellsFrom], ?_, hlen⟩
      have : cs.toList = [] := by rw [Nat.zero_mul] at hlen; exact List.length_eq_zero_iff.1 hlen
      rw [this]; exact .nil
  · cases hb : (k * size).beq 0 with
    | false => simp only [hb, cond_false] at hf; cases hf
    | true =>
      simp only [hb, cond_true, Option.some.injEq] at hf; subst hf
      have := plain_eq rfl hx; subst this
      exact ⟨#[], fun _ => rfl, .nil, (Nat.eq_of_beq_eq_true hb).symm⟩
  · rename_i s
    cases hb0 : (Nat.ble k s.size && !isPh s) with
    | false => simp only [hb0, cond_false] at hf; cases hf
    | true =>
      simp only [hb0, cond_true, Option.some.injEq] at hf; subst hf
      simp only [Bool.and_eq_true, Bool.not_eq_true'] at hb0
      obtain ⟨hb, hps⟩ := hb0
      have := hx.string_inv hps; subst this
      refine ⟨_, fun _ => rfl, ?_, ?_⟩
      · refine LRel.of rfl fun i v w hv hw => ?_
        rw [hv] at hw; injection hw with hw; subst hw
        simp only [Array.toList_map, List.getElem?_map, Option.map_eq_some_iff] at hv
        obtain ⟨b, _, rfl⟩ := hv
        exact .int _ _
      · have hk := Nat.le_of_ble_eq_true hb
        have : (s.extract 0 k).data.size = k := by
          have : (s.extract 0 k).size = k := by simp; omega
          exact this
        rw [Array.length_toList, Array.size_map, this]; simp
  · cases hf

theorem zeroCells_eq (z : Array Value) (k : Nat) : (Builtin.zeroCells z k).toList = (List.replicate k z.toList).flatten := range_zero z z.size k rfl

theorem WRel.fresh (H : WRel E w0 φ h ls W) (K : EOk E) (hid : φ id = none) (hl : E.lim ≤ id) (hls : ls.get id = none) (x : Obj) : WRel E w0 φ (h.put id (some x)) ls W := by
  refine H.less ?_ ?_ K.ngl ?_
  · intro b ob hb hg
    have : b ≠ id := by rintro rfl; exact hb hid
    rwa [Tr.get_put_ne _ _ this] at hg
  · intro b hb
    exact Tr.get_put_ne _ _ (by omega)
  · intro b lp hb
    have : b ≠ id := by rintro rfl; rw [hls] at hb; cases hb
    rw [Tr.get_put_ne _ _ this]
    exact (H.lp b lp hb).1

theorem askRoom_run {P : Program} (q : Nat) (w : World) : (askRoom q).run P w = .ok () w := by unfold askRoom; split <;> rfl
theorem choose_cap_run {P : Program} (need c : Nat) (e : TypeId) (w : World) : (choose (.appendCap need c e)).run P w = .ok ((Question.appendCap need c e).cut (w.tape w.drawn (.appendCap need c e))) { w with drawn := w.drawn + 1 } := by
  simp only [choose, Sem.run, Question.forced, Bool.false_eq_true, if_false]

/-- What is appended, on both sides. -/
theorem new_rel (K : EOk E) (H : WRel E w0 φ h ls W) {elem xt : TypeId} {i : TI} {z x x' : Value} {xd : D} {nn : Nat} {new : List Value} (hi : inf E elem = some i) (hz : zeroV E elem = some z) (hxd : und E xt = some xd) (hx : VRel φ x x')
    (hn : (bif isIntD xd then do
        let k ← asI x
        bif decide (0 ≤ k) && decide (k * i.bytes ≤ 2 ^ 47) && decide (k < 2 ^ 47) && z.cells.size.beq i.size then
          pure (k.toNat, (List.replicate k.toNat z.cells.toList).flatten)
        else fail "append: make"
      else do
        let n ← lenA x
        let new ← firstA h i.size n x
        pure (n, new)) = some (nn, new)) :
    ∃ xd', E.P.underlying xt = some xd' ∧ ∃ new' : Array Value, LRel φ new new'.toList ∧ (new.length = nn * i.size ∨ ∃ s, x = .string s ∧ new.length = nn) ∧
      ((∃ kd k0 k, xd' = .int kd ∧ x' = .int k0 k ∧ nn = k.toNat ∧ 0 ≤ k ∧ k < 2 ^ 47 ∧ k * (i.bytes : Int) ≤ 2 ^ 47 ∧
          ∀ m, (if (!true) = true then Builtin.firstCells i.size nn x' else if nn * i.size = 0 then pure #[] else do pure (Builtin.zeroCells (← zeroValue elem).cells nn) : Sem (Array Value)).run E.P { W with drawn := m } = .ok new' { W with drawn := m }) ∨
        ((∀ k, xd' ≠ .int k) ∧ (∀ w, (Builtin.lenOf x').run E.P w = .ok nn w) ∧
          ∀ m, (if (!false) = true then Builtin.firstCells i.size nn x' else if nn * i.size = 0 then pure #[] else do pure (Builtin.zeroCells (← zeroValue elem).cells nn) : Sem (Array Value)).run E.P { W with drawn := m } = .ok new' { W with drawn := m })) := by
  obtain ⟨xd', hx1, hx2⟩ := und_of K hxd
  refine ⟨xd', hx1, ?_⟩
  obtain ⟨info, hi1, hi2, hi3, hi4⟩ := inf_of K hi
  cases hint : isIntD xd with
  | true =>
    rw [hint] at hn
    simp only [cond_true, Option.pure_def, Option.bind_eq_bind, Option.bind_eq_some_iff] at hn
    obtain ⟨k, hk, hn⟩ := hn
    obtain ⟨kk, _, ex⟩ := asI_rel hk hx
    cases hok : (decide (0 ≤ k) && decide (k * (i.bytes : Int) ≤ 2 ^ 47) && decide (k < 2 ^ 47) && z.cells.size.beq i.size) with
    | false => simp only [hok, cond_false] at hn; cases hn
    | true =>
      simp only [hok, cond_true, Option.some.injEq, Prod.mk.injEq] at hn
      obtain ⟨rfl, rfl⟩ := hn
      simp only [Bool.and_eq_true, decide_eq_true_eq] at hok
      obtain ⟨⟨⟨c1, c2⟩, c3⟩, c4⟩ := hok
      have c4 := Nat.eq_of_beq_eq_true c4
      obtain ⟨_, z2⟩ := run_zero_of K hz W
      have hd : ∃ kd, xd' = .int kd := by
        subst hx2
        cases xd' <;> simp only [absD, isIntD, Bool.false_eq_true] at hint
        exact ⟨_, rfl⟩
      obtain ⟨kd, rfl⟩ := hd
      refine ⟨(List.replicate k.toNat z.cells.toList).flatten.toArray, by simpa using rep_rel (zero_rel z2) k.toNat, .inl ?_, .inl ⟨kd, kk, k, rfl, ex, rfl, c1, c3, c2, ?_⟩⟩
      · simp only [List.length_flatten, List.map_replicate, List.sum_replicate_nat, Array.length_toList, c4]
      · intro m
        simp only [Bool.not_true, Bool.false_eq_true, if_false]
        by_cases h0 : k.toNat * i.size = 0
        · rw [if_pos h0]
          have : (List.replicate k.toNat z.cells.toList).flatten.toArray = #[] := by
            apply Array.ext'
            apply List.length_eq_zero_iff.1
            simp only [List.length_flatten, List.map_replicate, List.sum_replicate_nat, Array.length_toList, c4]
            exact h0
          rw [this]; rfl
        · rw [if_neg h0]
          obtain ⟨z1, _⟩ := run_zero_of K hz { W with drawn := m }
          simp only [Sem.run_bind, z1, Result.andThen_ok, Sem.run_pure]
          congr 1
          apply Array.ext'
          rw [zeroCells_eq]
  | false =>
    rw [hint] at hn
    simp only [cond_false, Option.pure_def, Option.bind_eq_bind, Option.bind_eq_some_iff, Option.some.injEq, Prod.mk.injEq] at hn
    obtain ⟨n1, hl, L, hf, rfl, rfl⟩ := hn
    have hd : ∀ k, xd' ≠ .int k := by
      subst hx2
      cases xd' <;> simp only [absD, isIntD, Bool.true_eq_false] at hint <;> (intro k hh; cases hh)
    obtain ⟨L', q1, q2, q3⟩ := firstA_rel H hx (fun p l c hh => by have := (lenA_rel (E := E) hl hx W).2 p l c hh; omega) hf
    refine ⟨L', q2, ?_, .inr ⟨hd, fun w => (lenA_rel hl hx w).1, ?_⟩⟩
    · cases x with
      | string s => exact .inr ⟨s, rfl, by simpa using q3⟩
      | _ => exact .inl q3
    · intro m
      simp only [Bool.not_false, if_true]
      exact q1 m
end
end Go.AM
