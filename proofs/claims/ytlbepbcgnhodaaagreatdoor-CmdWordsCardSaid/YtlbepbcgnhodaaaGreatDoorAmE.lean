/- The abstract machine: how abstract heaps and true worlds belong together. -/
import Derived.Test.YtlbepbcgnhodaaaGreatDoorAmD
set_option linter.all false
namespace Go.AM
variable [Syms]
open Go.RowKit

structure EOk (E : Env) : Prop where
  ty : ∀ t i, E.ty.get t = some i → ∃ info d, E.P.info? t = some info ∧ E.P.underlying t = some d ∧ absD d = i.desc ∧ info.size = i.size ∧ info.bytes = i.bytes ∧ info.zero = i.zero
  zero : ∀ t i z, E.ty.get t = some i → i.zero = some z → plain z = true
  fns : ∀ f i, E.fns.get f = some i → ∃ fn, E.P.funcs[f]? = some fn ∧ fn.ntmps = i.ntmps ∧ fn.body = i.body ∧ fn.results.toList = i.results ∧ fn.name ≠ "runtime.NumGoroutine"
  ext : ∀ f args v, E.ext f args = some v → args.toList.all plain = true → plain v = true ∧ ∀ w, (callFunc f args).run E.P w = .ok (.value v) w
  mixed : E.mixed = true → E.P.follows .mixedOrders = true
  ngl : E.ng ≤ E.lim

inductive ERel (φ : Ren) : List MapEntry → List MapEntry → Prop
  | nil : ERel φ [] []
  | cons {e e' es es'} (hk : VRel φ e.key e'.key) (hv : VRel φ e.val e'.val) (hb : e.born = e'.born) (t : ERel φ es es') : ERel φ (e :: es) (e' :: es')
theorem ERel.mono {φ ψ : Ren} (h : φ.le ψ) {a b : List MapEntry} (k : ERel φ a b) : ERel ψ a b := by
  induction k with
  | nil => exact .nil
  | cons hk hv hb _ ih => exact .cons (hk.mono h) (hv.mono h) hb ih
theorem ERel.length {φ : Ren} {a b : List MapEntry} (k : ERel φ a b) : a.length = b.length := by
  induction k with
  | nil => rfl
  | cons _ _ _ _ ih => simp [ih]

def MIRel (φ : Ren) : Option Nat → Option Nat → Prop
  | none, none => True
  | some r, some r' => ∃ e, φ r = some e ∧ r' = e.r
  | _, _ => False

structure CRel (E : Env) (φ : Ren) (e : Ent) (c : Array Value) (t : TypeId) (f : Nat × Nat) (c' : Array Value) (f' : Nat × Nat) : Prop where
  asz : c.size = e.asz
  csz : c'.size = e.csz
  le : e.o + e.asz ≤ e.csz
  rigid : f.1 = 0 → e.csz = e.o + e.asz
  cell : ∀ (i : Nat) v, c[i]? = some v → ∃ v', c'[e.o + i]? = some v' ∧ VRel φ v v'
  free : ∀ i, i < c'.size → ¬ (f'.1 ≤ i ∧ i < f'.2)
  fle : f'.1 ≤ f'.2
  elem : ∀ ti, E.ty.get t = some ti → ti.size = e.esz

def ORel (E : Env) (φ : Ren) (e : Ent) : Obj → Obj → Prop
  | .cells c t f, .cells c' t' f' => t' = t ∧ CRel E φ e c t f c' f'
  | .map es n, .map es' n' => n = n' ∧ ERel φ es.toList es'.toList
  | .stringIter s p, .stringIter s' p' => s = s' ∧ p = p' ∧ e.o = 0
  | .mapIter m s a st, .mapIter m' s' a' st' => s = s' ∧ a = a' ∧ st = st' ∧ MIRel φ m m' ∧ e.o = 0
  | .deferred (some []), .deferred (some []) => True
  | _, _ => False

theorem CRel.mono {E : Env} {φ ψ : Ren} (h : φ.le ψ) {e : Ent} {c t f c' f'} (k : CRel E φ e c t f c' f') : CRel E ψ e c t f c' f' :=
  ⟨k.asz, k.csz, k.le, k.rigid, fun i v hv => let ⟨v', a, b⟩ := k.cell i v hv; ⟨v', a, b.mono h⟩, k.free, k.fle, k.elem⟩
theorem MIRel.mono {φ ψ : Ren} (h : φ.le ψ) {a b : Option Nat} (k : MIRel φ a b) : MIRel ψ a b := by
  cases a <;> cases b <;> simp only [MIRel] at k ⊢
  obtain ⟨e, h1, h2⟩ := k
  exact ⟨e, h _ _ h1, h2⟩
theorem ORel.mono {E : Env} {φ ψ : Ren} (h : φ.le ψ) {e : Ent} {o o' : Obj} (k : ORel E φ e o o') : ORel E ψ e o o' := by
  unfold ORel at k ⊢
  split at k
  · exact ⟨k.1, k.2.mono h⟩
  · exact ⟨k.1, k.2.mono h⟩
  · exact k
  · exact ⟨k.1, k.2.1, k.2.2.1, k.2.2.2.1.mono h, k.2.2.2.2⟩
  · exact k
  · exact k.elim

theorem ORel.cells_right {E : Env} {φ : Ren} {e : Ent} {o : Obj} {c t f} (h : ORel E φ e o (.cells c t f)) : ∃ c0 f0, o = .cells c0 t f0 ∧ CRel E φ e c0 t f0 c f := by
  unfold ORel at h
  split at h
  · rename_i h1
    injection h1 with h1 h2 h3
    obtain ⟨rfl, q⟩ := h
    subst h1; subst h2; subst h3
    exact ⟨_, _, rfl, q⟩
  · rename_i h1; cases h1
  · rename_i h1; cases h1
  · rename_i h1; cases h1
  · rename_i h1; cases h1
  · exact h.elim

def FrRel (φ : Ren) (fr : Tr Value) (n : Nat) (tmps : Array Value) : Prop :=
  tmps.size = n ∧ ∀ t v, fr.get t = some v → ∃ v', tmps[t]? = some v' ∧ VRel φ v v'
theorem FrRel.mono {φ ψ : Ren} (h : φ.le ψ) {fr n tmps} (k : FrRel φ fr n tmps) : FrRel ψ fr n tmps :=
  ⟨k.1, fun t v hv => let ⟨v', a, b⟩ := k.2 t v hv; ⟨v', a, b.mono h⟩⟩

def LpRel (φ : Ren) (lp : LoopA) (L : Loop) : Prop :=
  L.state = lp.state ∧ L.pending = lp.pending ∧ L.params = lp.params ∧ L.assign = lp.assign ∧ L.body = lp.body ∧ FrRel φ lp.fr lp.n L.tmps
theorem LpRel.mono {φ ψ : Ren} (h : φ.le ψ) {lp L} (k : LpRel φ lp L) : LpRel ψ lp L := ⟨k.1, k.2.1, k.2.2.1, k.2.2.2.1, k.2.2.2.2.1, k.2.2.2.2.2.mono h⟩

def live (h : Hp) (ls : Tr LoopA) (b : Nat) : Prop := (h.get b).isSome = true ∨ (ls.get b).isSome = true

structure WRel (E : Env) (w0 : World) (φ : Ren) (h : Hp) (ls : Tr LoopA) (W : World) : Prop where
  obj : ∀ b e o, φ b = some e → h.get b = some o → ∃ o', W.heap[e.r]? = some o' ∧ ORel E φ e o o'
  lp : ∀ l lp, ls.get l = some lp → h.get l = none ∧ ∃ e L, φ l = some e ∧ W.heap[e.r]? = some (.loop L) ∧ LpRel φ lp L
  inj : ∀ b b' e e', φ b = some e → φ b' = some e' → live h ls b → live h ls b' → e.r = e'.r → b = b'
  bound : ∀ b e, φ b = some e → e.r < W.heap.size
  glob : ∀ g, g < E.ng → (h.get g).isSome = true → ∃ e, φ g = some e ∧ e.r = g ∧ e.o = 0
  own : ∀ b e, φ b = some e → E.lim ≤ b → w0.heap.size ≤ e.r
  keep : Below w0.heap.size w0 W

def setB (W : World) (r : Nat) (o : Obj) : World := { W with heap := W.heap.setIfInBounds r o }
theorem setB_get (W : World) (r k : Nat) (o : Obj) (h : r < W.heap.size) : (setB W r o).heap[k]? = if k = r then some o else W.heap[k]? := by
  simp only [setB, Array.getElem?_setIfInBounds]
  by_cases hk : r = k
  · subst hk; simp [h]
  · rw [if_neg hk, if_neg (fun x => hk x.symm)]

theorem below_setB {B : Nat} {w0 W : World} (h : Below B w0 W) {r : Nat} (hr : B ≤ r) (o : Obj) : Below B w0 (setB W r o) :=
  ⟨h.os, h.tape, h.output, by have := h.size; simpa [setB] using this, fun k hk => by
    rw [← h.block k hk]; simp only [setB, Array.getElem?_setIfInBounds]; rw [if_neg (by omega)]⟩

/-- An object of the call's own is changed. -/
theorem WRel.put {E : Env} {w0 : World} {φ : Ren} {h : Hp} {ls : Tr LoopA} {W : World} (k : WRel E w0 φ h ls W) {b : Nat} {e : Ent} (hb : φ b = some e)
    (hl : E.lim ≤ b) (hs : (h.get b).isSome = true) {o o' : Obj} (ho : ORel E φ e o o') : WRel E w0 φ (h.put b (some o)) ls (setB W e.r o') := by
  have hlive : ∀ x, live (h.put b (some o)) ls x → live h ls x := by
    intro x hx
    by_cases hxb : x = b
    · subst hxb; exact .inl hs
    · rcases hx with hx | hx
      · rw [Tr.get_put_ne _ _ hxb] at hx; exact .inl hx
      · exact .inr hx
  refine ⟨?_, ?_, ?_, ?_, ?_, k.own, below_setB k.keep (k.own b e hb hl) _⟩
  · intro x ex ox hx hox
    rw [setB_get _ _ _ _ (k.bound b e hb)]
    by_cases hxb : x = b
    · subst hxb
      rw [hb] at hx; injection hx with hx; subst hx
      rw [Tr.get_put_same] at hox; injection hox with hox; subst hox
      exact ⟨o', if_pos rfl, ho⟩
    · rw [Tr.get_put_ne _ _ hxb] at hox
      have : ex.r ≠ e.r := fun he => hxb (k.inj x b ex e hx hb (.inl (by rw [hox]; rfl)) (.inl hs) he)
      rw [if_neg this]
      exact k.obj x ex ox hx hox
  · intro l lp hlp
    obtain ⟨hn, el, L, h1, h2, h3⟩ := k.lp l lp hlp
    have hlb : l ≠ b := by rintro rfl; rw [hn] at hs; simp at hs
    refine ⟨by rw [Tr.get_put_ne _ _ hlb]; exact hn, el, L, h1, ?_, h3⟩
    rw [setB_get _ _ _ _ (k.bound b e hb)]
    have : el.r ≠ e.r := fun he => hlb (k.inj l b el e h1 hb (.inr (by rw [hlp]; rfl)) (.inl hs) he)
    rw [if_neg this]; exact h2
  · intro x y ex ey hx hy lx ly
    exact k.inj x y ex ey hx hy (hlive x lx) (hlive y ly)
  · intro x ex hx; have := k.bound x ex hx; simpa [setB] using this
  · intro g hg hsome
    by_cases hgb : g = b
    · subst hgb; exact k.glob g hg hs
    · rw [Tr.get_put_ne _ _ hgb] at hsome; exact k.glob g hg hsome

/-- An abstract block is given up. -/
theorem WRel.kill {E : Env} {w0 : World} {φ : Ren} {h : Hp} {ls : Tr LoopA} {W : World} (k : WRel E w0 φ h ls W) (b : Nat) : WRel E w0 φ (h.put b none) ls W := by
  have hlive : ∀ x, live (h.put b none) ls x → live h ls x := by
    intro x hx
    by_cases hxb : x = b
    · subst hxb; rcases hx with hx | hx
      · rw [Tr.get_put_same] at hx; simp at hx
      · exact .inr hx
    · rcases hx with hx | hx
      · rw [Tr.get_put_ne _ _ hxb] at hx; exact .inl hx
      · exact .inr hx
  have hget : ∀ x o, (h.put b none).get x = some o → h.get x = some o := by
    intro x o hx
    by_cases hxb : x = b
    · subst hxb; rw [Tr.get_put_same] at hx; simp at hx
    · rw [Tr.get_put_ne _ _ hxb] at hx; exact hx
  refine ⟨fun x ex ox hx hox => k.obj x ex ox hx (hget _ _ hox), ?_, fun x y ex ey hx hy lx ly => k.inj x y ex ey hx hy (hlive x lx) (hlive y ly), k.bound, ?_, k.own, k.keep⟩
  · intro l lp hlp
    obtain ⟨hn, rest⟩ := k.lp l lp hlp
    refine ⟨?_, rest⟩
    by_cases hlb : l = b
    · subst hlb; exact Tr.get_put_same _ _ _
    · rw [Tr.get_put_ne _ _ hlb]; exact hn
  · intro g hg hs
    cases hx : (h.put b none).get g with
    | none => rw [hx] at hs; simp at hs
    | some o => exact k.glob g hg (by rw [hget _ _ hx]; rfl)

/-- What the tape has given plays no part. -/
theorem WRel.drawn {E : Env} {w0 : World} {φ : Ren} {h : Hp} {ls : Tr LoopA} {W : World} (k : WRel E w0 φ h ls W) (n : Nat) : WRel E w0 φ h ls { W with drawn := n } :=
  ⟨k.obj, k.lp, k.inj, k.bound, k.glob, k.own, ⟨k.keep.os, k.keep.tape, k.keep.output, k.keep.size, k.keep.block⟩⟩

def Ren.upd (φ : Ren) (b : Nat) (e : Ent) : Ren := fun x => if x = b then some e else φ x
theorem Ren.upd_same (φ : Ren) (b : Nat) (e : Ent) : φ.upd b e b = some e := by simp [Ren.upd]
theorem Ren.upd_ne (φ : Ren) {b x : Nat} (e : Ent) (h : x ≠ b) : φ.upd b e x = φ x := by simp [Ren.upd, h]
theorem Ren.le_upd {φ : Ren} {b : Nat} (h : φ b = none) (e : Ent) : φ.le (φ.upd b e) := by
  intro x ex hx
  rw [Ren.upd_ne]; exact hx
  rintro rfl; rw [h] at hx; cases hx

def pushW (W : World) (o : Obj) : World := { W with heap := W.heap.push o }
theorem pushW_get (W : World) (o : Obj) (k : Nat) : (pushW W o).heap[k]? = if k = W.heap.size then some o else W.heap[k]? := by
  simp only [pushW, Array.getElem?_push]
theorem setB_pushW (W : World) (o o' : Obj) : setB (pushW W o) W.heap.size o' = pushW W o' := by
  simp only [setB, pushW]
  congr 1
  apply Array.ext_getElem?
  intro i
  rw [Array.getElem?_setIfInBounds, Array.getElem?_push, Array.getElem?_push]
  by_cases h : i = W.heap.size
  · subst h; simp
  · rw [if_neg (fun x => h x.symm), if_neg h, if_neg h]
theorem below_pushW {w0 W : World} (h : Below w0.heap.size w0 W) (o : Obj) : Below w0.heap.size w0 (pushW W o) :=
  ⟨h.os, h.tape, h.output, by have := h.size; simp [pushW]; omega, fun k hk => by
    rw [pushW_get, if_neg (by have := h.size; omega)]; exact h.block k hk⟩

/-- A new block: its abstract number is id; at every heap that has the new object there. -/
theorem WRel.push {E : Env} {w0 : World} {φ : Ren} {h : Hp} {ls : Tr LoopA} {W : World} (k : WRel E w0 φ h ls W) {id : Nat} (hid : φ id = none) (hl : E.lim ≤ id)
    {e : Ent} (he : e.r = W.heap.size) {o o' : Obj} (hs : h.get id = some o) (ho : ORel E (φ.upd id e) e o o') : WRel E w0 (φ.upd id e) h ls (pushW W o') := by
  have hle := Ren.le_upd hid e
  have hbd : ∀ x ex, (φ.upd id e) x = some ex → x ≠ id → φ x = some ex := fun x ex hx hn => by rwa [Ren.upd_ne _ _ hn] at hx
  refine ⟨?_, ?_, ?_, ?_, ?_, ?_, below_pushW k.keep _⟩
  · intro x ex ox hx hox
    rw [pushW_get]
    by_cases hxi : x = id
    · subst hxi
      rw [Ren.upd_same] at hx; injection hx with hx; subst hx
      rw [hs] at hox; injection hox with hox; subst hox
      exact ⟨o', by rw [if_pos he], ho⟩
    · have hx' := hbd x ex hx hxi
      have hlt := k.bound x ex hx'
      rw [if_neg (by omega)]
      obtain ⟨o2, h1, h2⟩ := k.obj x ex ox hx' hox
      exact ⟨o2, h1, h2.mono hle⟩
  · intro l lp hlp
    obtain ⟨hn, el, L, h1, h2, h3⟩ := k.lp l lp hlp
    refine ⟨hn, el, L, hle _ _ h1, ?_, h3.mono hle⟩
    have hlt := k.bound l el h1
    rw [pushW_get, if_neg (by omega)]; exact h2
  · intro x y ex ey hx hy lx ly hr
    by_cases hxi : x = id
    · by_cases hyi : y = id
      · rw [hxi, hyi]
      · have hy' := hbd y ey hy hyi
        have := k.bound y ey hy'
        subst hxi; rw [Ren.upd_same] at hx; injection hx with hx; subst hx; omega
    · have hx' := hbd x ex hx hxi
      by_cases hyi : y = id
      · have := k.bound x ex hx'
        subst hyi; rw [Ren.upd_same] at hy; injection hy with hy; subst hy; omega
      · exact k.inj x y ex ey hx' (hbd y ey hy hyi) lx ly hr
  · intro x ex hx
    have hsz : (pushW W o').heap.size = W.heap.size + 1 := by simp [pushW]
    rw [hsz]
    by_cases hxi : x = id
    · subst hxi; rw [Ren.upd_same] at hx; injection hx with hx; subst hx; omega
    · have := k.bound x ex (hbd x ex hx hxi); omega
  · intro g hg hsome
    obtain ⟨eg, h1, h2⟩ := k.glob g hg hsome
    exact ⟨eg, hle _ _ h1, h2⟩
  · intro x ex hx hlx
    by_cases hxi : x = id
    · subst hxi; rw [Ren.upd_same] at hx; injection hx with hx; subst hx; have := k.keep.size; omega
    · exact k.own x ex (hbd x ex hx hxi) hlx

/-- A row is carried on in place: the elder abstract block is given up, the new one lies where it lay. -/
theorem WRel.moved {E : Env} {w0 : World} {φ : Ren} {h : Hp} {ls : Tr LoopA} {W : World} (k : WRel E w0 φ h ls W) {b id : Nat} {eb e : Ent} (hb : φ b = some eb) (hlb : E.lim ≤ b)
    (hsb : (h.get b).isSome = true) (hid : φ id = none) (hl : E.lim ≤ id) (hng : E.ng ≤ E.lim) (he : e.r = eb.r) {o o' : Obj} (hn : ls.get id = none) (ho : ORel E (φ.upd id e) e o o') :
    WRel E w0 (φ.upd id e) ((h.put b none).put id (some o)) ls (setB W eb.r o') := by
  have hle := Ren.le_upd hid e
  have hbi : b ≠ id := by rintro rfl; rw [hid] at hb; cases hb
  have hbd : ∀ x ex, (φ.upd id e) x = some ex → x ≠ id → φ x = some ex := fun x ex hx hn => by rwa [Ren.upd_ne _ _ hn] at hx
  have hlv : ∀ x, x ≠ id → live ((h.put b none).put id (some o)) ls x → live h ls x ∧ (x = b → (ls.get x).isSome = true) := by
    intro x hx hlx
    rcases hlx with hlx | hlx
    · rw [Tr.get_put_ne _ _ hx] at hlx
      by_cases hxb : x = b
      · subst hxb; rw [Tr.get_put_same] at hlx; simp at hlx
      · rw [Tr.get_put_ne _ _ hxb] at hlx; exact ⟨.inl hlx, fun hh => absurd hh hxb⟩
    · exact ⟨.inr hlx, fun _ => hlx⟩
  have hnb : ls.get b = none := by
    cases hh : ls.get b with
    | none => rfl
    | some lp => have := (k.lp b lp hh).1; rw [this] at hsb; simp at hsb
  have hne : ∀ x ex, φ x = some ex → x ≠ id → live ((h.put b none).put id (some o)) ls x → ex.r ≠ eb.r := by
    intro x ex hx hxi hlx heq
    obtain ⟨h1, h2⟩ := hlv x hxi hlx
    have : x = b := k.inj x b ex eb hx hb h1 (.inl hsb) heq
    have := h2 this
    subst x; rw [hnb] at this; simp at this
  refine ⟨?_, ?_, ?_, ?_, ?_, ?_, below_setB k.keep (k.own b eb hb hlb) _⟩
  · intro x ex ox hx hox
    rw [setB_get _ _ _ _ (k.bound b eb hb)]
    by_cases hxi : x = id
    · subst hxi
      rw [Ren.upd_same] at hx; injection hx with hx; subst hx
      rw [Tr.get_put_same] at hox; injection hox with hox; subst hox
      exact ⟨o', by rw [if_pos he], ho⟩
    · have hx' := hbd x ex hx hxi
      have hlx : live ((h.put b none).put id (some o)) ls x := .inl (by rw [hox]; rfl)
      rw [if_neg (hne x ex hx' hxi hlx)]
      rw [Tr.get_put_ne _ _ hxi] at hox
      have hxb : x ≠ b := by rintro rfl; rw [Tr.get_put_same] at hox; cases hox
      rw [Tr.get_put_ne _ _ hxb] at hox
      obtain ⟨o2, h1, h2⟩ := k.obj x ex ox hx' hox
      exact ⟨o2, h1, h2.mono hle⟩
  · intro l lp hlp
    obtain ⟨hnn, el, L, h1, h2, h3⟩ := k.lp l lp hlp
    have hli : l ≠ id := by rintro rfl; rw [hid] at h1; cases h1
    refine ⟨?_, el, L, hle _ _ h1, ?_, h3.mono hle⟩
    · rw [Tr.get_put_ne _ _ hli]
      by_cases hlb' : l = b
      · subst hlb'; exact Tr.get_put_same _ _ _
      · rw [Tr.get_put_ne _ _ hlb']; exact hnn
    · rw [setB_get _ _ _ _ (k.bound b eb hb), if_neg (hne l el h1 hli (.inr (by rw [hlp]; rfl)))]; exact h2
  · intro x y ex ey hx hy lx ly hr
    by_cases hxi : x = id
    · by_cases hyi : y = id
      · rw [hxi, hyi]
      · subst hxi; rw [Ren.upd_same] at hx; injection hx with hx; subst hx
        exact absurd (hr.symm.trans he) (hne y ey (hbd y ey hy hyi) hyi ly)
    · by_cases hyi : y = id
      · subst hyi; rw [Ren.upd_same] at hy; injection hy with hy; subst hy
        exact absurd (hr.trans he) (hne x ex (hbd x ex hx hxi) hxi lx)
      · exact k.inj x y ex ey (hbd x ex hx hxi) (hbd y ey hy hyi) (hlv x hxi lx).1 (hlv y hyi ly).1 hr
  · intro x ex hx
    have hsz : (setB W eb.r o').heap.size = W.heap.size := by simp [setB]
    rw [hsz]
    by_cases hxi : x = id
    · subst hxi; rw [Ren.upd_same] at hx; injection hx with hx; subst hx; have := k.bound b eb hb; omega
    · exact k.bound x ex (hbd x ex hx hxi)
  · intro g hg hsome
    have hgi : g ≠ id := by omega
    rw [Tr.get_put_ne _ _ hgi] at hsome
    have hgb : g ≠ b := by omega
    rw [Tr.get_put_ne _ _ hgb] at hsome
    obtain ⟨eg, h1, h2⟩ := k.glob g hg hsome
    exact ⟨eg, hle _ _ h1, h2⟩
  · intro x ex hx hlx
    by_cases hxi : x = id
    · subst hxi; rw [Ren.upd_same] at hx; injection hx with hx; subst hx; rw [he]; exact k.own b eb hb hlb
    · exact k.own x ex (hbd x ex hx hxi) hlx

/-- A heap that has less. -/
theorem WRel.less {E : Env} {w0 : World} {φ : Ren} {h h' : Hp} {ls : Tr LoopA} {W : World} (k : WRel E w0 φ h ls W) (hs : ∀ b o, φ b ≠ none → h'.get b = some o → h.get b = some o)
    (hg : ∀ b, b < E.lim → h'.get b = h.get b) (hng : E.ng ≤ E.lim) (hl : ∀ b lp, ls.get b = some lp → h'.get b = none) : WRel E w0 φ h' ls W := by
  have hlive : ∀ x, φ x ≠ none → live h' ls x → live h ls x := by
    intro x hx hl
    rcases hl with hl | hl
    · cases hh : h'.get x with
      | none => rw [hh] at hl; simp at hl
      | some o => exact .inl (by rw [hs x o hx hh]; rfl)
    · exact .inr hl
  refine ⟨fun x ex ox hx hox => k.obj x ex ox hx (hs x ox (by rw [hx]; simp) hox), fun l lp hlp => ⟨hl l lp hlp, (k.lp l lp hlp).2⟩,
    fun x y ex ey hx hy lx ly => k.inj x y ex ey hx hy (hlive x (by rw [hx]; simp) lx) (hlive y (by rw [hy]; simp) ly), k.bound, ?_, k.own, k.keep⟩
  intro g hgl hsome
  rw [hg g (by omega)] at hsome
  exact k.glob g hgl hsome

/-! Reading and writing cells. -/
theorem add_mk (r o i : Nat) : (⟨r, o, none⟩ : Addr).add i = ⟨r, o + i, none⟩ := by
  unfold Addr.add
  split
  · rename_i h; subst h; rfl
  · rfl
theorem cell_mk (W : World) (r o : Nat) {c t f} (h : W.heap[r]? = some (.cells c t f)) : W.cell? ⟨r, o, none⟩ = c[o]? := by
  simp [World.cell?, h]
theorem frozen_mk (W : World) (r o : Nat) {c t f} (h : W.heap[r]? = some (.cells c t f)) : W.frozen? ⟨r, o, none⟩ = (decide (f.1 ≤ o) && decide (o < f.2)) := by
  obtain ⟨f1, f2⟩ := f
  simp [World.frozen?, h]

theorem run_load_cell {P : Program} {W : World} {a : Addr} {v : Value} (h : W.cell? a = some v) : (load a).run P W = .ok v W := by
  simp [h]

theorem run_loadCellsFrom {P : Program} {W : World} {r o : Nat} {c t f} (hb : W.heap[r]? = some (.cells c t f)) : ∀ (n i : Nat) (acc : Array Value), o + i + n ≤ c.size →
    (loadCellsFrom ⟨r, o, none⟩ i n acc).run P W = .ok (acc ++ ((c.toList.drop (o + i)).take n).toArray) W := by
  intro n
  induction n with
  | zero => intro i acc _; simp [loadCellsFrom]
  | succ n ih =>
    intro i acc hle
    have hlt : o + i < c.size := by omega
    have hcell : W.cell? ((⟨r, o, none⟩ : Addr).add i) = some c[o + i] := by rw [add_mk, cell_mk W r _ hb]; simp [hlt]
    simp only [loadCellsFrom, Sem.run_bind, run_load_cell hcell, Result.andThen_ok]
    rw [ih (i + 1) _ (by omega)]
    congr 1
    have : c.toList.drop (o + i) = c[o + i] :: c.toList.drop (o + (i + 1)) := by
      rw [List.drop_eq_getElem_cons (by simpa using hlt)]; simp [Nat.add_assoc]
    rw [this, List.take_succ_cons]
    apply Array.ext'
    simp

theorem run_loadCells {P : Program} {W : World} {r o n : Nat} {c t f} (hb : W.heap[r]? = some (.cells c t f)) (h : o + n ≤ c.size) :
    (loadCells ⟨r, o, none⟩ n).run P W = .ok ((c.toList.drop o).take n).toArray W := by
  unfold loadCells
  rw [run_loadCellsFrom hb n 0 #[] (by omega)]
  simp

theorem run_store_cell {P : Program} {W : World} {r o : Nat} {c t f} (hb : W.heap[r]? = some (.cells c t f)) (ho : o < c.size) (hf : ¬ (f.1 ≤ o ∧ o < f.2)) {v : Value} (hv : one v = true) :
    (store ⟨r, o, none⟩ v).run P W = .ok () (setB W r (.cells (c.setIfInBounds o v) t f)) := by
  have h1 : W.cell? ⟨r, o, none⟩ = some c[o] := by rw [cell_mk W r o hb]; simp [ho]
  have h2 : W.frozen? ⟨r, o, none⟩ = false := by
    rw [frozen_mk W r o hb]
    simp only [Bool.and_eq_false_iff, decide_eq_false_iff_not]
    by_cases h : f.1 ≤ o
    · exact .inr (fun h' => hf ⟨h, h'⟩)
    · exact .inl h
  have h3 : W.setCell ⟨r, o, none⟩ v = setB W r (.cells (c.setIfInBounds o v) t f) := by
    simp only [World.setCell, setB]
    congr 1
    apply Array.ext_getElem?
    intro i
    rw [Array.getElem?_modify, Array.getElem?_setIfInBounds]
    by_cases hi : r = i
    · subst hi
      have hlt : r < W.heap.size := by
        rcases Nat.lt_or_ge r W.heap.size with h | h
        · exact h
        · simp [Array.getElem?_eq_none h] at hb
      have hval : W.heap[r] = .cells c t f := by rw [Array.getElem?_eq_getElem hlt] at hb; injection hb
      simp [hlt, hval]
    · simp [hi]
  cases v <;> first
    | (simp [one] at hv; done)
    | (simp only [store, Sem.run, h1, h2, Bool.false_eq_true, if_false, h3])

theorem wr_size : ∀ (vs : List Value) (c : Array Value) (i : Nat), (wr c i vs).size = c.size
  | [], _, _ => rfl
  | v :: vs, c, i => by rw [wr, wr_size vs]; simp

theorem run_storeCells {P : Program} {r o : Nat} {t f} : ∀ (vs : List Value) (i : Nat) (W : World) (c : Array Value), W.heap[r]? = some (.cells c t f) → o + i + vs.length ≤ c.size →
    (∀ j, j < c.size → ¬ (f.1 ≤ j ∧ j < f.2)) → vs.all one = true → (storeCells ⟨r, o, none⟩ vs i).run P W = .ok () (setB W r (.cells (wr c (o + i) vs) t f)) := by
  intro vs
  induction vs with
  | nil =>
    intro i W c hb _ _ _
    simp only [storeCells, Sem.run_pure, wr]
    congr 1
    obtain ⟨heap, _, _, _, _⟩ := W
    simp only [setB]
    congr 1
    apply Array.ext_getElem?
    intro k
    rw [Array.getElem?_setIfInBounds]
    by_cases hk : r = k
    · subst hk
      rw [if_pos rfl]
      have hlt : r < heap.size := by
        rcases Nat.lt_or_ge r heap.size with h | h
        · exact h
        · simp [Array.getElem?_eq_none h] at hb
      rw [if_pos hlt]; exact hb
    · rw [if_neg hk]
  | cons v vs ih =>
    intro i W c hb hle hf hv
    simp only [List.all_cons, Bool.and_eq_true] at hv
    simp only [List.length_cons] at hle
    have hlt : o + i < c.size := by omega
    have hr : r < W.heap.size := by
      rcases Nat.lt_or_ge r W.heap.size with h | h
      · exact h
      · simp [Array.getElem?_eq_none h] at hb
    simp only [storeCells, Sem.run_bind, add_mk, run_store_cell hb hlt (hf _ hlt) hv.1, Result.andThen_ok]
    rw [ih (i + 1) _ (c.setIfInBounds (o + i) v) (by rw [setB_get _ _ _ _ hr, if_pos rfl]) (by simpa using by omega) (by simpa using hf) hv.2]
    rw [wr]
    congr 1
    simp [setB, Nat.add_assoc]

/-- A true row gets other marks, its cells as they were. -/
theorem WRel.mark {E : Env} {w0 : World} {φ : Ren} {h : Hp} {ls : Tr LoopA} {W : World} (k : WRel E w0 φ h ls W) {b : Nat} {e : Ent} (hb : φ b = some e) (hl : E.lim ≤ b) {c t f f'}
    (hw : W.heap[e.r]? = some (.cells c t f)) (hf : ∀ i, i < c.size → ¬ (f'.1 ≤ i ∧ i < f'.2)) (hf2 : f'.1 ≤ f'.2) : WRel E w0 φ h ls (setB W e.r (.cells c t f')) := by
  refine ⟨?_, ?_, k.inj, ?_, k.glob, k.own, below_setB k.keep (k.own b e hb hl) _⟩
  · intro x ex ox hx hox
    rw [setB_get _ _ _ _ (k.bound b e hb)]
    obtain ⟨o2, h1, h2⟩ := k.obj x ex ox hx hox
    by_cases hr : ex.r = e.r
    · rw [if_pos hr]
      rw [hr, hw] at h1; injection h1 with h1; subst h1
      refine ⟨_, rfl, ?_⟩
      obtain ⟨c0, f0, rfl, q2⟩ := h2.cells_right
      exact ⟨rfl, ⟨q2.asz, q2.csz, q2.le, q2.rigid, q2.cell, hf, hf2, q2.elem⟩⟩
    · rw [if_neg hr]; exact ⟨o2, h1, h2⟩
  · intro l lp hlp
    obtain ⟨hn, el, L, h1, h2, h3⟩ := k.lp l lp hlp
    refine ⟨hn, el, L, h1, ?_, h3⟩
    rw [setB_get _ _ _ _ (k.bound b e hb)]
    have : el.r ≠ e.r := fun he => by rw [he, hw] at h2; cases h2
    rw [if_neg this]; exact h2
  · intro x ex hx; have := k.bound x ex hx; simpa [setB] using this

theorem run_markStringish {P : Program} {W : World} {r o : Nat} {c t f} (hb : W.heap[r]? = some (.cells c t f)) :
    (markStringish ⟨r, o, none⟩).run P W = .ok () (setB W r (.cells c t (if f.1 == f.2 then (c.size, c.size + 1) else (min f.1 c.size, max f.2 (c.size + 1))))) := by
  obtain ⟨f1, f2⟩ := f
  have hlt : r < W.heap.size := by
    rcases Nat.lt_or_ge r W.heap.size with h | h
    · exact h
    · simp [Array.getElem?_eq_none h] at hb
  have hsh : W.shape? r = some (t, c.size) := by simp [World.shape?, hb]
  have hval : W.heap[r] = .cells c t (f1, f2) := by rw [Array.getElem?_eq_getElem hlt] at hb; injection hb
  have hfz : W.freeze ⟨r, c.size, none⟩ 1 = setB W r (.cells c t (if f1 == f2 then (c.size, c.size + 1) else (min f1 c.size, max f2 (c.size + 1)))) := by
    simp only [World.freeze, setB]
    rw [if_neg (by omega)]
    congr 1
    apply Array.ext_getElem?
    intro i
    rw [Array.getElem?_modify, Array.getElem?_setIfInBounds]
    by_cases hi : r = i
    · subst hi
      simp [hlt, hval]
    · simp [hi]
  simp only [markStringish, Sem.run_bind, shape, Sem.run, hsh, Result.andThen_ok, freeze, hfz]

/-- What 'wr' has laid. -/
theorem wr_get : ∀ (vs : List Value) (c : Array Value) (i k : Nat), i + vs.length ≤ c.size → (wr c i vs)[k]? = if i ≤ k ∧ k < i + vs.length then vs[k - i]? else c[k]?
  | [], c, i, k, _ => by rw [wr, if_neg (by rintro ⟨h1, h2⟩; simp only [List.length_nil] at h2; omega)]
  | v :: vs, c, i, k, h => by
    simp only [List.length_cons] at h ⊢
    rw [wr, wr_get vs _ _ _ (by simpa using by omega)]
    by_cases h1 : i + 1 ≤ k ∧ k < i + 1 + vs.length
    · rw [if_pos h1, if_pos (by omega)]
      have : k - i = (k - (i + 1)) + 1 := by omega
      rw [this]; rfl
    · rw [if_neg h1, Array.getElem?_setIfInBounds]
      by_cases h2 : i = k
      · subst h2
        rw [if_pos rfl, if_pos (by omega), if_pos (by omega)]; simp
      · rw [if_neg h2, if_neg (by omega)]
end Go.AM
