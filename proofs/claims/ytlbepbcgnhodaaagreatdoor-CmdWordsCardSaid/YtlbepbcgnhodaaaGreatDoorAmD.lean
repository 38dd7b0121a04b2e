/- The abstract machine: how abstract values and true ones belong together. -/
import Derived.Test.YtlbepbcgnhodaaaGreatDoorAmC
set_option linter.all false
namespace Go.AM

/-- Which string each of those that stand for any string is. -/
class Syms where
  ρ : ByteArray → ByteArray
variable [Syms]
def stv (s : ByteArray) : ByteArray := if isPh s = true then Syms.ρ s else s
theorem stv_of {s : ByteArray} (h : isPh s = false) : stv s = s := by simp [stv, h]

/-- Where an abstract block lies: the true block, from which cell on, how many cells the abstract row has, how many an element has, how many the true row has. -/
structure Ent where
  r : Nat
  o : Nat
  asz : Nat
  esz : Nat
  csz : Nat

abbrev Ren := Nat → Option Ent
def Ren.le (φ ψ : Ren) : Prop := ∀ b e, φ b = some e → ψ b = some e
theorem Ren.le_refl (φ : Ren) : φ.le φ := fun _ _ h => h
theorem Ren.le_trans {φ ψ χ : Ren} (h : φ.le ψ) (k : ψ.le χ) : φ.le χ := fun b e hb => k b e (h b e hb)

inductive FnRel (φ : Ren) : Fn → Fn → Prop
  | func (f) : FnRel φ (.func f) (.func f)
  | method (n) : FnRel φ (.method n) (.method n)
  | methodOf (t n) : FnRel φ (.methodOf t n) (.methodOf t n)
  | via (t p f b) : FnRel φ (.via t p f b) (.via t p f b)
  | yield {l e} (h : φ l = some e) : FnRel φ (.yield l) (.yield e.r)

inductive VRel (φ : Ren) : Value → Value → Prop
  | bool (b) : VRel φ (.bool b) (.bool b)
  | int (k n) : VRel φ (.int k n) (.int k n)
  | float (k n) : VRel φ (.float k n) (.float k n)
  | complex (k a b) : VRel φ (.complex k a b) (.complex k a b)
  | string (s) : VRel φ (.string s) (.string (stv s))
  | ptr0 : VRel φ (.pointer none) (.pointer none)
  | ptr {b o : Nat} {e : Ent} (h : φ b = some e) : VRel φ (.pointer (some ⟨b, o, none⟩)) (.pointer (some ⟨e.r, e.o + o, none⟩))
  | slice0 (n c) : VRel φ (.slice none n c) (.slice none n c)
  | slice {b o n c c' : Nat} {e : Ent} (h : φ b = some e) (hc : c = c' ∨ (0 < e.esz ∧ c ≤ c' ∧ o + c * e.esz = e.asz ∧ e.o + o + c' * e.esz ≤ e.csz)) :
      VRel φ (.slice (some ⟨b, o, none⟩) n c) (.slice (some ⟨e.r, e.o + o, none⟩) n c')
  | sliceE {b o y c' : Nat} {e : Ent} (h : φ b = some e) (hc : c' = 0 ∨ (0 < e.esz ∧ y = e.o + e.asz ∧ y + c' * e.esz ≤ e.csz)) :
      VRel φ (.slice (some ⟨b, o, none⟩) 0 0) (.slice (some ⟨e.r, y, none⟩) 0 c')
  | map0 : VRel φ (.map none) (.map none)
  | map {r : Nat} {e : Ent} (h : φ r = some e) : VRel φ (.map (some r)) (.map (some e.r))
  | func {fn fn' : Fn} {a a' c c' : Array Value} (hf : FnRel φ fn fn') (ha : a.size = a'.size) (hc : c.size = c'.size)
      (h1 : ∀ (i : Nat) v w, a[i]? = some v → a'[i]? = some w → VRel φ v w) (h2 : ∀ (i : Nat) v w, c[i]? = some v → c'[i]? = some w → VRel φ v w) : VRel φ (.func fn a c) (.func fn' a' c')
  | nilFunc : VRel φ .nilFunc .nilFunc
  | iface {t v w} (h : VRel φ v w) : VRel φ (.iface t v) (.iface t w)
  | nilIface : VRel φ .nilIface .nilIface
  | agg {a a' : Array Value} (ha : a.size = a'.size) (h1 : ∀ (i : Nat) v w, a[i]? = some v → a'[i]? = some w → VRel φ v w) : VRel φ (.agg a) (.agg a')
  | tuple {a a' : Array Value} (ha : a.size = a'.size) (h1 : ∀ (i : Nat) v w, a[i]? = some v → a'[i]? = some w → VRel φ v w) : VRel φ (.tuple a) (.tuple a')

theorem FnRel.mono {φ ψ : Ren} (h : φ.le ψ) {f g : Fn} (k : FnRel φ f g) : FnRel ψ f g := by
  cases k with
  | func f => exact .func f
  | method n => exact .method n
  | methodOf t n => exact .methodOf t n
  | via t p f b => exact .via t p f b
  | yield hl => exact .yield (h _ _ hl)

theorem VRel.mono {φ ψ : Ren} (h : φ.le ψ) {v w : Value} (k : VRel φ v w) : VRel ψ v w := by
  induction k with
  | bool b => exact .bool b
  | int k n => exact .int k n
  | float k n => exact .float k n
  | complex k a b => exact .complex k a b
  | string s => exact .string s
  | ptr0 => exact .ptr0
  | ptr hb => exact .ptr (h _ _ hb)
  | slice0 n c => exact .slice0 n c
  | slice hb hc => exact .slice (h _ _ hb) hc
  | sliceE hb hc => exact .sliceE (h _ _ hb) hc
  | map0 => exact .map0
  | map hb => exact .map (h _ _ hb)
  | func hf ha hc _ _ ih1 ih2 => exact .func (hf.mono h) ha hc ih1 ih2
  | nilFunc => exact .nilFunc
  | iface _ ih => exact .iface ih
  | nilIface => exact .nilIface
  | agg ha _ ih => exact .agg ha ih
  | tuple ha _ ih => exact .tuple ha ih

/-! Lists. -/
inductive LRel (φ : Ren) : List Value → List Value → Prop
  | nil : LRel φ [] []
  | cons {v w vs ws} (h : VRel φ v w) (t : LRel φ vs ws) : LRel φ (v :: vs) (w :: ws)

theorem LRel.mono {φ ψ : Ren} (h : φ.le ψ) {v w : List Value} (k : LRel φ v w) : LRel ψ v w := by
  induction k with
  | nil => exact .nil
  | cons a _ ih => exact .cons (a.mono h) ih
theorem LRel.length {φ : Ren} {v w : List Value} (k : LRel φ v w) : v.length = w.length := by
  induction k with
  | nil => rfl
  | cons _ _ ih => simp [ih]
theorem LRel.get {φ : Ren} {vs ws : List Value} (k : LRel φ vs ws) : ∀ (i : Nat) (v : Value), vs[i]? = some v → ∃ w, ws[i]? = some w ∧ VRel φ v w := by
  induction k with
  | nil => intro i v h; simp at h
  | cons a _ ih =>
    intro i v h
    cases i with
    | zero => simp at h; subst h; exact ⟨_, rfl, a⟩
    | succ i => simpa using ih i v (by simpa using h)
theorem LRel.of {φ : Ren} : ∀ {vs ws : List Value}, vs.length = ws.length → (∀ (i : Nat) v w, vs[i]? = some v → ws[i]? = some w → VRel φ v w) → LRel φ vs ws
  | [], [], _, _ => .nil
  | v :: vs, w :: ws, hl, h => .cons (h 0 v w rfl rfl) (LRel.of (by simpa using hl) fun i a b ha hb => h (i + 1) a b (by simpa using ha) (by simpa using hb))
  | [], _ :: _, hl, _ => by simp at hl
  | _ :: _, [], hl, _ => by simp at hl
theorem LRel.append {φ : Ren} {a b c d : List Value} (h : LRel φ a b) (k : LRel φ c d) : LRel φ (a ++ c) (b ++ d) := by
  induction h with
  | nil => exact k
  | cons x _ ih => exact .cons x ih
theorem LRel.drop {φ : Ren} {a b : List Value} (h : LRel φ a b) : ∀ n, LRel φ (a.drop n) (b.drop n) := by
  induction h with
  | nil => intro n; simp; exact .nil
  | cons x t ih => intro n; cases n with
    | zero => exact .cons x t
    | succ n => exact ih n
theorem LRel.take {φ : Ren} {a b : List Value} (h : LRel φ a b) : ∀ n, LRel φ (a.take n) (b.take n) := by
  induction h with
  | nil => intro n; simp; exact .nil
  | cons x t ih => intro n; cases n with
    | zero => exact .nil
    | succ n => exact .cons x (ih n)

def ARel (φ : Ren) (a b : Array Value) : Prop := LRel φ a.toList b.toList
theorem ARel.of {φ : Ren} {a b : Array Value} (hs : a.size = b.size) (h : ∀ (i : Nat) v w, a[i]? = some v → b[i]? = some w → VRel φ v w) : ARel φ a b :=
  LRel.of (by simpa using hs) fun i v w hv hw => h i v w (by simpa using hv) (by simpa using hw)
theorem ARel.size {φ : Ren} {a b : Array Value} (h : ARel φ a b) : a.size = b.size := by simpa using h.length
theorem ARel.get {φ : Ren} {a b : Array Value} (h : ARel φ a b) (i : Nat) (v w : Value) (hv : a[i]? = some v) (hw : b[i]? = some w) : VRel φ v w := by
  obtain ⟨w', h1, h2⟩ := LRel.get h i v (by simpa using hv)
  have : b[i]? = some w' := by simpa using h1
  rw [this] at hw; injection hw with hw; exact hw ▸ h2
theorem ARel.get' {φ : Ren} {a b : Array Value} (h : ARel φ a b) (i : Nat) (v : Value) (hv : a[i]? = some v) : ∃ w, b[i]? = some w ∧ VRel φ v w := by
  obtain ⟨w', h1, h2⟩ := LRel.get h i v (by simpa using hv)
  exact ⟨w', by simpa using h1, h2⟩
theorem VRel.agg_of {φ : Ren} {a b : Array Value} (h : ARel φ a b) : VRel φ (.agg a) (.agg b) := .agg h.size h.get
theorem VRel.tuple_of {φ : Ren} {a b : Array Value} (h : ARel φ a b) : VRel φ (.tuple a) (.tuple b) := .tuple h.size h.get
theorem VRel.func_of {φ : Ren} {f g : Fn} {a b c d : Array Value} (hf : FnRel φ f g) (h : ARel φ a b) (k : ARel φ c d) : VRel φ (.func f a c) (.func g b d) := .func hf h.size k.size h.get k.get
theorem VRel.agg_inv {φ : Ren} {a : Array Value} {w : Value} (h : VRel φ (.agg a) w) : ∃ b, w = .agg b ∧ ARel φ a b := by
  cases h with | agg ha h1 => exact ⟨_, rfl, ARel.of ha h1⟩
theorem VRel.tuple_inv {φ : Ren} {a : Array Value} {w : Value} (h : VRel φ (.tuple a) w) : ∃ b, w = .tuple b ∧ ARel φ a b := by
  cases h with | tuple ha h1 => exact ⟨_, rfl, ARel.of ha h1⟩
theorem VRel.func_inv {φ : Ren} {f : Fn} {a c : Array Value} {w : Value} (h : VRel φ (.func f a c) w) : ∃ g b d, w = .func g b d ∧ FnRel φ f g ∧ ARel φ a b ∧ ARel φ c d := by
  cases h with | func hf ha hc h1 h2 => exact ⟨_, _, _, rfl, hf, ARel.of ha h1, ARel.of hc h2⟩
theorem VRel.iface_inv {φ : Ren} {t : TypeId} {v w : Value} (h : VRel φ (.iface t v) w) : ∃ u, w = .iface t u ∧ VRel φ v u := by
  cases h with | iface h => exact ⟨_, rfl, h⟩
theorem VRel.ptr_inv {φ : Ren} {a : Addr} {w : Value} (h : VRel φ (.pointer (some a)) w) : ∃ e, φ a.block = some e ∧ a.spot = none ∧ w = .pointer (some ⟨e.r, e.o + a.off, none⟩) := by
  cases h with | ptr h => exact ⟨_, h, rfl, rfl⟩
theorem VRel.slice_inv {φ : Ren} {a : Addr} {n c : Nat} {w : Value} (h : VRel φ (.slice (some a) n c) w) : ∃ e y c', φ a.block = some e ∧ a.spot = none ∧
    w = .slice (some ⟨e.r, y, none⟩) n c' ∧ ((y = e.o + a.off ∧ (c = c' ∨ (0 < e.esz ∧ c ≤ c' ∧ a.off + c * e.esz = e.asz ∧ e.o + a.off + c' * e.esz ≤ e.csz))) ∨
      (n = 0 ∧ c = 0 ∧ (c' = 0 ∨ (0 < e.esz ∧ y = e.o + e.asz ∧ y + c' * e.esz ≤ e.csz)))) := by
  cases h with
  | slice h hc => exact ⟨_, _, _, h, rfl, rfl, .inl ⟨rfl, hc⟩⟩
  | sliceE h hc => exact ⟨_, _, _, h, rfl, rfl, .inr ⟨rfl, rfl, hc⟩⟩
theorem VRel.string_inv {φ : Ren} {s : ByteArray} {w : Value} (h : VRel φ (.string s) w) (hs : isPh s = false) : w = .string s := by
  cases h; rw [stv_of hs]
theorem VRel.str {φ : Ren} {s : ByteArray} (hs : isPh s = false) : VRel φ (.string s) (.string s) := by
  have := VRel.string (φ := φ) s; rwa [stv_of hs] at this
theorem VRel.map_inv {φ : Ren} {r : Nat} {w : Value} (h : VRel φ (.map (some r)) w) : ∃ e, φ r = some e ∧ w = .map (some e.r) := by
  cases h with | map h => exact ⟨_, h, rfl⟩
theorem VRel.cells {φ : Ren} {v w : Value} (h : VRel φ v w) : ARel φ v.cells w.cells := by
  cases h with
  | agg ha h1 => exact ARel.of ha h1
  | bool b => exact LRel.cons (.bool b) .nil
  | int k n => exact LRel.cons (.int k n) .nil
  | float k n => exact LRel.cons (.float k n) .nil
  | complex k a b => exact LRel.cons (.complex k a b) .nil
  | string s => exact LRel.cons (.string s) .nil
  | ptr0 => exact LRel.cons .ptr0 .nil
  | ptr hb => exact LRel.cons (.ptr hb) .nil
  | slice0 n c => exact LRel.cons (.slice0 n c) .nil
  | slice hb hc => exact LRel.cons (.slice hb hc) .nil
  | sliceE hb hc => exact LRel.cons (.sliceE hb hc) .nil
  | map0 => exact LRel.cons .map0 .nil
  | map hb => exact LRel.cons (.map hb) .nil
  | func hf ha hc h1 h2 => exact LRel.cons (.func hf ha hc h1 h2) .nil
  | nilFunc => exact LRel.cons .nilFunc .nil
  | iface h => exact LRel.cons (.iface h) .nil
  | nilIface => exact LRel.cons .nilIface .nil
  | tuple ha h1 => exact LRel.cons (.tuple ha h1) .nil
theorem VRel.one {φ : Ren} {v w : Value} (h : VRel φ v w) : one w = one v := by cases h <;> rfl

/-! Plain values. -/
theorem plainN_rel : ∀ (n : Nat) (v : Value), plainN n v = true → ∀ φ, VRel φ v v ∧ ∀ w, VRel φ v w → w = v := by
  intro n
  induction n with
  | zero => intro v h; simp [plainN] at h
  | succ n ih =>
    intro v h φ
    have key : ∀ (l : List Value), l.all (plainN n) = true → LRel φ l l ∧ ∀ m, LRel φ l m → m = l := by
      intro l
      induction l with
      | nil => intro _; exact ⟨.nil, fun m hm => by cases hm; rfl⟩
      | cons x xs ihl =>
        intro hx
        simp only [List.all_cons, Bool.and_eq_true] at hx
        obtain ⟨p1, p2⟩ := ih x hx.1 φ
        obtain ⟨q1, q2⟩ := ihl hx.2
        exact ⟨.cons p1 q1, fun m hm => by cases hm with | cons a b => rw [p2 _ a, q2 _ b]⟩
    cases v with
    | bool b => exact ⟨.bool b, fun w hw => by cases hw; rfl⟩
    | int k m => exact ⟨.int k m, fun w hw => by cases hw; rfl⟩
    | float k m => exact ⟨.float k m, fun w hw => by cases hw; rfl⟩
    | complex k a b => exact ⟨.complex k a b, fun w hw => by cases hw; rfl⟩
    | string s =>
      have hs : stv s = s := stv_of (by simpa [plainN] using h)
      exact ⟨by have := VRel.string (φ := φ) s; rwa [hs] at this, fun w hw => by cases hw; rw [hs]⟩
    | pointer a => cases a with
      | none => exact ⟨.ptr0, fun w hw => by cases hw; rfl⟩
      | some a => simp [plainN] at h
    | slice a l c => cases a with
      | none => exact ⟨.slice0 l c, fun w hw => by cases hw; rfl⟩
      | some a => simp [plainN] at h
    | map a => cases a with
      | none => exact ⟨.map0, fun w hw => by cases hw; rfl⟩
      | some a => simp [plainN] at h
    | chan c => simp [plainN] at h
    | nilFunc => exact ⟨.nilFunc, fun w hw => by cases hw; rfl⟩
    | nilIface => exact ⟨.nilIface, fun w hw => by cases hw; rfl⟩
    | iface t u =>
      simp only [plainN] at h
      obtain ⟨p1, p2⟩ := ih u h φ
      exact ⟨.iface p1, fun w hw => by obtain ⟨x, rfl, hx⟩ := hw.iface_inv; rw [p2 _ hx]⟩
    | agg cs =>
      simp only [plainN] at h
      obtain ⟨q1, q2⟩ := key _ h
      refine ⟨.agg_of q1, fun w hw => ?_⟩
      obtain ⟨b, rfl, hb⟩ := hw.agg_inv
      rw [show b = cs from Array.ext' (q2 _ hb)]
    | tuple cs =>
      simp only [plainN] at h
      obtain ⟨q1, q2⟩ := key _ h
      refine ⟨.tuple_of q1, fun w hw => ?_⟩
      obtain ⟨b, rfl, hb⟩ := hw.tuple_inv
      rw [show b = cs from Array.ext' (q2 _ hb)]
    | func f a b =>
      cases f with
      | func f =>
        simp only [plainN, Bool.and_eq_true] at h
        obtain ⟨q1, q2⟩ := key _ h.1
        obtain ⟨r1, r2⟩ := key _ h.2
        refine ⟨.func_of (.func f) q1 r1, fun w hw => ?_⟩
        obtain ⟨g, x, y, rfl, hf, hx, hy⟩ := hw.func_inv
        cases hf
        rw [show x = a from Array.ext' (q2 _ hx), show y = b from Array.ext' (r2 _ hy)]
      | method n => simp [plainN] at h
      | methodOf t n => simp [plainN] at h
      | via t p f b => simp [plainN] at h
      | yield l => simp [plainN] at h

theorem plain_refl {v : Value} (h : plain v = true) (φ : Ren) : VRel φ v v := (plainN_rel 8 v h φ).1
theorem plain_eq {v w : Value} (h : plain v = true) {φ : Ren} (k : VRel φ v w) : w = v := (plainN_rel 8 v h φ).2 w k
theorem plains_eq {φ : Ren} {l m : List Value} (h : l.all plain = true) (k : LRel φ l m) : m = l := by
  induction k with
  | nil => rfl
  | cons a _ ih =>
    simp only [List.all_cons, Bool.and_eq_true] at h
    rw [plain_eq h.1 a, ih h.2]

theorem sameN_eq : ∀ (n : Nat) (v w : Value), sameN n v w = true → v = w := by
  intro n
  induction n with
  | zero => intro v w h; simp [sameN] at h
  | succ n ih =>
    have key : ∀ (l m : List Value), sameN.all2 n l m = true → l = m := by
      intro l
      induction l with
      | nil => intro m h; cases m with
        | nil => rfl
        | cons _ _ => simp [sameN.all2] at h
      | cons x xs ihl => intro m h; cases m with
        | nil => simp [sameN.all2] at h
        | cons y ys =>
          simp only [sameN.all2, Bool.and_eq_true] at h
          rw [ih _ _ h.1, ihl _ h.2]
    intro v w h
    cases v <;> cases w <;> simp only [sameN, Bool.and_eq_true, decide_eq_true_eq, beq_iff_eq, Bool.false_eq_true] at h
    case bool.bool => rw [h]
    case int.int => rw [h.1, h.2]
    case float.float => rw [h.1, h.2]
    case string.string => rw [h]
    case pointer.pointer => rw [h]
    case slice.slice => rw [h.1.1, h.1.2, h.2]
    case map.map => rw [h]
    case func.func => rw [h.1.1, Array.ext' (key _ _ h.1.2), Array.ext' (key _ _ h.2)]
    case nilFunc.nilFunc => rfl
    case iface.iface => rw [h.1, ih _ _ h.2]
    case nilIface.nilIface => rfl
    case agg.agg => rw [Array.ext' (key _ _ h)]
    case tuple.tuple => rw [Array.ext' (key _ _ h)]
theorem same_eq {v w : Value} (h : same v w = true) : v = w := sameN_eq 8 v w h
theorem all2_eq : ∀ (l m : List Value), sameN.all2 8 l m = true → l = m := by
  intro l
  induction l with
  | nil => intro m h; cases m with
    | nil => rfl
    | cons _ _ => simp [sameN.all2] at h
  | cons x xs ihl => intro m h; cases m with
    | nil => simp [sameN.all2] at h
    | cons y ys =>
      simp only [sameN.all2, Bool.and_eq_true] at h
      rw [sameN_eq 8 _ _ h.1, ihl _ h.2]
theorem sameObj_eq {x y : Obj} (h : sameObj x y = true) : x = y := by
  cases x <;> cases y <;> simp only [sameObj, Bool.and_eq_true, decide_eq_true_eq, Bool.false_eq_true] at h
  case cells.cells => rw [h.1.1, h.1.2, Array.ext' (all2_eq _ _ h.2)]
  case map.map =>
    obtain ⟨⟨h1, h2⟩, h3⟩ := h
    have h1 := Array.isEmpty_iff.1 h1
    have h2 := Array.isEmpty_iff.1 h2
    subst h1; subst h2; subst h3; rfl

theorem run0_run {α : Type} {P : Program} : ∀ {s : Sem α} {a : α}, run0 P s = some a → ∀ w : World, s.run P w = .ok a w := by
  intro s
  induction s with
  | pure a => intro b h w; simp only [run0, Option.some.injEq] at h; subst h; rfl
  | program k ih => intro b h w; exact ih P h w
  | mark m k ih => intro b h w; exact ih h w
  | choose q k ih =>
    intro b h w
    simp only [run0] at h
    cases hq : q.forced with
    | false => rw [hq] at h; simp [fail] at h
    | true =>
      rw [hq] at h
      simp only [Sem.run, hq, if_true]; exact ih 0 h w
  | halt x => intro b h w; cases x <;> simp [run0, fail] at h
  | _ => intro b h w; simp [run0, fail] at h
end Go.AM
