/- The abstract machine: values, light and heavy operations (definitions). -/
import Derived.Test.YtlbepbcgnhodaaaGreatDoorAmA
set_option linter.all false
namespace Go.AM

abbrev R := Option
def fail {α : Type} (_ : String) : R α := none
def ofOpt {α : Type} (o : Option α) (_ : String) : R α := o

abbrev Hp := Tr Obj

/-- What a type is made of, as far as it is looked at. -/
inductive D where
  | bool | string | func | iface | other
  | int (k : IntKind)
  | pointer (e : TypeId)
  | slice (e : TypeId)
  | array (n : Nat) (e : TypeId)
  | map (k e : TypeId)
  | struct (fs : List (Nat × TypeId))
def absD : TypeDesc → D
  | .bool => .bool
  | .string => .string
  | .int k => .int k
  | .pointer e => .pointer e
  | .slice e => .slice e
  | .array n e => .array n e
  | .map k e => .map k e
  | .struct fs => .struct (fs.toList.map fun f => (f.offset, f.type))
  | .func .. => .func
  | .interface _ => .iface
  | _ => .other
structure TI where
  desc : D
  size : Nat
  bytes : Nat
  zero : Option Value
structure FI where
  ntmps : Nat
  body : Option Code
  results : List ResultVar
/-- What is fixed: the program, the first block that may be written, what bodiless functions answer at plain arguments, which functions are taken by a contract. -/
structure Env where
  P : Program
  ty : Tr TI
  fns : Tr FI
  ng : Nat
  lim : Nat
  ext : FuncId → Array Value → Option Value
  mixed : Bool
  prim : FuncId → Array Value → Hp → Nat → Option (Value × Hp × Nat)

/-- A string that stands for any string: it may be moved, stored and held against itself, nothing else. -/
def isPh (s : ByteArray) : Bool :=
  match s.data.toList with
  | [a, b, c, d, _] => a.toNat.beq 255 && b.toNat.beq 254 && c.toNat.beq 253 && d.toNat.beq 252
  | _ => false
def samePh : Value → Value → Bool
  | .string s, .string t => isPh s && decide (s = t)
  | _, _ => false

def plainN : Nat → Value → Bool
  | 0, _ => false
  | n + 1, v => match v with
    | .string s => !isPh s
    | .bool _ | .int .. | .float .. | .complex .. | .pointer none | .slice none _ _ | .map none | .nilFunc | .nilIface => true
    | .iface _ v => plainN n v
    | .agg cs | .tuple cs => cs.toList.all (plainN n)
    | .func (.func _) a b => a.toList.all (plainN n) && b.toList.all (plainN n)
    | _ => false
def plain (v : Value) : Bool := plainN 8 v

/-- The same value, told by a test. -/
def sameN : Nat → Value → Value → Bool
  | 0, _, _ => false
  | n + 1, v, w => match v, w with
    | .bool a, .bool b => a == b
    | .int j a, .int k b => decide (j = k) && decide (a = b)
    | .float j a, .float k b => decide (j = k) && decide (a = b)
    | .string a, .string b => decide (a = b)
    | .pointer a, .pointer b => decide (a = b)
    | .slice a n c, .slice b m d => decide (a = b) && decide (n = m) && decide (c = d)
    | .map a, .map b => decide (a = b)
    | .nilFunc, .nilFunc => true
    | .nilIface, .nilIface => true
    | .iface t v, .iface u w => decide (t = u) && sameN n v w
    | .agg a, .agg b => all2 n a.toList b.toList
    | .tuple a, .tuple b => all2 n a.toList b.toList
    | .func f a b, .func g c d => decide (f = g) && all2 n a.toList c.toList && all2 n b.toList d.toList
    | _, _ => false
where
  all2 (n : Nat) : List Value → List Value → Bool
    | [], [] => true
    | x :: xs, y :: ys => sameN n x y && all2 n xs ys
    | _, _ => false
def same (v w : Value) : Bool := sameN 8 v w

def sameObj : Obj → Obj → Bool
  | .cells c t f, .cells d u g => decide (t = u) && decide (f = g) && sameN.all2 8 c.toList d.toList
  | .map a n, .map b m => a.isEmpty && b.isEmpty && decide (n = m)
  | _, _ => false

/-- A program that touches no memory, run. -/
def run0 {α : Type} (P : Program) : Sem α → R α
  | .pure a => some a
  | .program k => run0 P (k P)
  | .mark _ k => run0 P k
  | .choose q k => bif q.forced then run0 P (k 0) else fail "run0: a choice"
  | .load .. => fail "run0: load" | .store .. => fail "run0: store" | .new .. => fail "run0: new" | .shape .. => fail "run0: shape"
  | .freeze .. => fail "run0: freeze" | .frozen .. => fail "run0: frozen" | .getObj .. => fail "run0: getObj" | .setObj .. => fail "run0: setObj"
  | .sys .. => fail "run0: sys" | .halt h => match h with | .stuck s => fail ("run0: stuck " ++ s) | .panic _ => fail "run0: panic" | .unsupported _ => fail "run0: unsupported" | _ => fail "run0: halt"

/-- The same, of a plain value. -/
def run0p (P : Program) (s : Sem Value) : R Value := do
  let r ← run0 P s
  bif plain r then pure r else fail "run0: a value that is not plain"

def ev (E : Env) (h : Hp) (fr : Tr Value) : Operand → R Value
  | .tmp t => ofOpt (fr.get t) "ev: a slot without a value"
  | .const v => bif plain v then some v else fail "ev: a constant that is not plain"
  | .global g => bif Nat.blt g E.ng && (h.get g).isSome then some (.pointer (some ⟨g, 0, none⟩)) else fail "ev: a global"
  | .func f => some (.func (.func f) #[] #[])

def evs (E : Env) (h : Hp) (fr : Tr Value) : List Operand → R (List Value)
  | [] => some []
  | x :: xs => do
    let v ← ev E h fr x
    let vs ← evs E h fr xs
    pure (v :: vs)

def evOpt (E : Env) (h : Hp) (fr : Tr Value) : Option Operand → R (Option Value)
  | none => some none
  | some x => do
    let v ← ev E h fr x
    pure (some v)

def inf (E : Env) (t : TypeId) : R TI := ofOpt (E.ty.get t) "no such type"
def und (E : Env) (t : TypeId) : R D := do
  let i ← inf E t
  pure i.desc
def zeroV (E : Env) (t : TypeId) : R Value := do
  let i ← inf E t
  ofOpt i.zero "no zero value"
def isAggD : D → Bool
  | .struct _ | .array _ _ => true
  | _ => false

def cellsAt (h : Hp) (b : Nat) : R (Array Value × TypeId × (Nat × Nat)) :=
  match h.get b with
  | some (.cells c t f) => some (c, t, f)
  | some _ => fail "no row of cells"
  | none => fail "a block that is gone or was never there"

/-- The value of one cell. -/
def one : Value → Bool
  | .agg _ | .tuple _ => false
  | _ => true

/-- n cells from a on. -/
def loadC (h : Hp) (a : Addr) (n : Nat) : R (Array Value) := do
  let (c, _, _) ← cellsAt h a.block
  bif a.spot.isNone && Nat.ble (a.off + n) c.size then pure ((c.toList.drop a.off).take n).toArray else fail "loadC: no such cells"

def loadV (E : Env) (h : Hp) (t : TypeId) (a : Addr) : R Value := do
  let d ← und E t
  bif isAggD d then do
    let i ← inf E t
    let cs ← loadC h a i.size
    pure (.agg cs)
  else do
    let (c, _, _) ← cellsAt h a.block
    bif a.spot.isNone then ofOpt c[a.off]? "loadV: no such cell" else fail "loadV: spot"

def wr (c : Array Value) (i : Nat) : List Value → Array Value
  | [] => c
  | v :: vs => wr (c.setIfInBounds i v) (i + 1) vs

def storeC (lim : Nat) (h : Hp) (a : Addr) (vs : List Value) : R Hp := do
  let (c, t, f) ← cellsAt h a.block
  bif a.spot.isNone && Nat.ble (a.off + vs.length) c.size && Nat.ble lim a.block && vs.all one then
    pure (h.put a.block (some (.cells (wr c a.off vs) t f)))
  else fail "storeC"

def storeV (E : Env) (h : Hp) (t : TypeId) (a : Addr) (v : Value) : R Hp := do
  let i ← inf E t
  bif v.cells.size.beq i.size then storeC E.lim h a v.cells.toList else fail "storeV: size"

def ptrTo (id : Nat) : Value := .pointer (some ⟨id, 0, none⟩)

/-- A rigid row: (0, 0); one whose true row may be longer: (1, 0). -/
def rigid : Nat × Nat := (0, 0)
def elastic : Nat × Nat := (1, 0)

def asI : Value → R Int
  | .int _ n => some n
  | _ => fail "int expected"

def boundA (x : Option Value) (dflt y : Nat) : R Nat :=
  match x with
  | none => some dflt
  | some v => do
    let i ← asI v
    bif decide (0 ≤ i) && decide (i ≤ y) then pure i.toNat else fail "slice bound"

def boundsA (len cap : Nat) (lo hi mx : Option Value) : R (Nat × Nat × Nat) := do
  let m ← boundA mx cap cap
  let h ← match hi, mx with
    | none, some _ => fail "max without high"
    | _, _ => boundA hi len m
  let l ← boundA lo 0 h
  pure (l, h, m)

def sliceA (E : Env) (hp : Hp) (t : TypeId) (x : Value) (lo hi mx : Option Value) : R Value := do
  match ← und E t, x with
  | .slice elem, .slice none len cap =>
    let (l, h, m) ← boundsA len cap lo hi mx
    let _ ← inf E elem
    pure (.slice none (h - l) (m - l))
  | .slice elem, .slice (some a) len cap =>
    let (l, h, m) ← boundsA len cap lo hi mx
    let i ← inf E elem
    let (_, bt, f) ← cellsAt hp a.block
    bif (f.1.beq 0 || bt.beq elem) && Nat.ble l m && Nat.ble h m then pure (.slice (some (if m = l then a else a.add (l * i.size))) (h - l) (m - l)) else fail "slice: another element type"
  | .array n elem, .pointer (some a) =>
    let (l, h, m) ← boundsA n n lo hi mx
    let i ← inf E elem
    pure (.slice (some (if m = l then a else a.add (l * i.size))) (h - l) (m - l))
  | .string, .string s =>
    bif mx.isSome || isPh s then fail "full slice of a string" else do
      let (l, h, _) ← boundsA s.size s.size lo hi none
      bif isPh (s.extract l h) then fail "slice of a string" else pure (.string (s.extract l h))
  | _, _ => fail "sliceA"

/-- '==' where an operand holds an address. -/
def eqAddr (E : Env) (t : TypeId) (x y : Value) : R Bool := do
  match ← und E t, x, y with
  | .pointer _, .pointer (some _), .pointer none => pure false
  | .pointer _, .pointer none, .pointer (some _) => pure false
  | .slice _, .slice (some _) _ _, .slice none _ _ => pure false
  | .slice _, .slice none _ _, .slice (some _) _ _ => pure false
  | .map _ _, .map (some _), .map none => pure false
  | .map _ _, .map none, .map (some _) => pure false
  | .func, .func _ _ _, .nilFunc => pure false
  | .func, .nilFunc, .func _ _ _ => pure false
  | .iface, .iface _ _, .nilIface => pure false
  | .iface, .nilIface, .iface _ _ => pure false
  | .iface, .nilIface, .nilIface => pure true
  | _, _, _ => fail "eqAddr"

def isConst : Operand → Bool
  | .const _ => true
  | _ => false

def binA (E : Env) (op : BinOp) (t : TypeId) (x y : Operand) (a b : Value) : R Value :=
  match a, b with
  | .nilIface, .nilIface =>
    bif isConst x || isConst y then do
      let r ← eqAddr E t a b
      match op with
      | .eql => pure (.bool r)
      | .neq => pure (.bool (!r))
      | _ => fail "binA"
    else fail "binA: two nil interfaces"
  | a, b =>
    bif plain a && plain b then run0p E.P (do eqGuard op t x y a b; binOp op t a b)
    else bif samePh a b then do
      match ← und E t, op with
      | .string, .eql => pure (.bool true)
      | .string, .neq => pure (.bool false)
      | _, _ => fail "binA"
    else do
      let r ← eqAddr E t a b
      match op with
      | .eql => pure (.bool r)
      | .neq => pure (.bool (!r))
      | _ => fail "binA"

def bytesOfA (c : List Value) : R (List UInt8) :=
  match c with
  | [] => some []
  | .int .u8 n :: rest => do
    let r ← bytesOfA rest
    pure (UInt8.ofNat n.toNat :: r)
  | _ => fail "a byte expected"

/-- The key's place among a map's entries: scalar keys. -/
def keyEq : Value → Value → R Bool
  | .int j a, .int k b => bif decide (j = k) then some (a == b) else fail "keyEq"
  | .string a, .string b => bif isPh a || isPh b then fail "keyEq" else some (a == b)
  | .bool a, .bool b => some (a == b)
  | _, _ => fail "keyEq"
def findA (k : Value) : List MapEntry → Nat → R (Option (Nat × Value))
  | [], _ => some none
  | e :: es, i => do
    let b ← keyEq k e.key
    bif b then pure (some (i, e.val)) else findA k es (i + 1)
/-- A scalar key, of its kind. -/
def keyOk : D → Value → Bool
  | .int _, .int .. => true
  | .string, .string s => !isPh s
  | .bool, .bool _ => true
  | _, _ => false
def mapAt (h : Hp) (r : Nat) : R (Array MapEntry × Nat) :=
  match h.get r with
  | some (.map es clock) => some (es, clock)
  | _ => fail "mapAt"
def entriesA (h : Hp) : Value → R (List MapEntry)
  | .map none => some []
  | .map (some r) => do
    let (es, _) ← mapAt h r
    pure es.toList
  | _ => fail "lookup"
def lookedUp (z : Value) (ok : Bool) : Option (Nat × Value) → Value
  | some (_, v) => bif ok then .tuple #[v, .bool true] else v
  | none => bif ok then .tuple #[z, .bool false] else z
def scalar : Value → Bool
  | .string s => !isPh s
  | .int .. | .bool _ => true
  | _ => false

def fits (E : Env) (t : TypeId) (n : Nat) : R Bool := do
  let i ← inf E t
  pure (i.size.beq n)

def placesA (E : Env) : List (Nat × TypeId) → R (List (Nat × Nat))
  | [] => some []
  | f :: fs => do
    let i ← inf E f.2
    let r ← placesA E fs
    pure ((f.1, i.size) :: r)
def rowPlaces (n size : Nat) : List (Nat × Nat) := (List.range n).map fun k => (k * size, size)
/-- Cells laid over others from a place on. -/
def overL (cells : List Value) (off : Nat) (vs : List Value) : List Value := cells.take off ++ vs ++ cells.drop (off + vs.length)
def fillA (places : List (Nat × Nat)) (cells : List Value) : List (Nat × Value) → Option (List Value)
  | [] => some cells
  | (i, v) :: rest =>
    match places[i]? with
    | none => none
    | some (off, size) =>
      bif v.cells.size.beq size && Nat.ble (off + size) cells.length then fillA places (overL cells off v.cells.toList) rest else none

/-- The operations that change no block that is there: their value, and the block that they make (its number is id). -/
def light (E : Env) (h : Hp) (fr : Tr Value) (id : Nat) (o : Oper) : R (Value × Option Obj) :=
  let P := E.P
  let e (x : Operand) : R Value := ev E h fr x
  match o.op with
  | .move x | .assign x => do
    let v ← e x
    pure (v, none)
  | .pick c a b => do
    match ← e c with
    | .bool t => do
      let v ← (bif t then e a else e b)
      pure (v, none)
    | _ => fail "pick"
  | .alloc elem => do
    let z ← zeroV E elem
    pure (ptrTo id, some (.cells z.cells elem rigid))
  | .box elem x => do
    let v ← e x
    pure (ptrTo id, some (.cells v.cells elem rigid))
  | .build t parts => do
    let vs ← evs E h fr (parts.toList.map (·.2))
    let z ← zeroV E t
    match ← und E t with
    | .struct fields =>
      let places ← placesA E fields
      let cs ← ofOpt (fillA places z.cells.toList ((parts.toList.map (·.1)).zip vs)) "build"
      pure (.agg cs.toArray, none)
    | .array n elem =>
      let i ← inf E elem
      let cs ← ofOpt (fillA (rowPlaces n i.size) z.cells.toList ((parts.toList.map (·.1)).zip vs)) "build"
      pure (.agg cs.toArray, none)
    | _ => fail "build"
  | .buildSlice t len parts => do
    let vs ← evs E h fr (parts.toList.map (·.2))
    match ← und E t with
    | .slice elem =>
      let i ← inf E elem
      let z ← zeroV E elem
      bif Nat.ble (len * i.size) (2 ^ 24) && (z.cells.size.beq i.size) then do
        let cs ← ofOpt (fillA (rowPlaces len i.size) ((List.replicate len z.cells.toList).flatten) ((parts.toList.map (·.1)).zip vs)) "buildSlice"
        pure (.slice (some ⟨id, 0, none⟩) len len, some (.cells cs.toArray elem rigid))
      else fail "buildSlice"
    | _ => fail "buildSlice"
  | .load t x => do
    match ← e x with
    | .pointer (some a) =>
      let v ← loadV E h t a
      pure (v, none)
    | _ => fail "load"
  | .nilCheck x => do
    match ← e x with
    | .pointer none | .nilIface | .nilFunc => fail "nilCheck: nil"
    | .func (.method _) _ _ => fail "nilCheck: method"
    | v => pure (v, none)
  | .binOp op t x y _ => do
    let a ← e x
    let b ← e y
    let v ← binA E op t x y a b
    pure (v, none)
  | .unOp op _ x => do
    let a ← e x
    bif plain a then do
      let v ← run0p P (Op.unary op a)
      pure (v, none)
    else fail "unOp"
  | .convert src dst x => do
    let a ← e x
    match ← und E src, ← und E dst, a with
    | _, .slice el, .string s =>
      match ← und E el with
      | .int .u8 =>
        let i ← inf E el
        bif i.size.beq 1 && !isPh s then pure (.slice (some ⟨id, 0, none⟩) s.size s.size, some (.cells (s.data.map fun b => .int .u8 b.toNat) el elastic)) else fail "convert: bytes"
      | _ => fail "convert: string to runes"
    | .slice el, .string, .slice a len _ =>
      match ← und E el with
      | .int .u8 =>
        match a with
        | none => pure (.string .empty, none)
        | some a =>
          let cs ← loadC h a len
          let bs ← bytesOfA cs.toList
          bif isPh ⟨bs.toArray⟩ then fail "convert: runes to string" else pure (.string ⟨bs.toArray⟩, none)
      | _ => fail "convert: runes to string"
    | .slice _, .slice el, .slice (some a) len cap =>
      let _ ← cellsAt h a.block
      match ← und E el with
      | .int .u8 => bif src.beq dst && Nat.ble E.lim a.block then pure (.slice (some a) len cap, none) else fail "convert: slices"
      | _ => fail "convert: slices"
    | _, _, v =>
      bif plain v then do
        let r ← run0p P (convert src dst v)
        pure (r, none)
      else fail "convert"
  | .makeInterface t x => do
    let a ← e x
    match ← und E t with
    | .iface => fail "makeInterface"
    | _ => pure (.iface t a, none)
  | .makeFunc fn first captured => do
    let f ← evs E h fr first.toList
    let c ← evs E h fr captured.toList
    match fn with
    | .yield _ => fail "makeFunc: yield"
    | fn => pure (.func fn f.toArray c.toArray, none)
  | .makeMap t r => do
    match r with
    | none => pure (.map (some id), some (.map #[] 0))
    | some x =>
      let a ← e x
      let _ ← asI a
      match ← und E t with
      | .map _ _ => pure (.map (some id), some (.map #[] 0))
      | _ => fail "makeMap"
  | .makeSlice t l c => do
    let l ← e l
    let c ← e c
    let l ← asI l
    let c ← asI c
    match ← und E t with
    | .slice elem =>
      let i ← inf E elem
      let z ← zeroV E elem
      bif decide (0 ≤ l) && decide (l ≤ c) && decide (c < 2 ^ 47) && decide (i.bytes * c ≤ 2 ^ 47) && z.cells.size.beq i.size then
        pure (.slice (some ⟨id, 0, none⟩) l.toNat c.toNat, some (.cells ((List.replicate c.toNat z.cells.toList).flatten.toArray) elem rigid))
      else fail "makeSlice"
    | _ => fail "makeSlice"
  | .slice t x lo hi mx => do
    let a ← e x
    let lo ← evOpt E h fr lo
    let hi ← evOpt E h fr hi
    let mx ← evOpt E h fr mx
    let v ← sliceA E h t a lo hi mx
    pure (v, none)
  | .fieldAddr s x f => do
    match ← e x, ← und E s with
    | .pointer (some a), .struct fields =>
      let fd ← ofOpt fields[f]? "fieldAddr"
      let i ← inf E fd.2
      bif i.size.beq 0 then fail "fieldAddr: no size" else pure (.pointer (some (a.add fd.1)), none)
    | _, _ => fail "fieldAddr"
  | .field t x f => do
    match ← e x, ← und E t with
    | .agg cs, .struct fields =>
      let fd ← ofOpt fields[f]? "field"
      let d ← und E fd.2
      bif isAggD d then do
        let i ← inf E fd.2
        bif Nat.ble (fd.1 + i.size) cs.size then pure (.agg ((cs.toList.drop fd.1).take i.size).toArray, none) else fail "field"
      else do
        let v ← ofOpt cs[fd.1]? "field"
        pure (v, none)
    | _, _ => fail "field"
  | .indexAddr t x ix => do
    let i ← e ix
    let i ← asI i
    match ← und E t, ← e x with
    | .array len elem, .pointer (some a) =>
      let k ← inf E elem
      bif decide (0 ≤ i) && decide (i < len) then pure (.pointer (some (a.add (i.toNat * k.size))), none) else fail "indexAddr: out of range"
    | .slice elem, .slice (some a) len _ =>
      let k ← inf E elem
      bif decide (0 ≤ i) && decide (i < len) then pure (.pointer (some (a.add (i.toNat * k.size))), none) else fail "indexAddr: out of range"
    | _, _ => fail "indexAddr"
  | .index t x ix => do
    let i ← e ix
    let i ← asI i
    match ← und E t, ← e x with
    | .array len elem, .agg cs =>
      let k ← inf E elem
      let d ← und E elem
      bif decide (0 ≤ i) && decide (i < len) then
        bif isAggD d then (bif Nat.ble (i.toNat * k.size + k.size) cs.size then pure (.agg ((cs.toList.drop (i.toNat * k.size)).take k.size).toArray, none) else fail "index")
        else do
          let v ← ofOpt cs[i.toNat * k.size]? "index"
          pure (v, none)
      else fail "index: out of range"
    | .string, .string s =>
      bif decide (0 ≤ i) && !isPh s then do
        let b ← ofOpt s[i.toNat]? "index: out of range"
        pure (.int .u8 b.toNat, none)
      else fail "index: out of range"
    | _, _ => fail "index"
  | .lookup t x ix ok => do
    let k ← e ix
    match ← und E t with
    | .map kt el =>
      let kd ← und E kt
      let z ← zeroV E el
      let m ← e x
      let es ← entriesA h m
      bif keyOk kd k then do
        let r ← findA k es 0
        pure (lookedUp z ok r, none)
      else fail "lookup: key"
    | _ => fail "lookup"
  | .extract x ix => do
    match ← e x with
    | .tuple vs =>
      let v ← ofOpt vs[ix]? "extract"
      pure (v, none)
    | _ => fail "extract"
  | .typeAssert x _ asserted ok => do
    match ← e x, ← und E asserted with
    | _, .iface => fail "typeAssert: interface"
    | .iface t v, _ =>
      bif t.beq asserted then pure (bif ok then .tuple #[v, .bool true] else v, none)
      else bif ok then do
        let z ← zeroV E asserted
        pure (.tuple #[z, .bool false], none)
      else fail "typeAssert"
    | _, _ => fail "typeAssert"
  | .sliceToArrayPointer arr x => do
    match ← und E arr, ← e x with
    | .array n _, .slice a len _ => bif Nat.ble n len && Nat.blt 0 n then pure (.pointer a, none) else fail "sliceToArrayPointer"
    | _, _ => fail "sliceToArrayPointer"
  | .range t x => do
    match ← und E t, ← e x with
    | .string, .string s => bif isPh s then fail "range" else pure (ptrTo id, some (.stringIter s 0))
    | .map _ _, .map none => pure (ptrTo id, some (.mapIter none 0 #[] 0))
    | .map _ _, .map (some m) =>
      let (_, clock) ← mapAt h m
      pure (ptrTo id, some (.mapIter (some m) clock #[] clock))
    | _, _ => fail "range"
  | .call { callee := .builtin b, args, argTypes } => do
    let vs ← evs E h fr args.toList
    match b with
    | .len =>
      let t ← ofOpt argTypes[0]? "len"
      match ← und E t, vs with
      | .string, [.string s] => bif isPh s then fail "len" else pure (.int .i64 s.size, none)
      | .array n _, [_] => pure (.int .i64 n, none)
      | .slice _, [.slice _ n _] => pure (.int .i64 n, none)
      | .map _ _, [.map none] => pure (.int .i64 0, none)
      | .map _ _, [.map (some r)] =>
        let (es, _) ← mapAt h r
        pure (.int .i64 es.size, none)
      | .pointer arr, [_] => do
        match ← und E arr with
        | .array n _ => pure (.int .i64 n, none)
        | _ => fail "len"
      | _, _ => fail "len"
    | .cap =>
      let t ← ofOpt argTypes[0]? "cap"
      match ← und E t, vs with
      | .slice _, [.slice none _ c] => pure (.int .i64 c, none)
      | .slice _, [.slice (some a) _ c] =>
        let (_, _, f) ← cellsAt h a.block
        bif f.1.beq 0 then pure (.int .i64 c, none) else fail "cap: of a row that may be longer"
      | _, _ => fail "cap"
    | .min => bif vs.all plain then do
        let v ← run0p P (Builtin.min_ #[] 0 vs.toArray)
        pure (v, none)
      else fail "min"
    | .max => bif vs.all plain then do
        let v ← run0p P (Builtin.max_ #[] 0 vs.toArray)
        pure (v, none)
      else fail "max"
    | _ => fail "builtin"
  | _ => fail "light"

/-- Is an operation light? -/
def isLight : Op → Bool
  | .move _ | .assign _ | .pick .. | .alloc _ | .box .. | .build .. | .buildSlice .. | .load .. | .nilCheck _ | .binOp .. | .unOp .. | .convert ..
  | .sliceToArrayPointer .. | .makeInterface .. | .makeFunc .. | .makeMap .. | .makeSlice .. | .slice .. | .fieldAddr .. | .field .. | .indexAddr .. | .index .. | .lookup ..
  | .extract .. | .typeAssert .. | .range .. => true
  | .call { callee := .builtin b, .. } => match b with | .len | .cap | .min | .max => true | _ => false
  | _ => false

inductive HRes where
  | value (v : Value)
  | enter (f : FuncId) (args : Array Value)
  | round (l : Nat) (args : Array Value)
  | defer (d : Deferred)
  | panic (v : Value)

def lenA : Value → R Nat
  | .slice _ n _ => some n
  | .string s => bif isPh s then fail "lenA" else some s.size
  | _ => fail "lenA"
def firstA (h : Hp) (size n : Nat) : Value → R (List Value)
  | .slice (some a) _ _ => do
    let cs ← loadC h a (n * size)
    pure cs.toList
  | .slice none _ _ => bif (n * size).beq 0 then some [] else fail "firstA"
  | .string s => bif Nat.ble n s.size && !isPh s then some (((s.extract 0 n).data.map fun b => Value.int .u8 b.toNat).toList) else fail "firstA"
  | _ => fail "firstA"

def isIntD : D → Bool
  | .int _ => true
  | _ => false

/-- A row that is carried on elsewhere, and whose true row may be carried on in place, is given up. -/
def dropA (E : Env) (h : Hp) (elem : TypeId) : Option Addr → R Hp
  | none => some h
  | some a => do
    let (_, t, f) ← cellsAt h a.block
    bif t.beq elem then
      bif f.1.beq 0 then pure h else bif Nat.ble E.lim a.block then pure (h.put a.block none) else fail "append: a given row that may be longer"
    else fail "append: element type"

def appendA (E : Env) (h : Hp) (id : Nat) (argTypes : Array TypeId) (s x : Value) : R (Value × Hp) := do
  let st ← ofOpt argTypes[0]? "append"
  let xt ← ofOpt argTypes[1]? "append"
  match ← und E st, s with
  | .slice elem, .slice base sLen sCap =>
    let i ← inf E elem
    let z ← zeroV E elem
    let xd ← und E xt
    let (n, new) ← (bif isIntD xd then do
        let k ← asI x
        bif decide (0 ≤ k) && decide (k * i.bytes ≤ 2 ^ 47) && decide (k < 2 ^ 47) && z.cells.size.beq i.size then
          pure (k.toNat, (List.replicate k.toNat z.cells.toList).flatten)
        else fail "append: make"
      else do
        let n ← lenA x
        let new ← firstA h i.size n x
        pure (n, new))
    let need := sLen + n
    bif Nat.ble need sCap then
      match base with
      | none => bif (new.length).beq 0 then pure (.slice none need sCap, h) else fail "append: nil base"
      | some a =>
        bif (new.length).beq 0 then pure (.slice (some a) need sCap, h) else do
          let h' ← storeC E.lim h (a.add (sLen * i.size)) new
          pure (.slice (some a) need sCap, h')
    else bif Nat.ble ((2 * need + 192) * i.bytes) (2 ^ 47) && Nat.ble need (2 ^ 47) && z.cells.size.beq i.size && Nat.blt 0 i.size && new.all one then do
        let old ← firstA h i.size sLen (.slice base sLen sCap)
        let h1 ← dropA E h elem base
        bif (old ++ new).length.beq (need * i.size) then
          pure (.slice (some ⟨id, 0, none⟩) need need, h1.put id (some (.cells (old ++ new).toArray elem elastic)))
        else fail "append: sizes"
      else fail "append: room"
  | _, _ => fail "append"

def methA (E : Env) (t : TypeId) (name : String) : R FuncId := do
  let i ← ofOpt (E.P.info? t) "method"
  let m ← ofOpt (i.methods.find? (·.name == name)) "no such method"
  bif m.path.isEmpty then
    match m.func, ← und E t with
    | some (f, true), .pointer _ => pure f
    | some (_, false), .pointer _ => fail "method: through a pointer"
    | some (f, false), _ => pure f
    | _, _ => fail "method"
  else fail "method: promoted"

/-- A call of a function by its number. -/
def callA (E : Env) (f : FuncId) (args : Array Value) : R HRes := do
  let fn ← ofOpt (E.fns.get f) "no such function"
  match fn.body with
  | some _ => pure (.enter f args)
  | none => bif args.toList.all plain then do
      let v ← ofOpt (E.ext f args) "a function without a body"
      pure (.value v)
    else fail "a function without a body, at an address"

def targetA (E : Env) (t : Target) (args : List Value) : R HRes :=
  match t with
  | .fn (.func f) cap => callA E f (args ++ cap.toList).toArray
  | .fn (.method name) _ =>
    match args with
    | .iface t v :: rest => do
      let f ← methA E t name
      callA E f (v :: rest).toArray
    | _ => fail "a method without a receiver"
  | .fn (.yield l) _ => some (.round l args.toArray)
  | .fn (.via ..) _ => fail "call: via"
  | .fn (.methodOf ..) _ => fail "call: methodOf"
  | _ => fail "call: target"

def resolveA (E : Env) (h : Hp) (fr : Tr Value) (c : Call) : R (Target × List Value) := do
  let vs ← evs E h fr c.args.toList
  match c.callee with
  | .value f =>
    match ← ev E h fr f with
    | .func fn first captured => pure (.fn fn captured, first.toList ++ vs)
    | _ => fail "call: nil function"
  | .invoke recv name =>
    let r ← ev E h fr recv
    pure (.fn (.method name) #[], r :: vs)
  | .builtin _ => fail "resolve: builtin"

def updA (E : Env) (h : Hp) (t : TypeId) (m k v : Value) : R Hp := do
  match ← und E t, m with
  | .map kt _, .map (some r) =>
    let kd ← und E kt
    let (es, clock) ← mapAt h r
    bif keyOk kd k && Nat.ble E.lim r then do
      match ← findA k es.toList 0 with
      | some (i, _) => pure (h.put r (some (.map (es.modify i fun e => { e with key := k, val := v }) clock)))
      | none => pure (h.put r (some (.map (es.push { key := k, val := v, born := clock }) (clock + 1))))
    else fail "mapUpdate: key"
  | _, _ => fail "mapUpdate"

def heavy (E : Env) (h : Hp) (fr : Tr Value) (id : Nat) (o : Oper) : R (HRes × Hp) :=
  let e (x : Operand) : R Value := ev E h fr x
  match o.op with
  | .store t a x => do
    let v ← e x
    match ← e a with
    | .pointer (some a) =>
      let h' ← storeV E h t a v
      pure (.value undef, h')
    | _ => fail "store"
  | .insert t m k x | .mapUpdate t m k x => do
    let m ← e m
    let k ← e k
    let v ← e x
    let h' ← updA E h t m k v
    pure (.value undef, h')
  | .mapEntry t m k => do
    let m ← e m
    let k ← e k
    match ← und E t, m with
    | .map kt el, .map (some r) =>
      let kd ← und E kt
      let z ← zeroV E el
      let (es, clock) ← mapAt h r
      bif keyOk kd k && Nat.ble E.lim r then do
        match ← findA k es.toList 0 with
        | some (i, v) => pure (.value (.tuple #[v, .int .i64 (((es[i]?).map (·.born)).getD 0 : Nat)]), h.put r (some (.map (es.modify i fun e => { e with key := k }) clock)))
        | none => pure (.value (.tuple #[z, .int .i64 clock]), h.put r (some (.map (es.push { key := k, val := z, born := clock }) (clock + 1))))
      else fail "mapEntry: key"
    | _, _ => fail "mapEntry"
  | .entryStore _ m s x => do
    let m ← e m
    let s ← e s
    let v ← e x
    let s ← asI s
    match m with
    | .map (some r) =>
      let (es, clock) ← mapAt h r
      let i ← ofOpt (es.findIdx? (fun e => (e.born : Int) == s)) "entryStore"
      bif Nat.ble E.lim r then pure (.value undef, h.put r (some (.map (es.modify i fun e => { e with val := v }) clock))) else fail "entryStore"
    | _ => fail "entryStore"
  | .next it isString => do
    match ← e it with
    | .pointer (some ⟨r, 0, none⟩) =>
      match h.get r, isString with
      | some (.stringIter s pos), true =>
        bif Nat.blt pos s.size then
          let (c, width) := Utf8.decode s pos
          bif Nat.ble E.lim r then
            pure (.value (.tuple #[.bool true, .int .i64 pos, .int .i32 c]), h.put r (some (.stringIter s (pos + width))))
          else fail "next"
        else pure (.value (.tuple #[.bool false]), h)
      | some (.mapIter none _ _ _), false => pure (.value (.tuple #[.bool false]), h)
      | some (.mapIter (some m) _ seen last), false => do
        let (es, _) ← mapAt h m
        let left := es.filter fun e => !seen.contains e.born
        bif left.isEmpty && (es.isEmpty || seen.isEmpty || es.any (fun e => decide (e.born < last))) then pure (.value (.tuple #[.bool false]), h)
        else fail "next: a map's entries"
      | _, _ => fail "next"
    | _ => fail "next"
  | .panic x => do
    match ← e x with
    | .iface t v => pure (.panic (.iface t v), h)
    | _ => fail "panic"
  | .defer c => do
    let (t, vs) ← resolveA E h fr c
    pure (.defer { target := t, args := vs.toArray }, h)
  | .call { callee := .builtin b, args, argTypes } => do
    let vs ← evs E h fr args.toList
    match b, vs with
    | .append, [s, x] => do
      let (v, h') ← appendA E h id argTypes s x
      pure (.value v, h')
    | .copy, [d, s] => do
      let dt ← ofOpt argTypes[0]? "copy"
      match ← und E dt, d with
      | .slice elem, .slice base dLen _ =>
        let i ← inf E elem
        let sl ← lenA s
        let n := Nat.min sl dLen
        let cs ← firstA h i.size n s
        match base with
        | none => pure (.value (.int .i64 n), h)
        | some a =>
          bif cs.length.beq 0 then pure (.value (.int .i64 n), h) else do
            let h' ← storeC E.lim h a cs
            pure (.value (.int .i64 n), h')
      | _, _ => fail "copy"
    | .delete, [m, k] => do
      let mt ← ofOpt argTypes[0]? "delete"
      match ← und E mt, m with
      | .map kt _, .map (some r) =>
        let kd ← und E kt
        let (es, clock) ← mapAt h r
        bif keyOk kd k && Nat.ble E.lim r then do
          match ← findA k es.toList 0 with
          | some (i, _) => pure (.value (.tuple #[]), h.put r (some (.map (es.eraseIdxIfInBounds i) clock)))
          | none => pure (.value (.tuple #[]), h.put r (some (.map es clock)))
        else fail "delete: key"
      | .map kt _, .map none =>
        let kd ← und E kt
        bif keyOk kd k then pure (.value (.tuple #[]), h) else fail "delete"
      | _, _ => fail "delete"
    | .clear, [x] => do
      let xt ← ofOpt argTypes[0]? "clear"
      match ← und E xt, x with
      | .slice _, .slice none _ _ => pure (.value (.tuple #[]), h)
      | .slice elem, .slice (some a) len _ =>
        let i ← inf E elem
        let z ← zeroV E elem
        bif z.cells.size.beq i.size then
          bif (len * i.size).beq 0 then pure (.value (.tuple #[]), h) else do
            let h' ← storeC E.lim h a (List.replicate len z.cells.toList).flatten
            pure (.value (.tuple #[]), h')
        else fail "clear"
      | _, _ => fail "clear"
    | .panic, [x] => match x with
      | .iface t v => pure (.panic (.iface t v), h)
      | _ => fail "panic"
    | _, _ => fail "builtin"
  | .call c => do
    let (t, vs) ← resolveA E h fr c
    let r ← targetA E t vs
    pure (r, h)
  | _ => fail "heavy"

end Go.AM
