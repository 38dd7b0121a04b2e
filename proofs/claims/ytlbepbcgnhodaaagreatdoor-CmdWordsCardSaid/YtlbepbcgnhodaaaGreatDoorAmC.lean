/- The abstract machine: regions, code, calls (definitions). -/
import Derived.Test.YtlbepbcgnhodaaaGreatDoorAmB
set_option linter.all false
namespace Go.AM

/-- A loop over a function: the slots as they were when it was entered, its parameters, its codes, whether a round may begin, the jump that a round has left. -/
structure LoopA where
  fr : Tr Value
  n : Nat
  params : Array Tmp
  assign : Code
  body : Code
  state : LoopState
  pending : Option Code

structure St where
  h : Hp
  next : Nat
  loops : Tr LoopA

structure Fr where
  t : Tr Value
  n : Nat
  ds : List Deferred

inductive Xit where
  | normal
  | exit (id : Nat)
  | ret
  | panic (chain : List PanicEntry)

inductive End where
  | ret (v : Value)
  | panic (chain : List PanicEntry)

/-- Whom to call: a function (none: a round of the loop over a function of that number). -/
inductive Who where
  | fn (f : FuncId)
  | round (l : Nat)
abbrev CallF := Who → Array Value → St → R (End × St)

def Fr.put (fr : Fr) (dst : Option Tmp) (v : Option Value) : R Fr :=
  match dst with
  | none => some fr
  | some d => bif Nat.blt d fr.n then some { fr with t := fr.t.put d v } else fail "put: no such slot"

def wantedA (ops : Array Oper) (fr : Tr Value) (o : Oper) : R Bool :=
  match o.guard with
  | none => some true
  | some (j, want) =>
    match (ops[j]?).bind (·.dst) with
    | none => some false
    | some d =>
      match fr.get d with
      | some (.bool b) => some (b == want)
      | some _ => some false
      | none => fail "wanted: a slot without a value"

def addObj (h : Hp) (id : Nat) : Option Obj → Hp
  | none => h
  | some ob => h.put id (some ob)

def stepH (E : Env) (call : CallF) (rd : Option Nat) (id : Nat) (o : Oper) (fr : Fr) (st : St) : R (Xit × Fr × St) := do
  let (r, h) ← heavy E st.h fr.t id o
  match r with
  | .value v =>
    let fr ← fr.put o.dst (some v)
    pure (.normal, fr, { st with h := h })
  | .defer d =>
    match rd with
    | some _ => fail "defer: in a round"
    | none =>
      let fr ← ({ fr with ds := d :: fr.ds } : Fr).put o.dst (some undef)
      pure (.normal, fr, { st with h := h })
  | .panic v => pure (.panic [{ v := v, recovered := false }], fr, { st with h := h })
  | .enter f args => do
    let (e, st) ← call (.fn f) args { st with h := h }
    match e with
    | .ret v =>
      let fr ← fr.put o.dst (some v)
      pure (.normal, fr, st)
    | .panic chain => pure (.panic chain, fr, st)
  | .round l args => do
    let (e, st) ← call (.round l) args { st with h := h }
    match e with
    | .ret v =>
      let fr ← fr.put o.dst (some v)
      pure (.normal, fr, st)
    | .panic chain => pure (.panic chain, fr, st)

/-- The operations of a region in the text's order. -/
def seqOps (E : Env) (call : CallF) (rd : Option Nat) (ops : Array Oper) : List Oper → Nat → Fr → St → R (Xit × Fr × St)
  | [], _, fr, st => some (.normal, fr, st)
  | o :: rest, id, fr, st => do
    let w ← wantedA ops fr.t o
    bif w then
      bif isLight o.op then do
        let (v, ob) ← light E st.h fr.t id o
        let fr ← fr.put o.dst (some v)
        seqOps E call rd ops rest (id + 1) fr { st with h := addObj st.h id ob }
      else do
        let (x, fr, st) ← stepH E call rd id o fr st
        match x with
        | .normal => seqOps E call rd ops rest (id + 1) fr st
        | x => pure (x, fr, st)
    else do
      let fr ← fr.put o.dst (some undef)
      seqOps E call rd ops rest (id + 1) fr st

/-! A region that draws its order. -/

def heaviesL : List Oper → Nat → List Nat
  | [], _ => []
  | o :: rest, i => bif isLight o.op then heaviesL rest (i + 1) else i :: heaviesL rest (i + 1)
def heaviesOf (ops : Array Oper) : List Nat := heaviesL ops.toList 0
def bits (b : Tr Nat) (i : Nat) : Nat := (b.get i).getD 0
/-- What stands ahead of each operation, as bits (the edges that bind). -/
def aheadL : List Oper → Nat → Tr Nat → Tr Nat
  | [], _, b => b
  | o :: rest, i, b => aheadL rest (i + 1) (b.put i (some (o.after.toList.foldl (fun s e => bif Region.binds .any e then s ||| 2 ^ e.on ||| bits b e.on else s) 0)))
def aheadOf (ops : Array Oper) : Tr Nat := aheadL ops.toList 0 .nil
/-- Each is ahead of the next. -/
def chained (b : Tr Nat) : List Nat → Bool
  | i :: j :: rest => (bits b j).testBit i && chained b (j :: rest)
  | _ => true
def namesOf (ops : Array Oper) (o : Oper) : List Tmp :=
  o.dst.toList ++ (o.op.operands.toList.filterMap fun | .tmp t => some t | _ => none) ++
    (match o.guard with | some (j, _) => (((ops[j]?).bind (·.dst))).toList | none => [])
/-- Whoever names a slot and whoever writes it stand in an order. -/
def slotsOk (ops : Array Oper) (b : Tr Nat) : Bool :=
  let l := ops.toList.zipIdx
  let ws := l.filterMap fun (o, j) => o.dst.map fun d => (d, j)
  l.all fun (o, i) => (namesOf ops o).all fun t => ws.all fun (d, j) => !(Nat.beq t d) || i.beq j || (bits b (max i j)).testBit (min i j)
def edgesOk (ops : Array Oper) : Bool :=
  ops.toList.zipIdx.all fun (o, i) => o.after.toList.all fun e => !Region.binds .any e || Nat.blt e.on i

def loOf (b : Tr Nat) (hs : List Nat) (i : Nat) : Nat := (hs.filter fun h => (bits b i).testBit h).length
def hiOf (b : Tr Nat) (hs : List Nat) (i : Nat) : Nat := (hs.filter fun h => !(bits b h).testBit i).length

/-- What is known of each light operation: the slots as they were when it was first carried out, whether it was wanted, its value, its block. -/
structure Seen where
  fr : Tr Value
  want : Bool
  v : Value
  ob : Option Obj

def recheck (E : Env) (h : Hp) (id : Nat) (o : Oper) (s : Seen) : Bool :=
  bif s.want then
    match light E h s.fr id o with
    | some (v, ob) => same v s.v && (match ob, s.ob with
        | none, none => true
        | some x, some y => (match h.get id with | some z => sameObj x y && sameObj z y | none => false)
        | _, _ => false)
    | none => false
  else true

/-- Stage k: the light operations that may first stand here are carried out; those that may still stand here are looked at again. -/
def stageA (E : Env) (base : Nat) (ops : Array Oper) (b : Tr Nat) (hs : List Nat) (k : Nat) : List Oper → Nat → Tr Seen → Fr → Hp → R (Tr Seen × Fr × Hp)
  | [], _, sn, fr, h => some (sn, fr, h)
  | o :: rest, i, sn, fr, h =>
    bif isLight o.op then
      bif (loOf b hs i).beq k then do
        let w ← wantedA ops fr.t o
        bif w then do
          let (v, ob) ← light E h fr.t (base + i) o
          let fr' ← fr.put o.dst (some v)
          bif ob.isNone || (h.get (base + i)).isNone then
           stageA E base ops b hs k rest (i + 1) (sn.put i (some ⟨fr.t, true, v, ob⟩)) fr' (addObj h (base + i) ob)
          else fail "stage: a block that is there"
        else do
          let fr' ← fr.put o.dst (some undef)
          stageA E base ops b hs k rest (i + 1) (sn.put i (some ⟨fr.t, false, undef, none⟩)) fr' h
      else bif Nat.blt (loOf b hs i) k && Nat.ble k (hiOf b hs i) then do
        let s ← ofOpt (sn.get i) "stage: not seen"
        bif recheck E h (base + i) o s then stageA E base ops b hs k rest (i + 1) sn fr h
        else fail "stage: a light operation is not the same behind a heavy one"
      else stageA E base ops b hs k rest (i + 1) sn fr h
    else stageA E base ops b hs k rest (i + 1) sn fr h

/-- The slots that a region writes are forgotten (behind a panic within it). -/
def forget (ops : Array Oper) (t : Tr Value) : Tr Value :=
  ops.toList.foldl (fun t o => match o.dst with | some d => t.put d none | none => t) t

def stagesA (E : Env) (call : CallF) (rd : Option Nat) (base : Nat) (ops : Array Oper) (b : Tr Nat) (hs : List Nat) : List Nat → Nat → Tr Seen → Fr → St → R (Xit × Fr × St)
  | [], k, sn, fr, st => do
    let (_, fr, h) ← stageA E base ops b hs k ops.toList 0 sn fr st.h
    pure (.normal, fr, { st with h := h })
  | i :: rest, k, sn, fr, st => do
    let (sn, fr, h) ← stageA E base ops b hs k ops.toList 0 sn fr st.h
    let o ← ofOpt ops[i]? "stages"
    let w ← wantedA ops fr.t o
    bif w then do
      let (x, fr, st) ← stepH E call rd (base + i) o fr { st with h := h }
      match x with
      | .normal => stagesA E call rd base ops b hs rest (k + 1) sn fr st
      | x => pure (x, { fr with t := forget ops fr.t }, st)
    else do
      let fr ← fr.put o.dst (some undef)
      stagesA E call rd base ops b hs rest (k + 1) sn fr { st with h := h }

def regionA (E : Env) (call : CallF) (rd : Option Nat) (ops : Array Oper) (draw : Bool) (fr : Fr) (st : St) : R (Xit × Fr × St) :=
  let base := st.next
  let st := { st with next := base + ops.size }
  bif draw then
    let b := aheadOf ops
    let hs := heaviesOf ops
    bif (E.mixed || !Region.departs ops) && edgesOk ops && chained b hs && slotsOk ops b then
      stagesA E call rd base ops b hs hs 0 .nil fr st
    else fail "region: its heavy operations stand in no order"
  else seqOps E call rd ops ops.toList base fr st

/-- 'rd': the loop over a function within a round of which the code stands. -/
def exec1 (E : Env) (call : CallF) (rd : Option Nat) (ih : Code → Fr → St → R (Xit × Fr × St)) (c : Code) (fr : Fr) (st : St) : R (Xit × Fr × St) :=
  match c with
  | .skip | .label _ => some (.normal, fr, st)
  | .region _ ops draw => regionA E call rd ops draw fr st
  | .seq a b => do
    let (x, fr, st) ← ih a fr st
    match x with
    | .normal => ih b fr st
    | x => pure (x, fr, st)
  | .cond c a b => do
    match ← ev E st.h fr.t c with
    | .bool t => ih (bif t then a else b) fr st
    | _ => fail "cond"
  | .block id body => do
    let (x, fr, st) ← ih body fr st
    match x with
    | .exit j => bif j.beq id then pure (.normal, fr, st) else pure (.exit j, fr, st)
    | x => pure (x, fr, st)
  | .loop body => do
    let (x, fr, st) ← ih body fr st
    match x with
    | .normal => ih (.loop body) fr st
    | x => pure (x, fr, st)
  | .exit id => some (.exit id, fr, st)
  | .ret => some (.ret, fr, st)
  | .scope body => ih body fr st
  | .goto _ => fail "goto"
  | .rangeFunc g params assign body => do
    match ← ev E st.h fr.t g with
    | .func (.func f) first cap =>
      let l := st.next
      match ← targetA E (.fn (.func f) cap) (first.toList ++ [.func (.yield l) #[] #[]]) with
      | .enter f' args =>
        bif (st.h.get l).isNone && (match rd with | none => true | some l0 => (st.loops.get l0).isSome) then do
          let st' := { st with next := l + 2, h := (match rd with | none => st.h.put (l + 1) (some (.deferred (some []))) | some _ => st.h), loops := st.loops.put l (some { fr := fr.t, n := fr.n, params := params, assign := assign, body := body, state := .ready, pending := none }) }
          let (e, st') ← call (.fn f') args st'
          let fr' := match rd with | none => { fr with ds := { target := .collected (l + 1), args := #[] } :: fr.ds } | some _ => fr
          match e with
          | .ret _ =>
            let lp ← ofOpt (st'.loops.get l) "rangeFunc"
            match lp.state with
            | .busy => fail "rangeFunc: busy"
            | _ =>
              let st' := { st' with loops := st'.loops.put l none }
              match lp.pending with
              | none => pure (.normal, fr', st')
              | some c => ih c fr' st'
          | .panic _ => fail "rangeFunc: panic"
        else fail "rangeFunc: blocks"
      | _ => fail "rangeFunc: target"
    | _ => fail "rangeFunc"
  | .refuse _ => fail "refuse"

def exec (E : Env) (call : CallF) (rd : Option Nat) : Nat → Code → Fr → St → R (Xit × Fr × St)
  | 0, _, _, _ => fail "fuel"
  | n + 1, c, fr, st => exec1 E call rd (exec E call rd n) c fr st

def resultsL (E : Env) (fr : Fr) (st : St) : List ResultVar → R (List Value)
  | [] => some []
  | .tmp t :: rest => do
    let v ← ofOpt (fr.t.get t) "results"
    let vs ← resultsL E fr st rest
    pure (v :: vs)
  | .cell a t :: rest => do
    match ← ofOpt (fr.t.get a) "results" with
    | .pointer (some a) =>
      let v ← loadV E st.h t a
      let vs ← resultsL E fr st rest
      pure (v :: vs)
    | _ => fail "results"
def resultsA (E : Env) (fn : FI) (fr : Fr) (st : St) : R Value := do
  let vs ← resultsL E fr st fn.results
  match vs with
  | [v] => pure v
  | vs => pure (.tuple vs.toArray)

def enterA (ntmps : Nat) (args : Array Value) : Fr :=
  { t := (args.toList.foldl (fun (x : Tr Value × Nat) v => (x.1.put x.2 (some v), x.2 + 1)) (.nil, 0)).1, n := max ntmps args.size, ds := [] }

/-! Deferred calls. The mode: none (returning), or the chain of panics. -/
def settleA : Option (List PanicEntry) → Option (List PanicEntry)
  | some ({ recovered := true, .. } :: older) => match older.dropWhile (!·.goexit) with | [] => none | rest => some rest
  | m => m
def raisedA (u : Option (List PanicEntry)) (chain : List PanicEntry) : Option (List PanicEntry) :=
  match u with
  | some old => some (chain ++ old)
  | none => some chain
def recoverA : Option (List PanicEntry) → Value × Option (List PanicEntry)
  | some ({ v, recovered := false, goexit := false } :: older) => (v, some ({ v := v, recovered := true } :: older))
  | u => (.nilIface, u)

def isRecover (o : Oper) : Bool :=
  match o.op with
  | .call { callee := .builtin .recover, .. } => true
  | _ => false

/-- A region of a deferred function that calls recover: in the text's order. -/
def seqOpsD (E : Env) (ops : Array Oper) : List Oper → Nat → Fr → Option (List PanicEntry) → St → R (Fr × Option (List PanicEntry) × St)
  | [], _, fr, u, st => some (fr, u, st)
  | o :: rest, id, fr, u, st => do
    let w ← wantedA ops fr.t o
    bif w then
      bif isRecover o then do
        let (v, u) := recoverA u
        let fr ← fr.put o.dst (some v)
        seqOpsD E ops rest (id + 1) fr u st
      else bif isLight o.op then do
        let (v, ob) ← light E st.h fr.t id o
        let fr ← fr.put o.dst (some v)
        seqOpsD E ops rest (id + 1) fr u { st with h := addObj st.h id ob }
      else do
        let (r, h) ← heavy E st.h fr.t id o
        match r with
        | .value v =>
          let fr ← fr.put o.dst (some v)
          seqOpsD E ops rest (id + 1) fr u { st with h := h }
        | _ => fail "seqOpsD: a call"
    else do
      let fr ← fr.put o.dst (some undef)
      seqOpsD E ops rest (id + 1) fr u st

def execD1 (E : Env) (call : CallF) (n : Nat) (ih : Code → Fr → Option (List PanicEntry) → St → R (Xit × Fr × Option (List PanicEntry) × St)) (c : Code) (fr : Fr)
    (u : Option (List PanicEntry)) (st : St) : R (Xit × Fr × Option (List PanicEntry) × St) :=
  match c with
  | .seq a b => do
    let (x, fr, u, st) ← ih a fr u st
    match x with
    | .normal => ih b fr u st
    | x => pure (x, fr, u, st)
  | .cond c a b => do
    match ← ev E st.h fr.t c with
    | .bool t => ih (bif t then a else b) fr u st
    | _ => fail "cond"
  | .region id ops false =>
    bif ops.any isRecover then do
      let (fr, u, st) ← seqOpsD E ops ops.toList st.next fr u { st with next := st.next + ops.size }
      pure (.normal, fr, u, st)
    else do
      let (x, fr, st) ← exec E call none n (.region id ops false) fr st
      pure (x, fr, u, st)
  | c => do
    let (x, fr, st) ← exec E call none n c fr st
    pure (x, fr, u, st)

def execD (E : Env) (call : CallF) (n : Nat) : Nat → Code → Fr → Option (List PanicEntry) → St → R (Xit × Fr × Option (List PanicEntry) × St)
  | 0, _, _, _, _ => fail "fuel"
  | m + 1, c, fr, u, st => execD1 E call n (execD E call n m) c fr u st

def callD (E : Env) (call : CallF) (n : Nat) (f : FuncId) (args : Array Value) (u : Option (List PanicEntry)) (st : St) : R (End × Option (List PanicEntry) × St) := do
  let fn ← ofOpt (E.fns.get f) "callD"
  let c ← ofOpt fn.body "callD"
  let (x, fr, u, st) ← execD E call n n c (enterA fn.ntmps args) u st
  match fr.ds with
  | [] =>
    match x with
    | .normal | .ret =>
      let v ← resultsA E fn fr st
      pure (.ret v, u, st)
    | .panic ch => pure (.panic ch, u, st)
    | _ => fail "callD: exit"
  | _ => fail "callD: deferred calls within a deferred call"

def runDefers (E : Env) (call : CallF) (n : Nat) : List Deferred → Option (List PanicEntry) → St → R (Option (List PanicEntry) × St)
  | [], u, st => some (u, st)
  | { target := .collected b, .. } :: ds, u, st =>
    match st.h.get b with
    | some (.deferred (some [])) => bif Nat.ble E.lim b then runDefers E call n ds u { st with h := st.h.put b none } else fail "runDefers"
    | _ => fail "runDefers: collected"
  | d :: ds, u, st => do
    match ← targetA E d.target d.args.toList with
    | .enter f args => do
      let (e, u, st) ← callD E call n f args u st
      match e with
      | .ret _ => runDefers E call n ds (settleA u) st
      | .panic ch => runDefers E call n ds (raisedA u ch) st
    | _ => fail "runDefers"

def setParams (ps : List Tmp) (vs : List Value) (fr : Fr) : R Fr :=
  match ps, vs with
  | [], [] => some fr
  | p :: ps, v :: vs => do
    let fr ← fr.put (some p) (some v)
    setParams ps vs fr
  | _, _ => fail "yield: the wrong number of arguments"

/-- One round of a loop over a function. -/
def roundF (E : Env) (call : CallF) (n : Nat) (l : Nat) (args : Array Value) (st : St) : R (End × St) := do
  bif Nat.ble E.lim l then do
    let lp ← ofOpt (st.loops.get l) "round: no such loop"
    let fr ← setParams lp.params.toList args.toList { t := lp.fr, n := lp.n, ds := [] }
    let (x, fr, st) ← exec E call (some l) n lp.assign fr st
    match x with
    | .normal =>
      let lp1 ← ofOpt (st.loops.get l) "round"
      match lp1.state with
      | .ready =>
        let st := { st with loops := st.loops.put l (some { lp1 with state := .busy }) }
        let (x, _, st) ← exec E call (some l) n lp.body fr st
        let lp2 ← ofOpt (st.loops.get l) "round"
        match x with
        | .normal => pure (.ret (.bool true), { st with loops := st.loops.put l (some { lp2 with state := .ready, pending := none }) })
        | .ret => pure (.ret (.bool false), { st with loops := st.loops.put l (some { lp2 with state := .done, pending := some .ret }) })
        | .exit id => pure (.ret (.bool false), { st with loops := st.loops.put l (some { lp2 with state := .done, pending := some (.exit id) }) })
        | .panic _ => fail "round: panic"
      | _ => fail "round: the loop is over"
    | _ => fail "round"
  else fail "round"

def funF (E : Env) (call : CallF) (n : Nat) (f : FuncId) (args : Array Value) (st : St) : R (End × St) := do
  let fn ← ofOpt (E.fns.get f) "call"
  let c ← ofOpt fn.body "call"
  let (x, fr, st) ← exec E call none n c (enterA fn.ntmps args) st
  let u ← match x with
    | .normal | .ret => some none
    | .panic ch => some (some ch)
    | .exit _ => fail "call: exit"
  let (u, st) ← runDefers E call n fr.ds u st
  match u with
  | none =>
    let v ← resultsA E fn fr st
    pure (.ret v, st)
  | some ch => pure (.panic ch, st)

def callF (E : Env) : Nat → CallF
  | 0, _, _, _ => fail "fuel"
  | n + 1, .fn f, args, st =>
    match E.prim f args st.h st.next with
    | some (v, h, next) => pure (.ret v, { st with h := h, next := next })
    | none => funF E (callF E n) n f args st
  | n + 1, .round l, args, st => roundF E (callF E n) n l args st

end Go.AM
