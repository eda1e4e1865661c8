/- The small machine: statements whose order is open, and code. Definitions alone. -/
import Derived.Test.YtdgopiffbhlhoaaGreatDoorVm2
namespace Go.Proofs.YtdgopiffbhlhoaaGreatDoor
open Go
namespace Vm

/-! ### Are two values the same (without look at functions) -/

mutual
noncomputable def V.same : V → V → Bool
  | .bool a, .bool b => a == b
  | .int j a, .int k b => decide (j = k) && decide (a = b)
  | .flt j a, .flt k b => decide (j = k) && Nat.beq a b
  | .cpx j a c, .cpx k b d => decide (j = k) && Nat.beq a b && Nat.beq c d
  | .str a, .str b => a == b
  | .nilp, .nilp => true
  | .ptr a b, .ptr c d => Nat.beq a c && Nat.beq b d
  | .nils, .nils => true
  | .slc a b l c, .slc a' b' l' c' => Nat.beq a a' && Nat.beq b b' && Nat.beq l l' && decide (c = c')
  | .nilm, .nilm => true
  | .map a, .map b => Nat.beq a b
  | .nilFn, .nilFn => true
  | .iface t v, .iface u w => Nat.beq t u && v.same w
  | .nilIf, .nilIf => true
  | .agg a, .agg b => sames a b
  | .tup a, .tup b => sames a b
  | _, _ => false
noncomputable def sames : List V → List V → Bool
  | [], [] => true
  | a :: as, b :: bs => a.same b && sames as bs
  | _, _ => false
end

/-! ### A statement whose order is open: the order of the text serves, if nothing that the others do is seen -/

inductive Kd where
  | p | r | a | e
  deriving DecidableEq

noncomputable def kindOf (P : Program) (o : Oper) : Kd :=
  match makeC P o with
  | some _ => .a
  | none => match o.op with
  | .move _ | .assign _ | .pick _ _ _ | .build _ _ | .nilCheck _ | .binOp _ _ _ _ _ | .unOp _ _ _ | .makeInterface _ _ | .makeFunc _ _ _
  | .slice _ _ _ _ _ | .fieldAddr _ _ _ | .field _ _ _ | .indexAddr _ _ _ | .index _ _ _ | .extract _ _ => .p
  | .load _ _ | .lookup _ _ _ _ => .r
  | .convert _ _ _ => .r
  | .call c => match c.callee with
    | .builtin .len => .r
    | .builtin .cap | .builtin .min | .builtin .max | .builtin .real | .builtin .imag | .builtin .complex => .p
    | _ => .e
  | _ => .e

/-- All that comes ahead of an operation, as a number's bits. -/
noncomputable def maskOf (ms : List Nat) : List Edge → Nat
  | [] => 0
  | e :: es => if Region.binds .any e then maskOf ms es ||| 2 ^ e.on ||| ms.getD e.on 0 else maskOf ms es

noncomputable def masksFrom : List Oper → List Nat → List Nat
  | [], ms => ms
  | o :: os, ms => masksFrom os (ms ++ [maskOf ms o.after.toList])

noncomputable def masks (ops : List Oper) : List Nat := masksFrom ops []

structure Inf where
  op : Oper
  ix : Nat
  kd : Kd
  /-- how many make a block ahead of it -/
  ai : Nat
  b : Nat
  lo : Nat
  hi : Nat

/-- How many of some operations come ahead. -/
noncomputable def countBits (b : Nat) : List Nat → Nat
  | [] => 0
  | i :: is => if b.testBit i then countBits b is + 1 else countBits b is

/-- How many of some operations (by their masks) don't wait for one. -/
noncomputable def countFree (i : Nat) : List Nat → Nat
  | [] => 0
  | m :: ms => if m.testBit i then countFree i ms else countFree i ms + 1

noncomputable def effects (P : Program) : List Oper → Nat → List Nat
  | [], _ => []
  | o :: os, i => match kindOf P o with
    | .e => i :: effects P os (i + 1)
    | _ => effects P os (i + 1)

noncomputable def isMk (P : Program) (o : Oper) : Bool :=
  match kindOf P o with
  | .a => true
  | _ => false

noncomputable def infosFrom (P : Program) (ms es em : List Nat) : List Oper → Nat → Nat → List Inf
  | [], _, _ => []
  | o :: os, i, n => { op := o, ix := i, kd := kindOf P o, ai := n, b := ms.getD i 0, lo := countBits (ms.getD i 0) es, hi := countFree i em } :: infosFrom P ms es em os (i + 1) (bif isMk P o then n + 1 else n)

noncomputable def infos (P : Program) (ops : List Oper) : List Inf :=
  let ms := masks ops
  let es := effects P ops 0
  infosFrom P ms es (es.map fun i => ms.getD i 0) ops 0 0

noncomputable def makers (P : Program) : List Oper → Nat
  | [] => 0
  | o :: os => bif isMk P o then makers P os + 1 else makers P os

noncomputable def tmpsOf (ops : List Oper) (o : Oper) : List Tmp :=
  o.dst.toList ++ (o.op.operands.toList.filterMap fun | .tmp t => some t | _ => none) ++
  (match o.guard with
   | some (g, _) => match nth ops g with
     | some og => og.dst.toList
     | none => []
   | none => [])

/-- Each that writes one of an operation's temporaries is ordered against it. -/
noncomputable def writersOk (ms : List Nat) (ts : List Tmp) (b i : Nat) : List Oper → Nat → Bool
  | [], _ => true
  | o :: os, j => (match o.dst with
      | some d => if ts.contains d then (if j < i then b.testBit j else if i < j then (ms.getD j 0).testBit i else true) else true
      | none => true) && writersOk ms ts b i os (j + 1)

noncomputable def edgesOk (i : Nat) (es : List Edge) : Bool := es.all fun e => !Region.binds .any e || decide (e.on < i)

noncomputable def opsOk (ops : List Oper) (ms : List Nat) : List Oper → Nat → Bool
  | [], _ => true
  | o :: os, i => edgesOk i o.after.toList && writersOk ms (tmpsOf ops o) (ms.getD i 0) i ops 0 && opsOk ops ms os (i + 1)

/-- All effects that come ahead of an effect in the text are among what it waits for. -/
noncomputable def chainOk (ms es : List Nat) : Bool := es.all fun i => es.all fun j => Nat.ble i j || (ms.getD i 0).testBit j

noncomputable def drawOk (P : Program) (ops : List Oper) : Bool :=
  let ms := masks ops
  opsOk ops ms ops 0 && chainOk ms (effects P ops 0)

/-- A block that an operation made. -/
structure Pd where
  ix : Nat
  id : Nat
  ob : Ob

structure Rg where
  base : Nat
  T : Fr
  h : Hp
  al : List Pd
  /-- the masks of the effects so far, the latest first -/
  eb : List Nat
  /-- the heaps ahead of the effects so far, the latest first -/
  hs : List Hp
  /-- what reads are to be looked at in the end: the operation, its frame, its value -/
  rd : List (Inf × Fr × V)

noncomputable def addPd (h : Hp) (l : List Pd) : Hp :=
  List.rec (motive := fun _ => Hp) h (fun p _ ih => ih.set p.id p.ob) l

noncomputable def anyBit (i : Nat) (eb : List Nat) : Bool :=
  List.rec (motive := fun _ => Bool) false (fun m _ ih => bif m.testBit i then true else ih) eb

/-- The blocks that are in no effect's heap; of those, what came ahead of an operation. -/
noncomputable def loosePd (al : List Pd) (eb : List Nat) : List Pd :=
  List.rec (motive := fun _ => List Pd) [] (fun p _ ih => bif anyBit p.ix eb then ih else p :: ih) al
noncomputable def viewPd (al : List Pd) (eb : List Nat) (b : Nat) : List Pd :=
  List.rec (motive := fun _ => List Pd) [] (fun p _ ih => bif b.testBit p.ix then (bif anyBit p.ix eb then ih else p :: ih) else ih) al

abbrev StFn := V → Fr → Fr

noncomputable def rgT (s : Rg) (T : Fr) : Rg := ⟨s.base, T, s.h, s.al, s.eb, s.hs, s.rd⟩

noncomputable def rgP (st : StFn) (s : Rg) (r : Option Nx) : Option Rg :=
  match r with
  | some (.val v _) => some (rgT s (st v s.T))
  | _ => none

noncomputable def rgR (st : StFn) (f : Inf) (s : Rg) (r : Option Nx) : Option Rg :=
  match r with
  | some (.val v _) => some ⟨s.base, st v s.T, s.h, s.al, s.eb, s.hs, (f, s.T, v) :: s.rd⟩
  | _ => none

noncomputable def rgA (st : StFn) (f : Inf) (s : Rg) (r : Option (V × Ob)) : Option Rg :=
  match r with
  | some r => some ⟨s.base, st r.1 s.T, s.h, ⟨f.ix, s.base + f.ai, r.2⟩ :: s.al, s.eb, s.hs, s.rd⟩
  | none => none

noncomputable def rgE1 (st : StFn) (f : Inf) (s : Rg) (v : V) (h : Hp) : Rg :=
  ⟨s.base, st v s.T, h, s.al, f.b :: s.eb, s.h :: s.hs, s.rd⟩

noncomputable def rgE (st : StFn) (f : Inf) (call : CallFn) (s : Rg) (h₁ : Hp) (r : Option Nx) : Option Rg :=
  match r with
  | some (.val v h) => some (rgE1 st f s v h)
  | some (.call g args) => match call g args h₁ with
    | some r => some (rgE1 st f s r.1 r.2)
    | none => none
  | none => none

/-- An operation that is carried out. -/
noncomputable def doC (P : Program) (st : StFn) (f : Inf) : Cm (CallFn → Rg → Option Rg) :=
  match f.kd with
  | .p => match opC P f.op with
    | .mk g => .mk fun _ s => rgP st s (g s.T ⟨.leaf, 0⟩)
  | .r => match opC P f.op with
    | .mk g => bif Nat.beq f.lo f.hi then .mk fun _ s => rgP st s (g s.T (addPd s.h (viewPd s.al s.eb f.b)))
      else .mk fun _ s => rgR st f s (g s.T (addPd s.h (viewPd s.al s.eb f.b)))
  | .a => match makeC P f.op with
    | some (.mk g) => .mk fun _ s => rgA st f s (g s.T (s.base + f.ai))
    | none => .mk fun _ _ => none
  | .e => match opC P f.op with
    | .mk g => .mk fun call s => rgE st f call s (addPd s.h (viewPd s.al s.eb f.b)) (g s.T (addPd s.h (viewPd s.al s.eb f.b)))

/-- One that isn't. -/
noncomputable def skC (st : StFn) (f : Inf) : Cm (Rg → Rg) :=
  match f.kd with
  | .e => .mk fun s => rgE1 st f s undf (addPd s.h (viewPd s.al s.eb f.b))
  | _ => .mk fun s => rgT s (st undf s.T)

noncomputable def stepC (P : Program) (nt : Nat) (ops : List Oper) (f : Inf) : Cm (CallFn → Rg → Option Rg) :=
  match dstC nt f.op.dst with
  | none => .mk fun _ _ => none
  | some (.mk st) => match doC P st f with
    | .mk g => match skC st f with
      | .mk k => match guardOf ops f.op with
        | .always => .mk g
        | .never => .mk fun _ s => some (k s)
        | .ifs d want => .mk fun call s => bif jkO (s.T.get d) then none else bif holds want (s.T.get d) then g call s else some (k s)

noncomputable def runC (P : Program) (nt : Nat) (ops : List Oper) (fs : List Inf) : Cm (CallFn → Rg → Option Rg) :=
  List.rec (motive := fun _ => Cm (CallFn → Rg → Option Rg)) (.mk fun _ s => some s)
    (fun f _ ih => match stepC P nt ops f with
      | .mk g => .mk fun call s => Option.rec (motive := fun _ => Option Rg) none (fun s => ih.use call s) (g call s)) fs

/-- A read at each of the heaps at which it may happen: 'hs' and 'eb': the latest first; the first of 'hs' is the heap behind all of 'eb'. -/
noncomputable def readAt (P : Program) (al : List Pd) (f : Inf) (T : Fr) (v : V) : List Hp → List Nat → Bool
  | [], _ => true
  | h :: hs, eb => (bif Nat.ble f.lo (len eb) && Nat.ble (len eb) f.hi then match (opC P f.op).use T (addPd h (viewPd al eb f.b)) with
        | some (.val u _) => u.same v
        | _ => false
      else true) && readAt P al f T v hs eb.tail

noncomputable def readsOk (P : Program) (al : List Pd) (hs : List Hp) (eb : List Nat) : List (Inf × Fr × V) → Bool
  | [] => true
  | (f, T, v) :: rs => readAt P al f T v hs eb && readsOk P al hs eb rs

noncomputable def drawC (P : Program) (nt : Nat) (ops : List Oper) : Cm (CallFn → Fr → Hp → Out) :=
  bif drawOk P ops then .mk fun call T h => match (runC P nt ops (infos P ops)).use call ⟨h.next, T, ⟨h.t, h.next + makers P ops⟩, [], [], [], []⟩ with
    | some s => bif readsOk P s.al (s.h :: s.hs) s.eb s.rd then .ok .normal s.T (addPd s.h (loosePd s.al s.eb)) else .bad
    | none => .bad
  else .mk fun _ _ _ => .bad

/-! ### Code, calls -/

noncomputable def ldVar (P : Program) (t : TypeId) (a : V) (h : Hp) : Option V :=
  (ldC P t).use a h

noncomputable def resV (P : Program) (T : Fr) (h : Hp) : List ResultVar → Option (List V)
  | [] => some []
  | .tmp t :: rs => match resV P T h rs with
    | some vs => some (tmpV T t :: vs)
    | none => none
  | .cell a t :: rs => match ldVar P t (tmpV T a) h with
    | some v => match resV P T h rs with
      | some vs => some (v :: vs)
      | none => none
    | none => none

noncomputable def resOf : List V → V
  | [v] => v
  | vs => .tup vs

noncomputable def initT (l : List V) : Nat → Tree V → Tree V :=
  List.rec (motive := fun _ => Nat → Tree V → Tree V) (fun _ t => t) (fun v _ ih i t => ih (i + 1) (t.put i (some v))) l

/-- What is known of a program besides its text: functions whose answer is worked out by a function of ours. -/
abbrev Known := FuncId → Option (List V → Hp → Option (V × Hp))

abbrev Rn := Nat → CallFn → Fr → Hp → Out

inductive CC where
  | mk (run : Rn) (lab : Nat → Option Rn)
noncomputable def CC.run (c : CC) : Rn := CC.rec (motive := fun _ => Rn) (fun r _ => r) c
noncomputable def CC.lab (c : CC) : Nat → Option Rn := CC.rec (motive := fun _ => Nat → Option Rn) (fun _ l => l) c

noncomputable def thenO (k : Fr → Hp → Out) (r : Out) : Out :=
  match r with
  | .ok e T h => match e with
    | .normal => k T h
    | e => .ok e T h
  | .bad => .bad
noncomputable def blockO (i : Nat) (r : Out) : Out :=
  match r with
  | .ok e T h => match e with
    | .exit j => bif Nat.beq j i then .ok .normal T h else .ok (.exit j) T h
    | e => .ok e T h
  | .bad => .bad
noncomputable def condO (a b : Fr → Hp → Out) (T : Fr) (h : Hp) (x : V) : Out :=
  match x with
  | .bool t => Bool.rec (motive := fun _ => Out) (b T h) (a T h) t
  | _ => .bad
noncomputable def loopN (body : Fr → Hp → Out) (n : Nat) : Fr → Hp → Out :=
  Nat.rec (motive := fun _ => Fr → Hp → Out) (fun _ _ => .bad) (fun _ ih T h => thenO ih (body T h)) n
noncomputable def scopeN (lab : Nat → Option (Fr → Hp → Out)) (n : Nat) : Out → Out :=
  Nat.rec (motive := fun _ => Out → Out) (fun _ => .bad) (fun _ ih r => match r with
    | .ok e T h => match e with
      | .goto l => match lab l with
        | some k => ih (k T h)
        | none => .bad
      | e => .ok e T h
    | .bad => .bad) n

noncomputable def noLab : Nat → Option Rn := fun _ => none
noncomputable def justEx (e : Ex) : CC := .mk (fun _ _ T h => .ok e T h) noLab

noncomputable def codeC (P : Program) (nt : Nat) (c : Code) : CC :=
  Code.rec (motive := fun _ => CC)
    (justEx .normal)
    (fun _ ops draw => bif draw then .mk (fun _ call => (drawC P nt ops.toList).use call) noLab else .mk (fun _ call => (opsC P nt ops.toList ops.toList).use call) noLab)
    (fun _ _ ia ib => .mk (fun n call T h => thenO (ib.run n call) (ia.run n call T h))
      (fun l => match ia.lab l with
        | some r => some fun n call T h => thenO (ib.run n call) (r n call T h)
        | none => ib.lab l))
    (fun x _ _ ia ib => match opd P x with
      | some (.mk g) => .mk (fun n call T h => condO (ia.run n call) (ib.run n call) T h (g T)) noLab
      | none => .mk (fun _ _ _ _ => .bad) noLab)
    (fun i _ ia => .mk (fun n call T h => blockO i (ia.run n call T h)) noLab)
    (fun _ ia => .mk (fun n call => loopN (ia.run n call) n) noLab)
    (fun _ _ _ _ _ _ => .mk (fun _ _ _ _ => .bad) noLab)
    (fun i => justEx (.exit i))
    (fun _ ia => .mk (fun n call T h => scopeN (fun l => match ia.lab l with
        | some r => some (r n call)
        | none => none) n (ia.run n call T h)) noLab)
    (fun l => .mk (fun _ _ T h => .ok .normal T h) (fun l' => bif Nat.beq l l' then some fun _ _ T h => .ok .normal T h else none))
    (fun l => justEx (.goto l))
    (justEx .ret)
    (fun _ => .mk (fun _ _ _ _ => .bad) noLab) c

noncomputable def endO (P : Program) (rs : List ResultVar) (r : Out) : Option (V × Hp) :=
  match r with
  | .ok e T h => match e with
    | .normal => (resV P T h rs).map fun vs => (resOf vs, h)
    | .ret => (resV P T h rs).map fun vs => (resOf vs, h)
    | _ => none
  | .bad => none

noncomputable def fnC (P : Program) (f : FuncId) : Cm (Nat → CallFn → List V → Hp → Option (V × Hp)) :=
  match P.funcs[f]? with
  | some fn => match fn.body with
    | some c => .mk fun n call args h => bif Nat.ble (len args) fn.ntmps then endO P fn.results.toList ((codeC P fn.ntmps c).run n call (initT args 0 .leaf) h) else none
    | none => .mk fun _ _ _ _ => none
  | none => .mk fun _ _ _ _ => none

noncomputable def callN (P : Program) (K : Known) (n : Nat) : CallFn :=
  Nat.rec (motive := fun _ => CallFn) (fun _ _ _ => none) (fun n ih f args h => match K f with
    | some g => g args h
    | none => (fnC P f).use n ih args h) n

end Vm
end Go.Proofs.YtdgopiffbhlhoaaGreatDoor
