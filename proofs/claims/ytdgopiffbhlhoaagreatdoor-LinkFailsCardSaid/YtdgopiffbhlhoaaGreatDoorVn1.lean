/- A second machine beside the small one: where it is told so it takes a condition, or a call's answer, on trust, and keeps what is to be shown of it. Definitions alone. -/
import Derived.Test.YtdgopiffbhlhoaaGreatDoorVmM
namespace Go.Proofs.YtdgopiffbhlhoaaGreatDoor
open Go
namespace Vm

/-- What is to be shown. -/
structure Obs where
  p : List Prop
  e : List (Option V × Option V)
noncomputable def AllPr (l : List Prop) : Prop := List.rec (motive := fun _ => Prop) True (fun p _ ih => p ∧ ih) l
noncomputable def sides (i : Bool) (l : List (Option V × Option V)) : List (Option V) := List.rec (motive := fun _ => List (Option V)) [] (fun x _ ih => (bif i then x.1 else x.2) :: ih) l
structure AllP (o : Obs) : Prop where
  p : AllPr o.p
  e : sides true o.e = sides false o.e

noncomputable def appL {α : Type _} (a b : List α) : List α := List.rec (motive := fun _ => List α) b (fun x _ ih => x :: ih) a
noncomputable def oApp (a b : Obs) : Obs := ⟨appL a.p b.p, appL a.e b.e⟩
noncomputable def oNil : Obs := ⟨[], []⟩
noncomputable def oOne (p : Prop) : Obs := ⟨[p], []⟩

/-- What is taken on trust: conditions, by function and temporary; answers of functions. -/
structure Ovr where
  cond : FuncId → Tmp → Option Bool
  call : FuncId → Option (List V → Hp → V × Hp)

abbrev CallFn2 := FuncId → List V → Hp → Option ((V × Hp) × Obs)

inductive Out2 where
  | bad
  | ok (e : Ex) (T : Fr) (h : Hp) (o : Obs)

noncomputable def addO (o : Obs) (r : Out2) : Out2 :=
  Out2.rec (motive := fun _ => Out2) .bad (fun e T h o' => .ok e T h (oApp o o')) r
/-- (As that; what is empty costs nothing.) -/
noncomputable def addN (o : Obs) (r : Out2) : Out2 :=
  match o with
  | ⟨p, e⟩ => match p with
    | [] => match e with
      | [] => r
      | x :: e => addO ⟨[], x :: e⟩ r
    | x :: p => addO ⟨x :: p, e⟩ r

noncomputable def putNx2 (call : CallFn2) (st : V → Fr → Fr) (T : Fr) (h : Hp) (k : Fr → Hp → Out2) (r : Option Nx) : Out2 :=
  Option.rec (motive := fun _ => Out2) .bad (fun x => Nx.rec (motive := fun _ => Out2) (fun v h => k (st v T) h)
    (fun f args => Option.rec (motive := fun _ => Out2) .bad (fun r => addN r.2 (k (st r.1.1 T) r.1.2)) (call f args h)) x) r

/-- A choice by what is taken on trust. -/
noncomputable def pickOv (ov : Tmp → Option Bool) (o : Op) : Option (Tmp × Bool × Operand × Operand) :=
  match o with
  | .pick (.tmp t) a b => match ov t with
    | some β => some (t, β, a, b)
    | none => none
  | _ => none

/-- An operation, and what comes behind it. -/
noncomputable def opK (P : Program) (ov : Tmp → Option Bool) (o : Oper) : Cm (CallFn2 → (V → Fr → Fr) → (Fr → Hp → Out2) → Fr → Hp → Out2) :=
  match pickOv ov o.op with
  | some (t, β, a, b) => match opd P a with
    | some (.mk f) => match opd P b with
      | some (.mk g) => .mk fun _ st k T h => addN (oOne (tmpV T t = .bool β)) (k (st (bif β then f T else g T) T) h)
      | none => .mk fun _ _ _ _ _ => .bad
    | none => .mk fun _ _ _ _ _ => .bad
  | none => match opC P o with
    | .mk f => .mk fun call st k T h => putNx2 call st T h k (f T h)

noncomputable def opsC2 (P : Program) (nt : Nat) (ov : Tmp → Option Bool) (ops : List Oper) (l : List Oper) : Cm (CallFn2 → Fr → Hp → Out2) :=
  List.rec (motive := fun _ => Cm (CallFn2 → Fr → Hp → Out2)) (.mk fun _ T h => .ok .normal T h oNil)
    (fun o _ ih => match dstC nt o.dst with
      | none => .mk fun _ _ _ => .bad
      | some (.mk st) => match opK P ov o with
        | .mk f => match guardOf ops o with
          | .always => .mk fun call T h => f call st (ih.use call) T h
          | .never => .mk fun call T h => ih.use call (st undf T) h
          | .ifs d want => match ov d with
            | none => .mk fun call T h => bif jkO (T.get d) then .bad else bif holds want (T.get d) then f call st (ih.use call) T h else ih.use call (st undf T) h
            | some β => .mk fun call T h => addN (oOne (tmpV T d = .bool β)) (bif (bif β then want else !want) then f call st (ih.use call) T h else ih.use call (st undf T) h)) l

/-! ### Statements whose order is open -/

noncomputable def rgE2 (st : StFn) (f : Inf) (call : CallFn2) (s : Rg) (h₁ : Hp) (r : Option Nx) : Option (Rg × Obs) :=
  match r with
  | some (.val v h) => some (rgE1 st f s v h, oNil)
  | some (.call g args) => match call g args h₁ with
    | some r => some (rgE1 st f s r.1.1 r.1.2, r.2)
    | none => none
  | none => none

noncomputable def noObs (r : Option Rg) : Option (Rg × Obs) := Option.rec (motive := fun _ => Option (Rg × Obs)) none (fun s => some (s, oNil)) r
noncomputable def noCall : CallFn := fun _ _ _ => none

noncomputable def addR (o : Obs) (r : Option (Rg × Obs)) : Option (Rg × Obs) := Option.rec (motive := fun _ => Option (Rg × Obs)) none (fun s => some (s.1, oApp o s.2)) r

noncomputable def doC2 (P : Program) (ov : Tmp → Option Bool) (st : StFn) (f : Inf) : Cm (CallFn2 → Rg → Option (Rg × Obs)) :=
  match f.kd with
  | .p => match pickOv ov f.op.op with
    | some (t, β, a, b) => match opd P a with
      | some (.mk k) => match opd P b with
        | some (.mk g) => .mk fun _ s => some (rgT s (st (bif β then k s.T else g s.T) s.T), oOne (tmpV s.T t = .bool β))
        | none => .mk fun _ _ => none
      | none => .mk fun _ _ => none
    | none => match doC P st f with
      | .mk g => .mk fun _ s => noObs (g noCall s)
  | .e => match opC P f.op with
    | .mk g => .mk fun call s => rgE2 st f call s (addPd s.h (viewPd s.al s.eb f.b)) (g s.T (addPd s.h (viewPd s.al s.eb f.b)))
  | _ => match doC P st f with
    | .mk g => .mk fun _ s => noObs (g noCall s)

noncomputable def stepC2 (P : Program) (nt : Nat) (ov : Tmp → Option Bool) (ops : List Oper) (f : Inf) : Cm (CallFn2 → Rg → Option (Rg × Obs)) :=
  match dstC nt f.op.dst with
  | none => .mk fun _ _ => none
  | some (.mk st) => match doC2 P ov st f with
    | .mk g => match skC st f with
      | .mk k => match guardOf ops f.op with
        | .always => .mk g
        | .never => .mk fun _ s => some (k s, oNil)
        | .ifs d want => match ov d with
          | none => .mk fun call s => bif jkO (s.T.get d) then none else bif holds want (s.T.get d) then g call s else some (k s, oNil)
          | some β => .mk fun call s => addR (oOne (tmpV s.T d = .bool β)) (bif (bif β then want else !want) then g call s else some (k s, oNil))

noncomputable def runC2 (P : Program) (nt : Nat) (ov : Tmp → Option Bool) (ops : List Oper) (fs : List Inf) : Cm (CallFn2 → Rg → Option (Rg × Obs)) :=
  List.rec (motive := fun _ => Cm (CallFn2 → Rg → Option (Rg × Obs))) (.mk fun _ s => some (s, oNil))
    (fun f _ ih => match stepC2 P nt ov ops f with
      | .mk g => .mk fun call s => Option.rec (motive := fun _ => Option (Rg × Obs)) none (fun s => addR s.2 (ih.use call s.1)) (g call s)) fs

mutual
/-- No function in it, and nothing of which nothing is said. -/
noncomputable def V.plain : V → Bool
  | .fn _ _ _ => false
  | .junk => false
  | .map _ => true
  | .iface _ v => v.plain
  | .agg l => plains l
  | .tup l => plains l
  | _ => true
noncomputable def plains : List V → Bool
  | [] => true
  | v :: vs => v.plain && plains vs
end

noncomputable def vOf (r : Option Nx) : Option V :=
  match r with
  | some (.val v _) => some v
  | _ => none

/-- A read at each of the heaps at which it may happen. -/
noncomputable def readAtE (P : Program) (al : List Pd) (f : Inf) (T : Fr) (v : V) : List Hp → List Nat → List (Option V × Option V)
  | [], _ => []
  | h :: hs, eb => appL (bif Nat.ble f.lo (len eb) && Nat.ble (len eb) f.hi then [(vOf ((opC P f.op).use T (addPd h (viewPd al eb f.b))), bif v.plain then some v else none)] else []) (readAtE P al f T v hs eb.tail)

noncomputable def readsE (P : Program) (al : List Pd) (hs : List Hp) (eb : List Nat) : List (Inf × Fr × V) → List (Option V × Option V)
  | [] => []
  | (f, T, v) :: rs => appL ((bif v.plain then some v else none, some v) :: readAtE P al f T v hs eb) (readsE P al hs eb rs)

noncomputable def drawC2 (P : Program) (nt : Nat) (ov : Tmp → Option Bool) (ops : List Oper) : Cm (CallFn2 → Fr → Hp → Out2) :=
  bif drawOk P ops then .mk fun call T h => match (runC2 P nt ov ops (infos P ops)).use call ⟨h.next, T, ⟨h.t, h.next + makers P ops⟩, [], [], [], []⟩ with
    | some s => .ok .normal s.1.T (addPd s.1.h (loosePd s.1.al s.1.eb)) (oApp s.2 ⟨[], readsE P s.1.al (s.1.h :: s.1.hs) s.1.eb s.1.rd⟩)
    | none => .bad
  else .mk fun _ _ _ => .bad

/-! ### Code, calls -/

abbrev Rn2 := Nat → CallFn2 → Fr → Hp → Out2

inductive CC2 where
  | mk (run : Rn2) (lab : Nat → Option Rn2)
noncomputable def CC2.run (c : CC2) : Rn2 := CC2.rec (motive := fun _ => Rn2) (fun r _ => r) c
noncomputable def CC2.lab (c : CC2) : Nat → Option Rn2 := CC2.rec (motive := fun _ => Nat → Option Rn2) (fun _ l => l) c

noncomputable def thenO2 (k : Fr → Hp → Out2) (r : Out2) : Out2 :=
  match r with
  | .ok e T h o => match e with
    | .normal => addN o (k T h)
    | e => .ok e T h o
  | .bad => .bad
noncomputable def blockO2 (i : Nat) (r : Out2) : Out2 :=
  match r with
  | .ok e T h o => match e with
    | .exit j => bif Nat.beq j i then .ok .normal T h o else .ok (.exit j) T h o
    | e => .ok e T h o
  | .bad => .bad
noncomputable def condO2 (ov : Option Bool) (a b : Fr → Hp → Out2) (T : Fr) (h : Hp) (x : V) : Out2 :=
  match ov with
  | none => match x with
    | .bool t => Bool.rec (motive := fun _ => Out2) (b T h) (a T h) t
    | _ => .bad
  | some β => addN (oOne (x = .bool β)) (Bool.rec (motive := fun _ => Out2) (b T h) (a T h) β)
noncomputable def loopN2 (body : Fr → Hp → Out2) (n : Nat) : Fr → Hp → Out2 :=
  Nat.rec (motive := fun _ => Fr → Hp → Out2) (fun _ _ => .bad) (fun _ ih T h => thenO2 ih (body T h)) n
noncomputable def scopeN2 (lab : Nat → Option (Fr → Hp → Out2)) (n : Nat) : Out2 → Out2 :=
  Nat.rec (motive := fun _ => Out2 → Out2) (fun _ => .bad) (fun _ ih r => match r with
    | .ok e T h o => match e with
      | .goto l => match lab l with
        | some k => addN o (ih (k T h))
        | none => .bad
      | e => .ok e T h o
    | .bad => .bad) n

noncomputable def noLab2 : Nat → Option Rn2 := fun _ => none
noncomputable def justEx2 (e : Ex) : CC2 := .mk (fun _ _ T h => .ok e T h oNil) noLab2

noncomputable def ovOf (ov : Tmp → Option Bool) (x : Operand) : Option Bool :=
  match x with
  | .tmp t => ov t
  | _ => none

noncomputable def codeC2 (P : Program) (ov : Tmp → Option Bool) (nt : Nat) (c : Code) : CC2 :=
  Code.rec (motive := fun _ => CC2)
    (justEx2 .normal)
    (fun _ ops draw => bif draw then .mk (fun _ call => (drawC2 P nt ov ops.toList).use call) noLab2 else .mk (fun _ call => (opsC2 P nt ov ops.toList ops.toList).use call) noLab2)
    (fun _ _ ia ib => .mk (fun n call T h => thenO2 (ib.run n call) (ia.run n call T h))
      (fun l => match ia.lab l with
        | some r => some fun n call T h => thenO2 (ib.run n call) (r n call T h)
        | none => ib.lab l))
    (fun x _ _ ia ib => match opd P x with
      | some (.mk g) => .mk (fun n call T h => condO2 (ovOf ov x) (ia.run n call) (ib.run n call) T h (g T)) noLab2
      | none => .mk (fun _ _ _ _ => .bad) noLab2)
    (fun i _ ia => .mk (fun n call T h => blockO2 i (ia.run n call T h)) noLab2)
    (fun _ ia => .mk (fun n call => loopN2 (ia.run n call) n) noLab2)
    (fun _ _ _ _ _ _ => .mk (fun _ _ _ _ => .bad) noLab2)
    (fun i => justEx2 (.exit i))
    (fun _ ia => .mk (fun n call T h => scopeN2 (fun l => match ia.lab l with
        | some r => some (r n call)
        | none => none) n (ia.run n call T h)) noLab2)
    (fun l => .mk (fun _ _ T h => .ok .normal T h oNil) (fun l' => bif Nat.beq l l' then some fun _ _ T h => .ok .normal T h oNil else none))
    (fun l => justEx2 (.goto l))
    (justEx2 .ret)
    (fun _ => .mk (fun _ _ _ _ => .bad) noLab2) c

noncomputable def endO2 (P : Program) (rs : List ResultVar) (r : Out2) : Option ((V × Hp) × Obs) :=
  match r with
  | .ok e T h o => match e with
    | .normal => (resV P T h rs).map fun vs => ((resOf vs, h), o)
    | .ret => (resV P T h rs).map fun vs => ((resOf vs, h), o)
    | _ => none
  | .bad => none

noncomputable def fnC2 (P : Program) (ov : Tmp → Option Bool) (f : FuncId) : Cm (Nat → CallFn2 → List V → Hp → Option ((V × Hp) × Obs)) :=
  match P.funcs[f]? with
  | some fn => match fn.body with
    | some c => .mk fun n call args h => bif Nat.ble (len args) fn.ntmps then endO2 P fn.results.toList ((codeC2 P ov fn.ntmps c).run n call (initT args 0 .leaf) h) else none
    | none => .mk fun _ _ _ _ => none
  | none => .mk fun _ _ _ _ => none

noncomputable def noObsV (r : Option (V × Hp)) : Option ((V × Hp) × Obs) := Option.rec (motive := fun _ => Option ((V × Hp) × Obs)) none (fun s => some (s, oNil)) r

noncomputable def callN2 (P : Program) (K : Known) (ov : Ovr) (n : Nat) : CallFn2 :=
  Nat.rec (motive := fun _ => CallFn2) (fun _ _ _ => none) (fun n ih f args h => match ov.call f with
    | some g => some (g args h, oOne (callN P K (n + 1) f args h = some (g args h)))
    | none => match K f with
      | some g => noObsV (g args h)
      | none => (fnC2 P (ov.cond f) f).use n ih args h) n

end Vm
end Go.Proofs.YtdgopiffbhlhoaaGreatDoor
