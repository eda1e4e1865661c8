/- The second machine's answers are the small machine's, where what it took on trust is so. -/
import Derived.Test.YtdgopiffbhlhoaaGreatDoorVn1
namespace Go.Proofs.YtdgopiffbhlhoaaGreatDoor
open Go
namespace Vm
section
variable {P : Program} {nt : Nat} {call : CallFn} {call2 : CallFn2}

theorem appL_eq {α : Type _} : ∀ (a b : List α), appL a b = a ++ b
  | [], _ => rfl
  | x :: a, b => by show x :: appL a b = _; rw [appL_eq a b]; rfl
theorem allPr_app : ∀ {a b : List Prop}, AllPr (appL a b) ↔ AllPr a ∧ AllPr b
  | [], b => ⟨fun h => ⟨trivial, h⟩, fun h => h.2⟩
  | p :: a, b => by
    show (p ∧ AllPr (appL a b)) ↔ (p ∧ AllPr a) ∧ AllPr b
    rw [allPr_app, and_assoc]
theorem sides_eq (i : Bool) : ∀ l, sides i l = l.map fun x => bif i then x.1 else x.2
  | [] => rfl
  | x :: l => by show _ :: sides i l = _; rw [sides_eq i l]; rfl
theorem allP_append {a b : Obs} : AllP (oApp a b) ↔ AllP a ∧ AllP b := by
  constructor
  · intro h
    have h1 := allPr_app.1 h.p
    have h2 := h.e
    rw [sides_eq, sides_eq] at h2
    change (appL a.e b.e).map _ = (appL a.e b.e).map _ at h2
    rw [appL_eq, List.map_append, List.map_append] at h2
    have h3 := List.append_inj h2 (by simp)
    exact ⟨⟨h1.1, by rw [sides_eq, sides_eq]; exact h3.1⟩, ⟨h1.2, by rw [sides_eq, sides_eq]; exact h3.2⟩⟩
  · intro ⟨h1, h2⟩
    refine ⟨allPr_app.2 ⟨h1.p, h2.p⟩, ?_⟩
    have k1 := h1.e
    have k2 := h2.e
    rw [sides_eq, sides_eq] at k1 k2 ⊢
    show (appL a.e b.e).map _ = (appL a.e b.e).map _
    rw [appL_eq, List.map_append, List.map_append, k1, k2]
theorem allP_one {p : Prop} : AllP (oOne p) ↔ p := ⟨fun h => h.p.1, fun h => ⟨⟨h, trivial⟩, rfl⟩⟩
theorem allP_nil : AllP oNil := ⟨trivial, rfl⟩
theorem addN_eq (o : Obs) (r : Out2) : addN o r = addO o r := by
  obtain ⟨p, e⟩ := o
  cases p with
  | cons x p => rfl
  | nil =>
    cases e with
    | cons x e => rfl
    | nil => cases r <;> rfl

def CallSim (call2 : CallFn2) (call : CallFn) : Prop := ∀ g args h r o, call2 g args h = some (r, o) → AllP o → call g args h = some r

theorem addO_ok {o : Obs} {r : Out2} {e : Ex} {T : Fr} {h : Hp} {o' : Obs} (hr : addN o r = .ok e T h o') : ∃ o₁, r = .ok e T h o₁ ∧ o' = oApp o o₁ := by
  rw [addN_eq] at hr
  cases r with
  | bad => cases hr
  | ok e₁ T₁ h₁ o₁ => cases hr; exact ⟨_, rfl, rfl⟩

def RnSim (f2 : Fr → Hp → Out2) (f : Fr → Hp → Out) : Prop := ∀ T h e T' h' o, f2 T h = .ok e T' h' o → AllP o → f T h = .ok e T' h'

theorem RnSim.add {f2 : Fr → Hp → Out2} {f : Fr → Hp → Out} (hs : RnSim f2 f) {T : Fr} {h : Hp} {e : Ex} {T' : Fr} {h' : Hp} {o o' : Obs} (hr : addN o (f2 T h) = .ok e T' h' o') (ho : AllP o') : AllP o ∧ f T h = .ok e T' h' := by
  obtain ⟨o₁, h1, rfl⟩ := addO_ok hr
  have := allP_append.1 ho
  exact ⟨this.1, hs _ _ _ _ _ _ h1 this.2⟩

theorem put_sim (hC : CallSim call2 call) {st : V → Fr → Fr} {T : Fr} {h : Hp} {k2 : Fr → Hp → Out2} {k : Fr → Hp → Out} (hk : RnSim k2 k) {r : Option Nx} {e : Ex} {T' : Fr} {h' : Hp} {o : Obs} (hr : putNx2 call2 st T h k2 r = .ok e T' h' o) (ho : AllP o) :
    putNx call st T h k r = .ok e T' h' := by
  cases r with
  | none => cases hr
  | some x =>
    cases x with
    | val v h₁ => exact hk _ _ _ _ _ _ hr ho
    | call f args =>
      change (Option.rec (motive := fun _ => Out2) .bad (fun r => addN r.2 (k2 (st r.1.1 T) r.1.2)) (call2 f args h) : Out2) = _ at hr
      cases hc : call2 f args h with
      | none => rw [hc] at hr; cases hr
      | some r =>
        rw [hc] at hr
        obtain ⟨a, b⟩ := hk.add hr ho
        show (Option.rec (motive := fun _ => Out) .bad (fun r => k (st r.1 T) r.2) (call f args h) : Out) = _
        rw [hC f args h r.1 r.2 hc a]
        exact b

theorem bif_sim {b : Bool} {x2 y2 : Out2} {x y : Out} {e : Ex} {T' : Fr} {h' : Hp} {o : Obs} (hx : x2 = .ok e T' h' o → x = .ok e T' h') (hy : y2 = .ok e T' h' o → y = .ok e T' h') (hr : (bif b then x2 else y2) = .ok e T' h' o) : (bif b then x else y) = .ok e T' h' := by
  cases b
  · exact hy hr
  · exact hx hr

theorem get_bool {T : Fr} {d : Nat} {β : Bool} (h : tmpV T d = .bool β) : T.get d = some (.bool β) := by
  rw [tmpV_eq] at h
  cases hg : T.get d with
  | none => rw [hg] at h; cases h
  | some v => rw [hg] at h; exact congrArg some h

theorem pickOv_eq {ov : Tmp → Option Bool} {o : Op} {t : Tmp} {β : Bool} {a b : Operand} (h : pickOv ov o = some (t, β, a, b)) : o = .pick (.tmp t) a b ∧ ov t = some β := by
  unfold pickOv at h
  split at h
  · split at h
    · rename_i q; cases h; exact ⟨rfl, q⟩
    · cases h
  · cases h

theorem pick_run {ov : Tmp → Option Bool} {o : Oper} {t : Tmp} {β : Bool} {a b : Operand} (hp : pickOv ov o.op = some (t, β, a, b)) {f g : Fr → V} (ha : opd P a = some (.mk f)) (hb : opd P b = some (.mk g)) {T : Fr} {h : Hp} (ht : tmpV T t = .bool β) :
    (opC P o).1 T h = some (.val (bif β then f T else g T) h) := by
  obtain ⟨e, _⟩ := pickOv_eq hp
  have h1 : opC P o = op0C P o := by unfold opC makeC; rw [e]
  rw [h1]
  unfold op0C
  rw [e]
  show (with3 P (.tmp t) a b pickV).1 T h = _
  unfold with3
  rw [ha, hb]
  show pickV (tmpV T t) (f T) (g T) h = _
  rw [ht]
  cases β <;> rfl

theorem opK_sim (hC : CallSim call2 call) {ov : Tmp → Option Bool} {o : Oper} {st : V → Fr → Fr} {T : Fr} {h : Hp} {k2 : Fr → Hp → Out2} {k : Fr → Hp → Out} (hk : RnSim k2 k) {e : Ex} {T' : Fr} {h' : Hp} {ob : Obs} (hr : (opK P ov o).1 call2 st k2 T h = .ok e T' h' ob) (ho : AllP ob) :
    putNx call st T h k ((opC P o).1 T h) = .ok e T' h' := by
  unfold opK at hr
  cases hp : pickOv ov o.op with
  | none =>
    rw [hp] at hr
    simp only [] at hr
    rw [cm_eta (opC P o)] at hr
    exact put_sim hC hk hr ho
  | some q =>
    obtain ⟨t, β, a, b⟩ := q
    rw [hp] at hr
    simp only [] at hr
    cases ha : opd P a with
    | none => rw [ha] at hr; cases hr
    | some f =>
      cases hb : opd P b with
      | none => cases f; rw [ha, hb] at hr; cases hr
      | some g =>
        cases f with
        | mk f => cases g with
          | mk g =>
          rw [ha, hb] at hr
          simp only [] at hr
          obtain ⟨h1, h2⟩ := hk.add (o := oOne (tmpV T t = .bool β)) hr ho
          rw [pick_run hp ha hb (allP_one.1 h1)]
          exact h2

theorem opsC2_cons {ov : Tmp → Option Bool} {ops l : List Oper} {o : Oper} : opsC2 P nt ov ops (o :: l) = (match dstC nt o.dst with
      | none => .mk fun _ _ _ => .bad
      | some (.mk st) => match opK P ov o with
        | .mk f => match guardOf ops o with
          | .always => .mk fun call T h => f call st ((opsC2 P nt ov ops l).use call) T h
          | .never => .mk fun call T h => (opsC2 P nt ov ops l).use call (st undf T) h
          | .ifs d want => match ov d with
            | none => .mk fun call T h => bif jkO (T.get d) then .bad else bif holds want (T.get d) then f call st ((opsC2 P nt ov ops l).use call) T h else (opsC2 P nt ov ops l).use call (st undf T) h
            | some β => .mk fun call T h => addN (oOne (tmpV T d = .bool β)) (bif (bif β then want else !want) then f call st ((opsC2 P nt ov ops l).use call) T h else (opsC2 P nt ov ops l).use call (st undf T) h)) := rfl

theorem ops_sim (hC : CallSim call2 call) {ov : Tmp → Option Bool} {ops : List Oper} : ∀ l, RnSim ((opsC2 P nt ov ops l).use call2) ((opsC P nt ops l).use call)
  | [] => fun T h e T' h' o hr _ => by cases hr; rfl
  | o :: l => fun T h e T' h' ob hr ho => by
    have ih := ops_sim hC (ov := ov) (ops := ops) l
    rw [opsC2_cons] at hr
    rw [opsC_cons]
    cases hd : dstC nt o.dst with
    | none => rw [hd] at hr; cases hr
    | some c =>
      cases c with
      | mk st =>
      rw [hd] at hr
      rw [cm_eta (opK P ov o)] at hr
      rw [cm_eta (opC P o)]
      cases hg : guardOf ops o with
      | always => rw [hg] at hr; exact opK_sim hC ih hr ho
      | never => rw [hg] at hr; exact ih _ _ _ _ _ _ hr ho
      | ifs d want =>
        rw [hg] at hr
        cases hv : ov d with
        | none =>
          simp only [hv] at hr
          exact bif_sim (fun hr => (by cases hr)) (fun hr => bif_sim (fun hr => opK_sim hC ih hr ho) (fun hr => ih _ _ _ _ _ _ hr ho) hr) hr
        | some β =>
          simp only [hv] at hr
          obtain ⟨o₁, h1, rfl⟩ := addO_ok (o := oOne (tmpV T d = .bool β)) hr
          obtain ⟨h2, h3⟩ := allP_append.1 ho
          have h2 := get_bool (allP_one.1 h2)
          show (bif jkO (T.get d) then .bad else bif holds want (T.get d) then putNx call st T h ((opsC P nt ops l).use call) ((opC P o).1 T h) else (opsC P nt ops l).use call (st undf T) h) = _
          rw [h2]
          show (bif holds want (some (.bool β)) then putNx call st T h ((opsC P nt ops l).use call) ((opC P o).1 T h) else (opsC P nt ops l).use call (st undf T) h) = _
          exact bif_sim (fun hr => opK_sim hC ih hr h3) (fun hr => ih _ _ _ _ _ _ hr h3) h1

/-! ### Statements whose order is open -/

theorem doC_call {st : StFn} {f : Inf} (hk : f.kd ≠ .e) (c c' : CallFn) (s : Rg) : (doC P st f).1 c s = (doC P st f).1 c' s := by
  unfold doC
  cases h : f.kd with
  | e => exact absurd h hk
  | p => rfl
  | r => simp only []; cases Nat.beq f.lo f.hi <;> rfl
  | a => simp only []; split <;> rfl

theorem do_sim (hC : CallSim call2 call) {ov : Tmp → Option Bool} {st : StFn} {f : Inf} {s s' : Rg} {o : Obs} (hr : (doC2 P ov st f).1 call2 s = some (s', o)) (ho : AllP o) : (doC P st f).1 call s = some s' := by
  cases h : f.kd with
  | e =>
    unfold doC2 at hr
    unfold doC
    simp only [h] at hr ⊢
    change rgE2 st f call2 s (addPd s.h (viewPd s.al s.eb f.b)) ((opC P f.op).1 s.T (addPd s.h (viewPd s.al s.eb f.b))) = _ at hr
    show rgE st f call s (addPd s.h (viewPd s.al s.eb f.b)) ((opC P f.op).1 s.T (addPd s.h (viewPd s.al s.eb f.b))) = _
    generalize (opC P f.op).1 s.T (addPd s.h (viewPd s.al s.eb f.b)) = r at hr ⊢
    cases r with
    | none => cases hr
    | some x =>
      cases x with
      | val v h₁ => cases hr; rfl
      | call g args =>
        simp only [rgE2] at hr
        split at hr
        · rename_i r hc
          simp only [Option.some.injEq, Prod.mk.injEq] at hr
          obtain ⟨rfl, rfl⟩ := hr
          simp only [rgE, hC g args _ r.1 r.2 hc ho]
        · cases hr
  | p =>
    have hne : f.kd ≠ .e := by rw [h]; intro e; cases e
    unfold doC2 at hr
    simp only [h] at hr
    cases hp : pickOv ov f.op.op with
    | none =>
      rw [hp] at hr
      change noObs ((doC P st f).1 noCall s) = _ at hr
      rw [doC_call hne call noCall]
      cases hq : (doC P st f).1 noCall s with
      | none => rw [hq] at hr; cases hr
      | some z => rw [hq] at hr; cases hr; rfl
    | some q =>
      obtain ⟨t, β, a, b⟩ := q
      rw [hp] at hr
      simp only [] at hr
      cases ha : opd P a with
      | none => rw [ha] at hr; cases hr
      | some k =>
        cases hb : opd P b with
        | none => cases k; rw [ha, hb] at hr; cases hr
        | some g =>
          cases k with
          | mk k => cases g with
            | mk g =>
            rw [ha, hb] at hr
            simp only [] at hr
            change some (rgT s (st (bif β then k s.T else g s.T) s.T), oOne (tmpV s.T t = .bool β)) = _ at hr
            cases hr
            unfold doC
            simp only [h]
            show rgP st s ((opC P f.op).1 s.T ⟨.leaf, 0⟩) = _
            rw [pick_run hp ha hb (allP_one.1 ho)]
            rfl
  | _ =>
    have hne : f.kd ≠ .e := by rw [h]; intro e; cases e
    unfold doC2 at hr
    simp only [h] at hr
    change noObs ((doC P st f).1 noCall s) = _ at hr
    rw [doC_call hne call noCall]
    cases hq : (doC P st f).1 noCall s with
    | none => rw [hq] at hr; cases hr
    | some z => rw [hq] at hr; cases hr; rfl

theorem addR_ok {o : Obs} {r : Option (Rg × Obs)} {s : Rg} {o' : Obs} (hr : addR o r = some (s, o')) : ∃ o₁, r = some (s, o₁) ∧ o' = oApp o o₁ := by
  cases r with
  | none => cases hr
  | some x => cases hr; exact ⟨_, rfl, rfl⟩

theorem step_sim (hC : CallSim call2 call) {ov : Tmp → Option Bool} {ops : List Oper} {f : Inf} {s s' : Rg} {o : Obs} (hr : (stepC2 P nt ov ops f).1 call2 s = some (s', o)) (ho : AllP o) : (stepC P nt ops f).1 call s = some s' := by
  unfold stepC2 at hr
  unfold stepC
  cases hd : dstC nt f.op.dst with
  | none => simp only [hd] at hr; cases hr
  | some c =>
    cases c with
    | mk st =>
    simp only [hd] at hr ⊢
    have e1 := cm_eta (doC2 P ov st f)
    have e2 := cm_eta (skC st f)
    have e3 := cm_eta (doC P st f)
    cases hg : guardOf ops f.op with
    | always =>
      simp only [hg] at hr ⊢
      exact do_sim hC hr ho
    | never =>
      simp only [hg] at hr ⊢
      change some ((skC st f).1 s, oNil) = _ at hr
      cases hr
      rfl
    | ifs d want =>
      simp only [hg] at hr ⊢
      have key : ∀ (b : Bool) o, AllP o → (bif b then (doC2 P ov st f).1 call2 s else some ((skC st f).1 s, oNil)) = some (s', o) → (bif b then (doC P st f).1 call s else some ((skC st f).1 s)) = some s' := by
        intro b o ho hb
        cases b
        · cases hb; rfl
        · exact do_sim hC hb ho
      cases hv : ov d with
      | none =>
        simp only [hv] at hr
        change (bif jkO (s.T.get d) then none else bif holds want (s.T.get d) then (doC2 P ov st f).1 call2 s else some ((skC st f).1 s, oNil)) = _ at hr
        show (bif jkO (s.T.get d) then none else bif holds want (s.T.get d) then (doC P st f).1 call s else some ((skC st f).1 s)) = _
        cases hj : jkO (s.T.get d) with
        | true => rw [hj] at hr; cases hr
        | false => rw [hj] at hr; exact key _ _ ho hr
      | some β =>
        simp only [hv] at hr
        obtain ⟨o₁, h1, rfl⟩ := addR_ok (o := oOne (tmpV s.T d = .bool β)) hr
        obtain ⟨h2, h3⟩ := allP_append.1 ho
        have h2 := get_bool (allP_one.1 h2)
        show (bif jkO (s.T.get d) then none else bif holds want (s.T.get d) then (doC P st f).1 call s else some ((skC st f).1 s)) = _
        rw [h2]
        exact key _ _ h3 h1

theorem run_sim (hC : CallSim call2 call) {ov : Tmp → Option Bool} {ops : List Oper} : ∀ (fs : List Inf) (s s' : Rg) (o : Obs), (runC2 P nt ov ops fs).1 call2 s = some (s', o) → AllP o → (runC P nt ops fs).1 call s = some s'
  | [], s, s', o, hr, _ => by cases hr; rfl
  | f :: fs, s, s', o, hr, ho => by
    have e : (runC2 P nt ov ops (f :: fs)).1 call2 s = Option.rec (motive := fun _ => Option (Rg × Obs)) none (fun s => addR s.2 ((runC2 P nt ov ops fs).1 call2 s.1)) ((stepC2 P nt ov ops f).1 call2 s) := by
      show (match stepC2 P nt ov ops f with
        | .mk g => Cm.mk fun (call : CallFn2) (s : Rg) => Option.rec (motive := fun _ => Option (Rg × Obs)) none (fun (s : Rg × Obs) => addR s.2 ((runC2 P nt ov ops fs).use call s.1)) (g call s)).1 call2 s = _
      rw [cm_eta (stepC2 P nt ov ops f)]
      rfl
    have e' : (runC P nt ops (f :: fs)).1 call s = Option.rec (motive := fun _ => Option Rg) none (fun s => (runC P nt ops fs).1 call s) ((stepC P nt ops f).1 call s) := by
      show (match stepC P nt ops f with
        | .mk g => Cm.mk fun call s => Option.rec (motive := fun _ => Option Rg) none (fun s => (runC P nt ops fs).use call s) (g call s)).1 call s = _
      rw [cm_eta (stepC P nt ops f)]
      rfl
    rw [e] at hr
    rw [e']
    cases hs : (stepC2 P nt ov ops f).1 call2 s with
    | none => rw [hs] at hr; cases hr
    | some x =>
      rw [hs] at hr
      obtain ⟨o₁, h1, rfl⟩ := addR_ok hr
      obtain ⟨h2, h3⟩ := allP_append.1 ho
      rw [step_sim hC (s' := x.1) (o := x.2) hs h2]
      exact run_sim hC fs _ _ _ h1 h3

mutual
theorem same_refl : ∀ (v : V), v.plain = true → v.same v = true
  | .bool b, _ => by simp [V.same]
  | .int k n, _ => by simp [V.same]
  | .flt k n, _ => by simp [V.same]
  | .cpx k a b, _ => by simp [V.same]
  | .str s, _ => by simp [V.same]
  | .nilp, _ => rfl
  | .ptr a b, _ => by simp [V.same]
  | .nils, _ => rfl
  | .slc a b l c, _ => by simp [V.same]
  | .nilm, _ => rfl
  | .map a, _ => by simp [V.same]
  | .fn _ _ _, h => by simp [V.plain] at h
  | .nilFn, _ => rfl
  | .iface t v, h => by simp only [V.plain] at h; simp [V.same, same_refl v h]
  | .nilIf, _ => rfl
  | .agg l, h => by simp only [V.plain] at h; simp [V.same, sames_refl l h]
  | .tup l, h => by simp only [V.plain] at h; simp [V.same, sames_refl l h]
  | .junk, h => by simp [V.plain] at h
theorem sames_refl : ∀ (l : List V), plains l = true → sames l l = true
  | [], _ => rfl
  | v :: l, h => by simp only [plains, Bool.and_eq_true] at h; simp [sames, same_refl v h.1, sames_refl l h.2]
end

theorem sides_cons {x : Option V × Option V} {l : List (Option V × Option V)} (h : sides true (x :: l) = sides false (x :: l)) : x.1 = x.2 ∧ sides true l = sides false l := by
  have h : x.1 :: sides true l = x.2 :: sides false l := h
  simpa using h
theorem sides_app {a b : List (Option V × Option V)} (h : sides true (appL a b) = sides false (appL a b)) : sides true a = sides false a ∧ sides true b = sides false b := by
  have := (allP_append (a := ⟨[], a⟩) (b := ⟨[], b⟩)).1 ⟨trivial, h⟩
  exact ⟨this.1.e, this.2.e⟩

theorem readAt_sim {al : List Pd} {f : Inf} {T : Fr} {v : V} (hp : v.plain = true) : ∀ {hs : List Hp} {eb : List Nat}, sides true (readAtE P al f T v hs eb) = sides false (readAtE P al f T v hs eb) → readAt P al f T v hs eb = true
  | [], _, _ => rfl
  | h :: hs, eb, hq => by
    unfold readAtE at hq
    unfold readAt
    obtain ⟨h1, h2⟩ := sides_app hq
    rw [readAt_sim hp h2, Bool.and_true]
    cases hb : Nat.ble f.lo (len eb) && Nat.ble (len eb) f.hi with
    | false => rfl
    | true =>
      rw [hb, cond_true] at h1
      rw [cond_true]
      have h3 := (sides_cons h1).1
      rw [hp] at h3
      change vOf ((opC P f.op).use T (addPd h (viewPd al eb f.b))) = some v at h3
      unfold vOf at h3
      split at h3
      · rename_i u h' hu
        rw [hu]
        cases h3
        exact same_refl v hp
      · cases h3

theorem reads_sim {al : List Pd} {hs : List Hp} {eb : List Nat} : ∀ {rd : List (Inf × Fr × V)}, sides true (readsE P al hs eb rd) = sides false (readsE P al hs eb rd) → readsOk P al hs eb rd = true
  | [], _ => rfl
  | (f, T, v) :: rs, h => by
    unfold readsE at h
    unfold readsOk
    obtain ⟨h1, h2⟩ := sides_app h
    obtain ⟨h3, h4⟩ := sides_cons h1
    have hp : v.plain = true := by
      cases hp : v.plain with
      | true => rfl
      | false => rw [hp] at h3; cases h3
    rw [readAt_sim hp h4, reads_sim h2]
    rfl

theorem draw_sim (hC : CallSim call2 call) {ov : Tmp → Option Bool} {ops : List Oper} : RnSim ((drawC2 P nt ov ops).use call2) ((drawC P nt ops).use call) := by
  intro T h e T' h' o hr ho
  unfold drawC2 at hr
  unfold drawC
  cases hd : drawOk P ops with
  | false => rw [hd] at hr; cases hr
  | true =>
    rw [hd] at hr
    change (match (runC2 P nt ov ops (infos P ops)).1 call2 ⟨h.next, T, ⟨h.t, h.next + makers P ops⟩, [], [], [], []⟩ with
      | some s => Out2.ok .normal s.1.T (addPd s.1.h (loosePd s.1.al s.1.eb)) (oApp s.2 ⟨[], readsE P s.1.al (s.1.h :: s.1.hs) s.1.eb s.1.rd⟩)
      | none => .bad) = _ at hr
    show (match (runC P nt ops (infos P ops)).1 call ⟨h.next, T, ⟨h.t, h.next + makers P ops⟩, [], [], [], []⟩ with
      | some s => bif readsOk P s.al (s.h :: s.hs) s.eb s.rd then Out.ok .normal s.T (addPd s.h (loosePd s.al s.eb)) else .bad
      | none => .bad) = _
    cases hs : (runC2 P nt ov ops (infos P ops)).1 call2 ⟨h.next, T, ⟨h.t, h.next + makers P ops⟩, [], [], [], []⟩ with
    | none => rw [hs] at hr; cases hr
    | some x =>
      rw [hs] at hr
      simp only [] at hr
      cases hr
      obtain ⟨h1, h2⟩ := allP_append.1 ho
      rw [run_sim hC _ _ x.1 x.2 hs h1]
      simp only [reads_sim h2.e, cond_true]

/-! ### Code -/

structure CCSim (cc2 : CC2) (cc : CC) : Prop where
  run : ∀ n call2 call, CallSim call2 call → RnSim (cc2.run n call2) (cc.run n call)
  lab : ∀ l r2, cc2.lab l = some r2 → ∃ r, cc.lab l = some r ∧ ∀ n call2 call, CallSim call2 call → RnSim (r2 n call2) (r n call)
  none : ∀ l, cc2.lab l = none → cc.lab l = none

theorem bad_sim {f2 : Fr → Hp → Out2} {f : Fr → Hp → Out} (hb : ∀ T h, f2 T h = .bad) : RnSim f2 f := fun T h e T' h' o hr _ => by rw [hb] at hr; cases hr

theorem then_sim {f2 g2 : Fr → Hp → Out2} {f g : Fr → Hp → Out} (hf : RnSim f2 f) (hg : RnSim g2 g) : RnSim (fun T h => thenO2 g2 (f2 T h)) (fun T h => thenO g (f T h)) := by
  intro T h e T' h' o hr ho
  dsimp only at hr ⊢
  cases hx : f2 T h with
  | bad => rw [hx] at hr; cases hr
  | ok e₁ T₁ h₁ o₁ =>
    rw [hx] at hr
    cases e₁ with
    | normal =>
      obtain ⟨h1, h2⟩ := hg.add (o := o₁) hr ho
      rw [hf _ _ _ _ _ _ hx h1]
      exact h2
    | _ => cases hr; rw [hf _ _ _ _ _ _ hx ho]; rfl

theorem block_sim {f2 : Fr → Hp → Out2} {f : Fr → Hp → Out} (i : Nat) (hf : RnSim f2 f) : RnSim (fun T h => blockO2 i (f2 T h)) (fun T h => blockO i (f T h)) := by
  intro T h e T' h' o hr ho
  dsimp only at hr ⊢
  cases hx : f2 T h with
  | bad => rw [hx] at hr; cases hr
  | ok e₁ T₁ h₁ o₁ =>
    rw [hx] at hr
    cases e₁ with
    | exit j =>
      change (bif Nat.beq j i then Out2.ok .normal T₁ h₁ o₁ else .ok (.exit j) T₁ h₁ o₁) = _ at hr
      have ho₁ : AllP o₁ := by
        cases hb : Nat.beq j i <;> rw [hb] at hr <;> cases hr <;> exact ho
      rw [hf _ _ _ _ _ _ hx ho₁]
      show (bif Nat.beq j i then Out.ok .normal T₁ h₁ else .ok (.exit j) T₁ h₁) = _
      cases hb : Nat.beq j i <;> rw [hb] at hr <;> cases hr <;> rfl
    | _ => cases hr; rw [hf _ _ _ _ _ _ hx ho]; rfl

theorem cond_sim {f2 g2 : Fr → Hp → Out2} {f g : Fr → Hp → Out} (ov : Option Bool) (k : Fr → V) (hf : RnSim f2 f) (hg : RnSim g2 g) : RnSim (fun T h => condO2 ov f2 g2 T h (k T)) (fun T h => condO f g T h (k T)) := by
  intro T h e T' h' o hr ho
  dsimp only at hr ⊢
  cases ov with
  | none =>
    cases hx : k T with
    | bool t =>
      rw [hx] at hr
      cases t
      · exact hg _ _ _ _ _ _ hr ho
      · exact hf _ _ _ _ _ _ hr ho
    | _ => rw [hx] at hr; cases hr
  | some β =>
    obtain ⟨o₁, h1, rfl⟩ := addO_ok (o := oOne (k T = .bool β)) hr
    obtain ⟨h2, h3⟩ := allP_append.1 ho
    rw [allP_one.1 h2]
    cases β
    · exact hg _ _ _ _ _ _ h1 h3
    · exact hf _ _ _ _ _ _ h1 h3

theorem loop_sim {f2 : Fr → Hp → Out2} {f : Fr → Hp → Out} (hf : RnSim f2 f) : ∀ n, RnSim (loopN2 f2 n) (loopN f n)
  | 0 => fun T h e T' h' o hr _ => by cases hr
  | n + 1 => then_sim hf (loop_sim hf n)

theorem scope_sim {lab2 : Nat → Option (Fr → Hp → Out2)} {lab : Nat → Option (Fr → Hp → Out)} (hl : ∀ l g2, lab2 l = some g2 → ∃ g, lab l = some g ∧ RnSim g2 g) : ∀ (n : Nat) (r2 : Out2) (r : Out),
    (∀ e T h o, r2 = .ok e T h o → AllP o → r = .ok e T h) → ∀ e T h o, scopeN2 lab2 n r2 = .ok e T h o → AllP o → scopeN lab n r = .ok e T h
  | 0, r2, r, _ => fun e T h o hr _ => by cases hr
  | n + 1, r2, r, hrr => fun e T h o hr ho => by
    cases r2 with
    | bad => cases hr
    | ok e₁ T₁ h₁ o₁ =>
      cases e₁ with
      | goto l =>
        change (match lab2 l with
          | some k => addN o₁ (scopeN2 lab2 n (k T₁ h₁))
          | none => Out2.bad) = _ at hr
        cases hll : lab2 l with
        | none => rw [hll] at hr; cases hr
        | some k =>
          rw [hll] at hr
          obtain ⟨g, hg, hs⟩ := hl l k hll
          obtain ⟨o₂, h1, rfl⟩ := addO_ok (o := o₁) hr
          obtain ⟨h2, h3⟩ := allP_append.1 ho
          rw [hrr _ _ _ _ rfl h2]
          show (match lab l with
            | some k => scopeN lab n (k T₁ h₁)
            | none => Out.bad) = _
          rw [hg]
          exact scope_sim hl n _ _ (fun e T h o hx hy => hs _ _ _ _ _ _ hx hy) _ _ _ _ h1 h3
      | _ =>
        cases hr
        rw [hrr _ _ _ _ rfl ho]
        rfl

theorem code_sim (ov : Tmp → Option Bool) (c : Code) : CCSim (codeC2 P ov nt c) (codeC P nt c) := by
  have nolab : ∀ {r2 : Rn2} {r : Rn}, (∀ n call2 call, CallSim call2 call → RnSim (r2 n call2) (r n call)) → CCSim (.mk r2 noLab2) (.mk r noLab) := fun h => ⟨h, fun l r hl => (by cases hl), fun l _ => rfl⟩
  have just : ∀ e, CCSim (justEx2 e) (justEx e) := fun e => nolab fun n c2 c _ T h e' T' h' o hr _ => by cases hr; rfl
  have bad : ∀ r, CCSim (.mk (fun _ _ _ _ => .bad) noLab2) (.mk r noLab) := fun r => nolab fun n c2 c _ => bad_sim fun _ _ => rfl
  induction c with
  | skip => exact just _
  | region id ops draw =>
    show CCSim (bif draw then .mk (fun _ call => (drawC2 P nt ov ops.toList).use call) noLab2 else .mk (fun _ call => (opsC2 P nt ov ops.toList ops.toList).use call) noLab2) (bif draw then .mk (fun _ call => (drawC P nt ops.toList).use call) noLab else .mk (fun _ call => (opsC P nt ops.toList ops.toList).use call) noLab)
    cases draw with
    | true => exact nolab fun n c2 c hC => draw_sim hC
    | false => exact nolab fun n c2 c hC => ops_sim hC _
  | seq x y ihx ihy =>
    refine ⟨fun n c2 c hC => then_sim (ihx.run n c2 c hC) (ihy.run n c2 c hC), fun l r hl => ?_, fun l hl => ?_⟩
    · change (match (codeC2 P ov nt x).lab l with
        | some r => some fun n call T h => thenO2 ((codeC2 P ov nt y).run n call) (r n call T h)
        | none => (codeC2 P ov nt y).lab l) = some r at hl
      show ∃ r', (match (codeC P nt x).lab l with
        | some r => some fun n call T h => thenO ((codeC P nt y).run n call) (r n call T h)
        | none => (codeC P nt y).lab l) = some r' ∧ _
      cases hx : (codeC2 P ov nt x).lab l with
      | some r' =>
        rw [hx] at hl
        cases hl
        obtain ⟨q, h1, h2⟩ := ihx.lab l r' hx
        rw [h1]
        exact ⟨_, rfl, fun n c2 c hC => then_sim (h2 n c2 c hC) (ihy.run n c2 c hC)⟩
      | none =>
        rw [hx] at hl
        obtain ⟨q, h1, h2⟩ := ihy.lab l r hl
        rw [ihx.none l hx]
        exact ⟨_, h1, h2⟩
    · change (match (codeC2 P ov nt x).lab l with
        | some r => some fun n call T h => thenO2 ((codeC2 P ov nt y).run n call) (r n call T h)
        | none => (codeC2 P ov nt y).lab l) = none at hl
      show (match (codeC P nt x).lab l with
        | some r => some fun n call T h => thenO ((codeC P nt y).run n call) (r n call T h)
        | none => (codeC P nt y).lab l) = none
      cases hx : (codeC2 P ov nt x).lab l with
      | some r' => rw [hx] at hl; cases hl
      | none =>
        rw [hx] at hl
        rw [ihx.none l hx]
        exact ihy.none l hl
  | cond x c d ihc ihd =>
    show CCSim (match opd P x with
      | some (.mk g) => .mk (fun n call T h => condO2 (ovOf ov x) ((codeC2 P ov nt c).run n call) ((codeC2 P ov nt d).run n call) T h (g T)) noLab2
      | none => .mk (fun _ _ _ _ => .bad) noLab2) (match opd P x with
      | some (.mk g) => .mk (fun n call T h => condO ((codeC P nt c).run n call) ((codeC P nt d).run n call) T h (g T)) noLab
      | none => .mk (fun _ _ _ _ => .bad) noLab)
    cases hx : opd P x with
    | none => exact bad _
    | some g =>
      cases g with
      | mk g => exact nolab fun n c2 c hC => cond_sim _ _ (ihc.run n c2 c hC) (ihd.run n c2 c hC)
  | block i c ih => exact nolab fun n c2 c hC => block_sim i (ih.run n c2 c hC)
  | loop c ih => exact nolab fun n c2 c hC => loop_sim (ih.run n c2 c hC) n
  | rangeFunc => exact bad _
  | exit i => exact just _
  | scope c ih =>
    refine nolab fun n c2 cl hC T h e T' h' o hr ho => scope_sim (fun l g2 hg => ?_) n _ _ (fun e T h o hx hy => ih.run n c2 cl hC _ _ _ _ _ _ hx hy) _ _ _ _ hr ho
    change (match (codeC2 P ov nt c).lab l with
      | some r => some (r n c2)
      | none => none) = some g2 at hg
    show ∃ g, (match (codeC P nt c).lab l with
      | some r => some (r n cl)
      | none => none) = some g ∧ _
    cases hl : (codeC2 P ov nt c).lab l with
    | none => rw [hl] at hg; cases hg
    | some r =>
      rw [hl] at hg
      cases hg
      obtain ⟨q, h1, h2⟩ := ih.lab l r hl
      rw [h1]
      exact ⟨_, rfl, h2 n c2 cl hC⟩
  | label l₀ =>
    refine ⟨fun n c2 c _ T h e T' h' o hr _ => by cases hr; rfl, fun l r hl => ?_, fun l hl => ?_⟩
    · change (bif Nat.beq l₀ l then (some (fun _ _ T h => Out2.ok .normal T h oNil) : Option Rn2) else none) = some r at hl
      show ∃ r', (bif Nat.beq l₀ l then (some (fun _ _ T h => Out.ok .normal T h) : Option Rn) else none) = some r' ∧ _
      cases hb : Nat.beq l₀ l with
      | false => rw [hb] at hl; cases hl
      | true =>
        rw [hb] at hl
        cases hl
        exact ⟨_, rfl, fun n c2 c _ T h e T' h' o hr _ => by cases hr; rfl⟩
    · change (bif Nat.beq l₀ l then (some (fun _ _ T h => Out2.ok .normal T h oNil) : Option Rn2) else none) = none at hl
      show (bif Nat.beq l₀ l then (some (fun _ _ T h => Out.ok .normal T h) : Option Rn) else none) = none
      cases hb : Nat.beq l₀ l with
      | true => rw [hb] at hl; cases hl
      | false => rfl
  | goto l => exact just _
  | ret => exact just _
  | refuse why => exact bad _

theorem end_sim {rs : List ResultVar} {r2 : Out2} {r : Out} (hrr : ∀ e T h o, r2 = .ok e T h o → AllP o → r = .ok e T h) {x : V × Hp} {o : Obs} (hr : endO2 P rs r2 = some (x, o)) (ho : AllP o) : endO P rs r = some x := by
  cases r2 with
  | bad => cases hr
  | ok e T h o₁ =>
    have fin : (resV P T h rs).map (fun vs => ((resOf vs, h), o₁)) = some (x, o) → AllP o₁ ∧ (resV P T h rs).map (fun vs => (resOf vs, h)) = some x := by
      intro hq
      simp only [Option.map_eq_some_iff, Prod.mk.injEq] at hq
      obtain ⟨vs, hvs, h1, rfl⟩ := hq
      exact ⟨ho, by rw [hvs, ← h1]; rfl⟩
    cases e with
    | normal => obtain ⟨h1, h2⟩ := fin hr; rw [hrr _ _ _ _ rfl h1]; exact h2
    | ret => obtain ⟨h1, h2⟩ := fin hr; rw [hrr _ _ _ _ rfl h1]; exact h2
    | exit i => cases hr
    | goto l => cases hr

theorem call_sim {K : Known} {ov : Ovr} : ∀ n, CallSim (callN2 P K ov n) (callN P K n)
  | 0 => fun g args h r o hr _ => by cases hr
  | n + 1 => fun g args h r o hr ho => by
    change (match ov.call g with
      | some g' => some (g' args h, oOne (callN P K (n + 1) g args h = some (g' args h)))
      | none => match K g with
        | some g' => noObsV (g' args h)
        | none => (fnC2 P (ov.cond g) g).use n (callN2 P K ov n) args h) = some (r, o) at hr
    cases hov : ov.call g with
    | some k =>
      rw [hov] at hr
      cases hr
      exact allP_one.1 ho
    | none =>
      rw [hov] at hr
      show (match K g with
        | some g' => g' args h
        | none => (fnC P g).use n (callN P K n) args h) = some r
      cases hk : K g with
      | some k =>
        rw [hk] at hr
        simp only [] at hr ⊢
        cases hx : k args h with
        | none => rw [hx] at hr; cases hr
        | some z => rw [hx] at hr; cases hr; rfl
      | none =>
        rw [hk] at hr
        simp only [] at hr ⊢
        unfold fnC2 at hr
        unfold fnC
        split at hr
        · rename_i fn hfn
          simp only [hfn]
          split at hr
          · rename_i c hc
            simp only [hc]
            change (bif Nat.ble (len args) fn.ntmps then endO2 P fn.results.toList ((codeC2 P (ov.cond g) fn.ntmps c).run n (callN2 P K ov n) (initT args 0 .leaf) h) else none) = _ at hr
            show (bif Nat.ble (len args) fn.ntmps then endO P fn.results.toList ((codeC P fn.ntmps c).run n (callN P K n) (initT args 0 .leaf) h) else none) = _
            cases hb : Nat.ble (len args) fn.ntmps with
            | false => rw [hb] at hr; cases hr
            | true =>
              rw [hb] at hr
              exact end_sim (fun e T h o hx hy => (code_sim (ov.cond g) c).run n _ _ (call_sim n) _ _ _ _ _ _ hx hy) hr ho
          · cases hr
        · cases hr

end
end Vm
end Go.Proofs.YtdgopiffbhlhoaaGreatDoor
