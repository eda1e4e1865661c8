/- Words for parts of code; functions of pure values; a range over a function that stops at once. -/
import Derived.Test.YtdgopiffbhlhoaaGreatDoorVn4
import Derived.RangeFuncMany
import Derived.RangeFuncLeaves
import Derived.CallsIn
namespace Go.Proofs.YtdgopiffbhlhoaaGreatDoor
open Go
namespace Vm

noncomputable def fstC : Code → Code
  | .seq a _ => a
  | c => c
noncomputable def sndC : Code → Code
  | .seq _ b => b
  | c => c
noncomputable def inC : Code → Code
  | .block _ c => c
  | .loop c => c
  | .scope c => c
  | c => c
noncomputable def thenC : Code → Code
  | .cond _ a _ => a
  | c => c
noncomputable def elseC : Code → Code
  | .cond _ _ b => b
  | c => c
noncomputable def bodyC (P : Program) (f : FuncId) : Code :=
  match P.funcs[f]? with
  | some fn => match fn.body with
    | some c => c
    | none => .skip
  | none => .skip
noncomputable def ntOf (P : Program) (f : FuncId) : Nat :=
  match P.funcs[f]? with
  | some fn => fn.ntmps
  | none => 0
noncomputable def resOfF (P : Program) (f : FuncId) : List ResultVar :=
  match P.funcs[f]? with
  | some fn => fn.results.toList
  | none => []

noncomputable def Out.fr : Out → Fr
  | .ok _ T _ => T
  | .bad => .leaf
noncomputable def Out.hp : Out → Hp
  | .ok _ _ h => h
  | .bad => ⟨.leaf, 0⟩
noncomputable def Out.ex : Out → Ex
  | .ok e _ _ => e
  | .bad => .normal
noncomputable def Out.isOk : Out → Bool
  | .ok _ _ _ => true
  | .bad => false
theorem Out.eta {r : Out} (h : r.isOk = true) : r = .ok r.ex r.fr r.hp := by cases r with
  | bad => cases h
  | ok e T h => rfl
noncomputable def Out2.fr : Out2 → Fr
  | .ok _ T _ _ => T
  | .bad => .leaf
noncomputable def Out2.hp : Out2 → Hp
  | .ok _ _ h _ => h
  | .bad => ⟨.leaf, 0⟩
noncomputable def Out2.ex : Out2 → Ex
  | .ok e _ _ _ => e
  | .bad => .normal
noncomputable def Out2.ob : Out2 → Obs
  | .ok _ _ _ o => o
  | .bad => oNil
noncomputable def Out2.isOk : Out2 → Bool
  | .ok _ _ _ _ => true
  | .bad => false
theorem Out2.eta {r : Out2} (h : r.isOk = true) : r = .ok r.ex r.fr r.hp r.ob := by cases r with
  | bad => cases h
  | ok e T h o => rfl

section
variable {P : Program}

theorem bodyC_eq {f : FuncId} {fn : Func} {c : Code} (hfn : P.funcs[f]? = some fn) (hc : fn.body = some c) : bodyC P f = c := by unfold bodyC; rw [hfn]; simp only [hc]

/-! ### Pure values -/

mutual
noncomputable def V.pure : V → Bool
  | .ptr _ _ => false
  | .slc _ _ _ _ => false
  | .map _ => false
  | .junk => false
  | .fn _ a b => pures a && pures b
  | .iface _ v => v.pure
  | .agg l => pures l
  | .tup l => pures l
  | _ => true
noncomputable def pures : List V → Bool
  | [] => true
  | v :: vs => v.pure && pures vs
end

mutual
theorem pure_vr {ρ ρ' : Rho} : ∀ {v : V} {x : Value}, VR ρ v x → v.pure = true → VR ρ' v x
  | _, _, .bool b, _ => .bool b
  | _, _, .int k n, _ => .int k n
  | _, _, .flt k b, _ => .flt k b
  | _, _, .cpx k a b, _ => .cpx k a b
  | _, _, .str s b h, _ => .str s b h
  | _, _, .nilp, _ => .nilp
  | _, _, .ptr i o b s h hs, hp => by simp [V.pure] at hp
  | _, _, .nils, _ => .nils
  | _, _, .slc i o b s n c cap h hs hn hc hz, hp => by simp [V.pure] at hp
  | _, _, .slc0 i o cap a hc, hp => by simp [V.pure] at hp
  | _, _, .nilm, _ => .nilm
  | _, _, .map i b h, hp => by simp [V.pure] at hp
  | _, _, .fn f a b x y ha hb, hp => by simp only [V.pure, Bool.and_eq_true] at hp; exact .fn f _ _ x y (pure_vrs ha hp.1) (pure_vrs hb hp.2)
  | _, _, .nilFn, _ => .nilFn
  | _, _, .iface t v x h, hp => by simp only [V.pure] at hp; exact .iface t _ x (pure_vr h hp)
  | _, _, .nilIf, _ => .nilIf
  | _, _, .agg cs xs h, hp => by simp only [V.pure] at hp; exact .agg _ xs (pure_vrs h hp)
  | _, _, .tup cs xs h, hp => by simp only [V.pure] at hp; exact .tup _ xs (pure_vrs h hp)
  | _, _, .junk x, hp => by simp [V.pure] at hp
theorem pure_vrs {ρ ρ' : Rho} : ∀ {v : List V} {x : List Value}, VRs ρ v x → pures v = true → VRs ρ' v x
  | _, _, .nil, _ => .nil
  | _, _, .cons v vs x xs h hs, hp => by simp only [pures, Bool.and_eq_true] at hp; exact .cons _ _ _ _ (pure_vr h hp.1) (pure_vrs hs hp.2)
end

/-- The variables alone. -/
def rho0 (P : Program) : Rho := ⟨fun g => if g < P.globals.size then some (g, 0) else none, fun _ => 0⟩

theorem rel0 {ρ : Rho} {h : Hp} {w : World} (hr : Rel P ρ h w) (n : Nat) : Rel P (rho0 P) ⟨.leaf, n⟩ w :=
  ⟨fun i o hi => (by cases hi), fun i j o o' b s s' hi => (by cases hi), fun i b s hi => (by
    simp only [rho0] at hi
    split at hi
    · rename_i hg; cases hi; exact hr.low i i 0 (hr.glob i hg)
    · cases hi), fun g hg => by simp [rho0, hg]⟩
theorem free0 {n : Nat} (hn : P.globals.size ≤ n) : Free (rho0 P) n := fun i hi => by simp only [rho0]; rw [if_neg (by omega)]

/-- A run that began with nothing of its own has changed nothing. -/
theorem Stp.leaf {ρ ρs ρs' : Rho} {h hs' : Hp} {w w' : World} {n : Nat} (hr : Rel P ρ h w) (hs : Stp P ρs ⟨.leaf, n⟩ w ρs' hs' w') : Stp P ρ h w ρ h w' :=
  .below hr hs.os hs.tape hs.output hs.size fun b hb => hs.frame b hb fun ⟨i, o, s, h1, _⟩ => by cases h1

/-- A function of pure values, at one of them, by the machine's run with an empty heap. -/
theorem pure_ok {f : FuncId} {args : List V} {v : V} (n : Nat) (hn : P.globals.size ≤ n) (ha : pures args = true) (hv : v.pure = true)
    (hc : ∀ (ρ : Rho) (w : World) (xs : Array Value), Rel P ρ ⟨.leaf, n⟩ w → Free ρ n → VRs ρ args xs.toList → Does P f xs w fun x w' => ∃ ρ' h', VR ρ' v x ∧ Stp P ρ ⟨.leaf, n⟩ w ρ' h' w')
    {ρ : Rho} {h : Hp} {w : World} {xs : Array Value} (hr : Rel P ρ h w) (hx : VRs ρ args xs.toList) : Does P f xs w fun x w' => ∃ ρ', VR ρ' v x ∧ Stp P ρ h w ρ' h w' :=
  (hc (rho0 P) w xs (rel0 hr n) (free0 hn) (pure_vrs hx ha)).mono fun x w' ⟨ρ', h', h1, h2⟩ => ⟨ρ, pure_vr h1 hv, .leaf hr h2⟩

/-- By the machine's call. -/
theorem pure_call {f : FuncId} {args : List V} {v : V} {call : CallFn} (hC : CallOk P call) (n : Nat) (hn : P.globals.size ≤ n) (ha : pures args = true) (hv : v.pure = true) {h' : Hp} (hc : call f args ⟨.leaf, n⟩ = some (v, h'))
    {ρ : Rho} {h : Hp} {w : World} {xs : Array Value} (hr : Rel P ρ h w) (hx : VRs ρ args xs.toList) : Does P f xs w fun x w' => ∃ ρ', VR ρ' v x ∧ Stp P ρ h w ρ' h w' :=
  pure_ok n hn ha hv (fun ρ w xs h1 h2 h3 => (hC f args _ v h' hc ρ w xs h1 h2 hn h3).mono fun x w' ⟨ρ', k1, k2⟩ => ⟨ρ', h', k1, k2⟩) hr hx

end
end Vm
end Go.Proofs.YtdgopiffbhlhoaaGreatDoor
