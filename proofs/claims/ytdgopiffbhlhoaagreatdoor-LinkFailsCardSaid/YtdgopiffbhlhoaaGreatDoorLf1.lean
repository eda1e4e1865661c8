/- A row of code cut in two. -/
import Derived.Test.YtdgopiffbhlhoaaGreatDoorLk5
namespace Go.Proofs.YtdgopiffbhlhoaaGreatDoor
open Go
namespace Vm

/-- The first parts of a row of code; what is behind them. -/
noncomputable def takeC (k : Nat) : Code → Code := Nat.rec (motive := fun _ => Code → Code) (fun _ => .skip) (fun _ ih c => match c with
  | .seq a b => .seq a (ih b)
  | c => c) k
noncomputable def dropC (k : Nat) : Code → Code := Nat.rec (motive := fun _ => Code → Code) (fun c => c) (fun _ ih c => match c with
  | .seq _ b => ih b
  | _ => .skip) k
noncomputable def seqK (k : Nat) : Code → Bool := Nat.rec (motive := fun _ => Code → Bool) (fun _ => true) (fun _ ih c => match c with
  | .seq _ b => ih b
  | _ => false) k

/-- Behind a piece: the rest, or the end. -/
def RS.next (P : Program) (nt : Nat) (h0 : Hp) (c : Code) (Q : Ex → Fr → Hp → Prop) (e : Ex) (T : Fr) (h : Hp) : Prop := match e with
  | .normal => RS P nt h0 c T h Q
  | e => Q e T h

theorem RS.take {P : Program} {nt : Nat} {h0 : Hp} {Q : Ex → Fr → Hp → Prop} (hmo : P.follows .mixedOrders = true) {call : CallFn} (hC : CallOk P call) {n : Nat} : ∀ {k : Nat} {c : Code} {T : Fr} {h : Hp} {e : Ex} {T' : Fr} {h' : Hp}, seqK k c = true →
    (codeC P nt (takeC k c)).run n call T h = .ok e T' h' → RS.next P nt h0 (dropC k c) Q e T' h' → RS P nt h0 c T h Q
  | 0, c, T, h, e, T', h', _, hr, hq => by
    cases hr
    exact hq
  | k + 1, c, T, h, e, T', h', hk, hr, hq => by
    cases c with
    | seq a b =>
      change thenO ((codeC P nt (takeC k b)).run n call) ((codeC P nt a).run n call T h) = _ at hr
      cases ha : (codeC P nt a).run n call T h with
      | bad => rw [ha] at hr; cases hr
      | ok e₁ T₁ h₁ =>
        rw [ha] at hr
        refine .seq (.run hmo hC ha ?_)
        cases e₁ with
        | normal => exact RS.take hmo hC hk hr hq
        | exit i => cases hr; exact hq
        | goto l => cases hr; exact hq
        | ret => cases hr; exact hq
    | _ => cases hk

theorem RS.take2 {P : Program} {nt : Nat} {h0 : Hp} {Q : Ex → Fr → Hp → Prop} (hmo : P.follows .mixedOrders = true) {call : CallFn} {call2 : CallFn2} (hC : CallOk P call) (hS : CallSim call2 call) (ov : Tmp → Option Bool) (n : Nat) (k : Nat) {c : Code} {T : Fr} {h : Hp}
    (hk : seqK k c = true) {R : Out2} (hR : R = (codeC2 P ov nt (takeC k c)).run n call2 T h) (hok : R.isOk = true) (hp : AllQ R.ob.p) (he : sides true R.ob.e = sides false R.ob.e) {e : Ex} (hex : R.ex = e) (hq : RS.next P nt h0 (dropC k c) Q e R.fr R.hp) : RS P nt h0 c T h Q := by
  subst hex
  exact RS.take hmo hC hk ((code_sim ov _).run n call2 call hS T h _ _ _ R.ob (by rw [← hR]; exact Out2.eta hok) ⟨hp.h, he⟩) hq

theorem RS.run2' {P : Program} {nt : Nat} {h0 : Hp} {Q : Ex → Fr → Hp → Prop} (hmo : P.follows .mixedOrders = true) {call : CallFn} {call2 : CallFn2} (hC : CallOk P call) (hS : CallSim call2 call) (ov : Tmp → Option Bool) (n : Nat) {c : Code} {T : Fr} {h : Hp}
    {R : Out2} (hR : R = (codeC2 P ov nt c).run n call2 T h) (hok : R.isOk = true) (hp : AllQ R.ob.p) (he : sides true R.ob.e = sides false R.ob.e) (hq : Q R.ex R.fr R.hp) : RS P nt h0 c T h Q :=
  .run2 hmo hC hS (by rw [← hR]; exact Out2.eta hok) ⟨hp.h, he⟩ hq

end Vm
end Go.Proofs.YtdgopiffbhlhoaaGreatDoor
