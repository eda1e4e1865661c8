/- The document's example is so: the machine's run of it, by the kernel. -/
import Derived.Test.YtdgopiffbhlhoaaGreatDoorLk2
namespace Go.Proofs.YtdgopiffbhlhoaaGreatDoor
open Go
namespace Vm

/-- What is known of functions to begin with. -/
noncomputable def k1 : Known := fun f => bif Nat.beq f 160 then some sameK else bif Nat.beq f 96 then some backK else none

theorem k1_ok : KnownOk Tryz.prog k1 := by
  intro f g hg args h v h' hc ρ w xs hr hf hG ha
  unfold k1 at hg
  cases h1 : Nat.beq f 160 with
  | true =>
    rw [h1] at hg
    cases hg
    have := Nat.eq_of_beq_eq_true h1
    subst this
    exact same_ok (by kernel_rfl) (by kernel_rfl) hc hr ha
  | false =>
    rw [h1, cond_false] at hg
    cases h2 : Nat.beq f 96 with
    | true =>
      rw [h2] at hg
      cases hg
      have := Nat.eq_of_beq_eq_true h2
      subst this
      exact back_ok hc hr ha
    | false => rw [h2] at hg; cases hg

theorem call1_ok (n : Nat) : CallOk Tryz.prog (callN Tryz.prog k1 n) := call_ok mixed nonum k1_ok n

noncomputable def valOf (r : Option (V × Hp)) : V := match r with
  | some (v, _) => v
  | none => .junk
noncomputable def hpOf (r : Option (V × Hp)) : Hp := match r with
  | some (_, h) => h
  | none => ⟨.leaf, 0⟩
theorem some_of {r : Option (V × Hp)} {v : V} (h : valOf r = v) (hj : v.isJunk = false) : r = some (v, hpOf r) := by
  cases r with
  | none => cases h; cases hj
  | some x => cases h; rfl

set_option maxRecDepth 1000000 in
theorem awake_run : valOf (callN Tryz.prog k1 3000 10 [] ⟨.leaf, 13⟩) = .bool true := by kernel_rfl

noncomputable def awakeK : List V → Hp → Option (V × Hp) := fun args h => match args with
  | [] => some (.bool true, h)
  | _ => none
noncomputable def k2 : Known := fun f => bif Nat.beq f 10 then some awakeK else k1 f

theorem awake_ok {args : List V} {h h' : Hp} {v : V} (hc : awakeK args h = some (v, h')) {ρ : Rho} {w : World} {xs : Array Value} (hr : Rel Tryz.prog ρ h w) (ha : VRs ρ args xs.toList) : Does Tryz.prog 10 xs w fun x w' => ∃ ρ', VR ρ' v x ∧ Stp Tryz.prog ρ h w ρ' h' w' := by
  unfold awakeK at hc
  split at hc
  · cases hc
    exact pure_call (call1_ok 3000) 13 (by rw [gsize]; decide) rfl rfl (some_of awake_run rfl) hr ha
  · cases hc

theorem k2_ok : KnownOk Tryz.prog k2 := by
  intro f g hg args h v h' hc ρ w xs hr hf hG ha
  unfold k2 at hg
  cases h1 : Nat.beq f 10 with
  | true =>
    rw [h1] at hg
    cases hg
    have := Nat.eq_of_beq_eq_true h1
    subst this
    exact awake_ok hc hr ha
  | false =>
    rw [h1] at hg
    exact k1_ok f g hg args h v h' hc ρ w xs hr hf hG ha

theorem call2_ok (n : Nat) : CallOk Tryz.prog (callN Tryz.prog k2 n) := call_ok mixed nonum k2_ok n

end Vm
end Go.Proofs.YtdgopiffbhlhoaaGreatDoor
