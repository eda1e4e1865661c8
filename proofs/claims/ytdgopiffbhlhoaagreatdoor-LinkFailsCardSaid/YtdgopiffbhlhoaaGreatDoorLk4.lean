/- Runs with conditions on trust; 'in'. -/
import Derived.Test.YtdgopiffbhlhoaaGreatDoorLk3
namespace Go.Proofs.YtdgopiffbhlhoaaGreatDoor
open Go
namespace Vm

noncomputable def oget (l : List (Nat × Nat × Bool)) (f t : Nat) : Option Bool := List.rec (motive := fun _ => Option Bool) none (fun x _ ih => bif Nat.beq x.1 f && Nat.beq x.2.1 t then some x.2.2 else ih) l
/-- Conditions taken on trust. -/
noncomputable def ovs (l : List (Nat × Nat × Bool)) : Ovr := ⟨oget l, fun _ => none⟩

noncomputable def val2 (r : Option ((V × Hp) × Obs)) : V := match r with
  | some ((v, _), _) => v
  | none => .junk
noncomputable def hp2 (r : Option ((V × Hp) × Obs)) : Hp := match r with
  | some ((_, h), _) => h
  | none => ⟨.leaf, 0⟩
noncomputable def ob2 (r : Option ((V × Hp) × Obs)) : Obs := match r with
  | some (_, o) => o
  | none => oNil

structure AllQ (l : List Prop) : Prop where
  h : AllPr l
theorem AllQ.of {l : List Prop} {A : Prop} (h : A = AllPr l) (a : A) : AllQ l := ⟨h ▸ a⟩

theorem by_run2 {P : Program} {K : Known} {ov : Ovr} {n : Nat} {f : FuncId} {args : List V} {h : Hp} {v : V} (hv : val2 (callN2 P K ov n f args h) = v) (hj : v.isJunk = false) (hp : AllQ (ob2 (callN2 P K ov n f args h)).p)
    (he : sides true (ob2 (callN2 P K ov n f args h)).e = sides false (ob2 (callN2 P K ov n f args h)).e) : callN P K n f args h = some (v, hp2 (callN2 P K ov n f args h)) := by
  cases hr : callN2 P K ov n f args h with
  | none => rw [hr] at hv; cases hv; cases hj
  | some x =>
    obtain ⟨⟨v', h'⟩, o⟩ := x
    rw [hr] at hv hp he
    cases hv
    exact call_sim n f args h _ o hr ⟨hp.h, he⟩


noncomputable def inB (n lo hi : Int) : Bool := !ltI n lo && !ltI hi n
noncomputable def rIn (l : List (Nat × Nat × Bool)) (f : Nat) (n lo hi : Int) : Option ((V × Hp) × Obs) := callN2 Tryz.prog noK (ovs l) 20 f [.int .i64 n, .int .i64 lo, .int .i64 hi] ⟨.leaf, 13⟩
theorem in113t (n lo hi : Int) (h : (!ltI n lo) = true) : ∃ h', callN Tryz.prog noK 20 113 [.int .i64 n, .int .i64 lo, .int .i64 hi] ⟨.leaf, 13⟩ = some (V.bool (!ltI hi n), h') := by
  refine ⟨_, by_run2 (ov := ovs [(113, 10, true)]) (v := V.bool (!ltI hi n)) (by kernel_rfl) rfl (AllQ.of (A := ((V.bool !ltI n lo) = (V.bool true)) ∧ ((V.bool !ltI n lo) = (V.bool true)) ∧ ((V.bool !ltI n lo) = (V.bool true)) ∧ ((V.bool !ltI n lo) = (V.bool true)) ∧ True) (by kernel_rfl) ?_) (by kernel_rfl)⟩
  simp only [h, and_self]
theorem in113f (n lo hi : Int) (h : (!ltI n lo) = false) : ∃ h', callN Tryz.prog noK 20 113 [.int .i64 n, .int .i64 lo, .int .i64 hi] ⟨.leaf, 13⟩ = some (V.bool false, h') := by
  refine ⟨_, by_run2 (ov := ovs [(113, 10, false)]) (v := V.bool false) (by kernel_rfl) rfl (AllQ.of (A := ((V.bool !ltI n lo) = (V.bool false)) ∧ ((V.bool !ltI n lo) = (V.bool false)) ∧ ((V.bool !ltI n lo) = (V.bool false)) ∧ ((V.bool !ltI n lo) = (V.bool false)) ∧ True) (by kernel_rfl) ?_) (by kernel_rfl)⟩
  simp only [h, and_self]
theorem in113 (n lo hi : Int) : ∃ h', callN Tryz.prog noK 20 113 [.int .i64 n, .int .i64 lo, .int .i64 hi] ⟨.leaf, 13⟩ = some (V.bool (inB n lo hi), h') := by
  unfold inB
  cases h : !ltI n lo with
  | true => exact in113t n lo hi h
  | false => exact in113f n lo hi h
theorem in148t (n lo hi : Int) (h : (!ltI n lo) = true) : ∃ h', callN Tryz.prog noK 20 148 [.int .i64 n, .int .i64 lo, .int .i64 hi] ⟨.leaf, 13⟩ = some (V.bool (!ltI hi n), h') := by
  refine ⟨_, by_run2 (ov := ovs [(148, 10, true)]) (v := V.bool (!ltI hi n)) (by kernel_rfl) rfl (AllQ.of (A := ((V.bool !ltI n lo) = (V.bool true)) ∧ ((V.bool !ltI n lo) = (V.bool true)) ∧ ((V.bool !ltI n lo) = (V.bool true)) ∧ ((V.bool !ltI n lo) = (V.bool true)) ∧ True) (by kernel_rfl) ?_) (by kernel_rfl)⟩
  simp only [h, and_self]
theorem in148f (n lo hi : Int) (h : (!ltI n lo) = false) : ∃ h', callN Tryz.prog noK 20 148 [.int .i64 n, .int .i64 lo, .int .i64 hi] ⟨.leaf, 13⟩ = some (V.bool false, h') := by
  refine ⟨_, by_run2 (ov := ovs [(148, 10, false)]) (v := V.bool false) (by kernel_rfl) rfl (AllQ.of (A := ((V.bool !ltI n lo) = (V.bool false)) ∧ ((V.bool !ltI n lo) = (V.bool false)) ∧ ((V.bool !ltI n lo) = (V.bool false)) ∧ ((V.bool !ltI n lo) = (V.bool false)) ∧ True) (by kernel_rfl) ?_) (by kernel_rfl)⟩
  simp only [h, and_self]
theorem in148 (n lo hi : Int) : ∃ h', callN Tryz.prog noK 20 148 [.int .i64 n, .int .i64 lo, .int .i64 hi] ⟨.leaf, 13⟩ = some (V.bool (inB n lo hi), h') := by
  unfold inB
  cases h : !ltI n lo with
  | true => exact in148t n lo hi h
  | false => exact in148f n lo hi h

noncomputable def inK : List V → Hp → Option (V × Hp) := fun args h => match args with
  | [.int .i64 n, .int .i64 lo, .int .i64 hi] => some (.bool (inB n lo hi), h)
  | _ => none
noncomputable def kIn : Known := fun f => bif Nat.beq f 113 then some inK else bif Nat.beq f 148 then some inK else none

/-- A table with one function more. -/
noncomputable def kAdd (f : FuncId) (g : List V → Hp → Option (V × Hp)) (K : Known) : Known := fun f' => bif Nat.beq f' f then some g else K f'
theorem kAdd_ok {P : Program} {f : FuncId} {g : List V → Hp → Option (V × Hp)} {K : Known} (hK : KnownOk P K) (hg : ∀ args h v h', g args h = some (v, h') → ∀ (ρ : Rho) (w : World) (xs : Array Value), Rel P ρ h w → Free ρ h.next → P.globals.size ≤ h.next → VRs ρ args xs.toList →
    Does P f xs w fun x w' => ∃ ρ', VR ρ' v x ∧ Stp P ρ h w ρ' h' w') : KnownOk P (kAdd f g K) := by
  intro f' g' hg' args h v h' hc
  unfold kAdd at hg'
  cases hb : Nat.beq f' f with
  | true =>
    rw [hb] at hg'
    cases hg'
    have := Nat.eq_of_beq_eq_true hb
    subst this
    exact hg args h v h' hc
  | false => rw [hb] at hg'; exact hK f' g' hg' args h v h' hc

theorem in_ok {f : FuncId} (hf : f = 113 ∨ f = 148) : ∀ args h v h', inK args h = some (v, h') → ∀ (ρ : Rho) (w : World) (xs : Array Value), Rel Tryz.prog ρ h w → Free ρ h.next → Tryz.prog.globals.size ≤ h.next → VRs ρ args xs.toList →
    Does Tryz.prog f xs w fun x w' => ∃ ρ', VR ρ' v x ∧ Stp Tryz.prog ρ h w ρ' h' w' := by
  intro args h v h' hc ρ w xs hr _ _ ha
  unfold inK at hc
  split at hc
  · rename_i n lo hi
    cases hc
    rcases hf with rfl | rfl
    · obtain ⟨h', hh⟩ := in113 n lo hi
      exact pure_call (run_ok 20) 13 (by rw [gsize]; decide) rfl rfl hh hr ha
    · obtain ⟨h', hh⟩ := in148 n lo hi
      exact pure_call (run_ok 20) 13 (by rw [gsize]; decide) rfl rfl hh hr ha
  · cases hc

noncomputable def k3 : Known := kAdd 113 inK (kAdd 148 inK k2)
theorem k3_ok : KnownOk Tryz.prog k3 := kAdd_ok (kAdd_ok k2_ok (in_ok (.inr rfl))) (in_ok (.inl rfl))
theorem call3_ok (n : Nat) : CallOk Tryz.prog (callN Tryz.prog k3 n) := call_ok mixed nonum k3_ok n

end Vm
end Go.Proofs.YtdgopiffbhlhoaaGreatDoor
