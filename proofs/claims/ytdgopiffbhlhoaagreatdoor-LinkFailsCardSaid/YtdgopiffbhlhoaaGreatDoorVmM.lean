/- What is known of library functions that have no body. -/
import Derived.Test.YtdgopiffbhlhoaaGreatDoorVmL
import Derived.Laws.Externs
namespace Go.Proofs.YtdgopiffbhlhoaaGreatDoor
open Go
namespace Vm
section
variable {P : Program}

noncomputable def sameK : List V → Hp → Option (V × Hp) := fun args h =>
  match args with
  | [x] => some (x, h)
  | _ => none

/-- A function that hands its argument back. -/
theorem same_ok {f : FuncId} (hn : (P.funcs[f]?).map (fun fn => (fn.name == "runtime.NumGoroutine", fn.body.isNone, (Extern.findNext fn).isNone)) = some (false, true, true))
    (he : (P.funcs[f]?).bind Extern.find = some Extern.AbiNoEscape.same) {args : List V} {h h' : Hp} {v : V} (hk : sameK args h = some (v, h')) {ρ : Rho} {w : World} {xs : Array Value} (hr : Rel P ρ h w) (ha : VRs ρ args xs.toList) :
    Does P f xs w fun x w' => ∃ ρ', VR ρ' v x ∧ Stp P ρ h w ρ' h' w' := by
  cases hf : P.funcs[f]? with
  | none => rw [hf] at he; cases he
  | some fn =>
    rw [hf] at hn he
    simp only [Option.map_some, Option.some.injEq, Prod.mk.injEq] at hn
    simp only [Option.bind_some] at he
    unfold sameK at hk
    split at hk
    · rename_i u
      simp only [Option.some.injEq, Prod.mk.injEq] at hk
      obtain ⟨rfl, rfl⟩ := hk
      obtain ⟨l⟩ := xs
      cases ha with
      | cons _ _ x _ hx hs =>
        cases hs
        refine .inl ⟨x, w, ?_, ρ, hx, .refl hr⟩
        rw [run_callFunc_extern hf hn.1 hn.2.1 (Option.isNone_iff_eq_none.1 hn.2.2) he]
        rfl
    · cases hk

/-- A world that has more blocks. -/
theorem Stp.below {ρ : Rho} {h : Hp} {w w' : World} (hr : Rel P ρ h w) (ho : w'.os = w.os) (ht : w'.tape = w.tape) (hp : w'.output = w.output) (hs : w.heap.size ≤ w'.heap.size) (hb : ∀ b, b < w.heap.size → w'.heap[b]? = w.heap[b]?) : Stp P ρ h w ρ h w' := by
  refine ⟨⟨fun i o hi => ?_, hr.inj, fun i b s hi => Nat.lt_of_lt_of_le (hr.low i b s hi) hs, hr.glob⟩, fun _ _ => ⟨rfl, rfl⟩, Nat.le_refl _, hs, fun b hb' _ => hb b hb', fun _ _ h => h, fun _ _ h => h, ho, ht, hp⟩
  obtain ⟨b, s, h1, h2⟩ := hr.ob i o hi
  exact ⟨b, s, h1, h2.mono rfl (.refl ρ) (hb b (hr.low _ _ _ h1))⟩

end
end Vm
end Go.Proofs.YtdgopiffbhlhoaaGreatDoor
