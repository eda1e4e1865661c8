/- Code: jumps; functions; calls. -/
import Derived.Test.YtdgopiffbhlhoaaGreatDoorVmJ
namespace Go.Proofs.YtdgopiffbhlhoaaGreatDoor
open Go
namespace Vm
section
variable {P : Program} {nt : Nat} {call : CallFn}

def jumps (J : Nat → Act → World → Prop) (Q : Exit → Act → World → Prop) : Exit → Act → World → Prop
  | .goto l, a, w => J l a w
  | e, a, w => Q e a w

/-- A scope of which any label may be jumped to. -/
theorem wp_scope_many {c : Code} {a : Act} {w : World} {Q : Exit → Act → World → Prop} (J : Nat → Act → World → Prop) (μ : Nat → Act → World → Nat) (first : c.wp P (jumps J Q) a w)
    (pass : ∀ l a w, J l a w → ∃ rest, findLabel c l = some rest ∧ rest.wp P (jumps (fun l' a' w' => J l' a' w' ∧ μ l' a' w' < μ l a w) Q) a w) : (Code.scope c).wp P Q a w := by
  intro b k cs
  have hg : ∀ {l rest}, findLabel c l = some rest → gotoIn l (.inScope c :: k) = some (.code rest :: .inScope c :: k) := fun hf => by simp [gotoIn, hf]
  have key : ∀ n l a w, μ l a w = n → J l a w → ∃ rest, findLabel c l = some rest ∧ ∃ e a' w', Q e a' w' ∧ Arrives P (lone (b.at a (.code rest :: .inScope c :: k)) cs w) b k cs e a' w' := by
    intro n
    induction n using Nat.strongRecOn with
    | _ n ih =>
      intro l a w hn hJ
      obtain ⟨rest, hf, hp⟩ := pass l a w hJ
      refine ⟨rest, hf, ?_⟩
      obtain ⟨e, a₁, w₁, hq, harr⟩ := hp b (.inScope c :: k) cs
      cases e with
      | normal => exact ⟨.normal, a₁, w₁, hq, Steps.trans harr (.one step_inScope)⟩
      | exit id => exact ⟨.exit id, a₁, w₁, hq, fun k' hk => harr k' (by simp [exitTo, hk])⟩
      | goto l' =>
        obtain ⟨hJ', hlt⟩ := hq
        obtain ⟨rest', hf', e₂, a₂, w₂, hq₂, harr₂⟩ := ih _ (by omega) l' a₁ w₁ rfl hJ'
        exact ⟨e₂, a₂, w₂, hq₂, .of_steps (harr _ (hg hf')) harr₂⟩
      | ret => exact ⟨_, a₁, w₁, hq, harr⟩
      | panic ch => exact ⟨_, a₁, w₁, hq, harr⟩
      | outgrown => exact ⟨_, a₁, w₁, hq, harr⟩
  obtain ⟨e, a₁, w₁, hq, harr⟩ := first b (.inScope c :: k) cs
  cases e with
  | normal => exact ⟨.normal, a₁, w₁, hq, .head step_scope (Steps.trans harr (.one step_inScope))⟩
  | exit id => exact ⟨.exit id, a₁, w₁, hq, fun k' hk => .head step_scope (harr k' (by simp [exitTo, hk]))⟩
  | goto l' =>
    obtain ⟨rest, hf, e₂, a₂, w₂, hq₂, harr₂⟩ := key _ l' a₁ w₁ rfl hq
    exact ⟨e₂, a₂, w₂, hq₂, .of_steps (.head step_scope (harr _ (hg hf))) harr₂⟩
  | ret => exact ⟨_, a₁, w₁, hq, .of_steps (.one step_scope) harr⟩
  | panic ch => exact ⟨_, a₁, w₁, hq, .of_steps (.one step_scope) harr⟩
  | outgrown => exact ⟨_, a₁, w₁, hq, .of_steps (.one step_scope) harr⟩

theorem scope_ok {c : Code} {f : Fr → Hp → Out} {lab : Nat → Option (Fr → Hp → Out)} (hc : RnOk P nt c f) (hl : ∀ l g, lab l = some g → ∃ rest, findLabel c l = some rest ∧ RnOk P nt rest g) (n : Nat) :
    RnOk P nt (.scope c) fun T h => scopeN lab n (f T h) := by
  intro T h e T' h' hr ρ a w hrel hf hG ht
  -- behind a jump
  let I : Nat → Nat → Act → World → Prop := fun m l a₁ w₁ => ∃ T₁ h₁ ρ₁, scopeN lab m (.ok (.goto l) T₁ h₁) = .ok e T' h' ∧ a₁ = { a with tmps := a₁.tmps } ∧ TR ρ₁ nt T₁ a₁ ∧ Stp P ρ h w ρ₁ h₁ w₁
  have other : ∀ m e₁ T₁ h₁, scopeN lab m (.ok e₁ T₁ h₁) = .ok e T' h' → (∀ l, e₁ ≠ .goto l) → e₁ = e ∧ T₁ = T' ∧ h₁ = h' := by
    intro m e₁ T₁ h₁ hs hne
    cases m with
    | zero => cases hs
    | succ m =>
      cases e₁ with
      | goto l => exact absurd rfl (hne l)
      | _ => cases hs; exact ⟨rfl, rfl, rfl⟩
  have post : ∀ m {ρ₁ : Rho} {h₁ : Hp} {a₁ : Act} {w₁ : World}, a₁ = { a with tmps := a₁.tmps } → Stp P ρ h w ρ₁ h₁ w₁ → ∀ {e₂ : Ex} {T₂ : Fr} {h₂ : Hp}, scopeN lab m (.ok e₂ T₂ h₂) = .ok e T' h' →
      ∀ (J : Nat → Act → World → Prop), (∀ l a₂ w₂, I m l a₂ w₂ → J l a₂ w₂) → ∀ z a₂ w₂, Told P nt ρ₁ h₁ w₁ a₁ e₂ T₂ h₂ z a₂ w₂ → jumps J (Told P nt ρ h w a e T' h') z a₂ w₂ := by
    intro m ρ₁ h₁ a₁ w₁ ha₁ hs₁ e₂ T₂ h₂ hsc J hJ z a₂ w₂ hz
    obtain ⟨rfl, ρ₂, k1, k2, k3⟩ := hz
    cases e₂ with
    | goto l => exact hJ l a₂ w₂ ⟨T₂, h₂, ρ₂, hsc, act_trans ha₁ k1, k2, hs₁.trans k3⟩
    | normal => obtain ⟨rfl, rfl, rfl⟩ := other m _ _ _ hsc (by intro l; simp); exact ⟨rfl, ρ₂, act_trans ha₁ k1, k2, hs₁.trans k3⟩
    | exit i => obtain ⟨rfl, rfl, rfl⟩ := other m _ _ _ hsc (by intro l; simp); exact ⟨rfl, ρ₂, act_trans ha₁ k1, k2, hs₁.trans k3⟩
    | ret => obtain ⟨rfl, rfl, rfl⟩ := other m _ _ _ hsc (by intro l; simp); exact ⟨rfl, ρ₂, act_trans ha₁ k1, k2, hs₁.trans k3⟩
  refine wp_scope_many (fun l a₁ w₁ => ∃ m, I m l a₁ w₁) (fun l a₁ w₁ => least fun m => I m l a₁ w₁) ?_ fun l a₁ w₁ hI => ?_
  · dsimp only at hr
    cases hfo : f T h with
    | bad => rw [hfo] at hr; cases n <;> cases hr
    | ok e₁ T₁ h₁ =>
      rw [hfo] at hr
      exact wp_mono (hc T h e₁ T₁ h₁ hfo ρ a w hrel hf hG ht) (post n rfl (.refl hrel) hr _ fun l a₂ w₂ hi => ⟨n, hi⟩)
  · obtain ⟨hli, _⟩ := least_ok hI
    obtain ⟨T₁, h₁, ρ₁, hr₁, ha₁, ht₁, hs₁⟩ := hli
    generalize hm : (least fun m => I m l a₁ w₁) = m at hr₁ ⊢
    cases m with
    | zero => cases hr₁
    | succ m =>
      change (match lab l with
        | some k => scopeN lab m (k T₁ h₁)
        | none => Out.bad) = _ at hr₁
      cases hlab : lab l with
      | none => rw [hlab] at hr₁; cases hr₁
      | some g =>
        rw [hlab] at hr₁
        obtain ⟨rest, hfl, hgo⟩ := hl l g hlab
        refine ⟨rest, hfl, ?_⟩
        dsimp only at hr₁
        cases hgt : g T₁ h₁ with
        | bad => rw [hgt] at hr₁; cases m <;> cases hr₁
        | ok e₂ T₂ h₂ =>
          rw [hgt] at hr₁
          refine wp_mono (hgo T₁ h₁ e₂ T₂ h₂ hgt ρ₁ a₁ w₁ hs₁.rel (hs₁.free hf) (by have := hs₁.le; omega) ht₁) (post m ha₁ hs₁ hr₁ _ fun l' a₂ w₂ hi => ?_)
          exact ⟨⟨m, hi⟩, by have := (least_ok (p := fun m => I m l' a₂ w₂) ⟨m, hi⟩).2 m hi; omega⟩

/-! ### All code -/

structure CCOk (P : Program) (nt : Nat) (c : Code) (cc : CC) : Prop where
  run : ∀ n call, CallOk P call → RnOk P nt c (cc.run n call)
  lab : ∀ l r, cc.lab l = some r → ∃ rest, findLabel c l = some rest ∧ ∀ n call, CallOk P call → RnOk P nt rest (r n call)
  none : ∀ l, cc.lab l = none → findLabel c l = none

theorem bad_ok {c : Code} {f : Fr → Hp → Out} (hb : ∀ T h, f T h = .bad) : RnOk P nt c f := by
  intro T h e T' h' hr
  rw [hb] at hr
  cases hr

theorem code_ok (hmo : P.follows .mixedOrders = true) (c : Code) : CCOk P nt c (codeC P nt c) := by
  have nolab : ∀ {c : Code} {r : Rn}, (∀ n call, CallOk P call → RnOk P nt c (r n call)) → (∀ l, findLabel c l = none) → CCOk P nt c (.mk r noLab) := fun h1 h2 =>
    ⟨h1, fun l r hl => (by cases hl), fun l _ => h2 l⟩
  induction c with
  | skip => exact nolab (fun n call _ => justEx_ok fun Q a w hq => wp_skip hq) fun l => rfl
  | region id ops draw =>
    show CCOk P nt _ (bif draw then .mk (fun _ call => (drawC P nt ops.toList).use call) noLab else .mk (fun _ call => (opsC P nt ops.toList ops.toList).use call) noLab)
    cases draw with
    | true => exact nolab (fun n call hC => draw_region_ok hmo hC) fun l => rfl
    | false => exact nolab (fun n call hC => region_ok hC) fun l => rfl
  | seq x y ihx ihy =>
    refine ⟨fun n call hC => seq_ok (ihx.run n call hC) (ihy.run n call hC), fun l r hl => ?_, fun l hl => ?_⟩
    · change (match (codeC P nt x).lab l with
        | some r => some fun n call T h => thenO ((codeC P nt y).run n call) (r n call T h)
        | none => (codeC P nt y).lab l) = some r at hl
      cases hx : (codeC P nt x).lab l with
      | some r' =>
        rw [hx] at hl
        cases hl
        obtain ⟨rest, h1, h2⟩ := ihx.lab l r' hx
        exact ⟨.seq rest y, by simp [findLabel, h1], fun n call hC => seq_ok (h2 n call hC) (ihy.run n call hC)⟩
      | none =>
        rw [hx] at hl
        obtain ⟨rest, h1, h2⟩ := ihy.lab l r hl
        exact ⟨rest, by simp [findLabel, ihx.none l hx, h1], h2⟩
    · change (match (codeC P nt x).lab l with
        | some r => some fun n call T h => thenO ((codeC P nt y).run n call) (r n call T h)
        | none => (codeC P nt y).lab l) = none at hl
      cases hx : (codeC P nt x).lab l with
      | some r' => rw [hx] at hl; cases hl
      | none =>
        rw [hx] at hl
        simp [findLabel, ihx.none l hx, ihy.none l hl]
  | cond x c d ihc ihd =>
    show CCOk P nt _ (match opd P x with
      | some (.mk g) => .mk (fun n call T h => condO ((codeC P nt c).run n call) ((codeC P nt d).run n call) T h (g T)) noLab
      | none => .mk (fun _ _ _ _ => .bad) noLab)
    cases hx : opd P x with
    | none => exact nolab (fun n call _ => bad_ok fun _ _ => rfl) fun l => rfl
    | some g =>
      cases g with
      | mk g => exact nolab (fun n call hC => cond_ok hx (ihc.run n call hC) (ihd.run n call hC)) fun l => rfl
  | block i c ih => exact nolab (fun n call hC => block_ok (ih.run n call hC)) fun l => rfl
  | loop c ih => exact nolab (fun n call hC => loop_ok (ih.run n call hC) n) fun l => rfl
  | rangeFunc => exact nolab (fun n call _ => bad_ok fun _ _ => rfl) fun l => rfl
  | exit i => exact nolab (fun n call _ => justEx_ok fun Q a w hq => wp_exit hq) fun l => rfl
  | scope c ih =>
    refine nolab (fun n call hC => scope_ok (ih.run n call hC) (fun l g hg => ?_) n) fun l => rfl
    change (match (codeC P nt c).lab l with
      | some r => some (r n call)
      | none => none) = some g at hg
    cases hl : (codeC P nt c).lab l with
    | none => rw [hl] at hg; cases hg
    | some r =>
      rw [hl] at hg
      cases hg
      obtain ⟨rest, h1, h2⟩ := ih.lab l r hl
      exact ⟨rest, h1, h2 n call hC⟩
  | label l₀ =>
    refine ⟨fun n call _ => justEx_ok fun Q a w hq => wp_label hq, fun l r hl => ?_, fun l hl => ?_⟩
    · change (bif Nat.beq l₀ l then (some (fun _ _ T h => Out.ok .normal T h) : Option Rn) else none) = some r at hl
      cases hb : Nat.beq l₀ l with
      | false => rw [hb] at hl; cases hl
      | true =>
        rw [hb] at hl
        cases hl
        have := Nat.eq_of_beq_eq_true hb
        subst this
        exact ⟨.skip, by simp [findLabel], fun n call _ => justEx_ok fun Q a w hq => wp_skip hq⟩
    · change (bif Nat.beq l₀ l then (some (fun _ _ T h => Out.ok .normal T h) : Option Rn) else none) = none at hl
      cases hb : Nat.beq l₀ l with
      | true => rw [hb] at hl; cases hl
      | false =>
        have hne : l₀ ≠ l := fun e => by subst e; rw [Nat.beq_refl] at hb; cases hb
        simp [findLabel, hne]
  | goto l => exact nolab (fun n call _ => justEx_ok fun Q a w hq => wp_goto hq) fun l => rfl
  | ret => exact nolab (fun n call _ => justEx_ok fun Q a w hq => wp_ret hq) fun l => rfl
  | refuse why => exact nolab (fun n call _ => bad_ok fun _ _ => rfl) fun l => rfl

end
end Vm
end Go.Proofs.YtdgopiffbhlhoaaGreatDoor
