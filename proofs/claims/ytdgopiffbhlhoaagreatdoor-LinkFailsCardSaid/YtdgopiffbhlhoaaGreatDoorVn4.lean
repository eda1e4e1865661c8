/- Code piece by piece: from a state to states, whatever is forgotten between. -/
import Derived.Test.YtdgopiffbhlhoaaGreatDoorVn3
namespace Go.Proofs.YtdgopiffbhlhoaaGreatDoor
open Go
namespace Vm
section
variable {P : Program} {nt : Nat}

/-- From a state (since 'h0') the code comes to states of which Q is so. -/
def RS (P : Program) (nt : Nat) (h0 : Hp) (c : Code) (T : Fr) (h : Hp) (Q : Ex → Fr → Hp → Prop) : Prop :=
  ∀ (ρ0 : Rho) (w0 : World) (ρ : Rho) (a : Act) (w : World), Free ρ0 h0.next → P.globals.size ≤ h0.next → Stp P ρ0 h0 w0 ρ h w → TR ρ nt T a →
    c.wp P (fun x a' w' => ∃ e T' h' ρ', Q e T' h' ∧ x = toExit e ∧ a' = { a with tmps := a'.tmps } ∧ TR ρ' nt T' a' ∧ Stp P ρ0 h0 w0 ρ' h' w') a w

/-- A state of which less is known. -/
def Gc (N nt : Nat) (T : Fr) (h : Hp) (T' : Fr) (h' : Hp) : Prop := (T' = T ∧ h' = h) ∨ ∃ nxt m live keep lT lH, gcAll N nxt m live keep T h = some (lT, lH) ∧ T' = mkT nt lT ∧ h' = mkH lH nxt

theorem Gc.same {N : Nat} {T : Fr} {h : Hp} : Gc N nt T h T h := .inl ⟨rfl, rfl⟩

theorem Gc.of {N : Nat} {T : Fr} {h : Hp} {nxt : Nat} (m : List (Nat × Nat)) (live keep : List Nat) {lT : List (Nat × V)} {lH : List (Nat × Ob)} (hg : gcAll N nxt m live keep T h = some (lT, lH)) : Gc N nt T h (mkT nt lT) (mkH lH nxt) :=
  .inr ⟨nxt, m, live, keep, lT, lH, hg, rfl, rfl⟩

theorem Gc.ok {ρ0 ρ' : Rho} {h0 h' h'' : Hp} {w0 w' : World} {T' T'' : Fr} {a : Act} (hg : Gc h0.next nt T' h' T'' h'') (hf : Free ρ0 h0.next) (hG : P.globals.size ≤ h0.next) (hs : Stp P ρ0 h0 w0 ρ' h' w') (ht : TR ρ' nt T' a) :
    ∃ ρ, Stp P ρ0 h0 w0 ρ h'' w' ∧ TR ρ nt T'' a := by
  rcases hg with ⟨rfl, rfl⟩ | ⟨nxt, m, live, keep, lT, lH, h1, rfl, rfl⟩
  · exact ⟨ρ', hs, ht⟩
  · exact gc_ok h1 hf hG hs ht

variable {h0 : Hp} {T : Fr} {h : Hp} {Q : Ex → Fr → Hp → Prop}

theorem RS.mono {c : Code} {Q' : Ex → Fr → Hp → Prop} (hr : RS P nt h0 c T h Q') (hq : ∀ e T' h', Q' e T' h' → Q e T' h') : RS P nt h0 c T h Q := fun ρ0 w0 ρ a w hf hG hs ht =>
  wp_mono (hr ρ0 w0 ρ a w hf hG hs ht) fun _ _ _ ⟨e, T', h', ρ', h1, h2⟩ => ⟨e, T', h', ρ', hq _ _ _ h1, h2⟩

/-- Go on from a state of which less is known. -/
theorem RS.pre {c : Code} {T' : Fr} {h' : Hp} (hg : Gc h0.next nt T h T' h') (hr : RS P nt h0 c T' h' Q) : RS P nt h0 c T h Q := fun ρ0 w0 ρ a w hf hG hs ht => by
  obtain ⟨ρ', h1, h2⟩ := hg.ok hf hG hs ht
  exact hr ρ0 w0 ρ' a w hf hG h1 h2

theorem RS.run (hmo : P.follows .mixedOrders = true) {call : CallFn} (hC : CallOk P call) {c : Code} {n : Nat} {e : Ex} {T' : Fr} {h' : Hp} (hr : (codeC P nt c).run n call T h = .ok e T' h') (hq : Q e T' h') : RS P nt h0 c T h Q := fun ρ0 w0 ρ a w hf hG hs ht => by
  have := hs.le
  refine wp_mono ((code_ok hmo c).run n call hC T h e T' h' hr ρ a w hs.rel (hs.free hf) (by omega) ht) fun x a' w' hz => ?_
  obtain ⟨h1, ρ', h2, h3, h4⟩ := hz
  exact ⟨e, T', h', ρ', hq, h1, h2, h3, hs.trans h4⟩

theorem RS.run2 (hmo : P.follows .mixedOrders = true) {call : CallFn} {call2 : CallFn2} (hC : CallOk P call) (hS : CallSim call2 call) {c : Code} {ov : Tmp → Option Bool} {n : Nat} {e : Ex} {T' : Fr} {h' : Hp} {o : Obs}
    (hr : (codeC2 P ov nt c).run n call2 T h = .ok e T' h' o) (ho : AllP o) (hq : Q e T' h') : RS P nt h0 c T h Q :=
  .run hmo hC ((code_sim ov c).run n call2 call hS T h e T' h' o hr ho) hq

theorem RS.seq {a b : Code} (hr : RS P nt h0 a T h fun e T' h' => match e with
    | .normal => RS P nt h0 b T' h' Q
    | e => Q e T' h') : RS P nt h0 (.seq a b) T h Q := fun ρ0 w0 ρ ac w hf hG hs ht => by
  refine wp_seq (wp_mono (hr ρ0 w0 ρ ac w hf hG hs ht) fun x a' w' hz => ?_)
  obtain ⟨e, T', h', ρ', h1, rfl, h2, h3, h4⟩ := hz
  cases e with
  | normal =>
    refine wp_mono (h1 ρ0 w0 ρ' a' w' hf hG h4 h3) fun y a'' w'' hy => ?_
    obtain ⟨e, T'', h'', ρ'', k1, k2, k3, k4⟩ := hy
    exact ⟨e, T'', h'', ρ'', k1, k2, act_trans h2 k3, k4⟩
  | exit i => exact ⟨_, T', h', ρ', h1, rfl, h2, h3, h4⟩
  | goto l => exact ⟨_, T', h', ρ', h1, rfl, h2, h3, h4⟩
  | ret => exact ⟨_, T', h', ρ', h1, rfl, h2, h3, h4⟩

theorem RS.block {c : Code} {i : Nat} (hr : RS P nt h0 c T h fun e T' h' => match e with
    | .exit j => bif Nat.beq j i then Q .normal T' h' else Q (.exit j) T' h'
    | e => Q e T' h') : RS P nt h0 (.block i c) T h Q := fun ρ0 w0 ρ ac w hf hG hs ht => by
  refine wp_block (wp_mono (hr ρ0 w0 ρ ac w hf hG hs ht) fun x a' w' hz => ?_)
  obtain ⟨e, T', h', ρ', h1, rfl, h2, h3, h4⟩ := hz
  cases e with
  | exit j =>
    simp only at h1
    cases hb : Nat.beq j i with
    | true =>
      rw [hb, cond_true] at h1
      have := Nat.eq_of_beq_eq_true hb
      subst this
      simp only [toExit, Exit.inBlock, if_true]
      exact ⟨.normal, T', h', ρ', h1, rfl, h2, h3, h4⟩
    | false =>
      rw [hb, cond_false] at h1
      have hne : j ≠ i := fun e => by subst e; rw [Nat.beq_refl] at hb; cases hb
      simp only [toExit, Exit.inBlock, if_neg hne]
      exact ⟨_, T', h', ρ', h1, rfl, h2, h3, h4⟩
  | normal => exact ⟨_, T', h', ρ', h1, rfl, h2, h3, h4⟩
  | goto l => exact ⟨_, T', h', ρ', h1, rfl, h2, h3, h4⟩
  | ret => exact ⟨_, T', h', ρ', h1, rfl, h2, h3, h4⟩

theorem RS.cond {x : Operand} {c d : Code} {k : Fr → V} (hk : opd P x = some (.mk k)) {t : Bool} (hx : k T = .bool t) (hr : RS P nt h0 (bif t then c else d) T h Q) : RS P nt h0 (.cond x c d) T h Q := fun ρ0 w0 ρ ac w hf hG hs ht => by
  have hv := opd_ok ht hs.rel hk
  rw [hx] at hv
  generalize he : ac.eval x = xv at hv
  cases hv
  have := hr ρ0 w0 ρ ac w hf hG hs ht
  cases t with
  | true => exact wp_cond he this
  | false => exact wp_cond he this

/-- A loop: states of a family, of which each round comes to a lesser one, or leaves. -/
theorem RS.loop {c : Code} {S : Type} (I : S → Prop) (Tf : S → Fr) (Hf : S → Hp) (μ : S → Nat) {s : S} (hs0 : I s) (hT : T = Tf s) (hh : h = Hf s)
    (hb : ∀ s, I s → RS P nt h0 c (Tf s) (Hf s) fun e T' h' => match e with
      | .normal => ∃ s', I s' ∧ μ s' < μ s ∧ Gc h0.next nt T' h' (Tf s') (Hf s')
      | e => Q e T' h') : RS P nt h0 (.loop c) T h Q := fun ρ0 w0 ρ a w hf hG hs ht => by
  subst hT hh
  let J : Nat → Act → World → Prop := fun m a₁ w₁ => ∃ s₁ ρ₁, I s₁ ∧ μ s₁ = m ∧ a₁ = { a with tmps := a₁.tmps } ∧ TR ρ₁ nt (Tf s₁) a₁ ∧ Stp P ρ0 h0 w0 ρ₁ (Hf s₁) w₁
  refine wp_loop (fun a₁ w₁ => ∃ m, J m a₁ w₁) (fun a₁ w₁ => least fun m => J m a₁ w₁) ⟨_, s, ρ, hs0, rfl, rfl, ht, hs⟩ fun a₁ w₁ hI => ?_
  obtain ⟨hl, _⟩ := least_ok hI
  obtain ⟨s₁, ρ₁, hi₁, hm₁, ha₁, ht₁, hs₁⟩ := hl
  generalize hm : (least fun m => J m a₁ w₁) = m at hm₁ ⊢
  refine wp_mono (hb s₁ hi₁ ρ0 w0 ρ₁ a₁ w₁ hf hG hs₁ ht₁) fun z a₂ w₂ hz => ?_
  obtain ⟨e, T', h', ρ', h1, rfl, h2, h3, h4⟩ := hz
  cases e with
  | normal =>
    obtain ⟨s₂, hi₂, hlt, hgc⟩ := h1
    obtain ⟨ρ₂, k1, k2⟩ := hgc.ok hf hG h4 h3
    have hI' : J (μ s₂) a₂ w₂ := ⟨s₂, ρ₂, hi₂, rfl, act_trans ha₁ h2, k2, k1⟩
    exact ⟨⟨_, hI'⟩, by have := (least_ok (p := fun m => J m a₂ w₂) ⟨_, hI'⟩).2 _ hI'; omega⟩
  | exit i => exact ⟨_, T', h', ρ', h1, rfl, act_trans ha₁ h2, h3, h4⟩
  | goto l => exact ⟨_, T', h', ρ', h1, rfl, act_trans ha₁ h2, h3, h4⟩
  | ret => exact ⟨_, T', h', ρ', h1, rfl, act_trans ha₁ h2, h3, h4⟩

/-- A function, by its body. -/
theorem RS.fn {f : FuncId} {fn : Func} {c : Code} (hfn : P.funcs[f]? = some fn) (hc : fn.body = some c) {args : List V} (hle : Nat.ble (len args) fn.ntmps = true) {R : V → Hp → Prop}
    (hr : RS P fn.ntmps h0 c (initT args 0 .leaf) h0 fun e T' h' => (e = .normal ∨ e = .ret) ∧ ∃ vs, resV P T' h' fn.results.toList = some vs ∧ R (resOf vs) h')
    {ρ : Rho} {w : World} {xs : Array Value} (hrel : Rel P ρ h0 w) (hf : Free ρ h0.next) (hG : P.globals.size ≤ h0.next) (ha : VRs ρ args xs.toList) :
    Calls P f xs w fun e w' => ∃ x v h' ρ', e = .returned x ∧ R v h' ∧ VR ρ' v x ∧ Stp P ρ h0 w ρ' h' w' := by
  have hle' : args.length ≤ fn.ntmps := by have := ble_le hle; rwa [len_eq] at this
  refine calls_of_wp hfn hc ?_
  refine wp_mono (hr ρ w ρ _ w hf hG (.refl hrel) (init_TR ha hle')) fun z a' w' hz => ?_
  obtain ⟨e, T', h', ρ', ⟨he, vs, hvs, hR⟩, rfl, k1, k2, k3⟩ := hz
  have hd : a'.defers = [] := by rw [k1]
  obtain ⟨x, hx, hvx⟩ := results_ok k3.rel k2 hvs
  rcases he with rfl | rfl
  · exact ⟨hd, x, hx, x, _, h', ρ', rfl, hR, hvx, k3⟩
  · exact ⟨hd, x, hx, x, _, h', ρ', rfl, hR, hvx, k3⟩

theorem of_kernel {A B : Prop} (h : A = B) (a : A) : B := h ▸ a

end
end Vm
end Go.Proofs.YtdgopiffbhlhoaaGreatDoor
