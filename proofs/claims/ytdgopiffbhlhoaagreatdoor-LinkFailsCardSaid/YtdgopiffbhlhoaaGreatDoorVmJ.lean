/- Code: the machine's run of it is the model's. -/
import Derived.Test.YtdgopiffbhlhoaaGreatDoorVmI
namespace Go.Proofs.YtdgopiffbhlhoaaGreatDoor
open Go
namespace Vm

def toExit : Ex → Exit
  | .normal => .normal
  | .exit i => .exit i
  | .goto l => .goto l
  | .ret => .ret

/-- One way out: what the machine tells. -/
def Told (P : Program) (nt : Nat) (ρ : Rho) (h : Hp) (w : World) (a : Act) (e : Ex) (T' : Fr) (h' : Hp) : Exit → Act → World → Prop :=
  fun x a' w' => x = toExit e ∧ ∃ ρ', a' = { a with tmps := a'.tmps } ∧ TR ρ' nt T' a' ∧ Stp P ρ h w ρ' h' w'

def RnOk (P : Program) (nt : Nat) (c : Code) (f : Fr → Hp → Out) : Prop :=
  ∀ T h e T' h', f T h = .ok e T' h' → ∀ (ρ : Rho) (a : Act) (w : World), Rel P ρ h w → Free ρ h.next → P.globals.size ≤ h.next → TR ρ nt T a → c.wp P (Told P nt ρ h w a e T' h') a w

section
variable {P : Program} {nt : Nat} {call : CallFn}

theorem act_trans {a a' a'' : Act} (h1 : a' = { a with tmps := a'.tmps }) (h2 : a'' = { a' with tmps := a''.tmps }) : a'' = { a with tmps := a''.tmps } := by
  rw [h2, h1]

theorem Told.trans {ρ ρ₁ : Rho} {h h₁ h' : Hp} {w w₁ : World} {a a₁ : Act} {e : Ex} {T' : Fr} (ha : a₁ = { a with tmps := a₁.tmps }) (hs : Stp P ρ h w ρ₁ h₁ w₁) {x : Exit} {a' : Act} {w' : World}
    (ht : Told P nt ρ₁ h₁ w₁ a₁ e T' h' x a' w') : Told P nt ρ h w a e T' h' x a' w' := by
  obtain ⟨h1, ρ', h2, h3, h4⟩ := ht
  exact ⟨h1, ρ', act_trans ha h2, h3, hs.trans h4⟩

/-! ### Statements with one order -/

theorem opsC_cons {ops l : List Oper} {o : Oper} : opsC P nt ops (o :: l) = (match dstC nt o.dst with
    | none => .mk fun _ _ _ => .bad
    | some (.mk st) => match opC P o with
      | .mk f => match guardOf ops o with
        | .always => .mk fun call T h => putNx call st T h ((opsC P nt ops l).use call) (f T h)
        | .never => .mk fun call T h => (opsC P nt ops l).use call (st undf T) h
        | .ifs d want => .mk fun call T h => bif jkO (T.get d) then .bad else bif holds want (T.get d) then putNx call st T h ((opsC P nt ops l).use call) (f T h) else (opsC P nt ops l).use call (st undf T) h) := rfl

theorem guard_ok {opsA : Array Oper} {ρ : Rho} {T : Fr} {a : Act} (ht : TR ρ nt T a) (o : Oper) (hgd : GdOk opsA.toList o T) : Region.wanted o (yielded opsA a.tmps) = wantedV opsA.toList o T :=
  Run.wanted_ok (ρ := ρ) rfl hgd fun _ _ _ d _ _ _ => ht.tmp d

theorem opsC_step {opsA : Array Oper} {l : List Oper} {o : Oper} {T : Fr} {h : Hp} {e : Ex} {T' : Fr} {h' : Hp} (hr : (opsC P nt opsA.toList (o :: l)).use call T h = .ok e T' h') :
    GdOk opsA.toList o T ∧ ∃ st, dstC nt o.dst = some (.mk st) ∧ ((wantedV opsA.toList o T = false ∧ (opsC P nt opsA.toList l).use call (st undf T) h = .ok e T' h') ∨
      (wantedV opsA.toList o T = true ∧ ((∃ v h₁, (opC P o).1 T h = some (.val v h₁) ∧ (opsC P nt opsA.toList l).use call (st v T) h₁ = .ok e T' h') ∨
        ∃ g args v h₁, (opC P o).1 T h = some (.call g args) ∧ call g args h = some (v, h₁) ∧ (opsC P nt opsA.toList l).use call (st v T) h₁ = .ok e T' h'))) := by
  rw [opsC_cons] at hr
  cases hd : dstC nt o.dst with
  | none => rw [hd] at hr; cases hr
  | some c =>
    cases c with
    | mk st =>
    rw [hd, cm_eta (opC P o)] at hr
    have hgd : GdOk opsA.toList o T := by
      intro d want hg
      rw [hg] at hr
      change (bif jkO (T.get d) then .bad else bif holds want (T.get d) then putNx call st T h ((opsC P nt opsA.toList l).use call) ((opC P o).1 T h) else (opsC P nt opsA.toList l).use call (st undf T) h) = _ at hr
      cases hj : jkO (T.get d) with
      | true => rw [hj] at hr; cases hr
      | false => rfl
    refine ⟨hgd, st, rfl, ?_⟩
    have put : putNx call st T h ((opsC P nt opsA.toList l).use call) ((opC P o).1 T h) = .ok e T' h' → ((∃ v h₁, (opC P o).1 T h = some (.val v h₁) ∧ (opsC P nt opsA.toList l).use call (st v T) h₁ = .ok e T' h') ∨
        ∃ g args v h₁, (opC P o).1 T h = some (.call g args) ∧ call g args h = some (v, h₁) ∧ (opsC P nt opsA.toList l).use call (st v T) h₁ = .ok e T' h') := by
      intro hp
      cases hx : (opC P o).1 T h with
      | none => rw [hx] at hp; cases hp
      | some nx =>
        rw [hx] at hp
        cases nx with
        | val v h₁ => exact .inl ⟨v, h₁, rfl, hp⟩
        | call g args =>
          change Option.rec (motive := fun _ => Out) .bad (fun r => (opsC P nt opsA.toList l).use call (st r.1 T) r.2) (call g args h) = _ at hp
          cases hc : call g args h with
          | none => rw [hc] at hp; cases hp
          | some r => rw [hc] at hp; exact .inr ⟨g, args, r.1, r.2, rfl, hc, hp⟩
    unfold wantedV
    cases hg : guardOf opsA.toList o with
    | always => rw [hg] at hr; exact .inr ⟨rfl, put hr⟩
    | never => rw [hg] at hr; exact .inl ⟨rfl, hr⟩
    | ifs d want =>
      rw [hg] at hr
      change (bif jkO (T.get d) then .bad else bif holds want (T.get d) then putNx call st T h ((opsC P nt opsA.toList l).use call) ((opC P o).1 T h) else (opsC P nt opsA.toList l).use call (st undf T) h) = _ at hr
      rw [hgd d want hg, cond_false] at hr
      cases hh : holds want (T.get d) with
      | true => rw [hh, cond_true] at hr; exact .inr ⟨hh, put hr⟩
      | false => rw [hh, cond_false] at hr; exact .inl ⟨hh, hr⟩

theorem ops_ok (hC : CallOk P call) {opsA : Array Oper} : ∀ (l : List Oper) (i : Nat), opsA.toList.drop i = l → ∀ T h e T' h', (opsC P nt opsA.toList l).use call T h = .ok e T' h' → ∀ (ρ : Rho) (a : Act) (w : World), Rel P ρ h w → Free ρ h.next → P.globals.size ≤ h.next → TR ρ nt T a →
    ∀ {Q : Exit → Act → World → Prop}, (∀ x a' w', Told P nt ρ h w a e T' h' x a' w' → Q x a' w') → wpOps P opsA Q (List.range' i l.length) a w
  | [], i, _, T, h, e, T', h', hr, ρ, a, w, hrel, hf, hG, ht, Q, hQ => by
    cases hr
    exact hQ _ _ _ ⟨rfl, ρ, rfl, ht, .refl hrel⟩
  | o :: l, i, hl, T, h, e, T', h', hr, ρ, a, w, hrel, hf, hG, ht, Q, hQ => by
    have hoi : opsA[i]? = some o := by
      rw [← Array.getElem?_toList]
      have := congrArg (fun l => l[0]?) hl
      simpa [List.getElem?_drop] using this
    have hl' : opsA.toList.drop (i + 1) = l := by
      rw [← List.tail_drop, hl]; rfl
    rw [List.length_cons, List.range'_succ]
    simp only [wpOps, hoi]
    obtain ⟨hgd, st, hst, hcase⟩ := opsC_step hr
    rw [guard_ok ht o hgd]
    rcases hcase with ⟨hw, hk⟩ | ⟨hw, hk⟩
    · rw [hw, if_neg (by decide)]
      refine ops_ok hC l (i + 1) hl' _ _ e T' h' hk ρ _ w hrel hf hG (dst_ok ht hst (vr_undf ρ)) fun x a' w' hto => hQ x a' w' (hto.trans ?_ (.refl hrel))
      exact Run.put_act _ _ rfl
    · rw [hw, if_pos rfl]
      refine .inl ?_
      rcases hk with ⟨v, h₁, hop, hk⟩ | ⟨g, args, v, h₁, hop, hc, hk⟩
      · refine wp_of_ok (op_ok hrel hf hG (ht.or hrel o) (cm_eta _) hop) fun ρ' x w' hx hs => ?_
        have hsub := hs.sub hf
        refine ops_ok hC l (i + 1) hl' _ _ e T' h' hk ρ' _ w' hs.rel (hs.free hf) (by have := hs.le; omega) (dst_ok (ht.mono hsub) hst hx) fun x a' w' hto => hQ x a' w' (hto.trans ?_ hs)
        exact Run.put_act _ _ rfl
      · obtain ⟨xs, hrun, hargs⟩ := op_ok hrel hf hG (ht.or hrel o) (cm_eta _) hop
        refine wp_of_call hrun (hC g args _ _ _ hc ρ w xs hrel hf hG hargs) fun x w' ⟨ρ', hx, hs⟩ => ?_
        have hsub := hs.sub hf
        refine ops_ok hC l (i + 1) hl' _ _ e T' h' hk ρ' _ w' hs.rel (hs.free hf) (by have := hs.le; omega) (dst_ok (ht.mono hsub) hst hx) fun x a' w' hto => hQ x a' w' (hto.trans ?_ hs)
        exact Run.put_act _ _ rfl

theorem region_ok (hC : CallOk P call) {opsA : Array Oper} {id : Nat} : RnOk P nt (.region id opsA false) ((opsC P nt opsA.toList opsA.toList).use call) := by
  intro T h e T' h' hr ρ a w hrel hf hG ht
  refine wp_region ?_
  have := ops_ok hC (opsA := opsA) opsA.toList 0 (by simp) T h e T' h' hr ρ a w hrel hf hG ht (Q := Told P nt ρ h w a e T' h') (fun _ _ _ h => h)
  rw [List.range_eq_range']
  simpa using this

theorem drawC_normal {ops : List Oper} {T T' : Fr} {h h' : Hp} {e : Ex} (hr : (drawC P nt ops).use call T h = .ok e T' h') : e = .normal := by
  unfold drawC at hr
  cases hd : drawOk P ops with
  | false => rw [hd, cond_false] at hr; cases hr
  | true =>
    rw [hd, cond_true] at hr
    change (match (runC P nt ops (infos P ops)).use call ⟨h.next, T, ⟨h.t, h.next + makers P ops⟩, [], [], [], []⟩ with
      | some s => bif readsOk P s.al (s.h :: s.hs) s.eb s.rd then Out.ok .normal s.T (addPd s.h (loosePd s.al s.eb)) else .bad
      | none => .bad) = _ at hr
    split at hr
    · rename_i s _
      cases hrd : readsOk P s.al (s.h :: s.hs) s.eb s.rd with
      | false => rw [hrd, cond_false] at hr; cases hr
      | true => rw [hrd, cond_true] at hr; cases hr; rfl
    · cases hr

theorem draw_region_ok (hmo : P.follows .mixedOrders = true) (hC : CallOk P call) {opsA : Array Oper} {id : Nat} : RnOk P nt (.region id opsA true) ((drawC P nt opsA.toList).use call) := by
  intro T h e T' h' hr ρ a w hrel hf hG ht
  have he := drawC_normal hr
  subst he
  exact draw_ok hmo hC hrel hf hG ht hr fun ρ' a' w' h1 h2 h3 => ⟨rfl, ρ', h1, h2, h3⟩

/-! ### The forms of code -/

theorem justEx_ok {c : Code} {e : Ex} (hc : ∀ (Q : Exit → Act → World → Prop) (a : Act) (w : World), Q (toExit e) a w → c.wp P Q a w) : RnOk P nt c fun T h => .ok e T h := by
  intro T h e' T' h' hr ρ a w hrel hf hG ht
  cases hr
  exact hc _ _ _ ⟨rfl, ρ, rfl, ht, .refl hrel⟩

theorem seq_ok {x y : Code} {f g : Fr → Hp → Out} (hx : RnOk P nt x f) (hy : RnOk P nt y g) : RnOk P nt (.seq x y) fun T h => thenO g (f T h) := by
  intro T h e T' h' hr ρ a w hrel hf hG ht
  refine wp_seq ?_
  dsimp only at hr
  cases hfo : f T h with
  | bad => rw [hfo] at hr; cases hr
  | ok e₁ T₁ h₁ =>
    rw [hfo] at hr
    refine wp_mono (hx T h e₁ T₁ h₁ hfo ρ a w hrel hf hG ht) fun z a' w' hz => ?_
    obtain ⟨rfl, ρ', k1, k2, k3⟩ := hz
    cases e₁ with
    | normal =>
      exact wp_mono (hy T₁ h₁ e T' h' hr ρ' a' w' k3.rel (k3.free hf) (by have := k3.le; omega) k2) fun z a'' w'' hz => hz.trans k1 k3
    | _ => cases hr; exact ⟨rfl, ρ', k1, k2, k3⟩

theorem block_ok {c : Code} {f : Fr → Hp → Out} {i : Nat} (hc : RnOk P nt c f) : RnOk P nt (.block i c) fun T h => blockO i (f T h) := by
  intro T h e T' h' hr ρ a w hrel hf hG ht
  refine wp_block ?_
  dsimp only at hr
  cases hfo : f T h with
  | bad => rw [hfo] at hr; cases hr
  | ok e₁ T₁ h₁ =>
    rw [hfo] at hr
    refine wp_mono (hc T h e₁ T₁ h₁ hfo ρ a w hrel hf hG ht) fun z a' w' hz => ?_
    obtain ⟨rfl, ρ', k1, k2, k3⟩ := hz
    cases e₁ with
    | exit j =>
      simp only [blockO] at hr
      cases hb : Nat.beq j i with
      | true =>
        rw [hb, cond_true] at hr
        cases hr
        have := Nat.eq_of_beq_eq_true hb
        subst this
        simp only [toExit, Exit.inBlock, if_true]
        exact ⟨rfl, ρ', k1, k2, k3⟩
      | false =>
        rw [hb, cond_false] at hr
        cases hr
        have hne : j ≠ i := fun e => by subst e; rw [Nat.beq_refl] at hb; cases hb
        simp only [toExit, Exit.inBlock, if_neg hne]
        exact ⟨rfl, ρ', k1, k2, k3⟩
    | _ => cases hr; exact ⟨rfl, ρ', k1, k2, k3⟩

theorem cond_ok {x : Operand} {c d : Code} {f g : Fr → Hp → Out} {k : Fr → V} (hk : opd P x = some (.mk k)) (hc : RnOk P nt c f) (hd : RnOk P nt d g) : RnOk P nt (.cond x c d) fun T h => condO f g T h (k T) := by
  intro T h e T' h' hr ρ a w hrel hf hG ht
  have hv := opd_ok ht hrel hk
  dsimp only at hr
  generalize hkt : k T = v at hv hr
  unfold condO at hr
  split at hr
  · rename_i t
    generalize hx : a.eval x = xv at hv
    cases hv
    cases t with
    | true => exact wp_cond hx (hc T h e T' h' hr ρ a w hrel hf hG ht)
    | false => exact wp_cond hx (hd T h e T' h' hr ρ a w hrel hf hG ht)
  · cases hr

theorem exists_least {p : Nat → Prop} (h : ∃ n, p n) : ∃ n, p n ∧ ∀ m, p m → n ≤ m := by
  obtain ⟨n, hn⟩ := h
  induction n using Nat.strongRecOn with
  | _ n ih =>
    by_cases hl : ∃ m, m < n ∧ p m
    · obtain ⟨m, h1, h2⟩ := hl
      exact ih m h1 h2
    · exact ⟨n, hn, fun m hm => Nat.le_of_not_lt fun hlt => hl ⟨m, hlt, hm⟩⟩

open Classical in
noncomputable def least (p : Nat → Prop) : Nat := if h : ∃ n, p n then Classical.choose (exists_least h) else 0

theorem least_ok {p : Nat → Prop} (h : ∃ n, p n) : p (least p) ∧ ∀ m, p m → least p ≤ m := by
  unfold least
  rw [dif_pos h]
  exact Classical.choose_spec (exists_least h)

theorem loop_ok {c : Code} {f : Fr → Hp → Out} (hc : RnOk P nt c f) (n : Nat) : RnOk P nt (.loop c) (loopN f n) := by
  intro T h e T' h' hr ρ a w hrel hf hG ht
  let I : Nat → Act → World → Prop := fun m a₁ w₁ => ∃ T₁ h₁ ρ₁, loopN f m T₁ h₁ = .ok e T' h' ∧ a₁ = { a with tmps := a₁.tmps } ∧ TR ρ₁ nt T₁ a₁ ∧ Stp P ρ h w ρ₁ h₁ w₁
  refine wp_loop (fun a₁ w₁ => ∃ m, I m a₁ w₁) (fun a₁ w₁ => least fun m => I m a₁ w₁) ⟨n, T, h, ρ, hr, rfl, ht, .refl hrel⟩ fun a₁ w₁ hI => ?_
  obtain ⟨hl, _⟩ := least_ok hI
  obtain ⟨T₁, h₁, ρ₁, hr₁, ha₁, ht₁, hs₁⟩ := hl
  generalize hm : (least fun m => I m a₁ w₁) = m at hr₁ ⊢
  cases m with
  | zero => cases hr₁
  | succ m =>
    change thenO (loopN f m) (f T₁ h₁) = _ at hr₁
    cases hfo : f T₁ h₁ with
    | bad => rw [hfo] at hr₁; cases hr₁
    | ok e₂ T₂ h₂ =>
      rw [hfo] at hr₁
      refine wp_mono (hc T₁ h₁ e₂ T₂ h₂ hfo ρ₁ a₁ w₁ hs₁.rel (hs₁.free hf) (by have := hs₁.le; omega) ht₁) fun z a₂ w₂ hz => ?_
      obtain ⟨rfl, ρ₂, k1, k2, k3⟩ := hz
      cases e₂ with
      | normal =>
        have hI' : I m a₂ w₂ := ⟨T₂, h₂, ρ₂, hr₁, act_trans ha₁ k1, k2, hs₁.trans k3⟩
        exact ⟨⟨m, hI'⟩, by have := (least_ok (p := fun m => I m a₂ w₂) ⟨m, hI'⟩).2 m hI'; omega⟩
      | _ => cases hr₁; exact ⟨rfl, ρ₂, act_trans ha₁ k1, k2, hs₁.trans k3⟩

end
end Vm
end Go.Proofs.YtdgopiffbhlhoaaGreatDoor
