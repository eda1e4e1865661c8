/- Statements whose order is open: the machine's run of them is the model's. -/
import Derived.Test.YtdgopiffbhlhoaaGreatDoorVmH
namespace Go.Proofs.YtdgopiffbhlhoaaGreatDoor
open Go
namespace Vm

/-- What a call does. -/
def Does (P : Program) (g : FuncId) (xs : Array Value) (w : World) (R : Value → World → Prop) : Prop :=
  (∃ x w', (callFunc g xs).run P w = .ok (.value x) w' ∧ R x w') ∨ ((callFunc g xs).run P w = .ok (.enter g xs) w ∧ Calls P g xs w fun e w' => ∃ v, e = .returned v ∧ R v w')

theorem Does.mono {P : Program} {g : FuncId} {xs : Array Value} {w : World} {R R' : Value → World → Prop} (h : Does P g xs w R) (hr : ∀ v w', R v w' → R' v w') : Does P g xs w R' := by
  rcases h with ⟨x, w', h1, h2⟩ | ⟨h1, h2⟩
  · exact .inl ⟨x, w', h1, hr _ _ h2⟩
  · exact .inr ⟨h1, h2.mono fun e w' ⟨v, h3, h4⟩ => ⟨v, h3, hr _ _ h4⟩⟩

/-- What the machine tells of calls is so. -/
def CallOk (P : Program) (call : CallFn) : Prop := ∀ g args h v h', call g args h = some (v, h') → ∀ (ρ : Rho) (w : World) (xs : Array Value), Rel P ρ h w → Free ρ h.next → P.globals.size ≤ h.next → VRs ρ args xs.toList →
  Does P g xs w fun x w' => ∃ ρ', VR ρ' v x ∧ Stp P ρ h w ρ' h' w'

section
variable {P : Program} {nt : Nat} {ops : List Oper} {call : CallFn} {T0 : Fr} {h0 : Hp}

theorem wp_of_ok {ρ : Rho} {h h' : Hp} {w : World} {o : Oper} {a : Act} {v : V} {next : Act → World → Prop} {Q : Exit → Act → World → Prop} (hop : OpOk P ρ h w (execOp a.eval o) (.val v h'))
    (hn : ∀ ρ' x w', VR ρ' v x → Stp P ρ h w ρ' h' w' → next (a.put o.dst x) w') : o.wp P a w next Q := by
  obtain ⟨ρ', n, w', h1, h2, h3⟩ := hop
  unfold Oper.wp
  rw [h1]
  rcases h2 with ⟨x, rfl, hv⟩ | ⟨rfl, rfl⟩
  · exact hn ρ' x w' hv h3
  · exact hn ρ' undef w' (vr_undf ρ') h3

theorem wp_of_call {w : World} {o : Oper} {a : Act} {g : FuncId} {xs : Array Value} {Rr : Value → World → Prop} {next : Act → World → Prop} {Q : Exit → Act → World → Prop} (hrun : (execOp a.eval o).run P w = (callFunc g xs).run P w) (hd : Does P g xs w Rr)
    (hn : ∀ x w', Rr x w' → next (a.put o.dst x) w') : o.wp P a w next Q := by
  unfold Oper.wp
  rw [hrun]
  rcases hd with ⟨x, w', h1, h2⟩ | ⟨h1, h2⟩
  · rw [h1]; exact hn x w' h2
  · rw [h1, Oper.upon_enter]
    refine h2.mono fun e w' ⟨v, h3, h4⟩ => ?_
    subst h3
    exact hn v w' h4

theorem wp_of_quiet {ρ : Rho} {h : Hp} {w : World} {o : Oper} {a : Act} {r : Nx} {next : Act → World → Prop} {Q : Exit → Act → World → Prop} (hq : Quiet P ρ h w (execOp a.eval o) r) (hn : ∀ v x, r = .val v h → VR ρ v x → next (a.put o.dst x) w) : o.wp P a w next Q := by
  obtain ⟨v, x, h1, h2, h3⟩ := hq
  unfold Oper.wp
  rw [h2]
  exact hn v x h1 h3

theorem kind_quiet {o : Oper} (h : kindOf P o = .p ∨ kindOf P o = .r) : makeC P o = none ∧ isQuiet o.op = true := by
  unfold kindOf at h
  cases hm : makeC P o with
  | some c => rw [hm] at h; simp at h
  | none =>
    rw [hm] at h
    refine ⟨rfl, ?_⟩
    cases hop : o.op <;> rw [hop] at h <;> first
      | rfl
      | (simp at h; done)
      | skip
    rename_i c
    simp only [isQuiet]
    simp only at h
    cases hc : c.callee with
    | builtin b => rw [hc] at h; cases b <;> first | rfl | (simp at h; done)
    | value f => rw [hc] at h; simp at h
    | invoke r n => rw [hc] at h; simp at h

theorem kind_a {o : Oper} (h : kindOf P o = .a) : ∃ c, makeC P o = some c := by
  unfold kindOf at h
  cases hm : makeC P o with
  | some c => exact ⟨c, rfl⟩
  | none =>
    rw [hm] at h
    exfalso
    cases hop : o.op <;> rw [hop] at h <;> first
      | (simp at h; done)
      | skip
    rename_i c
    simp only at h
    cases hc : c.callee with
    | builtin b => rw [hc] at h; cases b <;> simp at h
    | value f => rw [hc] at h; simp at h
    | invoke r n => rw [hc] at h; simp at h

namespace Run
variable {R : Run P nt ops call T0 h0} {ρ0 ρ : Rho} {w0 w : World} {a0 a : Act} {S : Nat → Bool} {k i : Nat} {o : Oper}

theorem Inv.step (hI : R.Inv ρ0 w0 a0 S a w ρ k) (hC : CallOk P call) (hf : Free ρ0 h0.next) (hG : P.globals.size ≤ h0.next) (D : DrawOk P ops)
    (hrd : readsOk P (R.t ops.length).al ((R.t ops.length).h :: (R.t ops.length).hs) (R.t ops.length).eb (R.t ops.length).rd = true) {opsA : Array Oper} (hops : opsA.toList = ops)
    (ho : ops[i]? = some o) (hS : S i = false) (hd : ∀ e ∈ o.after.toList, Region.binds .any e = true → S e.on = true) {Q : Exit → Act → World → Prop} {K : Act → World → Prop}
    (hK : ∀ a' w' ρ' k', R.Inv ρ0 w0 a0 (ins S i) a' w' ρ' k' → K a' w') : wpOp P opsA Q i K a w := by
  have hm := mask_listed hI.cl ho hd
  have hlt := (List.getElem?_eq_some_iff.1 ho).1
  have hoA : opsA[i]? = some o := by rw [← Array.getElem?_toList, hops]; exact ho
  have hwant := hI.wanted D hops ho hS hm
  have hor := hI.or D ho hS hm
  have hview := R.view_eq D (i := i) (by omega)
  have hst := (R.step i o ho).2
  have hfi := R.inf i o ho
  have hnk : ∀ {kd : Kd}, kindOf P o = kd → kd ≠ .e → ¬ IsE P ops i := by
    intro kd h1 h2 ⟨o', h3, h4⟩
    rw [ho] at h3
    cases h3
    exact h2 (h1.symm.trans h4)
  have hna : ∀ {kd : Kd}, kindOf P o = kd → kd ≠ .a → ∀ p ∈ (R.t ops.length).al, p.ix ≠ i := by
    intro kd h1 h2 p hp e
    obtain ⟨o', h3, h4⟩ := (R.pdn hp).isA
    rw [e, ho] at h3
    cases h3
    exact h2 (h1.symm.trans h4)
  have hfree : Free ρ (R.vw k (msk ops i)).next := by rw [R.vw_next]; exact hI.free hf
  have hGk : P.globals.size ≤ (R.vw k (msk ops i)).next := by rw [R.vw_next]; have := hI.nx; omega
  unfold wpOp
  rw [hoA]
  simp only
  rw [hwant]
  generalize hW : R.W i = v at hst
  generalize hs' : R.t (i + 1) = s' at hst
  generalize hff : R.f i = f at hst hfi
  have hopf := hfi.op
  have hbf := hfi.b
  cases hst with
  | p _ h' hw hk hop =>
    rw [hopf] at hw hop
    rw [hw, if_pos rfl]
    refine .inl ?_
    have hkind : kindOf P o = .p := by rw [← hfi.kd, hk]
    obtain ⟨hmk, hq⟩ := kind_quiet (.inl hkind)
    have hoc : opC P o = op0C P o := by unfold opC; rw [hmk]
    rw [hoc] at hop
    have hrl : Rel P ρ ⟨.leaf, 0⟩ w := hI.rel.less fun j q hj => by
      have : (none : Option Ob) = some q := hj
      cases this
    refine wp_of_quiet (quiet_ok hrl hor hq (cm_eta _) hop) fun u x hu hx => ?_
    cases hu
    exact hK _ _ ρ k (hI.quiet D ho hS hm (hnk hkind (by decide)) (hna hkind (by decide)) (by rw [hW]; exact hx))
  | r1 _ h' hw hk hl hop =>
    rw [hopf] at hw hop
    rw [hw, if_pos rfl]
    refine .inl ?_
    have hkind : kindOf P o = .r := by rw [← hfi.kd, hk]
    obtain ⟨hmk, hq⟩ := kind_quiet (.inr hkind)
    have hoc : opC P o = op0C P o := by unfold opC; rw [hmk]
    rw [hfi.lo, hfi.hi] at hl
    have hsame := R.e_same (i := i) (k := k) (by omega) hI.kn (hI.at_r D ho hS hm hl)
    have hvv : R.vw i (msk ops i) = R.vw k (msk ops i) := by unfold vw; rw [hsame.1, hsame.2.1]
    rw [hoc, hbf, hview, hvv] at hop
    refine wp_of_quiet (quiet_ok (hI.vw_rel hm) hor hq (cm_eta _) hop) fun u x hu hx => ?_
    cases hu
    exact hK _ _ ρ k (hI.quiet D ho hS hm (hnk hkind (by decide)) (hna hkind (by decide)) (by rw [hW]; exact hx))
  | r2 _ h' hw hk hop =>
    rw [hopf] at hw
    rw [hw, if_pos rfl]
    refine .inl ?_
    have hkind : kindOf P o = .r := by rw [← hfi.kd, hk]
    obtain ⟨hmk, hq⟩ := kind_quiet (.inr hkind)
    have hoc : opC P o = op0C P o := by unfold opC; rw [hmk]
    have hin : (f, (R.t i).T, v) ∈ (R.t ops.length).rd := by
      have := rd_grow (R := R) (ops.length - (i + 1)) (i + 1) (by omega) (f, (R.t i).T, v) (by rw [hs']; simp)
      rwa [show i + 1 + (ops.length - (i + 1)) = ops.length by omega] at this
    have hra := readsOk_mem hrd _ _ _ hin
    obtain ⟨p, g1, g2⟩ := R.eb_suffix (ops.length - k) k (by have := hI.kn; omega)
    rw [show k + (ops.length - k) = ops.length by have := hI.kn; omega] at g1 g2
    have hwin := hI.window hS hm
    obtain ⟨h'', hread⟩ := readAt_ok hra p _ _ g2.symm (by rw [← g1, hfi.lo]; exact hwin.1) (by rw [← g1, hfi.hi]; exact hwin.2)
    rw [← g1, hopf, hoc, hbf] at hread
    refine wp_of_quiet (quiet_ok (hI.vw_rel hm) hor hq (cm_eta _) hread) fun u x hu hx => ?_
    cases hu
    exact hK _ _ ρ k (hI.quiet D ho hS hm (hnk hkind (by decide)) (hna hkind (by decide)) (by rw [hW]; exact hx))
  | a _ ob g hw hk hmk hv =>
    rw [hopf] at hw hmk
    rw [hw, if_pos rfl]
    refine .inl ?_
    have hkind : kindOf P o = .a := by rw [← hfi.kd, hk]
    obtain ⟨s, he, hmo⟩ := make_ok (w := w) hor hmk hv
    have hp : (⟨f.ix, (R.t i).base + f.ai, ob⟩ : Pd) ∈ (R.t ops.length).al := R.al_to (i := i + 1) (by omega) (by rw [hs']; simp)
    obtain ⟨x, w', ρ', k1, k2⟩ := hI.maker hG D ho hS hm ⟨o, ho, hkind⟩ hp hfi.ix (s := s) (by rw [hW]; exact hmo)
    unfold Oper.wp
    rw [he, run_valSem k1]
    exact hK _ _ ρ' k k2
  | e1 _ h' hw hk hop =>
    rw [hopf] at hw hop
    rw [hw, if_pos rfl]
    refine .inl ?_
    have hE : IsE P ops i := ⟨o, ho, by rw [← hfi.kd, hk]⟩
    have hsame := R.e_same (i := i) (k := k) (by omega) hI.kn (hI.at_e D hS hm hE)
    have hvv : R.vw i (msk ops i) = R.vw k (msk ops i) := by unfold vw; rw [hsame.1, hsame.2.1]
    rw [hbf, hview, hvv] at hop
    refine wp_of_ok (op_ok (hI.vw_rel hm) hfree hGk hor (cm_eta _) hop) fun ρ' x w' hx hstp => ?_
    exact hK _ _ ρ' (i + 1) (hI.effect hf D ho hS hm hE (by rw [hW]; exact hx) (by rw [hs']; exact hstp))
  | e2 _ h' g args hw hk hop hc =>
    rw [hopf] at hw hop
    rw [hw, if_pos rfl]
    refine .inl ?_
    have hE : IsE P ops i := ⟨o, ho, by rw [← hfi.kd, hk]⟩
    have hsame := R.e_same (i := i) (k := k) (by omega) hI.kn (hI.at_e D hS hm hE)
    have hvv : R.vw i (msk ops i) = R.vw k (msk ops i) := by unfold vw; rw [hsame.1, hsame.2.1]
    rw [hbf, hview, hvv] at hop hc
    obtain ⟨xs, hrun, hargs⟩ := op_ok (hI.vw_rel hm) hfree hGk hor (cm_eta _) hop
    refine wp_of_call hrun (hC g args _ _ _ hc ρ w xs (hI.vw_rel hm) hfree hGk hargs) fun x w' ⟨ρ', hx, hstp⟩ => ?_
    exact hK _ _ ρ' (i + 1) (hI.effect hf D ho hS hm hE (by rw [hW]; exact hx) (by rw [hs']; exact hstp))
  | skip hw hk =>
    rw [hopf] at hw
    rw [hw, if_neg (by decide)]
    have hne : ¬ IsE P ops i := hnk hfi.kd.symm hk
    refine hK _ _ ρ k (hI.quiet D ho hS hm hne (fun p hp e => ?_) (by rw [hW]; exact vr_undf ρ))
    have h1 := R.al_of (i := i + 1) (by omega) hp (by omega)
    rw [hs'] at h1
    have h2 := (R.al_ok (i := i) (by omega) h1).lt
    omega
  | skipE hw hk =>
    rw [hopf] at hw
    rw [hw, if_neg (by decide)]
    have hE : IsE P ops i := ⟨o, ho, by rw [← hfi.kd, hk]⟩
    have hsame := R.e_same (i := i) (k := k) (by omega) hI.kn (hI.at_e D hS hm hE)
    have hvv : R.vw i (msk ops i) = R.vw k (msk ops i) := by unfold vw; rw [hsame.1, hsame.2.1]
    refine hK _ _ ρ (i + 1) (hI.effect hf D ho hS hm hE (by rw [hW]; exact vr_undf ρ) ?_)
    have hh : (R.t (i + 1)).h = R.vw k (msk ops i) := by
      rw [hs', ← hvv, ← hview, ← hbf]
      rfl
    rw [hh]
    exact .refl (hI.vw_rel hm)

/-- What is listed. -/
def sOf (l : Array Bool) : Nat → Bool := fun j => l.getD j false

theorem sOf_set {l : Array Bool} {i : Nat} (h : i < l.size) : sOf (l.setIfInBounds i true) = ins (sOf l) i := by
  funext j
  by_cases e : j = i
  · subst e
    simp [sOf, ins, h]
  · rw [ins_ne _ e]
    unfold sOf
    exact getD_set_ne false (Ne.symm e)

theorem count_set {l : Array Bool} {i : Nat} (h : i < l.size) (hi : l.getD i true = false) {f : Nat} (hc : l.toList.countP (fun b => !b) = f + 1) : (l.setIfInBounds i true).toList.countP (fun b => !b) = f := by
  have hi' : l[i] = false := by simpa [Array.getD, h] using hi
  rw [Array.toList_setIfInBounds, List.countP_set (by simpa using h)]
  simp [hi', hc]

theorem Inv.any (hC : CallOk P call) (hf : Free ρ0 h0.next) (hG : P.globals.size ≤ h0.next) (D : DrawOk P ops)
    (hrd : readsOk P (R.t ops.length).al ((R.t ops.length).h :: (R.t ops.length).hs) (R.t ops.length).eb (R.t ops.length).rd = true) {opsA : Array Oper} (hops : opsA.toList = ops) {Q : Exit → Act → World → Prop}
    (hQ : ∀ S a w ρ k, (∀ i, i < ops.length → S i = true) → R.Inv ρ0 w0 a0 S a w ρ k → Q .normal a w) :
    ∀ (fuel : Nat) (l : Array Bool) (a : Act) (w : World) (ρ : Rho) (k : Nat), l.size = ops.length → l.toList.countP (fun b => !b) = fuel → R.Inv ρ0 w0 a0 (sOf l) a w ρ k → wpAny P .any opsA Q fuel l a w := by
  have hsz : opsA.size = ops.length := by rw [← hops]; simp
  have hall : ∀ (l : Array Bool), l.size = ops.length → Region.ready .any opsA l = [] → ∀ i, i < ops.length → sOf l i = true := by
    intro l hl hr i
    induction i using Nat.strongRecOn with
    | _ i ih =>
      intro hi
      cases hs : sOf l i with
      | true => rfl
      | false =>
        have : i ∈ Region.ready .any opsA l := by
          rw [mem_ready]
          refine ⟨?_, ops[i], ?_, fun e he hb => ?_⟩
          · have : l.getD i true = l.getD i false := by simp [Array.getD, hl, hi]
            rw [this]; exact hs
          · rw [← Array.getElem?_toList, hops]; exact List.getElem?_eq_getElem hi
          · have hlt := D.back i _ e (List.getElem?_eq_getElem hi) (by simpa using he) hb
            exact ih e.on hlt (by omega)
        rw [hr] at this
        cases this
  intro fuel
  induction fuel with
  | zero =>
    intro l a w ρ k hl hc hI
    have hS : ∀ i, i < ops.length → l[i]? = some true := by
      intro i hi
      have hlt : i < l.size := by omega
      have := List.countP_eq_zero.1 hc l[i] (by simp)
      rw [Array.getElem?_eq_getElem hlt]
      simpa using this
    have hr : Region.ready .any opsA l = [] := by
      cases hr : Region.ready .any opsA l with
      | nil => rfl
      | cons x xs =>
        have hx : x ∈ Region.ready .any opsA l := by rw [hr]; simp
        obtain ⟨h1, o, h2, _⟩ := mem_ready.1 hx
        have hx2 : x < opsA.size := (Array.getElem?_eq_some_iff.1 h2).1
        have := hS x (by omega)
        have hlt : x < l.size := by omega
        rw [Array.getElem?_eq_getElem hlt] at this
        simp [Array.getD, hlt] at h1
        rw [h1] at this
        cases this
    exact ⟨hr, hQ _ a w ρ k (hall l hl hr) hI⟩
  | succ fuel ih =>
    intro l a w ρ k hl hc hI
    refine ⟨fun hr => hQ _ a w ρ k (hall l hl hr) hI, fun i hi => ?_⟩
    obtain ⟨h1, o, h2, h3⟩ := mem_ready.1 hi
    have ho : ops[i]? = some o := by rw [← hops, Array.getElem?_toList]; exact h2
    have hilt := (List.getElem?_eq_some_iff.1 ho).1
    have hS : sOf l i = false := by
      have : l.getD i true = l.getD i false := by simp [Array.getD, hl, hilt]
      unfold sOf
      rw [← this]
      exact h1
    refine hI.step hC hf hG D hrd hops ho hS (fun e he hb => h3 e (by simpa using he) hb) fun a' w' ρ' k' hI' => ?_
    exact ih _ a' w' ρ' k' (by simpa using hl) (count_set (by omega) h1 hc) (by rw [sOf_set (by omega)]; exact hI')

end Run

/-- A statement whose order is open: the machine's run tells of any order. -/
theorem draw_ok {T' : Fr} {h' : Hp} {opsA : Array Oper} {id : Nat} {ρ : Rho} {a : Act} {w : World} {Q : Exit → Act → World → Prop} (hmo : P.follows .mixedOrders = true) (hC : CallOk P call) (hr : Rel P ρ h0 w) (hf : Free ρ h0.next) (hG : P.globals.size ≤ h0.next)
    (ht : TR ρ nt T0 a) (hrun : (drawC P nt opsA.toList).use call T0 h0 = .ok .normal T' h') (hQ : ∀ ρ' a' w', a' = { a with tmps := a'.tmps } → TR ρ' nt T' a' → Stp P ρ h0 w ρ' h' w' → Q .normal a' w') : (Code.region id opsA true).wp P Q a w := by
  refine wp_region_any hmo ?_
  unfold drawC at hrun
  cases hd : drawOk P opsA.toList with
  | false => rw [hd, cond_false] at hrun; cases hrun
  | true =>
    rw [hd, cond_true] at hrun
    have D := drawOk_ok hd
    change (match (runC P nt opsA.toList (infos P opsA.toList)).use call ⟨h0.next, T0, ⟨h0.t, h0.next + makers P opsA.toList⟩, [], [], [], []⟩ with
      | some s => bif readsOk P s.al (s.h :: s.hs) s.eb s.rd then Out.ok .normal s.T (addPd s.h (loosePd s.al s.eb)) else .bad
      | none => .bad) = .ok .normal T' h' at hrun
    split at hrun
    · rename_i s hs
      cases hrd : readsOk P s.al (s.h :: s.hs) s.eb s.rd with
      | false => rw [hrd, cond_false] at hrun; cases hrun
      | true =>
        rw [hrd, cond_true] at hrun
        cases hrun
        obtain ⟨R, hR⟩ := run_of hs
        subst hR
        have hn : opsA.toList.length = opsA.size := by simp
        refine Run.Inv.any (R := R) (ρ0 := ρ) (w0 := w) (a0 := a) hC hf hG D hrd rfl (fun S a' w' ρ' k hall hI => ?_) opsA.size _ a _ ρ 0 (by simp) (by simp [List.countP_replicate]) ?_
        · have hsame := R.e_same (i := opsA.toList.length) (k := k) (Nat.le_refl _) hI.kn fun e he => by
            have h1 := Run.lt_len he
            have h2 := (hI.ek e he).1 (hall e h1)
            omega
          have hl : R.loose S k = loosePd (R.t opsA.toList.length).al (R.t opsA.toList.length).eb := by
            rw [loosePd_eq]
            unfold Run.loose
            refine List.filter_congr fun p hp => ?_
            rw [hall p.ix (R.pdn hp).lt, ← hsame.2.1]
            simp
          have hh : R.hp S k = addPd (R.t opsA.toList.length).h (loosePd (R.t opsA.toList.length).al (R.t opsA.toList.length).eb) := by
            unfold Run.hp
            rw [hl, hsame.1]
          have hlast : ∀ t m, m ≤ opsA.toList.length → R.lastW S t m = R.lastW (fun _ => true) t m := by
            intro t m
            induction m with
            | zero => intro _; rfl
            | succ m ih =>
              intro hm
              simp only [Run.lastW]
              rw [ih (by omega), hall m (by omega)]
              simp
          refine hQ ρ' a' w' hI.act ⟨hI.tsz, fun t _ => ?_, fun t htt => ?_⟩ ⟨by rw [← hh]; exact hI.rel, fun j hj => ?_, ?_, hI.size, hI.frame, by rw [← hh]; exact hI.prov, by rw [← hh]; exact hI.here, hI.os, hI.tape, hI.output⟩
          · have := hI.tm t
            rw [hlast t _ (Nat.le_refl _), ← R.text_T t _ (Nat.le_refl _)] at this
            exact this
          · have : ∀ m, m ≤ opsA.toList.length → (R.t m).T.get t = none := by
              intro m
              induction m with
              | zero => intro _; rw [R.zero]; exact ht.out t htt
              | succ m ih =>
                intro hm
                have ho : opsA.toList[m]? = some opsA.toList[m] := List.getElem?_eq_getElem (by omega)
                rw [(R.step m _ ho).2.facts.2.1]
                have hst := (R.step m _ ho).1
                cases hdst : opsA.toList[m].dst with
                | none =>
                  rw [hdst] at hst
                  simp only [dstC, Option.some.injEq, Cm.mk.injEq] at hst
                  rw [← hst]
                  exact ih (by omega)
                | some d =>
                  have hlt := R.dst_lt ho hdst
                  rw [hdst] at hst
                  simp only [dstC] at hst
                  rw [show Nat.blt d nt = true by rw [Nat.blt_eq]; exact hlt, cond_true] at hst
                  simp only [Option.some.injEq, Cm.mk.injEq] at hst
                  rw [← hst, Tree.get_put, if_neg (by omega)]
                  exact ih (by omega)
            exact this _ (Nat.le_refl _)
          · rw [addPd_next, hsame.1] at hj
            exact hI.keep j hj
          · rw [addPd_next, hsame.1]
            have := hI.nx
            omega
        · have hl : R.loose (Run.sOf (Array.replicate opsA.size false)) 0 = [] := by
            unfold Run.loose
            rw [List.filter_eq_nil_iff]
            intro p _
            simp [Run.sOf, Array.getD]
          have hs0 : ∀ j, Run.sOf (Array.replicate opsA.size false) j = false := by
            intro j
            simp [Run.sOf, Array.getD]
          have hh : ∀ j, (R.hp (Run.sOf (Array.replicate opsA.size false)) 0).get j = h0.get j := by
            intro j
            unfold Run.hp
            rw [hl, R.zero]
            rfl
          have hsub : ∀ j q, (R.hp (Run.sOf (Array.replicate opsA.size false)) 0).get j = some q → h0.get j = some q := fun j q hj => by rw [← hh]; exact hj
          refine ⟨Nat.zero_le _, fun e _ => by rw [hs0]; simp, fun j hj => (by rw [hs0] at hj; cases hj), (hr.less hsub).same rfl, by rw [R.zero]; exact Nat.le_refl _, by rw [hl]; simp, fun j hj _ => hf _ (Run.idOf_lt hj).1, fun _ _ => ⟨rfl, rfl⟩, Nat.le_refl _, fun _ _ _ => rfl,
            fun b _ ⟨j, q, s, h1, h2, h3⟩ => ⟨j, q, s, hsub j q h1, h2, h3⟩, fun b _ ⟨j, q, s, h1, h2⟩ => ⟨j, q, s, hsub j q h1, h2⟩, rfl, rfl, rfl, ht.size, fun t => ?_, rfl⟩
          have : ∀ m, R.lastW (Run.sOf (Array.replicate opsA.size false)) t m = tmpV T0 t := by
            intro m
            induction m with
            | zero => rfl
            | succ m ih =>
              simp only [Run.lastW]
              rw [hs0, if_neg (by simp), ih]
          rw [this]
          exact ht.tmp t
    · cases hrun

end
end Vm
end Go.Proofs.YtdgopiffbhlhoaaGreatDoor
