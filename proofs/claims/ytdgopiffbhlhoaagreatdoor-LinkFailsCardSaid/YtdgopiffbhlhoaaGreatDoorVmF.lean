/- Statements whose order is open: whatever is listed, the machine's run tells of it. -/
import Derived.Test.YtdgopiffbhlhoaaGreatDoorVmE
namespace Go.Proofs.YtdgopiffbhlhoaaGreatDoor
open Go
namespace Vm

/-! ### Heaps with blocks beside them -/

theorem addPd_next (h : Hp) : ∀ (l : List Pd), (addPd h l).next = h.next
  | [] => rfl
  | p :: l => by
    have e : addPd h (p :: l) = (addPd h l).set p.id p.ob := rfl
    rw [e, Hp.next_set, addPd_next h l]

theorem addPd_or (h : Hp) : ∀ (l : List Pd) {j : Nat} {o : Ob}, (addPd h l).get j = some o → (∃ p ∈ l, p.id = j ∧ p.ob = o) ∨ ((∀ p ∈ l, p.id ≠ j) ∧ h.get j = some o)
  | [], j, o, hg => .inr ⟨fun p hp => by simp at hp, hg⟩
  | p :: l, j, o, hg => by
    have e : addPd h (p :: l) = (addPd h l).set p.id p.ob := rfl
    rw [e, Hp.get_set] at hg
    by_cases hj : j = p.id
    · rw [if_pos hj] at hg
      exact .inl ⟨p, by simp, hj.symm, Option.some.inj hg⟩
    · rw [if_neg hj] at hg
      rcases addPd_or h l hg with ⟨q, h1, h2⟩ | ⟨h1, h2⟩
      · exact .inl ⟨q, by simp [h1], h2⟩
      · refine .inr ⟨fun q hq => ?_, h2⟩
        rcases List.mem_cons.1 hq with rfl | hq
        · exact Ne.symm hj
        · exact h1 q hq

theorem addPd_not (h : Hp) : ∀ (l : List Pd) {j : Nat}, (∀ p ∈ l, p.id ≠ j) → (addPd h l).get j = h.get j
  | [], _, _ => rfl
  | p :: l, j, hn => by
    have e : addPd h (p :: l) = (addPd h l).set p.id p.ob := rfl
    rw [e, Hp.get_set, if_neg (Ne.symm (hn p (by simp))), addPd_not h l fun q hq => hn q (by simp [hq])]

theorem addPd_mem (h : Hp) : ∀ (l : List Pd) {p : Pd}, p ∈ l → (∀ q ∈ l, q.id = p.id → q = p) → (addPd h l).get p.id = some p.ob
  | [], _, hp, _ => by simp at hp
  | q :: l, p, hp, hu => by
    have e : addPd h (q :: l) = (addPd h l).set q.id q.ob := rfl
    rw [e, Hp.get_set]
    by_cases hq : p.id = q.id
    · rw [if_pos hq, hu q (by simp) hq.symm]
    · rw [if_neg hq]
      rcases List.mem_cons.1 hp with rfl | hp
      · exact absurd rfl hq
      · exact addPd_mem h l hp fun q' hq' => hu q' (by simp [hq'])

theorem mem_view {al : List Pd} {eb : List Nat} {b : Nat} {p : Pd} : p ∈ viewPd al eb b ↔ p ∈ al ∧ b.testBit p.ix = true ∧ anyBit p.ix eb = false := by
  induction al with
  | nil => simp [viewPd]
  | cons q al ih =>
    have e : viewPd (q :: al) eb b = (bif b.testBit q.ix then (bif anyBit q.ix eb then viewPd al eb b else q :: viewPd al eb b) else viewPd al eb b) := rfl
    rw [e]
    cases hb : b.testBit q.ix with
    | false =>
      rw [cond_false, ih, List.mem_cons]
      constructor
      · rintro ⟨h1, h2⟩; exact ⟨.inr h1, h2⟩
      · rintro ⟨rfl | h1, h2, h3⟩
        · rw [hb] at h2; cases h2
        · exact ⟨h1, h2, h3⟩
    | true =>
      rw [cond_true]
      cases ha : anyBit q.ix eb with
      | true =>
        rw [cond_true, ih, List.mem_cons]
        constructor
        · rintro ⟨h1, h2⟩; exact ⟨.inr h1, h2⟩
        · rintro ⟨rfl | h1, h2, h3⟩
          · rw [ha] at h3; cases h3
          · exact ⟨h1, h2, h3⟩
      | false =>
        rw [cond_false, List.mem_cons, ih, List.mem_cons]
        constructor
        · rintro (rfl | ⟨h1, h2⟩)
          · exact ⟨.inl rfl, hb, ha⟩
          · exact ⟨.inr h1, h2⟩
        · rintro ⟨rfl | h1, h2⟩
          · exact .inl rfl
          · exact .inr ⟨h1, h2⟩

theorem view_append (eb : List Nat) (b : Nat) : ∀ (l al : List Pd), (∀ p ∈ l, b.testBit p.ix = false) → viewPd (l ++ al) eb b = viewPd al eb b
  | [], _, _ => rfl
  | q :: l, al, h => by
    have e : viewPd (q :: (l ++ al)) eb b = (bif b.testBit q.ix then (bif anyBit q.ix eb then viewPd (l ++ al) eb b else q :: viewPd (l ++ al) eb b) else viewPd (l ++ al) eb b) := rfl
    rw [List.cons_append, e, h q (by simp), cond_false, view_append eb b l al fun p hp => h p (by simp [hp])]

theorem loosePd_eq (eb : List Nat) : ∀ (al : List Pd), loosePd al eb = al.filter fun p => !anyBit p.ix eb
  | [] => rfl
  | q :: al => by
    have e : loosePd (q :: al) eb = (bif anyBit q.ix eb then loosePd al eb else q :: loosePd al eb) := rfl
    rw [e, List.filter_cons, loosePd_eq eb al]
    cases anyBit q.ix eb <;> simp

/-! ### What is looked at -/

section
variable {P : Program} {nt : Nat} {ops : List Oper} {call : CallFn} {T0 : Fr} {h0 : Hp}

structure DrawOk (P : Program) (ops : List Oper) : Prop where
  back : ∀ i o e, ops[i]? = some o → e ∈ o.after.toList → Region.binds .any e = true → e.on < i
  writers : ∀ i j o o' d, ops[i]? = some o → ops[j]? = some o' → o'.dst = some d → d ∈ tmpsOf ops o → (j < i → (msk ops i).testBit j = true) ∧ (i < j → (msk ops j).testBit i = true)
  chain : ∀ i j, Run.IsE P ops i → Run.IsE P ops j → j < i → (msk ops i).testBit j = true

theorem isE_mem {i : Nat} : i ∈ effects P ops 0 ↔ Run.IsE P ops i := by
  rw [mem_effects]
  constructor
  · rintro ⟨j, o, h1, h2, h3⟩; rw [Nat.zero_add] at h2; subst h2; exact ⟨o, h1, h3⟩
  · rintro ⟨o, h1, h2⟩; exact ⟨i, o, h1, by omega, h2⟩

theorem drawOk_ok (h : drawOk P ops = true) : DrawOk P ops := by
  simp only [drawOk, Bool.and_eq_true] at h
  obtain ⟨h1, h2⟩ := h
  refine ⟨fun i o e ho he hb => ?_, fun i j o o' d ho ho' hd hm => ?_, fun i j hi hj hlt => ?_⟩
  · have := (opsOk_at h1 ho).1
    rw [Nat.zero_add] at this
    simp only [edgesOk, List.all_eq_true, Bool.or_eq_true, Bool.not_eq_true', decide_eq_true_eq] at this
    rcases this e he with h | h
    · rw [hb] at h; cases h
    · exact h
  · have := writersOk_at (opsOk_at h1 ho).2 ho' hd hm
    simp only [Nat.zero_add] at this
    exact this
  · simp only [chainOk, List.all_eq_true, Bool.or_eq_true] at h2
    rcases h2 i (isE_mem.2 hi) j (isE_mem.2 hj) with h | h
    · have := ble_le h; omega
    · exact h

theorem DrawOk.lt (D : DrawOk P ops) {i j : Nat} (h : (msk ops i).testBit j = true) : j < i := by
  induction i using Nat.strongRecOn generalizing j with
  | _ i ih =>
    cases ho : ops[i]? with
    | none => rw [msk_none ho] at h; cases h
    | some o =>
      obtain ⟨e, h1, h2, h3⟩ := msk_bit ho h
      have := D.back i o e ho h1 h2
      rcases h3 with rfl | h3
      · exact this
      · have := ih e.on this h3; omega

/-- All that comes ahead of what is listed is listed. -/
def Cl (ops : List Oper) (S : Nat → Bool) : Prop := ∀ i, S i = true → ∀ j, (msk ops i).testBit j = true → S j = true

def ins (S : Nat → Bool) (i : Nat) : Nat → Bool := fun j => if j = i then true else S j
theorem ins_self (S : Nat → Bool) (i : Nat) : ins S i i = true := by simp [ins]
theorem ins_ne (S : Nat → Bool) {i j : Nat} (h : j ≠ i) : ins S i j = S j := by simp [ins, h]

theorem mask_listed {S : Nat → Bool} (hc : Cl ops S) {i : Nat} {o : Oper} (ho : ops[i]? = some o) (hd : ∀ e ∈ o.after.toList, Region.binds .any e = true → S e.on = true) : ∀ j, (msk ops i).testBit j = true → S j = true := by
  intro j hj
  obtain ⟨e, h1, h2, h3⟩ := msk_bit ho hj
  rcases h3 with rfl | h3
  · exact hd e h1 h2
  · exact hc e.on (hd e h1 h2) j h3

theorem Cl.ins {S : Nat → Bool} (hc : Cl ops S) {i : Nat} (hm : ∀ j, (msk ops i).testBit j = true → S j = true) : Cl ops (ins S i) := by
  intro x hx j hj
  by_cases hji : j = i
  · subst hji; exact ins_self S j
  · rw [ins_ne S hji]
    by_cases hxi : x = i
    · subst hxi; exact hm j hj
    · rw [ins_ne S hxi] at hx; exact hc x hx j hj

namespace Run
variable (R : Run P nt ops call T0 h0)

/-! ### Temporaries -/

/-- What a temporary holds, once some operations (by their places) have written. -/
noncomputable def lastW (S : Nat → Bool) (t : Nat) : Nat → V
  | 0 => tmpV T0 t
  | j + 1 => if S j = true ∧ (ops[j]?).bind (·.dst) = some t then R.W j else lastW S t j

theorem tmpV_put (T : Fr) (d t : Nat) (v : V) : tmpV (T.put d (some v)) t = if t = d then v else tmpV T t := by
  rw [tmpV_eq, tmpV_eq, Tree.get_put]
  split <;> rfl

theorem st_tmp {i : Nat} {o : Oper} (ho : ops[i]? = some o) (T : Fr) (t : Nat) (v : V) : tmpV (R.st i v T) t = if o.dst = some t then v else tmpV T t := by
  have h := (R.step i o ho).1
  cases hd : o.dst with
  | none =>
    rw [hd] at h
    simp only [dstC, Option.some.injEq, Cm.mk.injEq] at h
    rw [← h]
    simp
  | some d =>
    rw [hd] at h
    simp only [dstC] at h
    cases hb : Nat.blt d nt with
    | false => rw [hb] at h; cases h
    | true =>
      rw [hb, cond_true] at h
      simp only [Option.some.injEq, Cm.mk.injEq] at h
      rw [← h, tmpV_put]
      by_cases e : t = d
      · subst e; simp
      · rw [if_neg e, if_neg (by simpa using Ne.symm e)]

include R in
theorem dst_lt {i : Nat} {o : Oper} (ho : ops[i]? = some o) {d : Nat} (hd : o.dst = some d) : d < nt := by
  have h := (R.step i o ho).1
  rw [hd] at h
  simp only [dstC] at h
  cases hb : Nat.blt d nt with
  | false => rw [hb] at h; cases h
  | true => exact blt_lt hb

theorem text_T (t : Nat) : ∀ i, i ≤ ops.length → tmpV (R.t i).T t = R.lastW (fun _ => true) t i
  | 0, _ => by rw [R.zero]; rfl
  | i + 1, h => by
    have ho : ops[i]? = some ops[i] := List.getElem?_eq_getElem (by omega)
    rw [(R.step i _ ho).2.facts.2.1, R.st_tmp ho, text_T t i (by omega)]
    simp only [lastW, ho]
    simp

theorem last_up {S : Nat → Bool} (D : DrawOk P ops) (hc : Cl ops S) {i : Nat} {o : Oper} (ho : ops[i]? = some o) (hS : S i = false) {t : Nat} (ht : t ∈ tmpsOf ops o) : ∀ d, R.lastW S t (i + d) = R.lastW S t i
  | 0 => rfl
  | d + 1 => by
    rw [← Nat.add_assoc]
    show (if S (i + d) = true ∧ (ops[i + d]?).bind (·.dst) = some t then R.W (i + d) else R.lastW S t (i + d)) = _
    rw [if_neg, last_up D hc ho hS ht d]
    rintro ⟨h1, h2⟩
    cases ho' : ops[i + d]? with
    | none => rw [ho'] at h2; cases h2
    | some o' =>
      rw [ho'] at h2
      by_cases e : d = 0
      · subst e; rw [Nat.add_zero, hS] at h1; cases h1
      · have := (D.writers i (i + d) o o' t ho ho' h2 ht).2 (by omega)
        have := hc _ h1 _ this
        rw [hS] at this; cases this

theorem last_down {S : Nat → Bool} (D : DrawOk P ops) {i : Nat} {o : Oper} (ho : ops[i]? = some o) (hm : ∀ j, (msk ops i).testBit j = true → S j = true) {t : Nat} (ht : t ∈ tmpsOf ops o) : ∀ m, m ≤ i → R.lastW S t m = R.lastW (fun _ => true) t m
  | 0, _ => rfl
  | m + 1, h => by
    show (if S m = true ∧ (ops[m]?).bind (·.dst) = some t then R.W m else R.lastW S t m) = (if true = true ∧ (ops[m]?).bind (·.dst) = some t then R.W m else R.lastW (fun _ => true) t m)
    rw [last_down D ho hm ht m (by omega)]
    by_cases hd : (ops[m]?).bind (·.dst) = some t
    · have hS : S m = true := by
        cases ho' : ops[m]? with
        | none => rw [ho'] at hd; cases hd
        | some o' => rw [ho'] at hd; exact hm m ((D.writers i m o o' t ho ho' hd ht).1 (by omega))
      simp [hd, hS]
    · simp [hd]

/-- An operation that is ready sees what it sees in the text's order. -/
theorem last_eq {S : Nat → Bool} (D : DrawOk P ops) (hc : Cl ops S) {i : Nat} {o : Oper} (ho : ops[i]? = some o) (hS : S i = false) (hm : ∀ j, (msk ops i).testBit j = true → S j = true) {t : Nat} (ht : t ∈ tmpsOf ops o) :
    R.lastW S t ops.length = tmpV (R.t i).T t := by
  have hlt := (List.getElem?_eq_some_iff.1 ho).1
  have := R.last_up D hc ho hS ht (ops.length - i)
  rw [show i + (ops.length - i) = ops.length by omega] at this
  rw [this, R.last_down D ho hm ht i (Nat.le_refl i), R.text_T t i (by omega)]

theorem last_ins {S : Nat → Bool} (D : DrawOk P ops) (hc : Cl ops S) {i : Nat} {o : Oper} (ho : ops[i]? = some o) (hS : S i = false) (t : Nat) : R.lastW (ins S i) t ops.length = if o.dst = some t then R.W i else R.lastW S t ops.length := by
  have hlt := (List.getElem?_eq_some_iff.1 ho).1
  by_cases hd : o.dst = some t
  · rw [if_pos hd]
    have ht : t ∈ tmpsOf ops o := by simp [tmpsOf, hd]
    have : ∀ d, R.lastW (ins S i) t (i + 1 + d) = R.W i := by
      intro d
      induction d with
      | zero =>
        show (if ins S i i = true ∧ (ops[i]?).bind (·.dst) = some t then R.W i else R.lastW (ins S i) t i) = _
        rw [if_pos ⟨ins_self S i, by rw [ho]; exact hd⟩]
      | succ d ih =>
        show (if ins S i (i + 1 + d) = true ∧ (ops[i + 1 + d]?).bind (·.dst) = some t then R.W (i + 1 + d) else R.lastW (ins S i) t (i + 1 + d)) = _
        rw [if_neg, ih]
        rintro ⟨h1, h2⟩
        rw [ins_ne S (by omega)] at h1
        cases ho' : ops[i + 1 + d]? with
        | none => rw [ho'] at h2; cases h2
        | some o' =>
          rw [ho'] at h2
          have := (D.writers i (i + 1 + d) o o' t ho ho' h2 ht).2 (by omega)
          have := hc _ h1 _ this
          rw [hS] at this; cases this
    have := this (ops.length - (i + 1))
    rwa [show i + 1 + (ops.length - (i + 1)) = ops.length by omega] at this
  · rw [if_neg hd]
    have : ∀ m, R.lastW (ins S i) t m = R.lastW S t m := by
      intro m
      induction m with
      | zero => rfl
      | succ m ih =>
        show (if ins S i m = true ∧ (ops[m]?).bind (·.dst) = some t then R.W m else R.lastW (ins S i) t m) = (if S m = true ∧ (ops[m]?).bind (·.dst) = some t then R.W m else R.lastW S t m)
        rw [ih]
        by_cases hm : m = i
        · subst hm
          rw [ho]
          have : ¬ ((some o).bind (·.dst) = some t) := hd
          rw [if_neg (fun h => this h.2), if_neg (fun h => this h.2)]
        · rw [ins_ne S hm]
    exact this _

/-! ### The heap of what is listed -/

noncomputable def loose (S : Nat → Bool) (k : Nat) : List Pd := (R.t ops.length).al.filter fun p => S p.ix && !anyBit p.ix (R.t k).eb
noncomputable def hp (S : Nat → Bool) (k : Nat) : Hp := addPd (R.t k).h (R.loose S k)
noncomputable def vw (k b : Nat) : Hp := addPd (R.t k).h (viewPd (R.t ops.length).al (R.t k).eb b)

theorem mem_loose {S : Nat → Bool} {k : Nat} {p : Pd} : p ∈ R.loose S k ↔ p ∈ (R.t ops.length).al ∧ S p.ix = true ∧ anyBit p.ix (R.t k).eb = false := by
  unfold loose
  rw [List.mem_filter]
  simp

theorem pdn {p : Pd} (hp : p ∈ (R.t ops.length).al) : R.PdOk p ops.length := R.al_ok (Nat.le_refl _) hp

theorem al_uniq {p q : Pd} (hp : p ∈ (R.t ops.length).al) (hq : q ∈ (R.t ops.length).al) (h : q.id = p.id) : q = p := R.pd_id (R.pdn hq) (R.pdn hp) h

theorem hp_loose {S : Nat → Bool} {k : Nat} {p : Pd} (h : p ∈ R.loose S k) : (R.hp S k).get p.id = some p.ob :=
  addPd_mem _ _ h fun _ hq e => R.al_uniq (R.mem_loose.1 h).1 (R.mem_loose.1 hq).1 e

theorem hp_next (S : Nat → Bool) (k : Nat) : (R.hp S k).next = (R.t k).h.next := addPd_next _ _
theorem vw_next (k b : Nat) : (R.vw k b).next = (R.t k).h.next := addPd_next _ _

theorem view_eq (D : DrawOk P ops) {i : Nat} (hi : i ≤ ops.length) : (R.t i).view (msk ops i) = R.vw i (msk ops i) := by
  obtain ⟨l, h1, h2⟩ := R.al_grow (ops.length - i) i (by omega)
  rw [show i + (ops.length - i) = ops.length by omega] at h1
  unfold Rg.view vw
  rw [h1, view_append _ _ l _ fun p hp => ?_]
  have := (h2 p hp).1
  cases hb : (msk ops i).testBit p.ix with
  | false => rfl
  | true => have := D.lt hb; omega

end Run
end
end Vm
end Go.Proofs.YtdgopiffbhlhoaaGreatDoor
