/- Statements whose order is open: effects; reads. -/
import Derived.Test.YtdgopiffbhlhoaaGreatDoorVmG
namespace Go.Proofs.YtdgopiffbhlhoaaGreatDoor
open Go
namespace Vm
section
variable {P : Program} {nt : Nat} {ops : List Oper} {call : CallFn} {T0 : Fr} {h0 : Hp}
namespace Run
variable {R : Run P nt ops call T0 h0} {ρ0 ρ : Rho} {w0 w : World} {a0 a : Act} {S : Nat → Bool} {k i : Nat} {o : Oper}

/-- Where an effect is ready, all effects ahead of it are listed, and none behind it. -/
theorem Inv.at_e (hI : R.Inv ρ0 w0 a0 S a w ρ k) (D : DrawOk P ops) (hS : S i = false) (hm : ∀ j, (msk ops i).testBit j = true → S j = true) (hE : IsE P ops i) : ∀ e, IsE P ops e → (e < i ↔ e < k) := by
  intro e he
  rw [← hI.ek e he]
  constructor
  · intro hlt
    exact hm e (D.chain i e hE he hlt)
  · intro hSe
    rcases Nat.lt_trichotomy e i with h | h | h
    · exact h
    · subst h; rw [hS] at hSe; cases hSe
    · have := hI.cl e hSe i (D.chain e i he hE h)
      rw [hS] at this
      cases this

theorem lt_len {i : Nat} (h : IsE P ops i) : i < ops.length := by
  obtain ⟨o, h1, _⟩ := h
  exact (List.getElem?_eq_some_iff.1 h1).1

/-- One that acts: the machine's heap ahead of it is its view, the one behind it what is told. -/
theorem Inv.effect (hI : R.Inv ρ0 w0 a0 S a w ρ k) (hf : Free ρ0 h0.next) (D : DrawOk P ops) (ho : ops[i]? = some o) (hS : S i = false) (hm : ∀ j, (msk ops i).testBit j = true → S j = true) (hE : IsE P ops i)
    {ρ' : Rho} {x : Value} {w' : World} (hx : VR ρ' (R.W i) x) (hs : Stp P ρ (R.vw k (msk ops i)) w ρ' (R.t (i + 1)).h w') : R.Inv ρ0 w0 a0 (ins S i) (a.put o.dst x) w' ρ' (i + 1) := by
  have hlt := lt_len hE
  have hate := hI.at_e D hS hm hE
  obtain ⟨_, heb, _⟩ := R.e_same (i := i) (k := k) (by omega) hI.kn hate
  have hfree : Free ρ (R.vw k (msk ops i)).next := by rw [R.vw_next]; exact hI.free hf
  have hsub := hs.sub hfree
  have hnx := hI.nx
  have hle := hs.le
  rw [R.vw_next] at hle
  have hstep : (R.t (i + 1)).eb = msk ops i :: (R.t i).eb := by
    rcases R.e_step hlt with ⟨hn, _⟩ | ⟨_, h, _⟩
    · exact absurd hE hn
    · exact h
  have hab : ∀ x, anyBit x (R.t (i + 1)).eb = false ↔ (msk ops i).testBit x = false ∧ anyBit x (R.t k).eb = false := by
    intro x
    rw [hstep, heb]
    have e : anyBit x (msk ops i :: (R.t k).eb) = (bif (msk ops i).testBit x then true else anyBit x (R.t k).eb) := rfl
    rw [e]
    cases (msk ops i).testBit x <;> simp
  have hnA : ¬ IsA P ops i := by
    intro hA
    obtain ⟨o1, k1, k2⟩ := hE
    obtain ⟨o2, k3, k4⟩ := hA
    rw [k1] at k3
    cases k3
    rw [k2] at k4
    cases k4
  have hfl : ∀ p, p ∈ R.loose (ins S i) (i + 1) → p ∈ R.loose S k ∧ (msk ops i).testBit p.ix = false := by
    intro p hp
    obtain ⟨h1, h2, h3⟩ := R.mem_loose.1 hp
    have hne : p.ix ≠ i := fun e => hnA (e ▸ (R.pdn h1).isA)
    rw [ins_ne S hne] at h2
    obtain ⟨h4, h5⟩ := (hab _).1 h3
    exact ⟨R.mem_loose.2 ⟨h1, h2, h5⟩, h4⟩
  -- a block beside the view isn't in the view
  have hfar : ∀ p, p ∈ R.loose (ins S i) (i + 1) → ∀ b s, ρ p.id = some (b, s) → ¬ InH ρ (R.vw k (msk ops i)) b := by
    rintro p hp b s hb ⟨j, q, s', h1, h2⟩
    obtain ⟨hpl, hbit⟩ := hfl p hp
    have h3 := hI.vw_sub hm j q h1
    have h4 := R.hp_loose hpl
    have := hI.rel.inj j p.id q p.ob b s' s h3 h4 h2 hb
    subst this
    rcases addPd_or _ _ h1 with ⟨r, g1, g2, _⟩ | ⟨g1, g2⟩
    · obtain ⟨m1, m2, m3⟩ := mem_view.1 g1
      have := R.al_uniq (R.mem_loose.1 hpl).1 m1 g2
      subst this
      rw [hbit] at m2
      cases m2
    · rw [hI.apart p hpl] at g2
      cases g2
  have hold : ∀ p, p ∈ R.loose (ins S i) (i + 1) → ∃ b s, ρ p.id = some (b, s) ∧ ρ' p.id = some (b, s) ∧ ρ'.room p.id = ρ.room p.id ∧ b < w.heap.size ∧ ObR ρ p.id b s p.ob w := by
    intro p hp
    obtain ⟨b, s, h1, h2⟩ := hI.rel.ob p.id p.ob (R.hp_loose (hfl p hp).1)
    exact ⟨b, s, h1, (hsub _ _ h1).1, (hsub _ _ h1).2, hI.rel.low _ _ _ h1, h2⟩
  have hapart : ∀ p, p ∈ R.loose (ins S i) (i + 1) → (R.t (i + 1)).h.get p.id = none := by
    intro p hp
    cases hg : (R.t (i + 1)).h.get p.id with
    | none => rfl
    | some q =>
      obtain ⟨b, s, h1, h2, _, h3, _⟩ := hold p hp
      exact absurd (hs.here b h3 ⟨p.id, q, s, hg, h2⟩) (hfar p hp b s h1)
  have hcase : ∀ j q, (R.hp (ins S i) (i + 1)).get j = some q → (∃ p, p ∈ R.loose (ins S i) (i + 1) ∧ p.id = j ∧ p.ob = q) ∨ (R.t (i + 1)).h.get j = some q := by
    intro j q hj
    rcases addPd_or _ _ hj with ⟨p, h1, h2, h3⟩ | ⟨_, h2⟩
    · exact .inl ⟨p, h1, h2, h3⟩
    · exact .inr h2
  have howned : ∀ b, Owned ρ (R.vw k (msk ops i)) b → Owned ρ (R.hp S k) b := fun b ⟨j, q, s, h1, h2, h3⟩ => ⟨j, q, s, hI.vw_sub hm j q h1, h2, h3⟩
  have hinh : ∀ b, InH ρ (R.vw k (msk ops i)) b → InH ρ (R.hp S k) b := fun b ⟨j, q, s, h1, h2⟩ => ⟨j, q, s, hI.vw_sub hm j q h1, h2⟩
  have hrel : Rel P ρ' (R.hp (ins S i) (i + 1)) w' := by
    refine ⟨fun j q hj => ?_, fun j j' q q' b s s' hj hj' hb hb' => ?_, hs.rel.low, hs.rel.glob⟩
    · rcases hcase j q hj with ⟨p, hp, rfl, rfl⟩ | hj
      · obtain ⟨b, s, h1, h2, h3, h4, h5⟩ := hold p hp
        refine ⟨b, s, h2, h5.mono h3 hsub (hs.frame b h4 fun ⟨j', q', s', g1, g2, _⟩ => hfar p hp b s h1 ⟨j', q', s', g1, g2⟩)⟩
      · exact hs.rel.ob j q hj
    · rcases hcase j q hj with ⟨p, hp, rfl, rfl⟩ | hj <;> rcases hcase j' q' hj' with ⟨p', hp', rfl, rfl⟩ | hj'
      · obtain ⟨b1, s1, h1, h2, _, _, _⟩ := hold p hp
        obtain ⟨b2, s2, h3, h4, _, _, _⟩ := hold p' hp'
        rw [h2] at hb
        rw [h4] at hb'
        cases hb
        cases hb'
        exact hI.rel.inj _ _ _ _ _ _ _ (R.hp_loose (hfl p hp).1) (R.hp_loose (hfl p' hp').1) h1 h3
      · obtain ⟨b1, s1, h1, h2, _, h3, _⟩ := hold p hp
        rw [h2] at hb
        cases hb
        exact absurd (hs.here b h3 ⟨j', q', s', hj', hb'⟩) (hfar p hp b s h1)
      · obtain ⟨b1, s1, h1, h2, _, h3, _⟩ := hold p' hp'
        rw [h2] at hb'
        cases hb'
        exact absurd (hs.here b h3 ⟨j, q, s, hj, hb⟩) (hfar p' hp' b s' h1)
      · exact hs.rel.inj _ _ _ _ _ _ _ hj hj' hb hb'
  refine ⟨by omega, fun e he => ?_, hI.cl.ins hm, hrel, by omega, hapart, fun j hj hSj => ?_, fun j hj => ?_, by have := hI.size; have := hs.size; omega, fun b hb hno => ?_, fun b hb how => ?_, fun b hb how => ?_,
    hs.os.trans hI.os, hs.tape.trans hI.tape, hs.output.trans hI.output, by rw [put_size]; exact hI.tsz, hI.tm_ins D ho hS hsub hx, put_act _ _ hI.act⟩
  · by_cases hei : e = i
    · subst hei
      simp [ins_self]
    · rw [ins_ne S hei, hI.ek e he, ← hate e he]
      omega
  · have e : j ≠ i := fun e => by subst e; rw [ins_self] at hSj; cases hSj
    rw [ins_ne S e] at hSj
    have hrng := idOf_lt (h0 := h0) hj
    rw [(hs.keep _ (by rw [R.vw_next]; omega)).1]
    exact hI.fresh j hj hSj
  · have h1 := hs.keep j (by rw [R.vw_next]; omega)
    have h2 := hI.keep j (by omega)
    exact ⟨h1.1.trans h2.1, h1.2.trans h2.2⟩
  · have hsz := hI.size
    rw [hs.frame b (by omega) fun how => hno (hI.prov b hb (howned b how))]
    exact hI.frame b hb hno
  · have hsz := hI.size
    obtain ⟨j, q, s, h1, h2, h3⟩ := how
    rcases hcase j q h1 with ⟨p, hp, rfl, rfl⟩ | h1
    · obtain ⟨b1, s1, g1, g2, _, _, _⟩ := hold p hp
      rw [h2] at g2
      cases g2
      exact hI.prov b hb ⟨_, _, _, R.hp_loose (hfl p hp).1, g1, h3⟩
    · exact hI.prov b hb (howned b (hs.prov b (by omega) ⟨j, q, s, h1, h2, h3⟩))
  · have hsz := hI.size
    obtain ⟨j, q, s, h1, h2⟩ := how
    rcases hcase j q h1 with ⟨p, hp, rfl, rfl⟩ | h1
    · obtain ⟨b1, s1, g1, g2, _, _, _⟩ := hold p hp
      rw [h2] at g2
      cases g2
      exact hI.here b hb ⟨_, _, _, R.hp_loose (hfl p hp).1, g1⟩
    · exact hI.here b hb (hinh b (hs.here b (by omega) ⟨j, q, s, h1, h2⟩))

/-! ### Reads -/

mutual
theorem same_eq : ∀ (a b : V), a.same b = true → a = b
  | .bool a, b, h => by cases b <;> simp_all [V.same]
  | .int j a, b, h => by cases b <;> simp_all [V.same]
  | .flt j a, b, h => by cases b <;> simp_all [V.same]
  | .cpx j a c, b, h => by cases b <;> simp_all [V.same]
  | .str a, b, h => by cases b <;> simp_all [V.same]
  | .nilp, b, h => by cases b <;> simp_all [V.same]
  | .ptr a c, b, h => by cases b <;> simp_all [V.same]
  | .nils, b, h => by cases b <;> simp_all [V.same]
  | .slc a c l d, b, h => by cases b <;> simp_all [V.same]
  | .nilm, b, h => by cases b <;> simp_all [V.same]
  | .map a, b, h => by cases b <;> simp_all [V.same]
  | .fn f x y, b, h => by cases b <;> simp_all [V.same]
  | .nilFn, b, h => by cases b <;> simp_all [V.same]
  | .iface t v, b, h => by
    cases b <;> simp [V.same] at h
    obtain ⟨rfl, h2⟩ := h
    rw [same_eq v _ h2]
  | .nilIf, b, h => by cases b <;> simp_all [V.same]
  | .agg a, b, h => by
    cases b <;> simp [V.same] at h
    rw [sames_eq a _ h]
  | .tup a, b, h => by
    cases b <;> simp [V.same] at h
    rw [sames_eq a _ h]
theorem sames_eq : ∀ (a b : List V), sames a b = true → a = b
  | [], [], _ => rfl
  | [], _ :: _, h => by simp [sames] at h
  | _ :: _, [], h => by simp [sames] at h
  | a :: as, b :: bs, h => by
    simp only [sames, Bool.and_eq_true] at h
    rw [same_eq a b h.1, sames_eq as bs h.2]
end

theorem readAt_ok {al : List Pd} {f : Inf} {T : Fr} {v : V} : ∀ {hs : List Hp} {eb : List Nat}, readAt P al f T v hs eb = true → ∀ p h r, hs.drop p = h :: r → f.lo ≤ (eb.drop p).length → (eb.drop p).length ≤ f.hi →
    ∃ h', (opC P f.op).use T (addPd h (viewPd al (eb.drop p) f.b)) = some (.val v h')
  | [], _, _, p, h, r, hd, _, _ => by simp at hd
  | g :: hs, eb, hr, 0, h, r, hd, h1, h2 => by
    simp only [List.drop_zero, List.cons.injEq] at hd
    obtain ⟨rfl, rfl⟩ := hd
    simp only [List.drop_zero] at h1 h2 ⊢
    simp only [readAt, Bool.and_eq_true] at hr
    have h3 := hr.1
    rw [len_eq, Nat.ble_eq_true_of_le h1, Nat.ble_eq_true_of_le h2] at h3
    simp only [Bool.and_self, cond_true] at h3
    split at h3
    · rename_i u h' he
      rw [← same_eq _ _ h3]
      exact ⟨h', he⟩
    · cases h3
  | g :: hs, eb, hr, p + 1, h, r, hd, h1, h2 => by
    simp only [readAt, Bool.and_eq_true] at hr
    have e : eb.drop (p + 1) = eb.tail.drop p := by cases eb <;> simp
    rw [e] at h1 h2 ⊢
    exact readAt_ok hr.2 p h r (by simpa using hd) h1 h2

theorem readsOk_mem {al : List Pd} {hs : List Hp} {eb : List Nat} : ∀ {rd : List (Inf × Fr × V)}, readsOk P al hs eb rd = true → ∀ f T v, (f, T, v) ∈ rd → readAt P al f T v hs eb = true
  | [], _, f, T, v, hm => by simp at hm
  | (f', T', v') :: rd, h, f, T, v, hm => by
    simp only [readsOk, Bool.and_eq_true] at h
    rcases List.mem_cons.1 hm with e | hm
    · cases e; exact h.1
    · exact readsOk_mem h.2 f T v hm

theorem rd_grow : ∀ (d i : Nat), i + d ≤ ops.length → ∀ x, x ∈ (R.t i).rd → x ∈ (R.t (i + d)).rd
  | 0, _, _, _, hx => hx
  | d + 1, i, h, x, hx => by
    have := rd_grow d i (by omega) x hx
    have ho : ops[i + d]? = some ops[i + d] := List.getElem?_eq_getElem (by omega)
    rcases (R.step (i + d) _ ho).2.facts.2.2.2.2 with e | e
    · rw [← Nat.add_assoc, e]; exact this
    · rw [← Nat.add_assoc, e]; exact List.mem_cons_of_mem _ this

theorem countBits_eq (b : Nat) : ∀ (es : List Nat), countBits b es = es.countP fun e => b.testBit e
  | [] => rfl
  | e :: es => by
    simp only [countBits, List.countP_cons, countBits_eq b es]
    split <;> simp_all

theorem countFree_eq (i : Nat) : ∀ (es : List Nat), countFree i (es.map (msk ops)) = es.countP fun e => !(msk ops e).testBit i
  | [] => rfl
  | e :: es => by
    simp only [List.map_cons, countFree, List.countP_cons, countFree_eq i es]
    split <;> simp_all

/-- How many effects come ahead of a place that a ready operation may be at. -/
theorem Inv.window (hI : R.Inv ρ0 w0 a0 S a w ρ k) (hS : S i = false) (hm : ∀ j, (msk ops i).testBit j = true → S j = true) : countBits (msk ops i) (effects P ops 0) ≤ (R.t k).eb.length ∧ (R.t k).eb.length ≤ countFree i ((effects P ops 0).map (msk ops)) := by
  rw [R.eb_length k hI.kn, countBits_eq, countFree_eq]
  constructor
  · refine List.countP_mono_left fun e he hb => ?_
    exact decide_eq_true ((hI.ek e (isE_mem.1 he)).1 (hm e hb))
  · refine List.countP_mono_left fun e he hb => ?_
    have hlt := of_decide_eq_true hb
    have hSe := (hI.ek e (isE_mem.1 he)).2 hlt
    cases hbit : (msk ops e).testBit i with
    | false => rfl
    | true =>
      have := hI.cl e hSe i hbit
      rw [hS] at this
      cases this

theorem countP_same {α : Type} (p q : α → Bool) : ∀ (l : List α), (∀ x ∈ l, p x = true → q x = true) → l.countP p = l.countP q → ∀ x ∈ l, q x = true → p x = true
  | [], _, _, _, hx, _ => by simp at hx
  | y :: l, hpq, hc, x, hx, hq => by
    have hmono : l.countP p ≤ l.countP q := List.countP_mono_left fun z hz => hpq z (by simp [hz])
    rw [List.countP_cons, List.countP_cons] at hc
    have hy := hpq y (by simp)
    have hyy : p y = q y := by
      cases h1 : p y <;> cases h2 : q y
      · rfl
      · rw [h1, h2] at hc; simp at hc; omega
      · rw [h1, h2] at hy; exact absurd (hy rfl) (by decide)
      · rfl
    rcases List.mem_cons.1 hx with rfl | hx
    · rw [hyy]; exact hq
    · refine countP_same p q l (fun z hz => hpq z (by simp [hz])) ?_ x hx hq
      rw [hyy] at hc
      omega

/-- Where the window has one place, it is that of the text. -/
theorem Inv.at_r (hI : R.Inv ρ0 w0 a0 S a w ρ k) (D : DrawOk P ops) (ho : ops[i]? = some o) (hS : S i = false) (hm : ∀ j, (msk ops i).testBit j = true → S j = true)
    (hl : countBits (msk ops i) (effects P ops 0) = countFree i ((effects P ops 0).map (msk ops))) : ∀ e, IsE P ops e → (e < i ↔ e < k) := by
  have hlt := (List.getElem?_eq_some_iff.1 ho).1
  have hw := hI.window hS hm
  have hk : (effects P ops 0).countP (fun e => (msk ops i).testBit e) = (effects P ops 0).countP fun e => decide (e < k) := by
    rw [R.eb_length k hI.kn] at hw
    rw [countBits_eq] at hw hl
    omega
  have h1 : ∀ e ∈ effects P ops 0, (msk ops i).testBit e = true → decide (e < k) = true := fun e he hb => decide_eq_true ((hI.ek e (isE_mem.1 he)).1 (hm e hb))
  have hi1 : ∀ e ∈ effects P ops 0, (msk ops i).testBit e = true → decide (e < i) = true := fun e _ hb => decide_eq_true (D.lt hb)
  have hi2 : (effects P ops 0).countP (fun e => decide (e < i)) ≤ (effects P ops 0).countP fun e => !(msk ops e).testBit i := by
    refine List.countP_mono_left fun e he hb => ?_
    have := of_decide_eq_true hb
    cases hbit : (msk ops e).testBit i with
    | false => rfl
    | true => have := D.lt hbit; omega
  have hi3 : (effects P ops 0).countP (fun e => (msk ops i).testBit e) ≤ (effects P ops 0).countP fun e => decide (e < i) := List.countP_mono_left hi1
  have hi : (effects P ops 0).countP (fun e => (msk ops i).testBit e) = (effects P ops 0).countP fun e => decide (e < i) := by
    rw [countBits_eq, countFree_eq] at hl
    omega
  intro e he
  have hem := isE_mem.2 he
  constructor
  · intro h
    exact of_decide_eq_true (h1 e hem (countP_same _ _ _ hi1 hi e hem (decide_eq_true h)))
  · intro h
    exact of_decide_eq_true (hi1 e hem (countP_same _ _ _ h1 hk e hem (decide_eq_true h)))

end Run
end
end Vm
end Go.Proofs.YtdgopiffbhlhoaaGreatDoor
