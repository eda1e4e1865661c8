/- Statements whose order is open: what is true of the run in the text's order. -/
import Derived.Test.YtdgopiffbhlhoaaGreatDoorVmD
namespace Go.Proofs.YtdgopiffbhlhoaaGreatDoor
open Go
namespace Vm

section
variable {P : Program} {nt : Nat} {ops : List Oper} {call : CallFn} {T0 : Fr} {h0 : Hp}

theorem StepR.facts {st : StFn} {f : Inf} {s s' : Rg} {v : V} (h : StepR P call ops st f s v s') : s'.base = s.base ∧ s'.T = st v s.T ∧
    ((f.kd ≠ .e ∧ s'.h = s.h ∧ s'.eb = s.eb ∧ s'.hs = s.hs) ∨ (f.kd = .e ∧ s'.eb = f.b :: s.eb ∧ s'.hs = s.h :: s.hs)) ∧
    (s'.al = s.al ∨ (f.kd = .a ∧ ∃ ob g, makeC P f.op = some (.mk g) ∧ g s.T (s.base + f.ai) = some (v, ob) ∧ s'.al = ⟨f.ix, s.base + f.ai, ob⟩ :: s.al)) ∧
    (s'.rd = s.rd ∨ s'.rd = (f, s.T, v) :: s.rd) := by
  cases h with
  | p _ h' hw hk ho => exact ⟨rfl, rfl, .inl ⟨by rw [hk]; decide, rfl, rfl, rfl⟩, .inl rfl, .inl rfl⟩
  | r1 _ h' hw hk hl ho => exact ⟨rfl, rfl, .inl ⟨by rw [hk]; decide, rfl, rfl, rfl⟩, .inl rfl, .inl rfl⟩
  | r2 _ h' hw hk ho => exact ⟨rfl, rfl, .inl ⟨by rw [hk]; decide, rfl, rfl, rfl⟩, .inl rfl, .inr rfl⟩
  | a _ ob g hw hk hm ho => exact ⟨rfl, rfl, .inl ⟨by rw [hk]; decide, rfl, rfl, rfl⟩, .inr ⟨hk, ob, g, hm, ho, rfl⟩, .inl rfl⟩
  | e1 _ h' hw hk ho => exact ⟨rfl, rfl, .inr ⟨hk, rfl, rfl⟩, .inl rfl, .inl rfl⟩
  | e2 _ h' g args hw hk ho hc => exact ⟨rfl, rfl, .inr ⟨hk, rfl, rfl⟩, .inl rfl, .inl rfl⟩
  | skip hw hk => exact ⟨rfl, rfl, .inl ⟨hk, rfl, rfl, rfl⟩, .inl rfl, .inl rfl⟩
  | skipE hw hk => exact ⟨rfl, rfl, .inr ⟨hk, rfl, rfl⟩, .inl rfl, .inl rfl⟩

structure InfR (P : Program) (ops : List Oper) (i : Nat) (o : Oper) (f : Inf) : Prop where
  op : f.op = o
  ix : f.ix = i
  kd : f.kd = kindOf P o
  ai : f.ai = makers P (ops.take i)
  b : f.b = msk ops i
  lo : f.lo = countBits (msk ops i) (effects P ops 0)
  hi : f.hi = countFree i ((effects P ops 0).map (msk ops))

structure Run (P : Program) (nt : Nat) (ops : List Oper) (call : CallFn) (T0 : Fr) (h0 : Hp) where
  t : Nat → Rg
  st : Nat → StFn
  W : Nat → V
  f : Nat → Inf
  zero : t 0 = ⟨h0.next, T0, ⟨h0.t, h0.next + makers P ops⟩, [], [], [], []⟩
  step : ∀ i o, ops[i]? = some o → dstC nt o.dst = some (.mk (st i)) ∧ StepR P call ops (st i) (f i) (t i) (W i) (t (i + 1))
  inf : ∀ i o, ops[i]? = some o → InfR P ops i o (f i)
  gd : ∀ i o, ops[i]? = some o → GdOk ops o (t i).T

theorem run_of {s' : Rg} (h : (runC P nt ops (infos P ops)).use call ⟨h0.next, T0, ⟨h0.t, h0.next + makers P ops⟩, [], [], [], []⟩ = some s') : ∃ R : Run P nt ops call T0 h0, R.t ops.length = s' := by
  obtain ⟨t, h1, h2, h3⟩ := run_trace h
  have hinf : ∀ i : Nat, ∃ f : Inf, ∀ o, ops[i]? = some o → (infos P ops)[i]? = some f ∧ InfR P ops i o f := by
    intro i
    cases ho : ops[i]? with
    | none => exact ⟨⟨⟨none, .alloc 0, 0, "", #[], none⟩, 0, .p, 0, 0, 0, 0⟩, fun o h => by cases h⟩
    | some o =>
      obtain ⟨f, g1, g2, g3, g4, g5, g6, g7, g8⟩ := infos_at (P := P) (ms := masks ops) (es := effects P ops 0) (em := (effects P ops 0).map fun i => (masks ops).getD i 0) (n := 0) (m := 0) ho
      refine ⟨f, fun o' h => ?_⟩
      cases h
      exact ⟨g1, g2, by omega, g4, by omega, by rw [g6, Nat.zero_add]; rfl, by rw [g7, Nat.zero_add]; rfl, by rw [g8, Nat.zero_add]; rfl⟩
  obtain ⟨f, hf⟩ : ∃ f : Nat → Inf, ∀ i o, ops[i]? = some o → (infos P ops)[i]? = some (f i) ∧ InfR P ops i o (f i) := ⟨fun i => Classical.choose (hinf i), fun i => Classical.choose_spec (hinf i)⟩
  have hst : ∀ i : Nat, ∃ q : StFn × V, ∀ o, ops[i]? = some o → dstC nt o.dst = some (.mk q.1) ∧ StepR P call ops q.1 (f i) (t i) q.2 (t (i + 1)) := by
    intro i
    cases ho : ops[i]? with
    | none => exact ⟨⟨fun _ T => T, undf⟩, fun o h => by cases h⟩
    | some o =>
      obtain ⟨g1, g2⟩ := hf i o ho
      obtain ⟨st, v, k1, k2⟩ := step_ok (h3 i _ g1)
      refine ⟨⟨st, v⟩, fun o' h => ?_⟩
      cases h
      exact ⟨by rw [← g2.op]; exact k1, k2⟩
  refine ⟨⟨t, fun i => (Classical.choose (hst i)).1, fun i => (Classical.choose (hst i)).2, f, h1, fun i o ho => Classical.choose_spec (hst i) o ho, fun i o ho => (hf i o ho).2, fun i o ho => by rw [← (hf i o ho).2.op]; exact step_gd (h3 i _ (hf i o ho).1)⟩, ?_⟩
  have hl : (infos P ops).length = ops.length := infos_length ops 0 0
  rw [← h2, hl]

namespace Run
variable (R : Run P nt ops call T0 h0)

theorem base : ∀ i, i ≤ ops.length → (R.t i).base = h0.next
  | 0, _ => by rw [R.zero]
  | i + 1, h => by
    have := (R.step i _ (List.getElem?_eq_getElem (by omega))).2.facts.1
    rw [this, base i (by omega)]

def IsE (P : Program) (ops : List Oper) (i : Nat) : Prop := ∃ o, ops[i]? = some o ∧ kindOf P o = .e
def IsA (P : Program) (ops : List Oper) (i : Nat) : Prop := ∃ o, ops[i]? = some o ∧ kindOf P o = .a

/-- The number that is kept for a maker's block. -/
noncomputable def idOf (P : Program) (ops : List Oper) (h0 : Hp) (i : Nat) : Nat := h0.next + makers P (ops.take i)

theorem idOf_inj {i j : Nat} (hi : IsA P ops i) (hj : IsA P ops j) (h : idOf P ops h0 i = idOf P ops h0 j) : i = j := by
  obtain ⟨o, h1, h2⟩ := hi
  obtain ⟨o', h3, h4⟩ := hj
  unfold idOf at h
  rcases Nat.lt_trichotomy i j with hlt | heq | hgt
  · have := makers_lt hlt h1 h2; omega
  · exact heq
  · have := makers_lt hgt h3 h4; omega

theorem idOf_lt {i : Nat} (hi : IsA P ops i) : h0.next ≤ idOf P ops h0 i ∧ idOf P ops h0 i < h0.next + makers P ops := by
  obtain ⟨o, h1, h2⟩ := hi
  have := makers_lt (j := ops.length) (List.getElem?_eq_some_iff.1 h1).1 h1 h2
  rw [List.take_length] at this
  unfold idOf
  omega

/-- What is true of a block that is written down. -/
structure PdOk (p : Pd) (i : Nat) : Prop where
  lt : p.ix < i
  id : p.id = idOf P ops h0 p.ix
  isA : IsA P ops p.ix
  made : ∃ o g, ops[p.ix]? = some o ∧ makeC P o = some (.mk g) ∧ g (R.t p.ix).T p.id = some (R.W p.ix, p.ob)

theorem al_step {i : Nat} (h : i < ops.length) : ∃ l, (R.t (i + 1)).al = l ++ (R.t i).al ∧ ∀ p ∈ l, p.ix = i ∧ R.PdOk p (i + 1) := by
  have ho : ops[i]? = some ops[i] := List.getElem?_eq_getElem h
  obtain ⟨_, _, _, ha, _⟩ := (R.step i _ ho).2.facts
  have hf := R.inf i _ ho
  rcases ha with ha | ⟨hk, ob, g, hm, hg, ha⟩
  · exact ⟨[], by simpa using ha, fun p hp => by simp at hp⟩
  · refine ⟨[⟨(R.f i).ix, (R.t i).base + (R.f i).ai, ob⟩], ha, fun p hp => ?_⟩
    simp only [List.mem_singleton] at hp
    subst hp
    rw [hf.ix]
    refine ⟨rfl, ⟨Nat.lt_succ_self i, ?_, ⟨_, ho, by rw [← hf.kd]; exact hk⟩, ⟨_, g, ho, by rw [← hf.op]; exact hm, hg⟩⟩⟩
    show (R.t i).base + (R.f i).ai = _
    rw [R.base i (by omega), hf.ai]
    rfl

theorem PdOk.mono {p : Pd} {i j : Nat} (h : R.PdOk p i) (hij : i ≤ j) : R.PdOk p j := ⟨by have := h.lt; omega, h.id, h.isA, h.made⟩

theorem al_grow : ∀ (d i : Nat), i + d ≤ ops.length → ∃ l, (R.t (i + d)).al = l ++ (R.t i).al ∧ ∀ p ∈ l, i ≤ p.ix ∧ R.PdOk p (i + d)
  | 0, i, _ => ⟨[], rfl, fun p hp => by simp at hp⟩
  | d + 1, i, h => by
    obtain ⟨l, h1, h2⟩ := al_grow d i (by omega)
    obtain ⟨m, h3, h4⟩ := R.al_step (i := i + d) (by omega)
    refine ⟨m ++ l, by rw [← Nat.add_assoc, h3, h1, List.append_assoc], fun p hp => ?_⟩
    rcases List.mem_append.1 hp with hp | hp
    · have := h4 p hp
      exact ⟨by omega, this.2.mono R (by omega)⟩
    · have := h2 p hp
      exact ⟨this.1, this.2.mono R (by omega)⟩

theorem al_ok {i : Nat} (hi : i ≤ ops.length) {p : Pd} (hp : p ∈ (R.t i).al) : R.PdOk p i := by
  obtain ⟨l, h1, h2⟩ := R.al_grow i 0 (by omega)
  rw [Nat.zero_add, R.zero] at h1
  have := h2 p (by rw [h1] at hp; simpa using hp)
  simpa using this.2

theorem al_to {i : Nat} (hi : i ≤ ops.length) {p : Pd} (hp : p ∈ (R.t i).al) : p ∈ (R.t ops.length).al := by
  obtain ⟨l, h1, h2⟩ := R.al_grow (ops.length - i) i (by omega)
  rw [show i + (ops.length - i) = ops.length by omega] at h1
  rw [h1]
  exact List.mem_append_right _ hp

theorem al_of {i : Nat} (hi : i ≤ ops.length) {p : Pd} (hp : p ∈ (R.t ops.length).al) (hlt : p.ix < i) : p ∈ (R.t i).al := by
  obtain ⟨l, h1, h2⟩ := R.al_grow (ops.length - i) i (by omega)
  rw [show i + (ops.length - i) = ops.length by omega] at h1
  rw [h1] at hp
  rcases List.mem_append.1 hp with hp | hp
  · have := (h2 p hp).1; omega
  · exact hp

theorem pd_eq {i j : Nat} {p q : Pd} (hp : R.PdOk p i) (hq : R.PdOk q j) (h : p.ix = q.ix) : p = q := by
  obtain ⟨o, g, h1, h2, h3⟩ := hp.made
  obtain ⟨o', g', k1, k2, k3⟩ := hq.made
  have hid : p.id = q.id := by rw [hp.id, hq.id, h]
  rw [← h] at k1 k3
  rw [h1] at k1
  cases k1
  rw [h2] at k2
  cases k2
  rw [← hid, h3] at k3
  have hob : p.ob = q.ob := congrArg Prod.snd (Option.some.inj k3)
  cases p
  cases q
  simp only at h hid hob
  subst h; subst hid; subst hob
  rfl

theorem pd_id {i j : Nat} {p q : Pd} (hp : R.PdOk p i) (hq : R.PdOk q j) (h : p.id = q.id) : p = q :=
  R.pd_eq hp hq (idOf_inj hp.isA hq.isA (by rw [← hp.id, ← hq.id, h]))

/-! ### Effects along the run -/

theorem e_step {i : Nat} (h : i < ops.length) : (¬ IsE P ops i ∧ (R.t (i + 1)).h = (R.t i).h ∧ (R.t (i + 1)).eb = (R.t i).eb ∧ (R.t (i + 1)).hs = (R.t i).hs) ∨
    (IsE P ops i ∧ (R.t (i + 1)).eb = msk ops i :: (R.t i).eb ∧ (R.t (i + 1)).hs = (R.t i).h :: (R.t i).hs) := by
  have ho : ops[i]? = some ops[i] := List.getElem?_eq_getElem h
  obtain ⟨_, _, he, _, _⟩ := (R.step i _ ho).2.facts
  have hf := R.inf i _ ho
  rcases he with ⟨hk, h1, h2, h3⟩ | ⟨hk, h1, h2⟩
  · refine .inl ⟨fun ⟨o', ho', hk'⟩ => ?_, h1, h2, h3⟩
    rw [ho] at ho'
    cases ho'
    exact hk (by rw [hf.kd, hk'])
  · exact .inr ⟨⟨_, ho, by rw [← hf.kd, hk]⟩, by rw [h1, hf.b], h2⟩

theorem e_none : ∀ (d i : Nat), i + d ≤ ops.length → (∀ e, i ≤ e → e < i + d → ¬ IsE P ops e) → (R.t (i + d)).h = (R.t i).h ∧ (R.t (i + d)).eb = (R.t i).eb ∧ (R.t (i + d)).hs = (R.t i).hs
  | 0, i, _, _ => ⟨rfl, rfl, rfl⟩
  | d + 1, i, h, hn => by
    obtain ⟨h1, h2, h3⟩ := e_none d i (by omega) fun e he hlt => hn e he (by omega)
    rcases R.e_step (i := i + d) (by omega) with ⟨_, k1, k2, k3⟩ | ⟨k, _⟩
    · exact ⟨k1.trans h1, k2.trans h2, k3.trans h3⟩
    · exact absurd k (hn (i + d) (by omega) (by omega))

/-- Two places between which no effect lies. -/
theorem e_same {i k : Nat} (hi : i ≤ ops.length) (hk : k ≤ ops.length) (h : ∀ e, IsE P ops e → (e < i ↔ e < k)) : (R.t i).h = (R.t k).h ∧ (R.t i).eb = (R.t k).eb ∧ (R.t i).hs = (R.t k).hs := by
  rcases Nat.le_total i k with hle | hle
  · have := R.e_none (k - i) i (by omega) fun e he hlt hE => by have := h e hE; omega
    rw [show i + (k - i) = k by omega] at this
    exact ⟨this.1.symm, this.2.1.symm, this.2.2.symm⟩
  · have := R.e_none (i - k) k (by omega) fun e he hlt hE => by have := h e hE; omega
    rw [show k + (i - k) = i by omega] at this
    exact this

theorem anyBit_mem (x : Nat) : ∀ (eb : List Nat), anyBit x eb = true ↔ ∃ m ∈ eb, m.testBit x = true
  | [] => by simp [anyBit]
  | m :: eb => by
    have e : anyBit x (m :: eb) = (bif m.testBit x then true else anyBit x eb) := rfl
    rw [e]
    cases hb : m.testBit x with
    | true => simp [hb]
    | false => simp [hb, anyBit_mem x eb]

theorem eb_mem : ∀ (k : Nat), k ≤ ops.length → ∀ m, m ∈ (R.t k).eb ↔ ∃ e, e < k ∧ IsE P ops e ∧ m = msk ops e
  | 0, _, m => by rw [R.zero]; simp
  | k + 1, h, m => by
    have ih := eb_mem k (by omega) m
    rcases R.e_step (i := k) (by omega) with ⟨hn, _, h2, _⟩ | ⟨hE, h2, _⟩
    · rw [h2, ih]
      constructor
      · rintro ⟨e, h1, h2, h3⟩; exact ⟨e, by omega, h2, h3⟩
      · rintro ⟨e, g1, g2, g3⟩
        refine ⟨e, ?_, g2, g3⟩
        by_cases he : e = k
        · subst he; exact absurd g2 hn
        · omega
    · rw [h2, List.mem_cons, ih]
      constructor
      · rintro (h1 | ⟨e, h1, h2, h3⟩)
        · exact ⟨k, by omega, hE, h1⟩
        · exact ⟨e, by omega, h2, h3⟩
      · rintro ⟨e, h1, h2, h3⟩
        by_cases he : e = k
        · subst he; exact .inl h3
        · exact .inr ⟨e, by omega, h2, h3⟩

theorem absorbed_iff {k x : Nat} (hk : k ≤ ops.length) : anyBit x (R.t k).eb = true ↔ ∃ e, e < k ∧ IsE P ops e ∧ (msk ops e).testBit x = true := by
  rw [anyBit_mem]
  constructor
  · rintro ⟨m, h1, h2⟩
    obtain ⟨e, h3, h4, rfl⟩ := (R.eb_mem k hk m).1 h1
    exact ⟨e, h3, h4, h2⟩
  · rintro ⟨e, h1, h2, h3⟩
    exact ⟨_, (R.eb_mem k hk _).2 ⟨e, h1, h2, rfl⟩, h3⟩

theorem eb_suffix : ∀ (d k : Nat), k + d ≤ ops.length → ∃ p, (R.t k).eb = (R.t (k + d)).eb.drop p ∧ (R.t k).h :: (R.t k).hs = ((R.t (k + d)).h :: (R.t (k + d)).hs).drop p
  | 0, k, _ => ⟨0, rfl, rfl⟩
  | d + 1, k, h => by
    obtain ⟨p, h1, h2⟩ := eb_suffix d k (by omega)
    rcases R.e_step (i := k + d) (by omega) with ⟨_, k1, k2, k3⟩ | ⟨_, k2, k3⟩
    · exact ⟨p, by rw [← Nat.add_assoc, k2]; exact h1, by rw [← Nat.add_assoc, k1, k3]; exact h2⟩
    · exact ⟨p + 1, by rw [← Nat.add_assoc, k2]; exact h1, by rw [← Nat.add_assoc, k3]; exact h2⟩

/-- How many effects come ahead of a place. -/
theorem eb_length : ∀ (k : Nat), k ≤ ops.length → (R.t k).eb.length = (effects P ops 0).countP fun e => decide (e < k)
  | 0, _ => by
    rw [R.zero]
    simp
  | k + 1, h => by
    have ih := eb_length k (by omega)
    have hnd : (effects P ops 0).Pairwise (· < ·) := by
      have : ∀ (l : List Oper) (n : Nat), (effects P l n).Pairwise (· < ·) ∧ ∀ i ∈ effects P l n, n ≤ i := by
        intro l
        induction l with
        | nil => intro n; simp [effects]
        | cons o l ihl =>
          intro n
          obtain ⟨g1, g2⟩ := ihl (n + 1)
          simp only [effects]
          split
          · exact ⟨List.pairwise_cons.2 ⟨fun j hj => by have := g2 j hj; omega, g1⟩, fun i hi => by
              rcases List.mem_cons.1 hi with rfl | hi
              · exact Nat.le_refl _
              · have := g2 i hi; omega⟩
          · exact ⟨g1, fun i hi => by have := g2 i hi; omega⟩
      exact (this ops 0).1
    have hmem : k ∈ effects P ops 0 ↔ IsE P ops k := by
      rw [mem_effects]
      constructor
      · rintro ⟨j, o, h1, h2, h3⟩; rw [Nat.zero_add] at h2; subst h2; exact ⟨o, h1, h3⟩
      · rintro ⟨o, h1, h2⟩; exact ⟨k, o, h1, by omega, h2⟩
    have hcount : ∀ (l : List Nat), l.Pairwise (· < ·) → l.countP (fun e => decide (e < k + 1)) = l.countP (fun e => decide (e < k)) + if k ∈ l then 1 else 0 := by
      intro l
      induction l with
      | nil => intro _; simp
      | cons x l ihl =>
        intro hp
        obtain ⟨hx, hp⟩ := List.pairwise_cons.1 hp
        rw [List.countP_cons, List.countP_cons, ihl hp]
        by_cases hxk : x = k
        · subst hxk
          have hnot : x ∉ l := fun hm => by have := hx x hm; omega
          rw [if_neg hnot, if_pos (by simp), if_neg (by simp), if_pos (by simp)]
        · have h1 : (decide (x < k + 1) = true) ↔ (decide (x < k) = true) := by simp; omega
          have h2 : k ∈ x :: l ↔ k ∈ l := by simp [Ne.symm hxk]
          simp only [h2]
          by_cases hlt : x < k
          · have e1 : decide (x < k + 1) = true := decide_eq_true (by omega)
            have e2 : decide (x < k) = true := decide_eq_true hlt
            rw [e1, e2, if_pos rfl]; omega
          · have e1 : decide (x < k + 1) = false := decide_eq_false (by omega)
            have e2 : decide (x < k) = false := decide_eq_false hlt
            rw [e1, e2]
            simp only [Bool.false_eq_true, if_false]
            omega
    rw [hcount _ hnd, ← ih]
    rcases R.e_step (i := k) (by omega) with ⟨hn, _, h2, _⟩ | ⟨hE, h2, _⟩
    · rw [h2, if_neg (fun hm => hn (hmem.1 hm))]; rfl
    · rw [h2, if_pos (hmem.2 hE)]; simp

end Run
end
end Vm
end Go.Proofs.YtdgopiffbhlhoaaGreatDoor
