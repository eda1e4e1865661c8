/- Statements whose order is open: the invariant. -/
import Derived.Test.YtdgopiffbhlhoaaGreatDoorVmF
namespace Go.Proofs.YtdgopiffbhlhoaaGreatDoor
open Go
namespace Vm
section
variable {P : Program} {nt : Nat} {ops : List Oper} {call : CallFn} {T0 : Fr} {h0 : Hp}

namespace Run
variable (R : Run P nt ops call T0 h0)

structure Inv (ρ0 : Rho) (w0 : World) (a0 : Act) (S : Nat → Bool) (a : Act) (w : World) (ρ : Rho) (k : Nat) : Prop where
  kn : k ≤ ops.length
  ek : ∀ i, IsE P ops i → (S i = true ↔ i < k)
  cl : Cl ops S
  rel : Rel P ρ (R.hp S k) w
  nx : h0.next + makers P ops ≤ (R.t k).h.next
  apart : ∀ p ∈ R.loose S k, (R.t k).h.get p.id = none
  fresh : ∀ i, IsA P ops i → S i = false → ρ (idOf P ops h0 i) = none
  keep : ∀ j, ¬ (h0.next ≤ j ∧ j < (R.t k).h.next) → ρ j = ρ0 j ∧ ρ.room j = ρ0.room j
  size : w0.heap.size ≤ w.heap.size
  frame : ∀ b, b < w0.heap.size → ¬ Owned ρ0 h0 b → w.heap[b]? = w0.heap[b]?
  prov : ∀ b, b < w0.heap.size → Owned ρ (R.hp S k) b → Owned ρ0 h0 b
  here : ∀ b, b < w0.heap.size → InH ρ (R.hp S k) b → InH ρ0 h0 b
  os : w.os = w0.os
  tape : w.tape = w0.tape
  output : w.output = w0.output
  tsz : a.tmps.size = nt
  tm : ∀ t, VR ρ (R.lastW S t ops.length) (a.tmps.getD t undef)
  act : a = { a0 with tmps := a.tmps }

variable {R} {ρ0 ρ : Rho} {w0 w : World} {a0 a : Act} {S : Nat → Bool} {k i : Nat} {o : Oper}

theorem Inv.free (hI : R.Inv ρ0 w0 a0 S a w ρ k) (hf : Free ρ0 h0.next) : Free ρ (R.t k).h.next := fun j hj => by
  have := hI.nx
  rw [(hI.keep j (by omega)).1]
  exact hf j (by omega)

/-- What comes into a heap of which less is known. -/
theorem Inv.vw_sub (hI : R.Inv ρ0 w0 a0 S a w ρ k) {b : Nat} (hb : ∀ j, b.testBit j = true → S j = true) : ∀ j q, (R.vw k b).get j = some q → (R.hp S k).get j = some q := by
  intro j q hj
  rcases addPd_or _ _ hj with ⟨p, h1, rfl, rfl⟩ | ⟨h1, h2⟩
  · obtain ⟨g1, g2, g3⟩ := mem_view.1 h1
    exact R.hp_loose (R.mem_loose.2 ⟨g1, hb _ g2, g3⟩)
  · unfold Run.hp
    rw [addPd_not _ _ fun p hp e => ?_]
    · exact h2
    · have := hI.apart p hp
      rw [e, h2] at this
      cases this

theorem Inv.vw_rel (hI : R.Inv ρ0 w0 a0 S a w ρ k) {b : Nat} (hb : ∀ j, b.testBit j = true → S j = true) : Rel P ρ (R.vw k b) w := hI.rel.less (hI.vw_sub hb)

theorem getD_eq {l : Array Value} (n : Nat) (t : Nat) : l.getD t undef = (l[t]?).getD undef := by
  have _ := n
  simp [Array.getD]
  split <;> simp [*]

theorem put_tmp (a : Act) (d : Option Tmp) (x : Value) (hd : ∀ d', d = some d' → d' < a.tmps.size) (t : Nat) : (a.put d x).tmps.getD t undef = if d = some t then x else a.tmps.getD t undef := by
  cases d with
  | none => simp [Act.put]
  | some d =>
    have hlt := hd d rfl
    by_cases e : d = t
    · subst e
      simp [Act.put, Array.getD, hlt]
    · rw [if_neg (by simpa using e)]
      simp only [Act.put]
      rw [getD_eq 0, getD_eq 0, Array.getElem?_setIfInBounds_ne e]

theorem put_size (a : Act) (d : Option Tmp) (x : Value) : (a.put d x).tmps.size = a.tmps.size := by cases d <;> simp [Act.put]

theorem put_act {a a0 : Act} (d : Option Tmp) (x : Value) (h : a = { a0 with tmps := a.tmps }) : a.put d x = { a0 with tmps := (a.put d x).tmps } := by
  cases d with
  | none => exact h
  | some d =>
    simp only [Act.put]
    rw [h]

/-- The temporaries behind an operation. -/
theorem Inv.tm_ins (hI : R.Inv ρ0 w0 a0 S a w ρ k) (D : DrawOk P ops) (ho : ops[i]? = some o) (hS : S i = false) {ρ' : Rho} (hs : Sub ρ ρ') {x : Value} (hx : VR ρ' (R.W i) x) :
    ∀ t, VR ρ' (R.lastW (ins S i) t ops.length) ((a.put o.dst x).tmps.getD t undef) := by
  intro t
  rw [R.last_ins D hI.cl ho hS, put_tmp a o.dst x (fun d hd => by rw [hI.tsz]; exact R.dst_lt ho hd)]
  split
  · exact hx
  · exact (hI.tm t).mono hs

/-- What a ready operation reads. -/
theorem Inv.or (hI : R.Inv ρ0 w0 a0 S a w ρ k) (D : DrawOk P ops) (ho : ops[i]? = some o) (hS : S i = false) (hm : ∀ j, (msk ops i).testBit j = true → S j = true) : OR P ρ (R.t i).T a o := by
  intro x hx g hg
  cases x with
  | tmp t =>
    simp only [opd, Option.some.injEq, Cm.mk.injEq] at hg
    subst hg
    have ht : t ∈ tmpsOf ops o := by
      simp only [tmpsOf, List.mem_append, List.mem_filterMap]
      exact .inl (.inr ⟨.tmp t, by simpa using hx, rfl⟩)
    have := hI.tm t
    rw [R.last_eq D hI.cl ho hS hm ht] at this
    exact this
  | const v =>
    simp only [opd] at hg
    split at hg
    · rename_i u hu
      simp only [Option.some.injEq, Cm.mk.injEq] at hg
      subst hg
      exact abs2_vr hu
    · cases hg
  | global gl =>
    simp only [opd] at hg
    cases hb : Nat.blt gl P.globals.size with
    | false => simp [hb] at hg
    | true =>
      simp only [hb, cond_true, Option.some.injEq, Cm.mk.injEq] at hg
      subst hg
      have := VR.ptr (ρ := ρ) gl 0 gl 0 (hI.rel.glob gl (blt_lt hb)) (Nat.le_refl 0)
      simpa [Act.eval] using this
  | func f =>
    simp only [opd, Option.some.injEq, Cm.mk.injEq] at hg
    subst hg
    exact .fn _ _ _ _ _ .nil .nil

theorem wanted_ok {ops : List Oper} {opsA : Array Oper} (hops : opsA.toList = ops) {o : Oper} {T : Fr} {a : Act} {ρ : Rho} (hgd : GdOk ops o T)
    (ht : ∀ j want g d, o.guard = some (j, want) → ops[j]? = some g → g.dst = some d → VR ρ (tmpV T d) (a.tmps.getD d undef)) :
    Region.wanted o (yielded opsA a.tmps) = wantedV ops o T := by
  unfold Region.wanted wantedV guardOf
  cases hg : o.guard with
  | none => rfl
  | some q =>
    obtain ⟨j, want⟩ := q
    simp only
    rw [nth_eq]
    have hj : opsA[j]? = ops[j]? := by rw [← hops]; simp
    unfold yielded
    rw [hj]
    cases hoj : ops[j]? with
    | none => rfl
    | some g =>
      simp only [Option.bind_some]
      cases hd : g.dst with
      | none => rfl
      | some d =>
        have hv := ht j want g d hg hoj hd
        simp only [Option.bind_some]
        rw [getD_eq 0, tmpV_eq] at hv
        cases hq : T.get d with
        | none =>
          rw [hq] at hv
          cases hx : a.tmps[d]? with
          | none => rfl
          | some x =>
            rw [hx] at hv
            cases hv with
            | tup _ xs _ => rfl
        | some v =>
          rw [hq] at hv
          cases hx : a.tmps[d]? with
          | none =>
            rw [hx] at hv
            generalize hz : (none : Option Value).getD undef = z at hv
            have hz' : z = .tuple #[] := by rw [← hz]; rfl
            subst hz'
            simp only [Option.getD_some] at hv
            cases hv with
            | tup _ _ _ => rfl
            | junk =>
              have := hgd d want (by simp [guardOf, hg, nth_eq, hoj, hd])
              rw [hq] at this; cases this
          | some x =>
            rw [hx] at hv
            simp only [Option.getD_some] at hv
            cases hv with
            | bool b => cases b <;> cases want <;> rfl
            | junk =>
              have := hgd d want (by simp [guardOf, hg, nth_eq, hoj, hd])
              rw [hq] at this; cases this
            | _ => rfl

theorem Inv.wanted (hI : R.Inv ρ0 w0 a0 S a w ρ k) (D : DrawOk P ops) {opsA : Array Oper} (hops : opsA.toList = ops) (ho : ops[i]? = some o) (hS : S i = false) (hm : ∀ j, (msk ops i).testBit j = true → S j = true) :
    Region.wanted o (yielded opsA a.tmps) = wantedV ops o (R.t i).T := by
  refine wanted_ok (ρ := ρ) hops (R.gd i o ho) fun j want g d h1 h2 h3 => ?_
  have ht : d ∈ tmpsOf ops o := by
    simp only [tmpsOf, List.mem_append]
    refine .inr ?_
    rw [h1]
    simp only [nth_eq, h2]
    simp [h3]
  have := hI.tm d
  rw [R.last_eq D hI.cl ho hS hm ht] at this
  exact this

/-- An operation that touches no memory. -/
theorem Inv.quiet (hI : R.Inv ρ0 w0 a0 S a w ρ k) (D : DrawOk P ops) (ho : ops[i]? = some o) (hS : S i = false) (hm : ∀ j, (msk ops i).testBit j = true → S j = true) (hE : ¬ IsE P ops i) (hA : ∀ p ∈ (R.t ops.length).al, p.ix ≠ i)
    {x : Value} (hx : VR ρ (R.W i) x) : R.Inv ρ0 w0 a0 (ins S i) (a.put o.dst x) w ρ k := by
  have hl : R.loose (ins S i) k = R.loose S k := by
    unfold loose
    refine List.filter_congr fun p hp => ?_
    rw [ins_ne S (hA p hp)]
  have hh : R.hp (ins S i) k = R.hp S k := by unfold hp; rw [hl]
  refine ⟨hI.kn, fun e he => ?_, hI.cl.ins hm, by rw [hh]; exact hI.rel, hI.nx, by rw [hl]; exact hI.apart, fun j hj hSj => ?_, hI.keep, hI.size, hI.frame, by rw [hh]; exact hI.prov, by rw [hh]; exact hI.here, hI.os, hI.tape, hI.output,
    by rw [put_size]; exact hI.tsz, hI.tm_ins D ho hS (.refl ρ) hx, put_act _ _ hI.act⟩
  · have : e ≠ i := fun h => hE (h ▸ he)
    rw [ins_ne S this]
    exact hI.ek e he
  · refine hI.fresh j hj ?_
    by_cases e : j = i
    · subst e; rw [ins_self] at hSj; cases hSj
    · rwa [ins_ne S e] at hSj

/-- One that makes a block. -/
theorem Inv.maker (hI : R.Inv ρ0 w0 a0 S a w ρ k) (hG : P.globals.size ≤ h0.next) (D : DrawOk P ops) (ho : ops[i]? = some o) (hS : S i = false) (hm : ∀ j, (msk ops i).testBit j = true → S j = true) (hA : IsA P ops i) {p : Pd} (hp : p ∈ (R.t ops.length).al) (hpi : p.ix = i)
    {s : Sem Value} (hmk : MkOk P ρ w s p.id (R.W i) p.ob) : ∃ x w' ρ', s.run P w = .ok x w' ∧ R.Inv ρ0 w0 a0 (ins S i) (a.put o.dst x) w' ρ' k := by
  obtain ⟨x, O, w', z, g1, g2, g3, g4, g5, g6, g7⟩ := hmk
  have hpo := R.pdn hp
  have hid : p.id = idOf P ops h0 i := by rw [hpo.id, hpi]
  have hno : ρ p.id = none := by rw [hid]; exact hI.fresh i hA hS
  have hrng := idOf_lt (h0 := h0) hA
  rw [← hid] at hrng
  have hsub := upd_sub (w.heap.size, 0) z hno
  obtain ⟨hv, hob⟩ := g7 _ hsub (upd_self _ _ _ _) (upd_room _ _ _ _)
  have hnabs : anyBit i (R.t k).eb = false := by
    cases hb : anyBit i (R.t k).eb with
    | false => rfl
    | true =>
      obtain ⟨e, h1, h2, h3⟩ := (R.absorbed_iff hI.kn).1 hb
      have := hI.cl e ((hI.ek e h2).2 h1) i h3
      rw [hS] at this
      cases this
  have hpl : p ∈ R.loose (ins S i) k := R.mem_loose.2 ⟨hp, by rw [hpi]; exact ins_self S i, by rw [hpi]; exact hnabs⟩
  have hmem : ∀ q, q ∈ R.loose (ins S i) k → q = p ∨ q ∈ R.loose S k := by
    intro q hq
    obtain ⟨h1, h2, h3⟩ := R.mem_loose.1 hq
    by_cases e : q.ix = i
    · exact .inl (R.pd_eq (R.pdn h1) hpo (by rw [e, hpi]))
    · rw [ins_ne S e] at h2
      exact .inr (R.mem_loose.2 ⟨h1, h2, h3⟩)
  have hmem' : ∀ q, q ∈ R.loose S k → q ∈ R.loose (ins S i) k ∧ q.id ≠ p.id := by
    intro q hq
    obtain ⟨h1, h2, h3⟩ := R.mem_loose.1 hq
    have e : q.ix ≠ i := fun e => by rw [e, hS] at h2; cases h2
    refine ⟨R.mem_loose.2 ⟨h1, by rw [ins_ne S e]; exact h2, h3⟩, fun hqp => e ?_⟩
    rw [R.al_uniq hp h1 hqp, hpi]
  have hbase : (R.t k).h.get p.id = none := by
    cases hg : (R.t k).h.get p.id with
    | none => rfl
    | some q =>
      have : (R.hp S k).get p.id = some q := by
        unfold Run.hp
        rw [addPd_not _ _ fun r hr e => (hmem' r hr).2 e]
        exact hg
      obtain ⟨b, s', hb, _⟩ := hI.rel.ob _ _ this
      rw [hno] at hb
      cases hb
  have hget : ∀ j, (R.hp (ins S i) k).get j = if j = p.id then some p.ob else (R.hp S k).get j := by
    intro j
    by_cases e : j = p.id
    · rw [if_pos e, e]
      exact R.hp_loose hpl
    · rw [if_neg e]
      cases hg : (R.hp S k).get j with
      | some q =>
        rcases addPd_or _ _ hg with ⟨r, h1, rfl, rfl⟩ | ⟨h1, h2⟩
        · exact R.hp_loose (hmem' r h1).1
        · unfold Run.hp
          rw [addPd_not _ _ fun r hr er => ?_]
          · exact h2
          · rcases hmem r hr with rfl | hr
            · exact e er.symm
            · exact h1 r hr er
      | none =>
        cases hg' : (R.hp (ins S i) k).get j with
        | none => rfl
        | some q =>
          rcases addPd_or _ _ hg' with ⟨r, h1, rfl, rfl⟩ | ⟨h1, h2⟩
          · rcases hmem r h1 with rfl | hr
            · exact absurd rfl e
            · rw [R.hp_loose hr] at hg; cases hg
          · have : (R.hp S k).get j = some q := by
              unfold Run.hp
              rw [addPd_not _ _ fun r hr er => h1 r (hmem' r hr).1 er]
              exact h2
            rw [hg] at this
            cases this
  have hrel := hI.rel.add hno (by omega) p.ob O 0 z w' hget g2 hob
  have hnx := hI.nx
  have hsz : w'.heap.size = w.heap.size + 1 := by rw [g2]; simp
  have hkeepid : ∀ j, j ≠ p.id → (upd ρ p.id (w.heap.size, 0) z) j = ρ j := fun j hj => upd_ne _ _ _ hj
  have hback : ∀ b, b < w0.heap.size → ∀ j q s', (R.hp (ins S i) k).get j = some q → (upd ρ p.id (w.heap.size, 0) z) j = some (b, s') → (R.hp S k).get j = some q ∧ ρ j = some (b, s') := by
    intro b hb j q s' hj hbj
    have := hI.size
    by_cases e : j = p.id
    · rw [e, upd_self] at hbj
      simp only [Option.some.injEq, Prod.mk.injEq] at hbj
      omega
    · rw [hget, if_neg e] at hj
      rw [hkeepid j e] at hbj
      exact ⟨hj, hbj⟩
  refine ⟨x, w', _, g1, hI.kn, fun e he => ?_, hI.cl.ins hm, hrel, hI.nx, fun q hq => ?_, fun j hj hSj => ?_, fun j hj => ?_, by have := hI.size; omega, fun b hb hno => ?_, fun b hb how => ?_, fun b hb how => ?_, g3.trans hI.os, g4.trans hI.tape, g5.trans hI.output,
    by rw [put_size]; exact hI.tsz, hI.tm_ins D ho hS hsub hv, put_act _ _ hI.act⟩
  · have : e ≠ i := fun h => by
      subst h
      obtain ⟨o1, k1, k2⟩ := he
      obtain ⟨o2, k3, k4⟩ := hA
      rw [k1] at k3
      cases k3
      rw [k2] at k4
      cases k4
    rw [ins_ne S this]
    exact hI.ek e he
  · rcases hmem q hq with rfl | hq
    · exact hbase
    · exact hI.apart q hq
  · have e : j ≠ i := fun e => by subst e; rw [ins_self] at hSj; cases hSj
    rw [ins_ne S e] at hSj
    have hne : idOf P ops h0 j ≠ p.id := fun h => e (idOf_inj hj hA (h.trans hid))
    rw [hkeepid _ hne]
    exact hI.fresh j hj hSj
  · have hne : j ≠ p.id := fun e => hj ⟨by omega, by omega⟩
    rw [hkeepid j hne, upd_room_ne _ _ _ hne]
    exact hI.keep j hj
  · rw [g2, heap_push w O (by have := hI.size; omega)]
    exact hI.frame b hb hno
  · obtain ⟨j, q, s', h1, h2, h3⟩ := how
    obtain ⟨h4, h5⟩ := hback b hb j q s' h1 h2
    exact hI.prov b hb ⟨j, q, s', h4, h5, h3⟩
  · obtain ⟨j, q, s', h1, h2⟩ := how
    obtain ⟨h4, h5⟩ := hback b hb j q s' h1 h2
    exact hI.here b hb ⟨j, q, s', h4, h5⟩

end Run
end
end Vm
end Go.Proofs.YtdgopiffbhlhoaaGreatDoor
