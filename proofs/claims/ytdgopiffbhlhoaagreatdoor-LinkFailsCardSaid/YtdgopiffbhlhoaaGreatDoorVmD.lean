/- Statements whose order is open: masks, the run in the text's order as a sequence of states. -/
import Derived.Test.YtdgopiffbhlhoaaGreatDoorVmC
namespace Go.Proofs.YtdgopiffbhlhoaaGreatDoor
open Go
namespace Vm

/-! ### Masks -/

theorem masksFrom_length : ∀ (os : List Oper) (ms : List Nat), (masksFrom os ms).length = ms.length + os.length
  | [], ms => by simp [masksFrom]
  | o :: os, ms => by rw [masksFrom, masksFrom_length os]; simp; omega

theorem masksFrom_old : ∀ (os : List Oper) (ms : List Nat) (i : Nat), i < ms.length → (masksFrom os ms)[i]? = ms[i]?
  | [], _, _, _ => rfl
  | o :: os, ms, i, h => by
    rw [masksFrom, masksFrom_old os _ i (by simp; omega), List.getElem?_append_left h]

theorem masksFrom_at : ∀ (os : List Oper) (ms : List Nat) (i : Nat) (o : Oper), os[i]? = some o → (masksFrom os ms)[ms.length + i]? = some (maskOf ((masksFrom os ms).take (ms.length + i)) o.after.toList)
  | [], _, _, _, h => by simp at h
  | o :: os, ms, 0, o', h => by
    simp only [List.getElem?_cons_zero, Option.some.injEq] at h
    subst h
    have ht : (masksFrom os (ms ++ [maskOf ms o.after.toList])).take ms.length = ms := by
      apply List.ext_getElem?
      intro k
      rw [List.getElem?_take]
      split
      · rename_i hk
        rw [masksFrom_old _ _ _ (by simp; omega), List.getElem?_append_left hk]
      · rename_i hk
        rw [List.getElem?_eq_none (by omega)]
    rw [masksFrom, Nat.add_zero, ht, masksFrom_old _ _ _ (by simp)]
    simp
  | o :: os, ms, i + 1, o', h => by
    simp only [List.getElem?_cons_succ] at h
    have := masksFrom_at os (ms ++ [maskOf ms o.after.toList]) i o' h
    rw [List.length_append, List.length_singleton, show ms.length + 1 + i = ms.length + (i + 1) by omega] at this
    rw [masksFrom]
    exact this

/-- The mask of an operation. -/
noncomputable def msk (ops : List Oper) (i : Nat) : Nat := (masks ops).getD i 0

theorem maskOf_bit : ∀ (ms : List Nat) (es : List Edge) (j : Nat), (maskOf ms es).testBit j = true → ∃ e ∈ es, Region.binds .any e = true ∧ (j = e.on ∨ (ms.getD e.on 0).testBit j = true)
  | _, [], j, h => by simp [maskOf] at h
  | ms, e :: es, j, h => by
    simp only [maskOf] at h
    split at h
    · rename_i hb
      simp only [Nat.testBit_or, Nat.testBit_two_pow, Bool.or_eq_true, decide_eq_true_eq] at h
      rcases h with (h | h) | h
      · obtain ⟨e', h1, h2⟩ := maskOf_bit ms es j h
        exact ⟨e', by simp [h1], h2⟩
      · exact ⟨e, by simp, hb, .inl h.symm⟩
      · exact ⟨e, by simp, hb, .inr h⟩
    · obtain ⟨e', h1, h2⟩ := maskOf_bit ms es j h
      exact ⟨e', by simp [h1], h2⟩

theorem msk_bit {ops : List Oper} {i j : Nat} {o : Oper} (ho : ops[i]? = some o) (h : (msk ops i).testBit j = true) : ∃ e ∈ o.after.toList, Region.binds .any e = true ∧ (j = e.on ∨ (msk ops e.on).testBit j = true) := by
  have hm := masksFrom_at ops [] i o ho
  simp only [List.length_nil, Nat.zero_add] at hm
  have he : msk ops i = maskOf ((masks ops).take i) o.after.toList := by
    unfold msk masks
    rw [List.getD_eq_getElem?_getD, hm]
    rfl
  rw [he] at h
  obtain ⟨e, h1, h2, h3⟩ := maskOf_bit _ _ _ h
  refine ⟨e, h1, h2, h3.imp id fun h3 => ?_⟩
  unfold msk
  rw [List.getD_eq_getElem?_getD] at h3 ⊢
  rw [List.getElem?_take] at h3
  split at h3
  · exact h3
  · simp at h3

theorem msk_none {ops : List Oper} {i j : Nat} (ho : ops[i]? = none) : (msk ops i).testBit j = false := by
  have hl : ops.length ≤ i := List.getElem?_eq_none_iff.1 ho
  unfold msk
  rw [List.getD_eq_getElem?_getD, List.getElem?_eq_none (by unfold masks; rw [masksFrom_length]; simp; omega)]
  simp

/-! ### What was looked at -/

theorem opsOk_at {ops : List Oper} {ms : List Nat} : ∀ {l : List Oper} {n i : Nat} {o : Oper}, opsOk ops ms l n = true → l[i]? = some o →
    edgesOk (n + i) o.after.toList = true ∧ writersOk ms (tmpsOf ops o) (ms.getD (n + i) 0) (n + i) ops 0 = true
  | [], _, _, _, _, h => by simp at h
  | o :: l, n, 0, o', h, ho => by
    simp only [List.getElem?_cons_zero, Option.some.injEq] at ho
    subst ho
    simp only [opsOk, Bool.and_eq_true] at h
    exact h.1
  | o :: l, n, i + 1, o', h, ho => by
    simp only [List.getElem?_cons_succ] at ho
    simp only [opsOk, Bool.and_eq_true] at h
    have := opsOk_at h.2 ho
    rwa [show n + 1 + i = n + (i + 1) by omega] at this

theorem writersOk_at {ms : List Nat} {ts : List Tmp} {b i : Nat} : ∀ {l : List Oper} {n j : Nat} {o : Oper} {d : Tmp}, writersOk ms ts b i l n = true → l[j]? = some o → o.dst = some d → d ∈ ts →
    (n + j < i → b.testBit (n + j) = true) ∧ (i < n + j → (ms.getD (n + j) 0).testBit i = true)
  | [], _, _, _, _, _, h, _, _ => by simp at h
  | o :: l, n, 0, o', d, h, ho, hd, hm => by
    simp only [List.getElem?_cons_zero, Option.some.injEq] at ho
    subst ho
    simp only [writersOk, Bool.and_eq_true, hd] at h
    have h1 := h.1
    rw [if_pos (by simpa using hm)] at h1
    refine ⟨fun hlt => ?_, fun hlt => ?_⟩
    · rw [Nat.add_zero] at hlt ⊢
      rwa [if_pos hlt] at h1
    · rw [Nat.add_zero] at hlt ⊢
      rwa [if_neg (by omega), if_pos hlt] at h1
  | o :: l, n, j + 1, o', d, h, ho, hd, hm => by
    simp only [List.getElem?_cons_succ] at ho
    simp only [writersOk, Bool.and_eq_true] at h
    have := writersOk_at h.2 ho hd hm
    rwa [show n + 1 + j = n + (j + 1) by omega] at this

theorem mem_effects {P : Program} : ∀ {l : List Oper} {n i : Nat}, i ∈ effects P l n ↔ ∃ j o, l[j]? = some o ∧ i = n + j ∧ kindOf P o = .e
  | [], n, i => by simp [effects]
  | o :: l, n, i => by
    have ih := @mem_effects P l (n + 1) i
    have hrest : (∃ j o', (o :: l)[j]? = some o' ∧ i = n + j ∧ kindOf P o' = .e) ↔ (i = n ∧ kindOf P o = .e) ∨ ∃ j o', l[j]? = some o' ∧ i = n + 1 + j ∧ kindOf P o' = .e := by
      constructor
      · rintro ⟨j, o', h1, h2, h3⟩
        cases j with
        | zero => simp only [List.getElem?_cons_zero, Option.some.injEq] at h1; subst h1; exact .inl ⟨by omega, h3⟩
        | succ j => simp only [List.getElem?_cons_succ] at h1; exact .inr ⟨j, o', h1, by omega, h3⟩
      · rintro (⟨h1, h2⟩ | ⟨j, o', h1, h2, h3⟩)
        · exact ⟨0, o, rfl, by omega, h2⟩
        · exact ⟨j + 1, o', by simpa using h1, by omega, h3⟩
    rw [hrest, ← ih]
    simp only [effects]
    split
    · rename_i hk
      simp [hk]
    · rename_i hk
      simp only [iff_or_self, and_imp]
      intro _ h
      exact (hk h).elim

/-! ### One step in the text's order -/

section
variable {P : Program} {nt : Nat} {ops : List Oper} {call : CallFn}

/-- The heap that an operation sees. -/
noncomputable def Rg.view (s : Rg) (b : Nat) : Hp := addPd s.h (viewPd s.al s.eb b)

inductive StepR (P : Program) (call : CallFn) (ops : List Oper) (st : StFn) (f : Inf) (s : Rg) : V → Rg → Prop
  | p (v : V) (h' : Hp) (hw : wantedV ops f.op s.T = true) (hk : f.kd = .p) (ho : (opC P f.op).use s.T ⟨.leaf, 0⟩ = some (.val v h')) : StepR P call ops st f s v (rgT s (st v s.T))
  | r1 (v : V) (h' : Hp) (hw : wantedV ops f.op s.T = true) (hk : f.kd = .r) (hl : f.lo = f.hi) (ho : (opC P f.op).use s.T (s.view f.b) = some (.val v h')) : StepR P call ops st f s v (rgT s (st v s.T))
  | r2 (v : V) (h' : Hp) (hw : wantedV ops f.op s.T = true) (hk : f.kd = .r) (ho : (opC P f.op).use s.T (s.view f.b) = some (.val v h')) :
      StepR P call ops st f s v ⟨s.base, st v s.T, s.h, s.al, s.eb, s.hs, (f, s.T, v) :: s.rd⟩
  | a (v : V) (ob : Ob) (g : MkFn) (hw : wantedV ops f.op s.T = true) (hk : f.kd = .a) (hm : makeC P f.op = some (.mk g)) (ho : g s.T (s.base + f.ai) = some (v, ob)) :
      StepR P call ops st f s v ⟨s.base, st v s.T, s.h, ⟨f.ix, s.base + f.ai, ob⟩ :: s.al, s.eb, s.hs, s.rd⟩
  | e1 (v : V) (h' : Hp) (hw : wantedV ops f.op s.T = true) (hk : f.kd = .e) (ho : (opC P f.op).use s.T (s.view f.b) = some (.val v h')) : StepR P call ops st f s v (rgE1 st f s v h')
  | e2 (v : V) (h' : Hp) (g : FuncId) (args : List V) (hw : wantedV ops f.op s.T = true) (hk : f.kd = .e) (ho : (opC P f.op).use s.T (s.view f.b) = some (.call g args)) (hc : call g args (s.view f.b) = some (v, h')) :
      StepR P call ops st f s v (rgE1 st f s v h')
  | skip (hw : wantedV ops f.op s.T = false) (hk : f.kd ≠ .e) : StepR P call ops st f s undf (rgT s (st undf s.T))
  | skipE (hw : wantedV ops f.op s.T = false) (hk : f.kd = .e) : StepR P call ops st f s undf (rgE1 st f s undf (s.view f.b))

theorem do_ok {st : StFn} {f : Inf} {g : CallFn → Rg → Option Rg} {s s' : Rg} (hg : doC P st f = .mk g) (hs : g call s = some s') (hw : wantedV ops f.op s.T = true) : ∃ v, StepR P call ops st f s v s' := by
  unfold doC at hg
  cases hk : f.kd <;> simp only [hk] at hg
  · cases hg
    simp only [rgP] at hs
    split at hs
    · rename_i v h' ho
      cases hs
      exact ⟨v, .p v h' hw hk ho⟩
    · cases hs
  · cases hb : Nat.beq f.lo f.hi with
      | true =>
        rw [hb, cond_true] at hg
        cases hg
        simp only [rgP] at hs
        split at hs
        · rename_i v h' ho
          cases hs
          exact ⟨v, .r1 v h' hw hk (Nat.eq_of_beq_eq_true hb) ho⟩
        · cases hs
      | false =>
        rw [hb, cond_false] at hg
        cases hg
        simp only [rgR] at hs
        split at hs
        · rename_i v h' ho
          cases hs
          exact ⟨v, .r2 v h' hw hk ho⟩
        · cases hs
  · split at hg
    · rename_i k hm
      cases hg
      simp only [rgA] at hs
      split at hs
      · rename_i q ho
        cases hs
        exact ⟨q.1, .a q.1 q.2 k hw hk hm ho⟩
      · cases hs
    · cases hg; cases hs
  · cases hg
    simp only [rgE] at hs
    split at hs
    · rename_i v h' ho
      cases hs
      exact ⟨v, .e1 v h' hw hk ho⟩
    · rename_i gi args ho
      split at hs
      · rename_i q hc
        cases hs
        exact ⟨q.1, .e2 q.1 q.2 gi args hw hk ho hc⟩
      · cases hs
    · cases hs

theorem sk_ok {st : StFn} {f : Inf} {k : Rg → Rg} {s : Rg} (hk : skC st f = .mk k) (hw : wantedV ops f.op s.T = false) : ∃ v, StepR P call ops st f s v (k s) := by
  unfold skC at hk
  split at hk
  · rename_i he
    cases hk
    exact ⟨undf, .skipE hw he⟩
  · rename_i he
    cases hk
    exact ⟨undf, .skip hw he⟩

theorem step_ok {f : Inf} {s s' : Rg} (h : (stepC P nt ops f).use call s = some s') : ∃ st v, dstC nt f.op.dst = some (.mk st) ∧ StepR P call ops st f s v s' := by
  unfold stepC at h
  split at h
  · cases h
  · rename_i st hst
    have hd := cm_eta (doC P st f)
    have hs := cm_eta (skC st f)
    simp only [] at h
    refine ⟨st, ?_⟩
    cases hg : guardOf ops f.op <;> simp only [hg] at h
    · obtain ⟨v, hv⟩ := do_ok (ops := ops) hd h (by unfold wantedV; rw [hg])
      exact ⟨v, hst, hv⟩
    · cases h
      obtain ⟨v, hv⟩ := sk_ok (P := P) (call := call) (s := s) hs (by unfold wantedV; rw [hg])
      exact ⟨v, hst, hv⟩
    · rename_i d want
      change (bif jkO (s.T.get d) then none else bif holds want (s.T.get d) then (doC P st f).1 call s else some ((skC st f).1 s)) = some s' at h
      cases hj : jkO (s.T.get d) with
      | true => rw [hj] at h; cases h
      | false =>
      rw [hj, cond_false] at h
      have hww : wantedV ops f.op s.T = holds want (s.T.get d) := by unfold wantedV; rw [hg]
      cases hh : holds want (s.T.get d) with
      | true =>
        rw [hh, cond_true] at h
        obtain ⟨v, hv⟩ := do_ok (ops := ops) hd h (by rw [hww, hh])
        exact ⟨v, hst, hv⟩
      | false =>
        rw [hh, cond_false] at h
        cases h
        obtain ⟨v, hv⟩ := sk_ok (P := P) (call := call) (s := s) hs (by rw [hww, hh])
        exact ⟨v, hst, hv⟩

/-- The value by which an operation is asked for is known. -/
def GdOk (ops : List Oper) (o : Oper) (T : Fr) : Prop := ∀ d want, guardOf ops o = .ifs d want → jkO (T.get d) = false

theorem step_gd {f : Inf} {s s' : Rg} (h : (stepC P nt ops f).use call s = some s') : GdOk ops f.op s.T := by
  intro d want hg
  unfold stepC at h
  split at h
  · cases h
  · rename_i st hst
    have hd := cm_eta (doC P st f)
    have hs := cm_eta (skC st f)
    simp only [hg] at h
    change (bif jkO (s.T.get d) then none else bif holds want (s.T.get d) then (doC P st f).1 call s else some ((skC st f).1 s)) = some s' at h
    cases hj : jkO (s.T.get d) with
    | true => rw [hj] at h; cases h
    | false => rfl

/-- All states of a run. -/
theorem run_trace : ∀ {fs : List Inf} {s s' : Rg}, (runC P nt ops fs).use call s = some s' → ∃ t : Nat → Rg, t 0 = s ∧ t fs.length = s' ∧ ∀ i f, fs[i]? = some f → (stepC P nt ops f).use call (t i) = some (t (i + 1))
  | [], s, s', h => ⟨fun _ => s, rfl, by simpa [runC] using (Option.some.inj h), fun i f hf => by simp at hf⟩
  | f :: fs, s, s', h => by
    have e : (runC P nt ops (f :: fs)).use call s = Option.rec (motive := fun _ => Option Rg) none (fun s => (runC P nt ops fs).use call s) ((stepC P nt ops f).use call s) := by
      show Cm.use (match stepC P nt ops f with
        | .mk g => .mk fun call s => Option.rec (motive := fun _ => Option Rg) none (fun s => (runC P nt ops fs).use call s) (g call s)) call s = _
      rw [cm_eta (stepC P nt ops f)]
      rfl
    rw [e] at h
    cases hs : (stepC P nt ops f).use call s with
    | none => rw [hs] at h; cases h
    | some s1 =>
      rw [hs] at h
      obtain ⟨t, h1, h2, h3⟩ := run_trace h
      refine ⟨fun i => match i with
        | 0 => s
        | i + 1 => t i, rfl, h2, fun i g hg => ?_⟩
      cases i with
      | zero =>
        simp only [List.getElem?_cons_zero, Option.some.injEq] at hg
        subst hg
        simp only [h1]
        exact hs
      | succ i =>
        simp only [List.getElem?_cons_succ] at hg
        exact h3 i g hg

/-! ### What is written down of the operations -/

theorem infos_at {ms es em : List Nat} : ∀ {l : List Oper} {n m i : Nat} {o : Oper}, l[i]? = some o → ∃ f, (infosFrom P ms es em l n m)[i]? = some f ∧ f.op = o ∧ f.ix = n + i ∧ f.kd = kindOf P o ∧ f.ai = m + makers P (l.take i) ∧
    f.b = ms.getD (n + i) 0 ∧ f.lo = countBits (ms.getD (n + i) 0) es ∧ f.hi = countFree (n + i) em
  | [], _, _, _, _, h => by simp at h
  | o :: l, n, m, 0, o', h => by
    simp only [List.getElem?_cons_zero, Option.some.injEq] at h
    subst h
    exact ⟨_, rfl, rfl, rfl, rfl, rfl, rfl, rfl, rfl⟩
  | o :: l, n, m, i + 1, o', h => by
    simp only [List.getElem?_cons_succ] at h
    have := infos_at (ms := ms) (es := es) (em := em) (n := n + 1) (m := bif isMk P o then m + 1 else m) h
    obtain ⟨f, h1, h2, h3, h4, h5, h6, h7, h8⟩ := this
    refine ⟨f, by simpa [infosFrom] using h1, h2, by omega, h4, ?_, by rw [h6]; congr 1; omega, by rw [h7]; congr 2; omega, by rw [h8]; congr 1; omega⟩
    rw [h5, List.take_succ_cons]
    simp only [makers]
    cases isMk P o <;> simp <;> omega

theorem infos_length {ms es em : List Nat} : ∀ (l : List Oper) (n m : Nat), (infosFrom P ms es em l n m).length = l.length
  | [], _, _ => rfl
  | o :: l, n, m => by simp [infosFrom, infos_length l]

theorem makers_append : ∀ (l m : List Oper), makers P (l ++ m) = makers P l + makers P m
  | [], m => by simp [makers]
  | o :: l, m => by
    simp only [List.cons_append, makers, makers_append l m]
    cases isMk P o <;> simp <;> omega

theorem makers_lt {i j : Nat} {o : Oper} (h : i < j) (ho : ops[i]? = some o) (hk : kindOf P o = .a) : makers P (ops.take i) < makers P (ops.take j) := by
  have hlt := (List.getElem?_eq_some_iff.1 ho).1
  have h1 : ops.take (i + 1) = ops.take i ++ [o] := by
    rw [List.take_add_one, ho]; rfl
  have h2 : ops.take j = ops.take (i + 1) ++ (ops.drop (i + 1)).take (j - (i + 1)) := by
    rw [← List.take_add]
    congr 1
    omega
  rw [h2, makers_append, h1, makers_append]
  have : isMk P o = true := by unfold isMk; rw [hk]
  simp only [makers, this, cond_true]
  omega

end
end Vm
end Go.Proofs.YtdgopiffbhlhoaaGreatDoor
