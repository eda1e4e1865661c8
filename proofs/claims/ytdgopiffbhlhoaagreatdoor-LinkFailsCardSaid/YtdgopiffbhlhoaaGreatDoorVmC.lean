/- The small machine's operations are the model's: all of them. -/
import Derived.Test.YtdgopiffbhlhoaaGreatDoorVmB
namespace Go.Proofs.YtdgopiffbhlhoaaGreatDoor
open Go
namespace Vm
section
variable {P : Program} {ρ : Rho} {nt : Nat} {T : Fr} {a : Act} {h : Hp} {w : World}

theorem cm_eta {α : Type} (c : Cm α) : c = .mk c.1 := by cases c; rfl

theorem ok_val (hr : Rel P ρ h w) {s : Sem Value} {v : V} {x : Value} (hs : s.run P w = .ok x w) (hv : VR ρ v x) : OpOk P ρ h w (valSem s) (.val v h) :=
  ⟨ρ, _, w, run_valSem hs, .inl ⟨x, rfl, hv⟩, .refl hr⟩
theorem ok_valE (hr : Rel P ρ h w) {s : Sem Value} {v : V} (hs : ∃ x, s.run P w = .ok x w ∧ VR ρ v x) : OpOk P ρ h w (valSem s) (.val v h) :=
  let ⟨_, h1, h2⟩ := hs; ok_val hr h1 h2
theorem ok_valS {s : Sem Value} {v : V} {h' : Hp} (hs : ∃ ρ' x w', s.run P w = .ok x w' ∧ VR ρ' v x ∧ Stp P ρ h w ρ' h' w') : OpOk P ρ h w (valSem s) (.val v h') :=
  let ⟨ρ', x, w', h1, h2, h3⟩ := hs; ⟨ρ', _, w', run_valSem h1, .inl ⟨x, rfl, h2⟩, h3⟩
def unitSem (s : Sem Unit) : Sem Next := do s; pure .skip
theorem ok_unit {s : Sem Unit} {h' : Hp} (hs : ∃ w', s.run P w = .ok () w' ∧ Stp P ρ h w ρ h' w') : OpOk P ρ h w (unitSem s) (.val undf h') := by
  obtain ⟨w', h1, h2⟩ := hs
  exact ⟨ρ, .skip, w', by simp [unitSem, h1], .inr ⟨rfl, rfl⟩, h2⟩

/-! ### Operands -/

/-- What an operation's operands are in a frame and in the model's. -/
def OR (P : Program) (ρ : Rho) (T : Fr) (a : Act) (o : Oper) : Prop := ∀ x ∈ o.op.operands, ∀ g, opd P x = some (.mk g) → VR ρ (g T) (a.eval x)

theorem TR.or (ht : TR ρ nt T a) (hr : Rel P ρ h w) (o : Oper) : OR P ρ T a o := fun _ _ _ hg => opd_ok ht hr hg

theorem opds_or : ∀ {l : List Operand} {g : Fr → List V}, (∀ x ∈ l, ∀ g, opd P x = some (.mk g) → VR ρ (g T) (a.eval x)) → opds P l = some (.mk g) → VRs ρ (g T) (l.map a.eval)
  | [], g, _, hx => by
    have : g = fun _ => [] := by
      have : (some (Cm.mk fun _ => []) : Option (Cm (Fr → List V))) = some (.mk g) := hx
      simpa using this.symm
    subst this
    exact .nil
  | x :: l, g, ho, hx => by
    have e : opds P (x :: l) = (match opd P x with
      | some (.mk f) => match opds P l with
        | some (.mk g) => some (.mk fun T => f T :: g T)
        | none => none
      | none => none) := rfl
    rw [e] at hx
    split at hx
    · rename_i f hf
      split at hx
      · rename_i g' hg'
        simp only [Option.some.injEq, Cm.mk.injEq] at hx
        subst hx
        exact .cons _ _ _ _ (ho x (by simp) f hf) (opds_or (fun y hy => ho y (by simp [hy])) hg')
      · cases hx
    · cases hx

theorem with1_ok {x : Operand} (hx : ∀ g, opd P x = some (.mk g) → VR ρ (g T) (a.eval x)) {k : V → Hp → Option Nx} {f : OpFn} {r : Nx} (hc : with1 P x k = .mk f) (hf : f T h = some r) : ∃ v, VR ρ v (a.eval x) ∧ k v h = some r := by
  simp only [with1] at hc
  split at hc
  · rename_i g hg
    cases hc
    exact ⟨g T, hx g hg, hf⟩
  · cases hc; cases hf

theorem with2_ok {x y : Operand} (hx : ∀ g, opd P x = some (.mk g) → VR ρ (g T) (a.eval x)) (hy : ∀ g, opd P y = some (.mk g) → VR ρ (g T) (a.eval y)) {k : V → V → Hp → Option Nx} {f : OpFn} {r : Nx} (hc : with2 P x y k = .mk f) (hf : f T h = some r) : ∃ u v, VR ρ u (a.eval x) ∧ VR ρ v (a.eval y) ∧ k u v h = some r := by
  simp only [with2] at hc
  split at hc
  · rename_i g hg
    split at hc
    · rename_i g' hg'
      cases hc
      exact ⟨g T, g' T, hx g hg, hy g' hg', hf⟩
    · cases hc; cases hf
  · cases hc; cases hf

theorem with3_ok {x y z : Operand} (hx : ∀ g, opd P x = some (.mk g) → VR ρ (g T) (a.eval x)) (hy : ∀ g, opd P y = some (.mk g) → VR ρ (g T) (a.eval y)) (hz : ∀ g, opd P z = some (.mk g) → VR ρ (g T) (a.eval z)) {k : V → V → V → Hp → Option Nx} {f : OpFn} {r : Nx} (hc : with3 P x y z k = .mk f) (hf : f T h = some r) :
    ∃ u v t, VR ρ u (a.eval x) ∧ VR ρ v (a.eval y) ∧ VR ρ t (a.eval z) ∧ k u v t h = some r := by
  simp only [with3] at hc
  split at hc
  · rename_i g hg
    split at hc
    · rename_i g' hg'
      split at hc
      · rename_i g'' hg''
        cases hc
        exact ⟨g T, g' T, g'' T, hx g hg, hy g' hg', hz g'' hg'', hf⟩
      · cases hc; cases hf
    · cases hc; cases hf
  · cases hc; cases hf

theorem withs_ok {l : List Operand} (hl : ∀ x ∈ l, ∀ g, opd P x = some (.mk g) → VR ρ (g T) (a.eval x)) {k : List V → Hp → Option Nx} {f : OpFn} {r : Nx} (hc : withs P l k = .mk f) (hf : f T h = some r) : ∃ vs, VRs ρ vs (l.map a.eval) ∧ k vs h = some r := by
  simp only [withs] at hc
  split at hc
  · rename_i g hg
    cases hc
    exact ⟨g T, opds_or hl hg, hf⟩
  · cases hc; cases hf

theorem nxV_eq {q : Option V} {r : Nx} (hq : nxV h q = some r) : ∃ v, q = some v ∧ r = .val v h := by
  cases q with
  | none => cases hq
  | some v => exact ⟨v, rfl, (Option.some.inj hq).symm⟩
theorem nxVH_eq {q : Option (V × Hp)} {r : Nx} (hq : nxVH q = some r) : ∃ v h', q = some (v, h') ∧ r = .val v h' := by
  cases q with
  | none => cases hq
  | some v => exact ⟨v.1, v.2, rfl, (Option.some.inj hq).symm⟩
theorem nxH_eq {q : Option Hp} {r : Nx} (hq : nxH q = some r) : ∃ h', q = some h' ∧ r = .val undf h' := by
  cases q with
  | none => cases hq
  | some v => exact ⟨v, rfl, (Option.some.inj hq).symm⟩

theorem optp_ok {x : Option Operand} (ho : ∀ y, x = some y → ∀ g, opd P y = some (.mk g) → VR ρ (g T) (a.eval y)) {g : Fr → Option V} (hx : optp P x = some (.mk g)) : OptR ρ (g T) (x.map a.eval) := by
  cases x with
  | none => simp only [optp, Option.some.injEq, Cm.mk.injEq] at hx; subst hx; trivial
  | some x =>
    simp only [optp] at hx
    split at hx
    · rename_i f hf
      simp only [Option.some.injEq, Cm.mk.injEq] at hx
      subst hx
      exact ho x rfl f hf
    · cases hx

theorem parts_zip : ∀ (l : List (Nat × Operand)) (vs : List V), VRs ρ vs ((partOps l).map a.eval) → PartsR ρ ((partsOf l).zip vs) (l.map fun p => (p.1, a.eval p.2))
  | [], _, _ => .nil
  | (i, x) :: l, _, .cons v vs _ _ hv hs => .cons i v _ _ _ hv (parts_zip l vs hs)

theorem parts_ok {ps : Array (Nat × Operand)} {vs : List V} (hv : VRs ρ vs ((partOps ps.toList).map a.eval)) :
    PartsR ρ ((partsOf ps.toList).zip vs) (ps.map fun (i, x) => (i, a.eval x)).toList := by
  rw [Array.toList_map]
  exact parts_zip ps.toList vs hv

/-! ### Builtins -/

theorem conc_list : ∀ {vs : List V} {xs : List Value} {l : List Value}, VRs ρ vs xs → concs? vs = some l → xs = l := fun h k => concs_eq h k

theorem builtin_ok (hr : Rel P ρ h w) (hf : Free ρ h.next) (hG : P.globals.size ≤ h.next) {b : Builtin} {ts : Array TypeId} {ty : TypeId} {cs : Array Bool} {args : List V} {xs : Array Value} {v : V} {h' : Hp} (ha : VRs ρ args xs.toList)
    (hv : builtinV P b ts ty args h = some (v, h')) : OpOk P ρ h w (builtin b ts ty cs xs) (.val v h') := by
  have two : ∀ {u v : V}, VRs ρ [u, v] xs.toList → ∃ x y, xs = #[x, y] ∧ VR ρ u x ∧ VR ρ v y := by
    intro u v hl
    cases xs with
    | mk l =>
      cases hl with
      | cons _ _ x _ h1 hl => cases hl with
        | cons _ _ y _ h2 hl => cases hl; exact ⟨x, y, rfl, h1, h2⟩
  have one : ∀ {u : V}, VRs ρ [u] xs.toList → ∃ x, xs = #[x] ∧ VR ρ u x := by
    intro u hl
    cases xs with
    | mk l =>
      cases hl with
      | cons _ _ x _ h1 hl => cases hl; exact ⟨x, rfl, h1⟩
  have pure_one : ∀ {q : Option V}, (q.map fun v => (v, h)) = some (v, h') → q = some v ∧ h' = h := by
    intro q hq
    simp only [Option.map_eq_some_iff, Prod.mk.injEq] at hq
    obtain ⟨u, hu, rfl, rfl⟩ := hq
    exact ⟨hu, rfl⟩
  unfold builtinV at hv
  split at hv
  · obtain ⟨x, y, rfl, h1, h2⟩ := two ha
    exact ok_valS (append_ok hr hf hG h1 h2 hv)
  · obtain ⟨x, y, rfl, h1, h2⟩ := two ha
    obtain ⟨z, w', q1, q2, q3⟩ := copy_ok (ty := ty) hr h1 h2 hv
    exact ok_valS ⟨ρ, z, w', q1, q2, q3⟩
  · obtain ⟨x, rfl, h1⟩ := one ha
    split at hv
    · rename_i t hts
      obtain ⟨hq, rfl⟩ := pure_one hv
      exact ok_valE hr (len_ok hr hts h1 hq)
    · cases hv
  · obtain ⟨x, rfl, h1⟩ := one ha
    split at hv
    · rename_i t hts
      obtain ⟨hq, rfl⟩ := pure_one hv
      exact ok_valE hr (cap_ok hts h1 hq)
    · cases hv
  · obtain ⟨x, rfl, h1⟩ := one ha
    obtain ⟨hq, rfl⟩ := pure_one hv
    exact ok_valE hr (sliceData_ok h1 hq)
  · obtain ⟨x, y, rfl, h1, h2⟩ := two ha
    obtain ⟨z, w', q1, q2, q3⟩ := unsafeStr_ok (t := ty) hr h1 h2 hv
    exact ok_valS ⟨ρ, z, w', q1, q2, q3⟩
  · obtain ⟨x, y, rfl, h1, h2⟩ := two ha
    split at hv
    · rename_i t hts
      simp only [Option.map_eq_some_iff, Prod.mk.injEq] at hv
      obtain ⟨h2', hq, rfl, rfl⟩ := hv
      obtain ⟨w', q1, q2⟩ := del_ok (ty := ty) hr hts h1 h2 hq
      exact ok_valS ⟨ρ, _, w', q1, vr_undf ρ, q2⟩
    · cases hv
  all_goals first
    | (cases hv; done)
    | skip
  all_goals
    split at hv
    · rename_i l hl
      split at hv
      · rename_i z hz
        obtain ⟨hq, rfl⟩ := pure_one hv
        have e : xs = l.toArray := by
          have := concs_eq ha hl
          exact Array.ext' (by simpa using this)
        subst e
        exact ok_val hr (semVal_run P w hz) (abs1_vr hq)
      · cases hv
    · cases hv

/-- A value is had, and nothing else. -/
def Quiet (P : Program) (ρ : Rho) (h : Hp) (w : World) (s : Sem Next) (r : Nx) : Prop := ∃ v x, r = .val v h ∧ s.run P w = .ok (.value x) w ∧ VR ρ v x

theorem quiet_pure {s : Sem Next} {v : V} {x : Value} (hs : s.run P w = .ok (.value x) w) (hv : VR ρ v x) : Quiet P ρ h w s (.val v h) := ⟨v, x, rfl, hs, hv⟩
theorem quiet_val {s : Sem Value} {v : V} {x : Value} (hs : s.run P w = .ok x w) (hv : VR ρ v x) : Quiet P ρ h w (valSem s) (.val v h) := ⟨v, x, rfl, run_valSem hs, hv⟩
theorem quiet_valE {s : Sem Value} {v : V} (hs : ∃ x, s.run P w = .ok x w ∧ VR ρ v x) : Quiet P ρ h w (valSem s) (.val v h) := let ⟨_, h1, h2⟩ := hs; quiet_val h1 h2
theorem Quiet.ok (hr : Rel P ρ h w) {s : Sem Next} {r : Nx} (hq : Quiet P ρ h w s r) : OpOk P ρ h w s r := by
  obtain ⟨v, x, rfl, h1, h2⟩ := hq
  exact ok_pure hr h1 h2

noncomputable def isQuiet (o : Op) : Bool :=
  match o with
  | .move _ | .assign _ | .pick _ _ _ | .build _ _ | .nilCheck _ | .binOp _ _ _ _ _ | .unOp _ _ _ | .makeInterface _ _ | .makeFunc _ _ _
  | .slice _ _ _ _ _ | .fieldAddr _ _ _ | .field _ _ _ | .indexAddr _ _ _ | .index _ _ _ | .extract _ _ | .load _ _ | .lookup _ _ _ _ | .convert _ _ _ => true
  | .call c => match c.callee with
    | .builtin .len | .builtin .cap | .builtin .min | .builtin .max | .builtin .real | .builtin .imag | .builtin .complex => true
    | _ => false
  | _ => false

theorem bquiet_ok (hr : Rel P ρ h w) {b : Builtin} (hb : b = .len ∨ b = .cap ∨ b = .min ∨ b = .max ∨ b = .real ∨ b = .imag ∨ b = .complex) {ts : Array TypeId} {ty : TypeId} {cs : Array Bool} {args : List V} {xs : Array Value} {v : V} {h' : Hp} (ha : VRs ρ args xs.toList)
    (hv : builtinV P b ts ty args h = some (v, h')) : Quiet P ρ h w (builtin b ts ty cs xs) (.val v h') := by
  have one : ∀ {u : V}, VRs ρ [u] xs.toList → ∃ x, xs = #[x] ∧ VR ρ u x := by
    intro u hl
    cases xs with
    | mk l =>
      cases hl with
      | cons _ _ x _ h1 hl => cases hl; exact ⟨x, rfl, h1⟩
  have pure_one : ∀ {q : Option V}, (q.map fun v => (v, h)) = some (v, h') → q = some v ∧ h' = h := by
    intro q hq
    simp only [Option.map_eq_some_iff, Prod.mk.injEq] at hq
    obtain ⟨u, hu, rfl, rfl⟩ := hq
    exact ⟨hu, rfl⟩
  unfold builtinV at hv
  split at hv <;> first
    | (rcases hb with h | h | h | h | h | h | h <;> cases h; done)
    | (cases hv; done)
    | skip
  · obtain ⟨x, rfl, h1⟩ := one ha
    split at hv
    · rename_i t hts
      obtain ⟨hq, rfl⟩ := pure_one hv
      exact quiet_valE (len_ok hr hts h1 hq)
    · cases hv
  · obtain ⟨x, rfl, h1⟩ := one ha
    split at hv
    · rename_i t hts
      obtain ⟨hq, rfl⟩ := pure_one hv
      exact quiet_valE (cap_ok hts h1 hq)
    · cases hv
  all_goals
    split at hv
    · rename_i l hl
      split at hv
      · rename_i z hz
        obtain ⟨hq, rfl⟩ := pure_one hv
        have e : xs = l.toArray := by
          have := concs_eq ha hl
          exact Array.ext' (by simpa using this)
        subst e
        exact quiet_val (semVal_run P w hz) (abs1_vr hq)
      · cases hv
    · cases hv

/-! ### Operations that make a block -/

theorem make_ok {o : Oper} (ht : OR P ρ T a o) {f : MkFn} {i : Nat} {v : V} {ob : Ob} (hc : makeC P o = some (.mk f)) (hv : f T i = some (v, ob)) : ∃ s, execOp a.eval o = valSem s ∧ MkOk P ρ w s i v ob := by
  have m1 : ∀ {x : Operand} {k : V → Nat → Option (V × Ob)}, x ∈ o.op.operands → mk1 P x k = .mk f → ∃ u, VR ρ u (a.eval x) ∧ k u i = some (v, ob) := by
    intro x k hx hk
    simp only [mk1] at hk
    split at hk
    · rename_i g hg
      cases hk
      exact ⟨g T, ht x hx g hg, hv⟩
    · cases hk; cases hv
  cases hop : o.op <;> simp only [makeC, hop] at hc <;> first
    | (cases hc; done)
    | skip
  case alloc el =>
    simp only [Option.some.injEq] at hc
    split at hc
    · rename_i z hz
      cases hac : allCell z.cells with
      | false => rw [hac, cond_false] at hc; cases hc; cases hv
      | true =>
        rw [hac, cond_true] at hc
        cases hc
        simp only [Option.some.injEq, Prod.mk.injEq] at hv
        obtain ⟨rfl, rfl⟩ := hv
        refine ⟨Instr.alloc el true (.tuple #[]), by unfold execOp; rw [hop]; rfl, ?_⟩
        obtain ⟨x, hx, hzx⟩ := run_zero (w := w) hz
        have := newVar_ok (P := P) (w := w) (ρ := ρ) (el := el) (i := i) (abs2_vr hzx) hac
        obtain ⟨y, O, w', zz, g1, g2⟩ := this
        exact ⟨y, O, w', zz, by simp only [Instr.alloc, Sem.run_bind, hx, Result.andThen_ok] at g1 ⊢; exact g1, g2⟩
    · cases hc; cases hv
  case box el x =>
    simp only [Option.some.injEq] at hc
    obtain ⟨u, hu, hk⟩ := m1 (by rw [hop]; simp [Op.operands]) hc
    refine ⟨Instr.box el (a.eval x), by unfold execOp; rw [hop]; rfl, ?_⟩
    simp only [newCells] at hk
    cases hac : allCell u.cells with
    | false => rw [hac] at hk; cases hk
    | true =>
      rw [hac, cond_true] at hk
      simp only [Option.some.injEq, Prod.mk.injEq] at hk
      obtain ⟨rfl, rfl⟩ := hk
      exact newVar_ok hu hac
  case buildSlice t n ps =>
    simp only [Option.some.injEq] at hc
    split at hc
    · rename_i g hg
      cases hc
      refine ⟨Instr.buildSlice t n (ps.map fun (i, x) => (i, a.eval x)), by unfold execOp; rw [hop]; rfl, ?_⟩
      exact buildSl_ok (parts_ok (opds_or (fun x hx => ht x (by rw [hop]; simpa [Op.operands, partOps] using hx)) hg)) hv
    · cases hc; cases hv
  case makeMap t r =>
    simp only [Option.some.injEq] at hc
    have hmk : ∀ (s : Sem Value), s.run P w = .ok (.map (some w.heap.size)) { w with heap := w.heap.push (.map #[] 0) } → v = .map i → ob = .map [] 0 → MkOk P ρ w s i v ob := by
      intro s hs e1 e2
      subst e1; subst e2
      exact ⟨_, _, _, 0, hs, rfl, rfl, rfl, rfl, rfl, fun ρ' _ hi _ => ⟨.map _ _ hi, rfl, #[], push_here w _, trivial⟩⟩
    cases r with
    | none =>
      cases hc
      simp only [Option.some.injEq, Prod.mk.injEq] at hv
      exact ⟨Instr.makeMap t none, by unfold execOp; rw [hop]; rfl, hmk _ (by simp [Instr.makeMap]) hv.1.symm hv.2.symm⟩
    | some x =>
      simp only at hc
      split at hc
      · rename_i kt el hd
        obtain ⟨u, hu, hk⟩ := m1 (by rw [hop]; simp [Op.operands]) hc
        split at hk
        · cases hgen : a.eval x with
          | int k n =>
            simp only [Option.some.injEq, Prod.mk.injEq] at hk
            refine ⟨Instr.makeMap t (some (a.eval x)), by unfold execOp; rw [hop]; rfl, hmk _ ?_ hk.1.symm hk.2.symm⟩
            rw [hgen]
            simp [Instr.makeMap, run_und hd, asInt, asIntOf]
          | _ => rw [hgen] at hu; cases hu
        · cases hk
      · cases hc; cases hv
  case makeSlice t l c =>
    simp only [Option.some.injEq] at hc
    split at hc
    · rename_i g hg
      split at hc
      · rename_i g' hg'
        cases hc
        exact ⟨Instr.makeSlice t (a.eval l) (a.eval c), by unfold execOp; rw [hop]; rfl, makeSl_ok (ht l (by rw [hop]; simp [Op.operands]) g hg) (ht c (by rw [hop]; simp [Op.operands]) g' hg') hv⟩
      · cases hc; cases hv
    · cases hc; cases hv
  case range t x =>
    simp only [Option.some.injEq] at hc
    obtain ⟨u, hu, hk⟩ := m1 (by rw [hop]; simp [Op.operands]) hc
    exact ⟨Instr.range t (a.eval x), by unfold execOp; rw [hop]; rfl, range_ok hu hk⟩
  case convert s d x =>
    split at hc
    · rename_i hs
      split at hc
      · rename_i el hd
        split at hc
        · rename_i he
          simp only [Option.some.injEq] at hc
          obtain ⟨u, hu, hk⟩ := m1 (by rw [hop]; simp [Op.operands]) hc
          exact ⟨convert s d (a.eval x), by unfold execOp; rw [hop]; rfl, bytesOf_ok hs hd he hu hk⟩
        · cases hc
      · cases hc
    · cases hc

/-! ### The others -/

theorem fn_elim {f : Fn} {l m : List V} {z : Value} (hz : VR ρ (.fn f l m) z) : ∃ x y, z = .func f x y ∧ VRs ρ l x.toList ∧ VRs ρ m y.toList := by
  cases hz with
  | fn _ _ _ x y hx hy => exact ⟨x, y, rfl, hx, hy⟩

theorem quiet_ok (hr : Rel P ρ h w) {o : Oper} (ht : OR P ρ T a o) (hq : isQuiet o.op = true) {f : OpFn} {r : Nx} (hc : op0C P o = .mk f) (hv : f T h = some r) : Quiet P ρ h w (execOp a.eval o) r := by
  cases hop : o.op <;> simp only [op0C, hop] at hc <;> first
    | (cases hc; cases hv; done)
    | (rw [hop] at hq; cases hq; done)
    | skip
  case move x =>
    obtain ⟨v, hx, hk⟩ := with1_ok (ht _ (by rw [hop]; simp [Op.operands])) hc hv
    cases hk
    exact quiet_pure (by unfold execOp; rw [hop]; rfl) hx
  case assign x =>
    obtain ⟨v, hx, hk⟩ := with1_ok (ht _ (by rw [hop]; simp [Op.operands])) hc hv
    cases hk
    exact quiet_pure (by unfold execOp; rw [hop]; rfl) hx
  case pick c x y =>
    obtain ⟨u, v, t, h1, h2, h3, hk⟩ := with3_ok (ht _ (by rw [hop]; simp [Op.operands])) (ht _ (by rw [hop]; simp [Op.operands])) (ht _ (by rw [hop]; simp [Op.operands])) hc hv
    simp only [pickV] at hk
    split at hk
    · rename_i b
      generalize hg : a.eval c = gc at h1
      cases h1
      cases b with
      | true => cases hk; exact quiet_pure (by unfold execOp; rw [hop]; simp [hg, asBool]) h2
      | false => cases hk; exact quiet_pure (by unfold execOp; rw [hop]; simp [hg, asBool]) h3
    · cases hk
  case build t ps =>
    obtain ⟨vs, h1, hk⟩ := withs_ok (fun x hx => ht x (by rw [hop]; simpa [Op.operands, partOps] using hx)) hc hv
    obtain ⟨v, hq, rfl⟩ := nxV_eq hk
    have e : execOp a.eval o = valSem (Instr.build t (ps.map fun (i, x) => (i, a.eval x))) := by unfold execOp; rw [hop]; rfl
    rw [e]
    exact quiet_valE (build_ok (parts_ok h1) hq)
  case load t x =>
    have hld := cm_eta (ldC P t)
    obtain ⟨u, h1, hk⟩ := with1_ok (ht _ (by rw [hop]; simp [Op.operands])) hc hv
    obtain ⟨v, hq, rfl⟩ := nxV_eq hk
    have e : execOp a.eval o = valSem (Instr.loadAt t (a.eval x)) := by unfold execOp; rw [hop]; rfl
    rw [e]
    exact quiet_valE (ld_ok hr hld h1 hq)
  case nilCheck x =>
    obtain ⟨u, h1, hk⟩ := with1_ok (ht _ (by rw [hop]; simp [Op.operands])) hc hv
    obtain ⟨v, hq, rfl⟩ := nxV_eq hk
    obtain ⟨h2, rfl⟩ := nilChk_ok (P := P) (w := w) h1 hq o x hop rfl
    exact quiet_pure h2 h1
  case binOp op t x y sh =>
    obtain ⟨u, v, h1, h2, hk⟩ := with2_ok (ht _ (by rw [hop]; simp [Op.operands])) (ht _ (by rw [hop]; simp [Op.operands])) hc hv
    obtain ⟨z, hq, rfl⟩ := nxV_eq hk
    have e : execOp a.eval o = valSem (do eqGuard op t x y (a.eval x) (a.eval y); binOp op t (a.eval x) (a.eval y)) := by unfold execOp; rw [hop]; rfl
    rw [e]
    exact quiet_valE (bin_ok h1 h2 hq)
  case unOp op t x =>
    obtain ⟨u, h1, hk⟩ := with1_ok (ht _ (by rw [hop]; simp [Op.operands])) hc hv
    obtain ⟨v, hq, rfl⟩ := nxV_eq hk
    have e : execOp a.eval o = valSem (Op.unary op (a.eval x)) := by unfold execOp; rw [hop]; rfl
    rw [e]
    exact quiet_valE (un_ok h1 hq)
  case convert s d x =>
    obtain ⟨u, h1, hk⟩ := with1_ok (ht _ (by rw [hop]; simp [Op.operands])) hc hv
    obtain ⟨v, h', hq, rfl⟩ := nxVH_eq hk
    have e : execOp a.eval o = valSem (convert s d (a.eval x)) := by unfold execOp; rw [hop]; rfl
    rw [e]
    obtain ⟨rfl, hy⟩ := conv_ok hr h1 hq
    exact quiet_valE hy
  case makeInterface t x =>
    have hif := cm_eta (ifaceC P t)
    obtain ⟨u, h1, hk⟩ := with1_ok (ht _ (by rw [hop]; simp [Op.operands])) hc hv
    obtain ⟨v, hq, rfl⟩ := nxV_eq hk
    have e : execOp a.eval o = valSem (Instr.makeInterface t (a.eval x)) := by unfold execOp; rw [hop]; rfl
    rw [e]
    obtain ⟨q1, q2⟩ := iface_ok (w := w) hif h1 hq
    exact quiet_val q1 q2
  case makeFunc fn x y =>
    split at hc
    · rename_i g hg
      split at hc
      · rename_i g' hg'
        cases hc
        cases hv
        have e : execOp a.eval o = valSem (Instr.makeFunc fn (x.map a.eval) (y.map a.eval)) := by unfold execOp; rw [hop]; rfl
        rw [e]
        refine quiet_val (x := .func fn (x.map a.eval) (y.map a.eval)) rfl (.fn _ _ _ _ _ ?_ ?_)
        · rw [Array.toList_map]; exact opds_or (fun x hx => ht x (by rw [hop]; simp only [Op.operands, Array.mem_append]; exact .inl (by simpa using hx))) hg
        · rw [Array.toList_map]; exact opds_or (fun x hx => ht x (by rw [hop]; simp only [Op.operands, Array.mem_append]; exact .inr (by simpa using hx))) hg'
      · cases hc; cases hv
    · cases hc; cases hv
  case slice t x lo hi mx =>
    simp only [sliceOp] at hc
    split at hc
    · rename_i k hk
      split at hc
      · rename_i kl hkl
        split at hc
        · rename_i kh hkh
          split at hc
          · rename_i km hkm
            cases hc
            obtain ⟨v, hq, rfl⟩ := nxV_eq hv
            have e : execOp a.eval o = valSem (Instr.sliceAt t (a.eval x) (lo.map a.eval) (hi.map a.eval) (mx.map a.eval)) := by unfold execOp; rw [hop]; rfl
            rw [e]
            exact quiet_valE (slice_ok (ht x (by rw [hop]; simp [Op.operands]) k hk) (optp_ok (fun y hy => ht y (by rw [hop, hy]; simp [Op.operands])) hkl) (optp_ok (fun y hy => ht y (by rw [hop, hy]; simp [Op.operands])) hkh) (optp_ok (fun y hy => ht y (by rw [hop, hy]; simp [Op.operands])) hkm) hq)
          · cases hc; cases hv
        · cases hc; cases hv
      · cases hc; cases hv
    · cases hc; cases hv
  case fieldAddr s x fd =>
    have hfa := cm_eta (fieldAddrC P s fd)
    obtain ⟨u, h1, hk⟩ := with1_ok (ht _ (by rw [hop]; simp [Op.operands])) hc hv
    obtain ⟨v, hq, rfl⟩ := nxV_eq hk
    have e : execOp a.eval o = valSem (Instr.fieldAt s (a.eval x) fd) := by unfold execOp; rw [hop]; rfl
    rw [e]
    exact quiet_valE (fieldAddr_ok hfa h1 hq)
  case field t x fd =>
    obtain ⟨u, h1, hk⟩ := with1_ok (ht _ (by rw [hop]; simp [Op.operands])) hc hv
    obtain ⟨v, hq, rfl⟩ := nxV_eq hk
    have e : execOp a.eval o = valSem (Instr.field t (a.eval x) fd) := by unfold execOp; rw [hop]; rfl
    rw [e]
    exact quiet_valE (field_ok h1 hq)
  case indexAddr t x ix =>
    obtain ⟨u, v, h1, h2, hk⟩ := with2_ok (ht _ (by rw [hop]; simp [Op.operands])) (ht _ (by rw [hop]; simp [Op.operands])) hc hv
    obtain ⟨z, hq, rfl⟩ := nxV_eq hk
    have e : execOp a.eval o = valSem (Instr.indexAt t (a.eval x) (a.eval ix)) := by unfold execOp; rw [hop]; rfl
    rw [e]
    exact quiet_valE (indexAddr_ok h1 h2 hq)
  case index t x ix =>
    obtain ⟨u, v, h1, h2, hk⟩ := with2_ok (ht _ (by rw [hop]; simp [Op.operands])) (ht _ (by rw [hop]; simp [Op.operands])) hc hv
    obtain ⟨z, hq, rfl⟩ := nxV_eq hk
    have e : execOp a.eval o = valSem (Instr.index t (a.eval x) (a.eval ix)) := by unfold execOp; rw [hop]; rfl
    rw [e]
    exact quiet_valE (index_ok h1 h2 hq)
  case lookup t x ix ok =>
    obtain ⟨u, v, h1, h2, hk⟩ := with2_ok (ht _ (by rw [hop]; simp [Op.operands])) (ht _ (by rw [hop]; simp [Op.operands])) hc hv
    obtain ⟨z, hq, rfl⟩ := nxV_eq hk
    have e : execOp a.eval o = valSem (Instr.lookup t (a.eval x) (a.eval ix) ok) := by unfold execOp; rw [hop]; rfl
    rw [e]
    exact quiet_valE (lookup_ok hr h1 h2 hq)
  case extract x i =>
    obtain ⟨u, h1, hk⟩ := with1_ok (ht _ (by rw [hop]; simp [Op.operands])) hc hv
    obtain ⟨v, hq, rfl⟩ := nxV_eq hk
    have e : execOp a.eval o = valSem (Instr.extract (a.eval x) i) := by unfold execOp; rw [hop]; rfl
    rw [e]
    exact quiet_valE (extract_ok h1 hq)
  case call c =>
    have e : execOp a.eval o = (do let d ← resolve a.eval c o.type; invoke d.target d.args) := by unfold execOp; rw [hop]
    rw [e]
    simp only [callC] at hc
    have hal : ∀ x ∈ c.args.toList, ∀ g, opd P x = some (.mk g) → VR ρ (g T) (a.eval x) := fun x hx => ht x (by rw [hop]; simp only [Op.operands, Call.operands, Array.mem_append]; exact .inr (by simpa using hx))
    have hargs : ∀ {vs : List V}, VRs ρ vs (c.args.toList.map a.eval) → VRs ρ vs (c.args.map a.eval).toList := fun h => by rw [Array.toList_map]; exact h
    rw [hop] at hq
    simp only [isQuiet] at hq
    split at hc
    · rename_i b hb
      obtain ⟨vs, h1, hk⟩ := withs_ok hal hc hv
      obtain ⟨v, h', hq', rfl⟩ := nxVH_eq hk
      simp only [resolve, hb]
      have hbs : b = .len ∨ b = .cap ∨ b = .min ∨ b = .max ∨ b = .real ∨ b = .imag ∨ b = .complex := by
        rw [hb] at hq
        cases b <;> first
          | (cases hq; done)
          | simp
      exact bquiet_ok hr hbs (hargs h1) hq'
    · rename_i fo hfo
      rw [hfo] at hq
      cases hq
    · cases hc; cases hv

theorem op0_ok (hr : Rel P ρ h w) (hf : Free ρ h.next) (hG : P.globals.size ≤ h.next) {o : Oper} (ht : OR P ρ T a o) {f : OpFn} {r : Nx} (hc : op0C P o = .mk f) (hv : f T h = some r) : OpOk P ρ h w (execOp a.eval o) r := by
  cases hqt : isQuiet o.op with
  | true => exact (quiet_ok hr ht hqt hc hv).ok hr
  | false =>
  cases hop : o.op <;> simp only [op0C, hop] at hc <;> first
    | (cases hc; cases hv; done)
    | (rw [hop] at hqt; cases hqt; done)
    | skip
  case store t x y =>
    have hst := cm_eta (stC P t)
    obtain ⟨u, v, h1, h2, hk⟩ := with2_ok (ht _ (by rw [hop]; simp [Op.operands])) (ht _ (by rw [hop]; simp [Op.operands])) hc hv
    obtain ⟨h', hq, rfl⟩ := nxH_eq hk
    have e : execOp a.eval o = unitSem (Instr.storeAt t (a.eval x) (a.eval y)) := by unfold execOp; rw [hop]; rfl
    rw [e]
    exact ok_unit (st_ok hr hst h1 h2 hq)
  case mapUpdate t m k x =>
    obtain ⟨u, v, z, h1, h2, h3, hk⟩ := with3_ok (ht _ (by rw [hop]; simp [Op.operands])) (ht _ (by rw [hop]; simp [Op.operands])) (ht _ (by rw [hop]; simp [Op.operands])) hc hv
    obtain ⟨h', hq, rfl⟩ := nxH_eq hk
    have e : execOp a.eval o = unitSem (Instr.mapUpdate t (a.eval m) (a.eval k) (a.eval x)) := by unfold execOp; rw [hop]; rfl
    rw [e]
    exact ok_unit (upd_ok hr h1 h2 h3 hq)
  case insert t m k x =>
    obtain ⟨u, v, z, h1, h2, h3, hk⟩ := with3_ok (ht _ (by rw [hop]; simp [Op.operands])) (ht _ (by rw [hop]; simp [Op.operands])) (ht _ (by rw [hop]; simp [Op.operands])) hc hv
    obtain ⟨h', hq, rfl⟩ := nxH_eq hk
    have e : execOp a.eval o = unitSem (Instr.mapUpdate t (a.eval m) (a.eval k) (a.eval x)) := by unfold execOp; rw [hop]; rfl
    rw [e]
    exact ok_unit (upd_ok hr h1 h2 h3 hq)
  case next it s =>
    obtain ⟨u, h1, hk⟩ := with1_ok (ht _ (by rw [hop]; simp [Op.operands])) hc hv
    obtain ⟨v, h', hq, rfl⟩ := nxVH_eq hk
    have e : execOp a.eval o = valSem (Instr.next (a.eval it) s o.type) := by unfold execOp; rw [hop]; rfl
    rw [e]
    obtain ⟨z, w', q1, q2, q3⟩ := next_ok (t := o.type) hr h1 hq
    exact ok_valS ⟨ρ, z, w', q1, q2, q3⟩
  case call c =>
    have e : execOp a.eval o = (do let d ← resolve a.eval c o.type; invoke d.target d.args) := by unfold execOp; rw [hop]
    rw [e]
    simp only [callC] at hc
    have hal : ∀ x ∈ c.args.toList, ∀ g, opd P x = some (.mk g) → VR ρ (g T) (a.eval x) := fun x hx => ht x (by rw [hop]; simp only [Op.operands, Call.operands, Array.mem_append]; exact .inr (by simpa using hx))
    have hfn : ∀ x, c.callee = .value x → ∀ g, opd P x = some (.mk g) → VR ρ (g T) (a.eval x) := fun x hx => ht x (by rw [hop]; simp [Op.operands, Call.operands, hx])
    have hargs : ∀ {vs : List V}, VRs ρ vs (c.args.toList.map a.eval) → VRs ρ vs (c.args.map a.eval).toList := fun h => by rw [Array.toList_map]; exact h
    split at hc
    · rename_i b hb
      obtain ⟨vs, h1, hk⟩ := withs_ok hal hc hv
      obtain ⟨v, h', hq, rfl⟩ := nxVH_eq hk
      simp only [resolve, hb]
      exact builtin_ok hr hf hG (hargs h1) hq
    · rename_i fo hfo
      split at hc
      · rename_i g
        obtain ⟨vs, h1, hk⟩ := withs_ok hal hc hv
        cases hk
        refine ⟨c.args.map a.eval, ?_, hargs h1⟩
        simp only [resolve, hfo, Act.eval, Deferred.ofValue]
        simp [invoke]
      · rename_i fo' _
        split at hc
        · rename_i k hk
          split at hc
          · rename_i g hg
            cases hc
            have hko := hfn _ hfo k hk
            have hgo := opds_or hal hg
            simp only [enterV] at hv
            split at hv
            · rename_i fn aa bb heq
              rw [heq] at hko
              split at hv
              · rename_i gid
                cases hv
                obtain ⟨x, y, hge, hx, hy⟩ := fn_elim hko
                refine ⟨x ++ c.args.map a.eval ++ y, ?_, ?_⟩
                · simp only [resolve, hfo, hge, Deferred.ofValue]
                  simp [invoke]
                · rw [Array.toList_append, Array.toList_append, List.append_assoc]
                  exact hx.append ((hargs hgo).append hy)
              · cases hv
            · cases hv
          · cases hc; cases hv
        · cases hc; cases hv
    · cases hc; cases hv

theorem op_ok (hr : Rel P ρ h w) (hf : Free ρ h.next) (hG : P.globals.size ≤ h.next) {o : Oper} (ht : OR P ρ T a o) {f : OpFn} {r : Nx} (hc : opC P o = .mk f) (hv : f T h = some r) : OpOk P ρ h w (execOp a.eval o) r := by
  simp only [opC] at hc
  split at hc
  · rename_i g hg
    cases hc
    dsimp only at hv
    cases hgt : g T h.next with
    | none => rw [hgt] at hv; cases hv
    | some p =>
      rw [hgt] at hv
      obtain ⟨v, ob⟩ := p
      cases hv
      obtain ⟨s, he, hm⟩ := make_ok ht hg hgt
      rw [he]
      exact ok_valS (hm.stp hr hf hG)
  · exact op0_ok hr hf hG ht hc hv

end
end Vm
end Go.Proofs.YtdgopiffbhlhoaaGreatDoor
