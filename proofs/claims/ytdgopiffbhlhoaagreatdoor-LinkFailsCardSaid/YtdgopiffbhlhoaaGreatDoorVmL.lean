/- Functions and calls: the machine's run is the model's. -/
import Derived.Test.YtdgopiffbhlhoaaGreatDoorVmK
namespace Go.Proofs.YtdgopiffbhlhoaaGreatDoor
open Go
namespace Vm
section
variable {P : Program} {nt : Nat} {call : CallFn}

theorem initT_get : ∀ (l : List V) (i : Nat) (t : Tree V) (j : Nat), (initT l i t).get j = if i ≤ j ∧ j < i + l.length then l[j - i]? else t.get j
  | [], i, t, j => by
    rw [if_neg (by simp)]
    rfl
  | v :: l, i, t, j => by
    have e : initT (v :: l) i t = initT l (i + 1) (t.put i (some v)) := rfl
    rw [e, initT_get l (i + 1) _ j, Tree.get_put]
    by_cases h : j = i
    · subst h
      rw [if_neg (by omega), if_pos rfl, if_pos (by simp)]
      simp
    · rw [if_neg h]
      by_cases h2 : i + 1 ≤ j ∧ j < i + 1 + l.length
      · rw [if_pos h2, if_pos (by simp; omega), show j - i = (j - (i + 1)) + 1 by omega, List.getElem?_cons_succ]
      · rw [if_neg h2, if_neg (by simp; omega)]

theorem init_TR {ρ : Rho} {args : List V} {xs : Array Value} (ha : VRs ρ args xs.toList) (hle : args.length ≤ nt) : TR ρ nt (initT args 0 .leaf) { tmps := xs ++ Array.replicate (nt - xs.size) undef, defers := [] } := by
  have hl : args.length = xs.size := by rw [ha.length]; simp
  refine ⟨by simp; omega, fun t ht => ?_, fun t ht => ?_⟩
  · rw [tmpV_eq, initT_get, Run.getD_eq 0]
    by_cases h : t < args.length
    · rw [if_pos (by omega), Nat.sub_zero]
      have hv : args[t]? = some args[t] := List.getElem?_eq_getElem h
      obtain ⟨x, hx, hvx⟩ := ha.get t _ hv
      rw [hv]
      have hx' : xs[t]? = some x := by simpa using hx
      have : (xs ++ Array.replicate (nt - xs.size) undef)[t]? = some x := by
        rw [Array.getElem?_append_left (by omega)]
        exact hx'
      rw [this]
      exact hvx
    · rw [if_neg (by omega)]
      have : (xs ++ Array.replicate (nt - xs.size) undef)[t]? = some undef := by
        rw [Array.getElem?_append_right (by omega), Array.getElem?_replicate, if_pos (by omega)]
      rw [this]
      exact vr_undf ρ
  · rw [initT_get, if_neg (by omega)]
    rfl

theorem ldVar_ok {ρ : Rho} {h : Hp} {w : World} (hr : Rel P ρ h w) {t : TypeId} {u v : V} {x : Value} (hu : VR ρ u x) (hv : ldVar P t u h = some v) : ∃ y, (do loadVar t (← asAddr x) : Sem Value).run P w = .ok y w ∧ VR ρ v y := by
  obtain ⟨y, h1, h2⟩ := ld_ok hr (cm_eta (ldC P t)) hu hv
  refine ⟨y, ?_, h2⟩
  have hp : ∃ ad, x = .pointer (some ad) := by
    have : ∃ i o, u = .ptr i o := by
      cases u with
      | ptr i o => exact ⟨_, _, rfl⟩
      | _ =>
        exfalso
        unfold ldVar ldC at hv
        repeat' split at hv
        all_goals cases hv
    obtain ⟨i, o, rfl⟩ := this
    cases hu
    exact ⟨_, rfl⟩
  obtain ⟨ad, rfl⟩ := hp
  simpa [Instr.loadAt, Instr.sureAddr, asAddr] using h1

theorem res_ok {ρ : Rho} {h : Hp} {w : World} {T : Fr} {a : Act} (hr : Rel P ρ h w) (ht : TR ρ nt T a) : ∀ {rs : List ResultVar} {vs : List V}, resV P T h rs = some vs →
    ∃ xs : List Value, (rs.mapM fun
      | .tmp t => pure (a.tmps.getD t undef)
      | .cell x t => do loadVar t (← asAddr (a.tmps.getD x undef)) : Sem (List Value)).run P w = .ok xs w ∧ VRs ρ vs xs
  | [], vs, hv => by
    simp only [resV, Option.some.injEq] at hv
    subst hv
    exact ⟨[], rfl, .nil⟩
  | .tmp t :: rs, vs, hv => by
    simp only [resV] at hv
    split at hv
    · rename_i us hus
      simp only [Option.some.injEq] at hv
      subst hv
      obtain ⟨xs, h1, h2⟩ := res_ok hr ht hus
      refine ⟨a.tmps.getD t undef :: xs, ?_, .cons _ _ _ _ (ht.tmp t) h2⟩
      rw [List.mapM_cons]
      simp only [Sem.run_bind, Sem.run_pure, Result.andThen_ok, h1]
    · cases hv
  | .cell x t :: rs, vs, hv => by
    simp only [resV] at hv
    split at hv
    · rename_i v hv1
      split at hv
      · rename_i us hus
        simp only [Option.some.injEq] at hv
        subst hv
        obtain ⟨xs, h1, h2⟩ := res_ok hr ht hus
        obtain ⟨y, h3, h4⟩ := ldVar_ok hr (ht.tmp x) hv1
        refine ⟨y :: xs, ?_, .cons _ _ _ _ h4 h2⟩
        rw [List.mapM_cons]
        rw [Sem.run_bind] at h3 ⊢
        rw [Sem.run_bind, h3]
        simp only [Result.andThen_ok, Sem.run_bind, h1, Sem.run_pure]
      · cases hv
    · cases hv

theorem results_ok {ρ : Rho} {h : Hp} {w : World} {T : Fr} {a : Act} (hr : Rel P ρ h w) (ht : TR ρ nt T a) {fn : Func} {vs : List V} (hv : resV P T h fn.results.toList = some vs) : ∃ x, (results fn a.tmps).run P w = .ok x w ∧ VR ρ (resOf vs) x := by
  obtain ⟨xs, h1, h2⟩ := res_ok hr ht hv
  have hm : (fn.results.mapM fun
      | .tmp t => pure (a.tmps.getD t undef)
      | .cell x t => do loadVar t (← asAddr (a.tmps.getD x undef)) : Sem (Array Value)).run P w = .ok xs.toArray w := by
    rw [Array.mapM_eq_mapM_toList, Sem.run_map, h1]
    rfl
  have hres : (results fn a.tmps).run P w = .ok (if h : xs.toArray.size = 1 then xs.toArray[0] else .tuple xs.toArray) w := by
    unfold results
    rw [Sem.run_bind]
    exact congrArg (fun r => Result.andThen r fun vs w' => Sem.run P (pure (if h : vs.size = 1 then vs[0] else .tuple vs)) w') hm
  refine ⟨_, hres, ?_⟩
  cases h2 with
  | nil => exact .tup _ _ .nil
  | cons v vs x xs hvx hs => cases hs with
    | nil => exact hvx
    | cons v' vs' x' xs' hv' hs' => exact .tup _ _ (.cons _ _ _ _ hvx (.cons _ _ _ _ hv' hs'))

/-- No function of the program is the one that counts goroutines. -/
noncomputable def noNum (P : Program) : Bool := P.funcs.all fun fn => !(fn.name == "runtime.NumGoroutine")

theorem fn_ok (hmo : P.follows .mixedOrders = true) (hnn : noNum P = true) (hC : CallOk P call) {f : FuncId} {n : Nat} {args : List V} {h h' : Hp} {v : V} (hr : (fnC P f).use n call args h = some (v, h'))
    {ρ : Rho} {w : World} {xs : Array Value} (hrel : Rel P ρ h w) (hf : Free ρ h.next) (hG : P.globals.size ≤ h.next) (ha : VRs ρ args xs.toList) : Does P f xs w fun x w' => ∃ ρ', VR ρ' v x ∧ Stp P ρ h w ρ' h' w' := by
  unfold fnC at hr
  split at hr
  · rename_i fn hfn
    split at hr
    · rename_i c hc
      change (bif Nat.ble (len args) fn.ntmps then endO P fn.results.toList ((codeC P fn.ntmps c).run n call (initT args 0 .leaf) h) else none) = some (v, h') at hr
      cases hb : Nat.ble (len args) fn.ntmps with
      | false => rw [hb] at hr; cases hr
      | true =>
        rw [hb, cond_true] at hr
        have hle := ble_le hb
        rw [len_eq] at hle
        have hname : (fn.name == "runtime.NumGoroutine") = false := by
          unfold noNum at hnn
          have := Array.all_eq_true_iff_forall_mem.1 hnn fn (Array.mem_of_getElem? hfn)
          simpa using this
        refine .inr ⟨?_, ?_⟩
        · have hname' : ¬ fn.name = "runtime.NumGoroutine" := by simpa using hname
          simp [callFunc, hfn, hc, hname']
        · refine calls_of_wp hfn hc ?_
          cases hrun : (codeC P fn.ntmps c).run n call (initT args 0 .leaf) h with
          | bad => rw [hrun] at hr; cases hr
          | ok e T' h₁ =>
            rw [hrun] at hr
            refine wp_mono ((code_ok hmo c).run n call hC _ _ e T' h₁ hrun ρ _ w hrel hf hG (init_TR ha hle)) fun z a' w' hz => ?_
            obtain ⟨rfl, ρ', k1, k2, k3⟩ := hz
            have hd : a'.defers = [] := by rw [k1]
            have fin : (resV P T' h₁ fn.results.toList).map (fun vs => (resOf vs, h₁)) = some (v, h') → a'.defers = [] ∧ ∃ x, (results fn a'.tmps).run P w' = .ok x w' ∧ ∃ v_1, Ending.returned x = .returned v_1 ∧ ∃ ρ', VR ρ' v v_1 ∧ Stp P ρ h w ρ' h' w' := by
              intro hq
              simp only [Option.map_eq_some_iff, Prod.mk.injEq] at hq
              obtain ⟨vs, hvs, rfl, rfl⟩ := hq
              obtain ⟨x, hx, hvx⟩ := results_ok k3.rel k2 hvs
              exact ⟨hd, x, hx, x, rfl, ρ', hvx, k3⟩
            cases e with
            | normal => exact fin hr
            | ret => exact fin hr
            | exit i => cases hr
            | goto l => cases hr
    · cases hr
  · cases hr

/-- What is known of functions is so. -/
def KnownOk (P : Program) (K : Known) : Prop := ∀ f g, K f = some g → ∀ args h v h', g args h = some (v, h') → ∀ (ρ : Rho) (w : World) (xs : Array Value), Rel P ρ h w → Free ρ h.next → P.globals.size ≤ h.next → VRs ρ args xs.toList →
  Does P f xs w fun x w' => ∃ ρ', VR ρ' v x ∧ Stp P ρ h w ρ' h' w'

/-- What the machine comes to is so. -/
theorem call_ok (hmo : P.follows .mixedOrders = true) (hnn : noNum P = true) {K : Known} (hK : KnownOk P K) : ∀ n, CallOk P (callN P K n)
  | 0 => fun g args h v h' hc => by cases hc
  | n + 1 => fun g args h v h' hc ρ w xs hrel hf hG ha => by
    have e : callN P K (n + 1) g args h = (match K g with
      | some k => k args h
      | none => (fnC P g).use n (callN P K n) args h) := rfl
    rw [e] at hc
    cases hk : K g with
    | some k =>
      rw [hk] at hc
      exact hK g k hk args h v h' hc ρ w xs hrel hf hG ha
    | none =>
      rw [hk] at hc
      exact fn_ok hmo hnn (call_ok hmo hnn hK n) hc hrel hf hG ha

end
end Vm
end Go.Proofs.YtdgopiffbhlhoaaGreatDoor
