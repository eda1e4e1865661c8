/- path.Back, where there are no digipeaters. -/
import Derived.Test.YtdgopiffbhlhoaaGreatDoorVn5
import Derived.Test.YtdgopiffbhlhoaaGreatDoorProg
import Derived.Below
import Derived.Shelf.Abstract
namespace Go.Proofs.YtdgopiffbhlhoaaGreatDoor
open Go
namespace Vm

theorem mixed : Tryz.prog.follows .mixedOrders = true := by kernel_rfl
theorem nonum : noNum Tryz.prog = true := by kernel_rfl
theorem gsize : Tryz.prog.globals.size = 3 := by kernel_rfl

noncomputable def noK : Known := fun _ => none
theorem noK_ok : KnownOk Tryz.prog noK := fun f g h => by cases h

theorem run_ok (n : Nat) : CallOk Tryz.prog (callN Tryz.prog noK n) := call_ok mixed nonum noK_ok n

/-- The function's body, its results. -/
theorem func_of (f : FuncId) {fn : Func} (h : Tryz.prog.funcs[f]? = some fn) (hb : fn.body.isSome = true) : fn.body = some (bodyC Tryz.prog f) ∧ fn.ntmps = ntOf Tryz.prog f ∧ fn.results.toList = resOfF Tryz.prog f := by
  unfold bodyC ntOf resOfF
  rw [h]
  cases hc : fn.body with
  | none => rw [hc] at hb; cases hb
  | some c => simp [hc]

noncomputable def hasBody (P : Program) (f : FuncId) : Bool :=
  match P.funcs[f]? with
  | some fn => fn.body.isSome
  | none => false

/-- A function, by its body's pieces. -/
theorem RS.func {f : FuncId} (hb : hasBody Tryz.prog f = true) {h0 : Hp} {args : List V} (hle : Nat.ble (len args) (ntOf Tryz.prog f) = true) {R : V → Hp → Prop}
    (hr : RS Tryz.prog (ntOf Tryz.prog f) h0 (bodyC Tryz.prog f) (initT args 0 .leaf) h0 fun e T' h' => (e = .normal ∨ e = .ret) ∧ ∃ vs, resV Tryz.prog T' h' (resOfF Tryz.prog f) = some vs ∧ R (resOf vs) h')
    {ρ : Rho} {w : World} {xs : Array Value} (hrel : Rel Tryz.prog ρ h0 w) (hf : Free ρ h0.next) (hG : Tryz.prog.globals.size ≤ h0.next) (ha : VRs ρ args xs.toList) :
    Calls Tryz.prog f xs w fun e w' => ∃ x v h' ρ', e = .returned x ∧ R v h' ∧ VR ρ' v x ∧ Stp Tryz.prog ρ h0 w ρ' h' w' := by
  unfold hasBody at hb
  cases hfn : Tryz.prog.funcs[f]? with
  | none => rw [hfn] at hb; cases hb
  | some fn =>
    rw [hfn] at hb
    obtain ⟨h1, h2, h3⟩ := func_of f hfn hb
    exact RS.fn hfn h1 (by rw [h2]; exact hle) (by rw [h2, h3]; exact hr) hrel hf hG ha

/-! ### The iterator of slices.Backward at a nil slice -/

noncomputable def itT (l : Nat) : Fr := initT [.fn (.yield l) [] [], .ptr 13 0] 0 .leaf
noncomputable def itH (d : V) : Hp := mkH [(13, .cells .fix 60 [d])] 14
/-- A slice without elements. -/
inductive Empty : V → Prop
  | nils : Empty .nils
  | slc (o : Nat) (cap : Cp) : Empty (.slc 5 o 0 cap)
theorem Empty.cell {d : V} (h : Empty d) : d.isCell = true := by cases h <;> rfl
noncomputable def itR (d : V) (l : Nat) : Out := (codeC Tryz.prog (ntOf Tryz.prog 162) (bodyC Tryz.prog 162)).run 5 (callN Tryz.prog noK 1) (itT l) (itH d)

theorem iter_stops {ρd : Rho} {d : V} (hd : Empty d) {xd : Value} (hxd : VR ρd d xd) (hfd : Free ρd 13) (l b : Nat) (w : World) (hR : Rel Tryz.prog ρd ⟨.leaf, 13⟩ w) (fz : Nat × Nat) (cc : Array Value) (hcc : cc[0]? = some xd) (hb : w.heap[b]? = some (.cells cc 60 fz)) :
    Calls Tryz.prog 162 #[.func (.yield l) #[] #[], .pointer (some ⟨b, 0, none⟩)] w fun e w' => (∃ v, e = .returned v) ∧ w'.os = w.os ∧ w'.tape = w.tape ∧ w'.output = w.output ∧ w.heap.size ≤ w'.heap.size ∧ ∀ b, b < w.heap.size → w'.heap[b]? = w.heap[b]? := by
  have hlt : b < w.heap.size := (Array.getElem?_eq_some_iff.1 hb).1
  have hget : ∀ i o, (itH d).get i = some o → i = 13 ∧ o = .cells .fix 60 [d] := fun i o h => by
    have := mkH_get h
    simp only [List.mem_cons, Prod.mk.injEq, List.not_mem_nil, or_false] at this
    exact this
  have hrel : Rel Tryz.prog (upd ρd 13 (b, 0) cc.size) (itH d) w := by
    refine ⟨fun i o hi => ?_, fun i j o o' b s s' hi hj _ _ => ?_, fun i b' s hi => ?_, fun g hgl => ?_⟩
    · obtain ⟨rfl, rfl⟩ := hget i o hi
      refine ⟨b, 0, upd_self _ _ _ _, cc, fz, hb, by rw [upd_room], by have := (Array.getElem?_eq_some_iff.1 hcc).1; simp; omega, fun i v hv _ => ?_, fun h => by cases h⟩
      cases i with
      | zero => simp at hv; subst hv; exact ⟨_, hcc, hxd.mono (upd_sub _ _ (hfd 13 (Nat.le_refl _))), hd.cell⟩
      | succ i => simp at hv
    · exact (hget i o hi).1.trans (hget j o' hj).1.symm
    · by_cases e : i = 13
      · subst e; rw [upd_self] at hi; cases hi; exact hlt
      · rw [upd_ne _ _ _ e] at hi
        exact hR.low i b' s hi
    · rw [upd_ne _ _ _ (by rw [gsize] at hgl; omega)]
      exact hR.glob g hgl
  have hf : Free (upd ρd 13 (b, 0) cc.size) (itH d).next := fun i hi => by
    have hi' : 14 ≤ i := hi
    rw [upd_ne _ _ _ (by omega)]
    exact hfd i (by omega)
  have ho : (itR d l).isOk = true := by cases hd <;> kernel_rfl
  have hx : ((itR d l).ex = .normal ∨ (itR d l).ex = .ret) := .inl (by cases hd <;> kernel_rfl)
  have hres : resV Tryz.prog (itR d l).fr (itR d l).hp (resOfF Tryz.prog 162) = some [] := by cases hd <;> kernel_rfl
  refine (RS.func (f := 162) (h0 := itH d) (args := [.fn (.yield l) [] [], .ptr 13 0]) (by kernel_rfl) (by kernel_rfl) (R := fun _ _ => True) ?_ hrel hf (by rw [gsize]; show 3 ≤ 14; decide) ?_).mono ?_
  · exact RS.run mixed (run_ok 1) (n := 5) (Out.eta ho) ⟨hx, [], hres, trivial⟩
  · exact .cons _ _ _ _ (.fn _ _ _ _ _ .nil .nil) (.cons _ _ _ _ (.ptr 13 0 b 0 (upd_self _ _ _ _) (Nat.le_refl 0)) .nil)
  · rintro e w' ⟨x, v, h', ρ', rfl, _, _, hs⟩
    refine ⟨⟨x, rfl⟩, hs.os, hs.tape, hs.output, hs.size, fun b' hb' => hs.frame b' hb' ?_⟩
    rintro ⟨i, o, s, h1, h2, h3⟩
    obtain ⟨rfl, rfl⟩ := hget i o h1
    cases h3

theorem range_nil {ρd : Rho} {d : V} (hd : Empty d) {xd : Value} (hxd : VR ρd d xd) (hfd : Free ρd 13) {b : Nat} {fz : Nat × Nat} {cc : Array Value} {g : Operand} {ps : Array Tmp} {ac bd : Code} {Q : Exit → Act → World → Prop} {a : Act} {w : World} {n : Nat} (hg : a.eval g = .func (.func 162) #[] #[.pointer (some ⟨b, 0, none⟩)])
    (hcc : cc[0]? = some xd) (hb : w.heap[b]? = some (.cells cc 60 fz)) (hR : Rel Tryz.prog ρd ⟨.leaf, 13⟩ w)
    (hQ : ∀ (D : Nat) (W : World), w.heap.size ≤ D → W.heap[D]? = some (.deferred (some [])) → W.os = w.os → W.tape = w.tape → W.output = w.output → w.heap.size ≤ W.heap.size → (∀ b, b < w.heap.size → W.heap[b]? = w.heap[b]?) →
      Q .normal { a with defers := { target := .collected D, args := #[] } :: a.defers } W) : (Code.rangeFunc g ps ac bd).wpIn Fence.wide n Tryz.prog Q a w := by
  refine wpIn_rangeFunc fun fn _ => ?_
  let L : Loop := { state := .ready, pending := none, fn, tmps := a.tmps, params := ps, assign := ac, body := bd, defers := w.heap.size }
  let W1 : World := (w.alloc (.deferred (some []))).alloc (.loop L)
  have hsz : W1.heap.size = w.heap.size + 2 := by simp [W1]
  have hL1 : W1.heap[w.heap.size + 1]? = some (.loop L) := by
    have := World.alloc_heap_new (w.alloc (.deferred (some []))) (.loop L); rwa [World.size_alloc] at this
  have hK1 : W1.heap[w.heap.size]? = some (.deferred (some [])) := (Go.RowKit.Below.heap_alloc _ _ _ (by simp)).trans (World.alloc_heap_new w _)
  have hold : ∀ k, k < w.heap.size → W1.heap[k]? = w.heap[k]? := fun k hk => (Go.RowKit.Below.heap_alloc _ _ _ (by simp; omega)).trans (Go.RowKit.Below.heap_alloc _ _ _ hk)
  have hlt : b < w.heap.size := (Array.getElem?_eq_some_iff.1 hb).1
  have hent : ∀ args w, (callFunc 162 args).run Tryz.prog w = .ok (.enter 162 args) w := by
    cases hfn : Tryz.prog.funcs[162]? with
    | none => exact absurd hfn (by have h : (Tryz.prog.funcs[162]?).isSome = true := by kernel_rfl
                                   intro e; rw [e] at h; cases h)
    | some f => 
      have hq : (Tryz.prog.funcs[162]?).map (fun f => (f.name == "runtime.NumGoroutine", f.body.isSome)) = some (false, true) := by kernel_rfl
      rw [hfn] at hq
      simp only [Option.map_some, Option.some.injEq, Prod.mk.injEq] at hq
      cases hc : f.body with
      | none => rw [hc] at hq; exact absurd hq.2 (by decide)
      | some c => exact Go.Proofs.enters_of hfn hq.1 hc
  refine ⟨w.heap.size + 1, [{ target := .collected w.heap.size, args := #[] }], W1, { target := .fn (.func 162) #[.pointer (some ⟨b, 0, none⟩)], args := #[.func (.yield (w.heap.size + 1)) #[] #[]] }, W1, 162,
    #[.func (.yield (w.heap.size + 1)) #[] #[]] ++ #[.pointer (some ⟨b, 0, none⟩)], W1, run_enterLoop_outer _ _ _ _ _, ?_, fun _ _ => trivial, ?_, fun h => (by cases h), ?_⟩
  · simp only [resolve, hg]
    simp [go_sem]
  · simp [invoke, go_sem, hent]
  · refine callsIn_wide.2 ((iter_stops hd hxd hfd (w.heap.size + 1) b W1 ⟨fun i o h => (by cases h), hR.inj, fun i b s h => by have := hR.low i b s h; omega, hR.glob⟩ fz cc hcc ((hold b hlt).trans hb)).mono ?_)
    rintro e W2 ⟨⟨v, rfl⟩, h1, h2, h3, h4, h5⟩
    have hl2 : W2.heap[w.heap.size + 1]? = some (.loop L) := (h5 _ (by omega)).trans hL1
    refine ⟨none, _, run_endLoop hl2 (by simp [L]), hQ w.heap.size _ (Nat.le_refl _) ?_ h1 h2 h3 ?_ fun k hk => ?_⟩
    · exact (World.putObj_heap_other (by omega)).trans ((h5 _ (by omega)).trans hK1)
    · simp; omega
    · exact (World.putObj_heap_other (by omega)).trans ((h5 _ (by omega)).trans (hold k hk))

end Vm
end Go.Proofs.YtdgopiffbhlhoaaGreatDoor
