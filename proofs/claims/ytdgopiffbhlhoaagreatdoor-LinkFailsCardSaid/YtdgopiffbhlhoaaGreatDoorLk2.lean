/- path.Back, where there are no digipeaters: its answer. -/
import Derived.Test.YtdgopiffbhlhoaaGreatDoorLk1
namespace Go.Proofs.YtdgopiffbhlhoaaGreatDoor
open Go
namespace Vm

noncomputable def bkArgs (d : V) (tb fb : List UInt8) (ts fs : Int) (tm fm : Bool) : List V := [.agg [.str tb, .int .i64 ts, .str fb, .int .i64 fs, .bool tm, .bool fm, d]]
noncomputable def bkVal (tb fb : List UInt8) (ts fs : Int) (tm fm : Bool) : V := .agg [.str fb, .int .i64 fs, .str tb, .int .i64 ts, .bool (!(tm && !fm)), .bool (tm && !fm), .nils]

noncomputable def bkB : Code := bodyC Tryz.prog 96
noncomputable def bkRun (c : Code) (T : Fr) (h : Hp) : Out := (codeC Tryz.prog 32 c).run 20 (callN Tryz.prog noK 5) T h
noncomputable def bk0 (d : V) (tb fb : List UInt8) (ts fs : Int) (tm fm : Bool) : Out := bkRun (fstC bkB) (initT (bkArgs d tb fb ts fs tm fm) 0 .leaf) ⟨.leaf, 13⟩
noncomputable def bk1 (d : V) (tb fb : List UInt8) (ts fs : Int) (tm fm : Bool) : Out := bkRun (fstC (sndC bkB)) (bk0 d tb fb ts fs tm fm).fr (bk0 d tb fb ts fs tm fm).hp
noncomputable def bk2 (d : V) (tb fb : List UInt8) (ts fs : Int) (tm fm : Bool) : Out := bkRun (fstC (sndC (sndC bkB))) (bk1 d tb fb ts fs tm fm).fr (bk1 d tb fb ts fs tm fm).hp
noncomputable def bk3 (d : V) (tb fb : List UInt8) (ts fs : Int) (tm fm : Bool) : Out := bkRun (fstC (fstC (sndC (sndC (sndC bkB))))) (bk2 d tb fb ts fs tm fm).fr (bk2 d tb fb ts fs tm fm).hp
noncomputable def bk4 (d : V) (tb fb : List UInt8) (ts fs : Int) (tm fm : Bool) : Out := bkRun (sndC (sndC (sndC (sndC bkB)))) (bk3 d tb fb ts fs tm fm).fr (bk3 d tb fb ts fs tm fm).hp

noncomputable def rfG : Code → Operand
  | .rangeFunc g _ _ _ => g
  | _ => .tmp 0
noncomputable def rfP : Code → Array Tmp
  | .rangeFunc _ p _ _ => p
  | _ => #[]
noncomputable def rfA : Code → Code
  | .rangeFunc _ _ a _ => a
  | c => c
noncomputable def rfB : Code → Code
  | .rangeFunc _ _ _ b => b
  | c => c
noncomputable def bkRF : Code := inC (sndC (fstC (sndC (sndC (sndC bkB)))))

theorem bk_shape : bkB = .seq (fstC bkB) (.seq (fstC (sndC bkB)) (.seq (fstC (sndC (sndC bkB))) (.seq (.seq (fstC (fstC (sndC (sndC (sndC bkB))))) (.block 0 (.rangeFunc (.tmp 20) (rfP bkRF) (rfA bkRF) (rfB bkRF)))) (sndC (sndC (sndC (sndC bkB))))))) := by kernel_rfl

structure BkFacts (d : V) (tb fb : List UInt8) (ts fs : Int) (tm fm : Bool) : Prop where
  k0 : (bk0 d tb fb ts fs tm fm).isOk = true
  e0 : (bk0 d tb fb ts fs tm fm).ex = .normal
  k1 : (bk1 d tb fb ts fs tm fm).isOk = true
  e1 : (bk1 d tb fb ts fs tm fm).ex = .normal
  k2 : (bk2 d tb fb ts fs tm fm).isOk = true
  e2 : (bk2 d tb fb ts fs tm fm).ex = .normal
  k3 : (bk3 d tb fb ts fs tm fm).isOk = true
  e3 : (bk3 d tb fb ts fs tm fm).ex = .normal
  g3 : tmpV (bk3 d tb fb ts fs tm fm).fr 20 = .fn (.func 162) [] [.ptr 17 0]
  h3 : (bk3 d tb fb ts fs tm fm).hp.get 17 = some (.cells .own 60 [d])
  k4 : (bk4 d tb fb ts fs tm fm).isOk = true
  e4 : (bk4 d tb fb ts fs tm fm).ex = .ret
  r4 : resV Tryz.prog (bk4 d tb fb ts fs tm fm).fr (bk4 d tb fb ts fs tm fm).hp (resOfF Tryz.prog 96) = some [bkVal tb fb ts fs tm fm]

theorem bk_facts {d : V} (hd : Empty d) (tb fb : List UInt8) (ts fs : Int) (tm fm : Bool) : BkFacts d tb fb ts fs tm fm := by
  cases hd <;> cases tm <;> cases fm <;> exact ⟨by kernel_rfl, by kernel_rfl, by kernel_rfl, by kernel_rfl, by kernel_rfl, by kernel_rfl, by kernel_rfl, by kernel_rfl, by kernel_rfl, by kernel_rfl, by kernel_rfl, by kernel_rfl, by kernel_rfl⟩

set_option maxRecDepth 100000 in
theorem back_calls {d : V} (hd : Empty d) (tb fb : List UInt8) (ts fs : Int) (tm fm : Bool) (w : World) (xs : Array Value) (ρ : Rho) (hr : Rel Tryz.prog ρ ⟨.leaf, 13⟩ w) (hf : Free ρ 13) (hx : VRs ρ (bkArgs d tb fb ts fs tm fm) xs.toList) :
    Calls Tryz.prog 96 xs w fun e w' => ∃ x, e = .returned x ∧ (∃ ρ', VR ρ' (bkVal tb fb ts fs tm fm) x) ∧ w'.os = w.os ∧ w'.tape = w.tape ∧ w'.output = w.output ∧ w.heap.size ≤ w'.heap.size ∧ ∀ b, b < w.heap.size → w'.heap[b]? = w.heap[b]? := by
  have F := bk_facts hd tb fb ts fs tm fm
  have hG : Tryz.prog.globals.size ≤ (⟨.leaf, 13⟩ : Hp).next := by rw [gsize]; decide
  have hb : hasBody Tryz.prog 96 = true := by kernel_rfl
  unfold hasBody at hb
  cases hfn : Tryz.prog.funcs[96]? with
  | none => rw [hfn] at hb; cases hb
  | some fn =>
  rw [hfn] at hb
  obtain ⟨c1, c2, c3⟩ := func_of 96 hfn hb
  have hnt : ntOf Tryz.prog 96 = 32 := by kernel_rfl
  rw [hnt] at c2
  refine (callsIn_wide (n := 0)).1 (callsIn_of_wp_marks (F := Fence.wide) hfn c1 trivial ((wpIn_wide (n := 0)).2 ?_))
  rw [c2]
  show bkB.wp _ _ _ _
  rw [bk_shape]
  have hS0 : Stp Tryz.prog ρ ⟨.leaf, 13⟩ w ρ ⟨.leaf, 13⟩ w := .refl hr
  have ht0 := init_TR (nt := 32) hx (by simp [bkArgs])
  have step : ∀ {c : Code} {T : Fr} {h : Hp} {ρ1 : Rho} {a1 : Act} {w1 : World} {e : Ex}, (bkRun c T h).isOk = true → (bkRun c T h).ex = e → Stp Tryz.prog ρ ⟨.leaf, 13⟩ w ρ1 h w1 → TR ρ1 32 T a1 →
      c.wp Tryz.prog (fun x a' w' => x = toExit e ∧ a' = { a1 with tmps := a'.tmps } ∧ ∃ ρ', TR ρ' 32 (bkRun c T h).fr a' ∧ Stp Tryz.prog ρ1 h w1 ρ' (bkRun c T h).hp w' ∧ Stp Tryz.prog ρ ⟨.leaf, 13⟩ w ρ' (bkRun c T h).hp w') a1 w1 := by
    intro c T h ρ1 a1 w1 e h1 h2 h3 h4
    have hle := h3.le
    refine wp_mono ((code_ok mixed c).run 20 _ (run_ok 5) T h _ _ _ (Out.eta h1) ρ1 a1 w1 h3.rel (h3.free hf) (by have : (⟨.leaf, 13⟩ : Hp).next = 13 := rfl; omega) h4) fun x a' w' hz => ?_
    obtain ⟨k1, ρ', k2, k3, k4⟩ := hz
    exact ⟨by rw [k1]; exact congrArg toExit h2, k2, ρ', k3, k4, h3.trans k4⟩
  refine wp_seq (wp_mono (step (c := fstC bkB) F.k0 F.e0 hS0 ht0) ?_)
  rintro _ a0 w0 ⟨rfl, q0, ρ0, t0, _, s0⟩
  refine wp_seq (wp_mono (step F.k1 F.e1 s0 t0) ?_)
  rintro _ a1 w1 ⟨rfl, q1, ρ1, t1, _, s1⟩
  refine wp_seq (wp_mono (step F.k2 F.e2 s1 t1) ?_)
  rintro _ a2 w2 ⟨rfl, q2, ρ2, t2, _, s2⟩
  refine wp_seq (wp_seq (wp_mono (step F.k3 F.e3 s2 t2) ?_))
  rintro _ a3 w3 ⟨rfl, q3, ρ3, t3, _, s3⟩
  change TR ρ3 32 (bk3 d tb fb ts fs tm fm).fr a3 at t3
  change Stp Tryz.prog ρ ⟨.leaf, 13⟩ w ρ3 (bk3 d tb fb ts fs tm fm).hp w3 at s3
  have hg := t3.tmp 20
  rw [F.g3] at hg
  obtain ⟨b, z, hb1, hb2⟩ := s3.rel.ob 17 _ F.h3
  obtain ⟨cc, fz, g1, g2, g3, g4, g5⟩ := hb2
  have hval : ∃ o, z = 0 ∧ o = 0 ∧ a3.eval (.tmp 20) = .func (.func 162) #[] #[.pointer (some ⟨b, o, none⟩)] := by
    show ∃ o, z = 0 ∧ o = 0 ∧ a3.tmps.getD 20 undef = _
    generalize a3.tmps.getD 20 undef = x at hg
    cases hg with
    | fn _ _ _ x y hx1 hy1 =>
      cases x with
      | mk x => cases y with
        | mk y =>
        cases hx1
        cases hy1 with
        | cons _ _ y ys hy hys =>
          cases hys
          cases hy with
          | ptr _ _ b' s' hb' hs' =>
            rw [hb1] at hb'
            cases hb'
            have : z = 0 := by omega
            subst this
            exact ⟨0, rfl, rfl, rfl⟩
  obtain ⟨o, rfl, rfl, hval⟩ := hval
  obtain ⟨x0, hx0, hv0, _⟩ := g4 0 d rfl (Nat.le_refl _)
  -- where the argument lies
  have hxd : VR ρ d x0 := by
    cases hd with
    | nils => exact pure_vr hv0 rfl
    | slc o cap =>
      have hk := s3.keep 5 (by intro ⟨h1, _⟩; exact absurd h1 (by show ¬ 13 ≤ 5; decide))
      cases hv0 with
      | slc _ _ b s n c cap h hs hn hc hz => exact .slc _ _ b s _ c _ (hk.1 ▸ h) hs hn hc (fun z e => by rw [← hk.2]; exact hz z e)
      | slc0 _ _ cap a hc => exact .slc0 _ _ _ a hc
  have hR3 : Rel Tryz.prog ρ ⟨.leaf, 13⟩ w3 := ⟨fun i o h => (by cases h), fun i j o o' b s s' h => (by cases h), fun i b s h => by have := hr.low i b s h; have := s3.size; omega, hr.glob⟩
  refine wp_block (wpIn_wide.1 (range_nil (n := 0) hd hxd hf hval hx0 g1 hR3 ?_))
  intro D W hD hWD ho ht hp hsz hsame
  have s4 : Stp Tryz.prog ρ ⟨.leaf, 13⟩ w ρ3 (bk3 d tb fb ts fs tm fm).hp W := s3.trans (.below s3.rel ho ht hp hsz hsame)
  have t4 : TR ρ3 32 (bk3 d tb fb ts fs tm fm).fr { a3 with defers := { target := .collected D, args := #[] } :: a3.defers } := ⟨t3.size, t3.val, t3.out⟩
  refine wp_mono (step F.k4 F.e4 s4 t4) ?_
  rintro _ a5 w5 ⟨rfl, q5, ρ5, t5, l5, s5⟩
  have hlow : ∀ i b' z', ρ3 i = some (b', z') → b' < w3.heap.size := fun i b' z' h => s3.rel.low i b' z' h
  have hno : ¬ Owned ρ3 (bk3 d tb fb ts fs tm fm).hp D := fun ⟨i, o, z', _, h2, _⟩ => by have := hlow i D z' h2; omega
  have hDW : D < W.heap.size := (Array.getElem?_eq_some_iff.1 hWD).1
  have hD5 : w5.heap[D]? = some (.deferred (some [])) := (l5.frame D hDW hno).trans hWD
  have hd5 : a5.defers = [{ target := .collected D, args := #[] }] := by
    have e3 : a3.defers = [] := by rw [q3]; show a2.defers = []; rw [q2]; show a1.defers = []; rw [q1]; show a0.defers = []; rw [q0]
    rw [q5]
    show _ :: a3.defers = _
    rw [e3]
  have hsz5 : w.heap.size ≤ w5.heap.size := s5.size
  have hDw : w.heap.size ≤ D := by have := s3.size; omega
  have hrel6 : Rel Tryz.prog ρ5 (bk4 d tb fb ts fs tm fm).hp (w5.putObj D (.deferred none)) := by
    have hother : ∀ k, k ≠ D → (w5.putObj D (.deferred none)).heap[k]? = w5.heap[k]? := fun k hk => World.putObj_heap_other hk
    refine ⟨fun i o hi => ?_, s5.rel.inj, fun i b' z' h => ?_, s5.rel.glob⟩
    · obtain ⟨b', z', h1, h2⟩ := s5.rel.ob i o hi
      refine ⟨b', z', h1, h2.mono rfl (.refl _) (hother b' ?_)⟩
      rintro rfl
      cases o with
      | cells md el cs => obtain ⟨_, _, k, _⟩ := h2; rw [hD5] at k; cases k
      | map es cl => obtain ⟨_, _, k, _⟩ := h2; rw [hD5] at k; cases k
      | mapIter m a b c => obtain ⟨_, _, k, _⟩ := h2; rw [hD5] at k; cases k
      | strIter m a => obtain ⟨_, _, k, _⟩ := h2; rw [hD5] at k; cases k
    · have := s5.rel.low i b' z' h; simpa using this
  have hres := F.r4
  rw [← c3] at hres
  obtain ⟨x, hx5, hv5⟩ := results_ok hrel6 t5 hres
  show LeavesInM Fence.wide 0 Tryz.prog fn a5.tmps _ a5.defers .returning w5
  rw [hd5]
  refine ⟨by simp, .inl ⟨_, _, rfl, run_takeDeferred hD5, ?_⟩⟩
  refine ⟨x, hx5, x, rfl, ⟨ρ5, hv5⟩, s5.os, s5.tape, s5.output, by simpa using s5.size, fun k hk => ?_⟩
  rw [World.putObj_heap_other (by omega)]
  exact s5.frame k hk fun ⟨i, o, z', h1, _⟩ => by cases h1

/-- The way back, where there are no digipeaters. -/
noncomputable def backK : List V → Hp → Option (V × Hp) := fun args h => match args with
  | [.agg [.str tb, .int .i64 ts, .str fb, .int .i64 fs, .bool tm, .bool fm, .nils]] => some (bkVal tb fb ts fs tm fm, h)
  | [.agg [.str tb, .int .i64 ts, .str fb, .int .i64 fs, .bool tm, .bool fm, .slc _ _ n _]] => bif Nat.beq n 0 then some (bkVal tb fb ts fs tm fm, h) else none
  | _ => none

theorem back_does {d : V} (hd : Empty d) {tb fb : List UInt8} {ts fs : Int} {tm fm : Bool} {ρd ρ : Rho} {h : Hp} {w : World} {xs : Array Value} (hr : Rel Tryz.prog ρ h w) (hrd : Rel Tryz.prog ρd ⟨.leaf, 13⟩ w) (hf : Free ρd 13) (hx : VRs ρd (bkArgs d tb fb ts fs tm fm) xs.toList) :
    Does Tryz.prog 96 xs w fun x w' => ∃ ρ', VR ρ' (bkVal tb fb ts fs tm fm) x ∧ Stp Tryz.prog ρ h w ρ' h w' := by
  have hq : (Tryz.prog.funcs[96]?).map (fun f => (f.name == "runtime.NumGoroutine", f.body.isSome)) = some (false, true) := by kernel_rfl
  refine .inr ⟨?_, ?_⟩
  · cases hfn : Tryz.prog.funcs[96]? with
    | none => rw [hfn] at hq; cases hq
    | some f =>
      rw [hfn] at hq
      simp only [Option.map_some, Option.some.injEq, Prod.mk.injEq] at hq
      cases hc : f.body with
      | none => rw [hc] at hq; exact absurd hq.2 (by decide)
      | some c => exact enters_of hfn hq.1 hc _ _
  · refine (back_calls hd tb fb ts fs tm fm w xs ρd hrd hf hx).mono ?_
    rintro e w' ⟨x, rfl, ⟨ρ', hv⟩, h1, h2, h3, h4, h5⟩
    exact ⟨x, rfl, ρ, pure_vr hv rfl, .below hr h1 h2 h3 h4 h5⟩

theorem back_ok {h h' : Hp} {v : V} {args : List V} (hc : backK args h = some (v, h')) {ρ : Rho} {w : World} {xs : Array Value} (hr : Rel Tryz.prog ρ h w) (ha : VRs ρ args xs.toList) : Does Tryz.prog 96 xs w fun x w' => ∃ ρ', VR ρ' v x ∧ Stp Tryz.prog ρ h w ρ' h' w' := by
  unfold backK at hc
  split at hc
  · cases hc
    exact back_does .nils hr (rel0 hr 13) (free0 (by rw [gsize]; decide)) (pure_vrs ha rfl)
  · rename_i tb ts fb fs tm fm i o n cap
    cases hn : Nat.beq n 0 with
    | false => rw [hn] at hc; cases hc
    | true =>
      rw [hn] at hc
      cases hc
      have := Nat.eq_of_beq_eq_true hn
      subst this
      let ρd : Rho := ⟨fun g => if g = 5 then ρ i else rho0 Tryz.prog g, fun g => if g = 5 then ρ.room i else 0⟩
      have hne : ∀ g, g < Tryz.prog.globals.size → g ≠ 5 := fun g hg => by rw [gsize] at hg; omega
      have hrd : Rel Tryz.prog ρd ⟨.leaf, 13⟩ w := by
        refine ⟨fun i o h => (by cases h), fun i j o o' b s s' h => (by cases h), fun j b s h => ?_, fun g hg => ?_⟩
        · simp only [ρd] at h
          split at h
          · exact hr.low i b s h
          · exact (rel0 hr 13).low j b s h
        · simp only [ρd]; rw [if_neg (hne g hg)]; exact (rel0 hr 13).glob g hg
      have hf : Free ρd 13 := fun j hj => by
        simp only [ρd]; rw [if_neg (by omega)]; exact free0 (by rw [gsize]; decide) j hj
      refine back_does (.slc o cap) hr hrd hf ?_
      obtain ⟨xs⟩ := xs
      cases ha with
      | cons _ _ x xs hx hxs =>
        cases hxs
        cases hx with
        | agg _ ys hys =>
          obtain ⟨ys⟩ := ys
          refine .cons _ _ _ _ (.agg _ _ ?_) .nil
          cases hys with | cons _ _ x1 _ e1 hys =>
          cases hys with | cons _ _ x2 _ e2 hys =>
          cases hys with | cons _ _ x3 _ e3 hys =>
          cases hys with | cons _ _ x4 _ e4 hys =>
          cases hys with | cons _ _ x5 _ e5 hys =>
          cases hys with | cons _ _ x6 _ e6 hys =>
          cases hys with | cons _ _ x7 _ e7 hys =>
          cases hys
          refine .cons _ _ _ _ (pure_vr e1 rfl) (.cons _ _ _ _ (pure_vr e2 rfl) (.cons _ _ _ _ (pure_vr e3 rfl) (.cons _ _ _ _ (pure_vr e4 rfl) (.cons _ _ _ _ (pure_vr e5 rfl) (.cons _ _ _ _ (pure_vr e6 rfl) (.cons _ _ _ _ ?_ .nil))))))
          cases e7 with
          | slc _ _ b s n c cap h hs hn hc hz => exact .slc _ _ b s _ c _ (by simp only [ρd, if_true]; exact h) hs hn hc (fun z e => by simp only [ρd, if_true]; exact hz z e)
          | slc0 _ _ cap a hc => exact .slc0 _ _ _ a hc
  · cases hc

end Vm
end Go.Proofs.YtdgopiffbhlhoaaGreatDoor
