/- LinkFails: whatever a side can do, a call that nobody answers is told as Failed behind just as many tries as N2 says and one (of a wide one behind asking as often, too), and a refused one as Refused: the law's Go function returns true for every input, and changes nothing. (The tables of unicode/utf8 lie as the program's text lays them: the card ties that.) -/
import Derived.Test.YtdgopiffbhlhoaaGreatDoorRow1
import Derived.Test.YtdgopiffbhlhoaaGreatDoorLf5
namespace Go.Proofs.YtdgopiffbhlhoaaGreatDoor
open Go Go.ChangeShapes Go.WideShapes Go.ChangeAt Go.RowKit

set_option maxRecDepth 100000 in
/-- A struct of two bools and four ints, opened. -/
theorem open_params {H : Type} {enc : TypeId × Value → H} {W : World} {sp : Nat → Bool} {held : Bool} {b0 : Nat} {r : Reach} {v : Value} {d : DataW H} {p : List MemPlace} (hv : Value.okWide Tryz.prog W r b0 23 v) (h : DataW.Trod enc Tryz.prog W 0 sp held 23 v d p) :
    ∃ w s n1 k t1 n2, v = .agg #[.bool w, .bool s, .int .i64 n1, .int .i64 k, .int .i64 t1, .int .i64 n2] := by
  obtain ⟨cs, rfl, hsz⟩ := okWide_struct Tryz.underlying23 hv
  have hC : Tryz.prog.cellsOf 23 = 6 := by kernel_rfl
  rw [hC] at hsz
  obtain ⟨fuel, hf⟩ := h
  obtain ⟨xs, n, _, _, _, hlen, hx⟩ := DataW.trod_struct Tryz.underlying23 hf
  have hlen6 : xs.length = 6 := hlen
  obtain ⟨l⟩ := cs
  have hl6 : l.length = 6 := hsz
  have c3 : Tryz.prog.cellsOf 3 = 1 := by kernel_rfl
  have c4 : Tryz.prog.cellsOf 4 = 1 := by kernel_rfl
  have get : ∀ i, i < 6 → ∃ y, xs[i]? = some y := fun i hi => ⟨xs[i], List.getElem?_eq_getElem (by omega)⟩
  match l, hl6 with
  | [a, b, c, d, e, f], _ =>
    obtain ⟨y0, h0⟩ := get 0 (by omega)
    obtain ⟨y1, h1⟩ := get 1 (by omega)
    obtain ⟨y2, h2⟩ := get 2 (by omega)
    obtain ⟨y3, h3⟩ := get 3 (by omega)
    obtain ⟨y4, h4⟩ := get 4 (by omega)
    obtain ⟨y5, h5⟩ := get 5 (by omega)
    have k0 := (hx 0 _ rfl).trans h0
    have k1 := (hx 1 _ rfl).trans h1
    have k2 := (hx 2 _ rfl).trans h2
    have k3 := (hx 3 _ rfl).trans h3
    have k4 := (hx 4 _ rfl).trans h4
    have k5 := (hx 5 _ rfl).trans h5
    change DataW.trod enc Tryz.prog W 0 sp held n 4 (([a, b, c, d, e, f].drop 0).take (Tryz.prog.cellsOf 4)) = some y0 at k0
    rw [c4] at k0
    change DataW.trod enc Tryz.prog W 0 sp held n 4 [a] = some y0 at k0
    change DataW.trod enc Tryz.prog W 0 sp held n 4 (([a, b, c, d, e, f].drop 1).take (Tryz.prog.cellsOf 4)) = some y1 at k1
    rw [c4] at k1
    change DataW.trod enc Tryz.prog W 0 sp held n 4 [b] = some y1 at k1
    change DataW.trod enc Tryz.prog W 0 sp held n 3 (([a, b, c, d, e, f].drop 2).take (Tryz.prog.cellsOf 3)) = some y2 at k2
    rw [c3] at k2
    change DataW.trod enc Tryz.prog W 0 sp held n 3 [c] = some y2 at k2
    change DataW.trod enc Tryz.prog W 0 sp held n 3 (([a, b, c, d, e, f].drop 3).take (Tryz.prog.cellsOf 3)) = some y3 at k3
    rw [c3] at k3
    change DataW.trod enc Tryz.prog W 0 sp held n 3 [d] = some y3 at k3
    change DataW.trod enc Tryz.prog W 0 sp held n 3 (([a, b, c, d, e, f].drop 4).take (Tryz.prog.cellsOf 3)) = some y4 at k4
    rw [c3] at k4
    change DataW.trod enc Tryz.prog W 0 sp held n 3 [e] = some y4 at k4
    change DataW.trod enc Tryz.prog W 0 sp held n 3 (([a, b, c, d, e, f].drop 5).take (Tryz.prog.cellsOf 3)) = some y5 at k5
    rw [c3] at k5
    change DataW.trod enc Tryz.prog W 0 sp held n 3 [f] = some y5 at k5
    obtain ⟨b0, e0, _⟩ := DataW.trod_bool Tryz.underlying4 k0
    obtain ⟨b1, e1, _⟩ := DataW.trod_bool Tryz.underlying4 k1
    obtain ⟨n2, e2, _⟩ := DataW.trod_int Tryz.underlying3 k2
    obtain ⟨n3, e3, _⟩ := DataW.trod_int Tryz.underlying3 k3
    obtain ⟨n4, e4, _⟩ := DataW.trod_int Tryz.underlying3 k4
    obtain ⟨n5, e5, _⟩ := DataW.trod_int Tryz.underlying3 k5
    simp only [List.cons.injEq, and_true] at e0 e1 e2 e3 e4 e5
    subst e0 e1 e2 e3 e4 e5
    exact ⟨_, _, _, _, _, _, rfl⟩

set_option maxRecDepth 100000 in
theorem linkFails_lifted (os : Os) (started : os.Started) (H : Type) (enc : TypeId × Value → H) :
    ReturnsInHanded {} Tryz.checked os 4 .any (fun w args => (Rows.linkFailsSpec.pre enc Tryz.prog Tryz.f4 Rows.linkFailsRow.domain false w args ∧ laidMetH Tryz.prog seatLaid w) ∧ sizedMet enc Tryz.prog Tryz.f4 (OpenSpec.ofChange Rows.linkFailsSpec) false w args)
      (Rows.linkFailsSpec.post enc Tryz.prog Tryz.f4 false true false false) := by
  refine handed_shaped (C := Tryz.checked) (X := fun w _ => laidMetH Tryz.prog seatLaid w) (fun _ _ _ hh h => h.of_heap hh) seatOwn started (by kernel_rfl) Tryz.func4
    (ChangeSpec.witness_shaped (enc := enc) (C := Tryz.checked) (os := os) (X := fun w _ => laidMetH Tryz.prog seatLaid w) false (World.laidAll Tryz.prog os seatLaid) #[.agg #[.bool false, .bool false, .int .i64 0, .int .i64 0, .int .i64 0, .int .i64 0], .bool false] 8 (World.laidAll_os _ _ _)
      (World.shaped_of_ZipB (by kernel_rfl) (by kernel_rfl)) (by kernel_rfl) (by kernel_rfl) (by kernel_rfl)
      (by rw [MakeChecks.laidMetH_plain _ _ _ (by kernel_rfl)]; exact laidMet_laidAll _ (by kernel_rfl) (by kernel_rfl))) ?_
  intro W base args ds gs before hsh hval0 hW _ _
  have hval : ∀ (j : Nat) t v, Tryz.f4.params[j]? = some t → args[j]? = some v → Value.okWide Tryz.prog W .any base t v := hval0
  have hW' := hW
  obtain ⟨p, q, hA0, hV, rfl, _, _⟩ := hW
  have hA : DataW.TrodAll enc Tryz.prog W 0 (fun _ => true) true Tryz.f4.params.toList args.toList ds p := hA0
  rw [Tryz.params4] at hA hval
  obtain ⟨v0, v1, d0, d1, p0, p1, rfl, rfl, rfl, h0, h1⟩ := trodAll_two hA
  obtain ⟨rfl, rfl⟩ := trodVars_none hV
  have hlt : ∀ x ∈ (p0 ++ p1) ++ ([] : List MemPlace), x.block < W.heap.size := fun x hx => hW'.lt x hx
  obtain ⟨w, s, n1, k, t1, n2, rfl⟩ := open_params (hval 0 23 v0 rfl rfl) h0
  obtain ⟨dm, rfl, _, _⟩ := open_bool Tryz.underlying4 (hval 1 4 v1 rfl rfl) h1
  refine (Vm.linkFails_calls w s dm n1 k t1 n2 W (open_size hsh)).mono fun e W' ⟨he, g1, g2, g3, g4, g5⟩ => ?_
  subst he
  have hb : Below W.heap.size W W' := ⟨g1, g2, g3, g4, g5⟩
  refine ⟨_, rfl, law_post rfl hW' hb rfl rfl ⟨p0 ++ p1, fun x hx => hlt x (by simpa using hx), ?_⟩⟩
  rw [Tryz.params4]
  exact trodAll_mk2 (hb.trod seatLaidOut (by kernel_rfl) (Vm.blt_lt (by kernel_rfl)) h0 fun x hx => hlt x (by simp [hx])) (hb.trod seatLaidOut (by kernel_rfl) (Vm.blt_lt (by kernel_rfl)) h1 fun x hx => hlt x (by simp [hx]))

theorem linkFails_said : Rows.LinkFailsSaid :=
  OpenClaim.holds_of_wide 4 Tryz.f4 rfl rfl rfl rfl rfl rfl rfl ⟨rfl, rfl, rfl, rfl, rfl⟩ rfl rfl rfl rfl rfl (by kernel_rfl) Tryz.func4 (by kernel_rfl)
    (of_decide_eq_true (by kernel_rfl)) (by unfold Func.isWrapper; first | (rw [if_pos (by decide +kernel)]; kernel_rfl) | (rw [if_neg (by decide +kernel)]; exact ⟨rfl, rfl⟩))
    (fun os started H enc _ => linkFails_lifted os started H enc)

theorem linkFails_holds : Rows.LinkFailsCardSaid :=
  Claim7.holds_tied_plain_at .later [] [.data, .pinned] true (true, "d138282e5e321d9a3fbc4b554ffd4d7e556bae709961bfb30714706efba4d7f9") false linkFails_said (fun _ h => by cases h) (by kernel_rfl) (fun _ h => by cases h) linkFails_row_tie rfl ⟨rfl, rfl⟩ (by kernel_rfl) rfl
    (fun f fn hf hfn => by
      obtain rfl : f = 4 := Option.some.inj ((show Tryz.prog.funcNamed "squelch/squelchlaw20.LinkFails" = some 4 by kernel_rfl).symm.trans hf) |>.symm
      obtain rfl : fn = Tryz.f4 := (Option.some.inj (Tryz.func4.symm.trans hfn)).symm
      exact ⟨by kernel_rfl, fun j t ht => by
        rw [Tryz.params4] at ht
        have hm : t ∈ [23, 4] := by simpa using Array.mem_of_getElem? ht
        have hall : ([23, 4].all fun u => !Tryz.prog.wantsStandIn u) = true := by kernel_rfl
        exact (show Tryz.prog.wantsStandIn t = false by simpa using List.all_eq_true.1 hall t hm)⟩)
    (by kernel_rfl)

#print axioms linkFails_holds

end Go.Proofs.YtdgopiffbhlhoaaGreatDoor
