/- LinkFails: the whole. -/
import Derived.Test.YtdgopiffbhlhoaaGreatDoorLf4
namespace Go.Proofs.YtdgopiffbhlhoaaGreatDoor
open Go
namespace Vm

/-- A call that is refused: the states of the loop. -/
inductive LdI where
  | a | b | c

section
variable (w s : Bool) (n1 k T N : Int)
noncomputable def ldIT : LdI → Fr
  | .a => (lf0 w s true n1 k T N).fr
  | .b => (ldP w s n1 k T N).fr
  | .c => (ldD w s n1 k T N).fr
noncomputable def ldIH : LdI → Hp
  | .a => (lf0 w s true n1 k T N).hp
  | .b => (ldP w s n1 k T N).hp
  | .c => (ldD w s n1 k T N).hp
def ldII : LdI → Prop
  | .a => w = true
  | .b => True
  | .c => True
def ldIM : LdI → Nat
  | .a => 2
  | .b => 1
  | .c => 0
end

abbrev LfGood (e : Ex) (T' : Fr) (h' : Hp) : Prop := (e = .normal ∨ e = .ret) ∧ ∃ vs, resV Tryz.prog T' h' (resOfF Tryz.prog 4) = some vs ∧ resOf vs = .bool true

set_option maxRecDepth 1000000 in
theorem lf_true (w s : Bool) (n1 k T N : Int) (hR : rightB w s n1 k T N = true) : RS Tryz.prog 165 ⟨.leaf, 13⟩ lfB (lfT w s true n1 k T N) ⟨.leaf, 13⟩ LfGood := by
  obtain ⟨hI, ⟨ha1, ha2⟩, ⟨hc1, hc2⟩, ⟨hd1, hd2⟩⟩ := rightB_t hR
  have hL : ltI n1 0 = false := ltI_f (by omega)
  have hA := lfA_ok_true w s n1 k T N hR hI hL
  refine .take2 mixed (call4_ok 200) (call_sim 200) (oget flA 4) 300 9 lf_seq (R := lfA w s true n1 k T N) (by unfold lfA lfRun; rfl) hA.ok hA.p hA.s hA.ex ?_
  show RS Tryz.prog 165 ⟨.leaf, 13⟩ (dropC 9 lfB) _ _ _
  rw [lf_shape]
  refine .seq (.seq (.of2 (l := []) (f := 4) (n := 300) (m := 200) (R := lf0 w s true n1 k T N) (by unfold lf0 lfRun; rfl) (lf0_ok_true w s n1 k T N) ?_))
  refine .block (.loop (ldII w) (ldIT w s n1 k T N) (ldIH w s n1 k T N) ldIM (s := bif w then .a else .b) ?_ ?_ ?_ ?_)
  · cases w
    · exact trivial
    · exact rfl
  · cases w <;> rfl
  · cases w <;> rfl
  have hin := withinE_in T
  rintro (_ | _ | _) hi
  · obtain rfl : w = true := hi
    have hok := ldW_ok s n1 k T N (ltI_t (by omega)) (eqI_f (by have : wrapV .i64 (Int.sub (withinE T) 1) = withinE T - 1 := wrap64_id (by show -1000000000000 ≤ withinE T - 1; omega) (by show withinE T - 1 ≤ _; omega); rw [this]; omega))
    exact .of2 (l := fl1) (f := 4) (n := 300) (m := 200) (R := ldW s n1 k T N) (by unfold ldW lfRun; rfl) hok ⟨.b, trivial, by decide, .same⟩
  · exact .of2 (l := flD) (f := 4) (n := 300) (m := 200) (R := ldD w s n1 k T N) (by unfold ldD lfRun; rfl) (ldD_ok w s n1 k T N hI hL) ⟨.c, trivial, by decide, .same⟩
  · refine .of2 (l := []) (f := 4) (n := 300) (m := 200) (R := ldX w s n1 k T N) (by unfold ldX lfRun; rfl) (ldX_ok w s n1 k T N) ?_
    show RS Tryz.prog 165 ⟨.leaf, 13⟩ lfZ _ _ _
    exact .of2 (l := []) (f := 4) (n := 300) (m := 200) (R := ldZ w s n1 k T N) (by unfold ldZ lfRun; rfl) (ldZ_ok w s n1 k T N) ⟨.inr rfl, _, ldZ_res w s n1 k T N, rfl⟩

set_option maxRecDepth 1000000 in
theorem lf_none (w s dm : Bool) (n1 k T N : Int) (hR : rightB w s n1 k T N = false) : RS Tryz.prog 165 ⟨.leaf, 13⟩ lfB (lfT w s dm n1 k T N) ⟨.leaf, 13⟩ LfGood := by
  cases dm with
  | false =>
    have hA := lfN_ok_false w s n1 k T N hR
    exact .take2 mixed (call4_ok 200) (call_sim 200) (oget flN 4) 300 3 lf_seq3 (R := lfN w s false n1 k T N) (by unfold lfN lfRun; rfl) hA.ok hA.p hA.s hA.ex ⟨.inr rfl, _, lfN_res_false w s n1 k T N, rfl⟩
  | true =>
    have hA := lfN_ok_true w s n1 k T N hR
    exact .take2 mixed (call4_ok 200) (call_sim 200) (oget flN 4) 300 3 lf_seq3 (R := lfN w s true n1 k T N) (by unfold lfN lfRun; rfl) hA.ok hA.p hA.s hA.ex ⟨.inr rfl, _, lfN_res_true w s n1 k T N, rfl⟩

set_option maxRecDepth 1000000 in
/-- 'LinkFails' answers true, and changes nothing. -/
theorem linkFails_calls (w s dm : Bool) (n1 k T N : Int) (W : World) (hg : 3 ≤ W.heap.size) :
    Calls Tryz.prog 4 #[.agg #[.bool w, .bool s, .int .i64 n1, .int .i64 k, .int .i64 T, .int .i64 N], .bool dm] W fun e W' => e = .returned (.bool true) ∧ W'.os = W.os ∧ W'.tape = W.tape ∧ W'.output = W.output ∧ W.heap.size ≤ W'.heap.size ∧ ∀ b, b < W.heap.size → W'.heap[b]? = W.heap[b]? := by
  have hrel : Rel Tryz.prog (rho0 Tryz.prog) ⟨.leaf, 13⟩ W := ⟨fun i o hi => (by cases hi), fun i j o o' b s s' hi => (by cases hi), fun i b s hi => (by
    simp only [rho0] at hi
    split at hi
    · rename_i hgg; cases hi; rw [gsize] at hgg; omega
    · cases hi), fun g hgg => by simp only [rho0]; rw [if_pos hgg]⟩
  refine (RS.func (f := 4) (h0 := ⟨.leaf, 13⟩) (args := [cfgV w s n1 k T N, .bool dm]) (by kernel_rfl) (by kernel_rfl) (R := fun v _ => v = .bool true) ?_ hrel (free0 (by rw [gsize]; decide)) (by rw [gsize]; show 3 ≤ 13; decide) ?_).mono ?_
  · rw [lf_nt]
    show RS Tryz.prog 165 ⟨.leaf, 13⟩ lfB (lfT w s dm n1 k T N) ⟨.leaf, 13⟩ LfGood
    cases hR : rightB w s n1 k T N with
    | false => exact lf_none w s dm n1 k T N hR
    | true =>
      cases dm with
      | false => exact lf_false w s n1 k T N hR
      | true => exact lf_true w s n1 k T N hR
  · exact .cons _ _ _ _ (.agg _ _ (.cons _ _ _ _ (.bool _) (.cons _ _ _ _ (.bool _) (.cons _ _ _ _ (.int _ _) (.cons _ _ _ _ (.int _ _) (.cons _ _ _ _ (.int _ _) (.cons _ _ _ _ (.int _ _) .nil))))))) (.cons _ _ _ _ (.bool _) .nil)
  · rintro e W' ⟨x, v, h', ρ', rfl, rfl, hv, hs⟩
    cases hv
    exact ⟨rfl, hs.os, hs.tape, hs.output, hs.size, fun b hb => hs.frame b hb fun ⟨i, o, z, h1, _⟩ => by cases h1⟩

end Vm
end Go.Proofs.YtdgopiffbhlhoaaGreatDoor
