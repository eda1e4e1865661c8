/- LinkFails: numbers; the whole. -/
import Derived.Test.YtdgopiffbhlhoaaGreatDoorLf3
namespace Go.Proofs.YtdgopiffbhlhoaaGreatDoor
open Go
namespace Vm

theorem wrap64_id {x : Int} (h1 : -1000000000000 ≤ x) (h2 : x ≤ 1000000000000) : wrapV .i64 x = x := by
  have hf : fits .i64 x = true := by
    cases x with
    | ofNat a =>
      show Nat.ble a (mostOf .i64) = true
      rw [Nat.ble_eq]
      show a ≤ 9223372036854775807
      have : (a : Int) ≤ 1000000000000 := h2
      omega
    | negSucc a =>
      show (bif signedOf .i64 then Nat.ble a (mostOf .i64) else false) = true
      show Nat.ble a (mostOf .i64) = true
      rw [Nat.ble_eq]
      show a ≤ 9223372036854775807
      omega
  unfold wrapV
  rw [hf]; rfl
theorem addE_id {a b : Int} (h1 : -1000000000000 ≤ a + b) (h2 : a + b ≤ 1000000000000) : addE a b = a + b := wrap64_id h1 h2
theorem withinE_id {x : Int} (h1 : 4 ≤ x) (h2 : x ≤ 255) : withinE x = x := by
  unfold withinE
  rw [if_neg (show ¬ (4 > x) by omega), if_neg (by omega)]
theorem withinE_in (x : Int) : 4 ≤ withinE x ∧ withinE x ≤ 255 := by
  unfold withinE
  split <;> split <;> omega
theorem ltI_t {a b : Int} (h : a < b) : ltI a b = true := by rw [ltI_eq]; simpa using h
theorem ltI_f {a b : Int} (h : b ≤ a) : ltI a b = false := by rw [ltI_eq]; simpa using h
theorem eqI_t {a b : Int} (h : a = b) : eqI a b = true := by rw [eqI_eq]; simpa using h
theorem eqI_f {a b : Int} (h : a ≠ b) : eqI a b = false := by rw [eqI_eq]; simpa using h
theorem inB_t {n lo hi : Int} (h : inB n lo hi = true) : lo ≤ n ∧ n ≤ hi := by
  unfold inB at h
  rw [ltI_eq, ltI_eq] at h
  simp at h
  omega

structure RightP (n1 k t1 n2 : Int) : Prop where
  a : 16 ≤ n1 ∧ n1 ≤ 256
  c : 4 ≤ t1 ∧ t1 ≤ 255
  d : 1 ≤ n2 ∧ n2 ≤ 15
theorem rightB_t {w s : Bool} {n1 k t1 n2 : Int} (h : rightB w s n1 k t1 n2 = true) : inB n1 16 256 = true ∧ RightP n1 k t1 n2 := by
  unfold rightB at h
  simp only [Bool.and_eq_true] at h
  exact ⟨h.1, inB_t h.1, inB_t h.2.2.1, inB_t h.2.2.2⟩

theorem RS.of2 {nt : Nat} {h0 : Hp} {Q : Ex → Fr → Hp → Prop} {l : List (Nat × Nat × Bool)} {f : FuncId} {n m : Nat} {c : Code} {T : Fr} {h : Hp} {R : Out2} {e : Ex}
    (hR : R = (codeC2 Tryz.prog (oget l f) nt c).run n (callN2 Tryz.prog k4 (ovs l) m) T h) (hk : Run2Ok R e) (hq : Q e R.fr R.hp) : RS Tryz.prog nt h0 c T h Q :=
  .run2' mixed (call4_ok m) (call_sim m) (oget l f) n hR hk.ok hk.p hk.s (by rw [hk.ex]; exact hq)

inductive LfI where
  | first
  | st (ask : Bool) (x : LfS)
  | done (x : LfS)

/-- How many rounds are left, at most. -/
def lfRem (N : Int) (ask : Bool) (x : LfS) : Int := x.t1 + (N - x.tries) * 255 + (if ask = true then (N + 1) * 255 else 0)

structure LfInv (w : Bool) (N : Int) (ask : Bool) (x : LfS) : Prop where
  wide : ask = true → w = true
  t1 : 1 ≤ x.t1 ∧ x.t1 ≤ 255
  tries : 0 ≤ x.tries ∧ x.tries ≤ N
  calls : x.calls = (if ask = true then 0 else if w = true then N + 1 else 0) + x.tries + 1
  n : 0 ≤ x.n ∧ x.n + lfRem N ask x ≤ 8200

section
variable (w s : Bool) (n1 k T N : Int)

noncomputable def lfIT : LfI → Fr
  | .first => (lf0 w s false n1 k T N).fr
  | .st _ x => lfTf x
  | .done x => (lb flE w s n1 k T N false x).fr
noncomputable def lfIH : LfI → Hp
  | .first => (lf0 w s false n1 k T N).hp
  | .st a x => lfHf w s n1 k T N a x
  | .done x => (lb flE w s n1 k T N false x).hp
def lfII : LfI → Prop
  | .first => True
  | .st a x => LfInv w N a x
  | .done x => x.calls = (if w = true then N + 1 else 0) + N + 1 ∧ 0 ≤ x.n ∧ x.n ≤ 8200
noncomputable def lfIM : LfI → Nat
  | .first => 100000
  | .st a x => (lfRem N a x).toNat + 1
  | .done _ => 0
end

set_option maxRecDepth 1000000 in
theorem lf_false (w s : Bool) (n1 k T N : Int) (hR : rightB w s n1 k T N = true) : RS Tryz.prog 165 ⟨.leaf, 13⟩ lfB (lfT w s false n1 k T N) ⟨.leaf, 13⟩ fun e T' h' => (e = .normal ∨ e = .ret) ∧ ∃ vs, resV Tryz.prog T' h' (resOfF Tryz.prog 4) = some vs ∧ resOf vs = .bool true := by
  obtain ⟨hI, ⟨ha1, ha2⟩, ⟨hc1, hc2⟩, ⟨hd1, hd2⟩⟩ := rightB_t hR
  have hL : ltI n1 0 = false := ltI_f (by omega)
  have hA := lfA_ok_false w s n1 k T N hR hI hL
  refine .take2 mixed (call4_ok 200) (call_sim 200) (oget flA 4) 300 9 lf_seq (R := lfA w s false n1 k T N) (by unfold lfA lfRun; rfl) hA.ok hA.p hA.s hA.ex ?_
  show RS Tryz.prog 165 ⟨.leaf, 13⟩ (dropC 9 lfB) _ _ _
  rw [lf_shape]
  refine .seq (.seq (.of2 (l := []) (f := 4) (n := 300) (m := 200) (R := lf0 w s false n1 k T N) (by unfold lf0 lfRun; rfl) (lf0_ok_false w s n1 k T N) ?_))
  refine .block (.loop (lfII w N) (lfIT w s n1 k T N) (lfIH w s n1 k T N) (lfIM N) (s := .first) trivial rfl rfl ?_)
  have hin := withinE_in T
  have hwT : withinE T = T := withinE_id hc1 hc2
  rintro (_ | ⟨ask, x⟩ | x) hi
  · -- the first round
    have hok := lf1_ok w s n1 k T N (ltI_t (by omega)) (eqI_f (by have : wrapV .i64 (Int.sub (withinE T) 1) = withinE T - 1 := wrap64_id (by show -1000000000000 ≤ withinE T - 1; omega) (by show withinE T - 1 ≤ _; omega); rw [this]; omega))
    refine .of2 (l := fl1) (f := 4) (n := 300) (m := 200) (R := lf1 w s n1 k T N) (by unfold lf1 lfRun; rfl) hok ?_
    refine ⟨.st w (s1 T), ?_, ?_, .of _ _ _ (lf1_gc w s n1 k T N)⟩
    · have e1 : (s1 T).t1 = T - 1 := by
        show wrapV .i64 (Int.sub (withinE T) 1) = _
        rw [hwT]
        exact wrap64_id (by show -1000000000000 ≤ T - 1; omega) (by show T - 1 ≤ _; omega)
      have e2 : (s1 T).tries = 0 := rfl
      have e3 : (s1 T).calls = 1 := by show addE 0 1 = 1; rw [addE_id] <;> omega
      have e4 : (s1 T).n = 1 := by show addE 0 1 = 1; rw [addE_id] <;> omega
      refine ⟨fun h => h, by rw [e1]; omega, by rw [e2]; omega, ?_, by rw [e4]; omega, ?_⟩
      · rw [e2, e3]; cases w <;> simp
      · rw [e4]; unfold lfRem; rw [e1, e2]; cases w <;> simp <;> omega
    · have e1 : (s1 T).t1 = T - 1 := by
        show wrapV .i64 (Int.sub (withinE T) 1) = _
        rw [hwT]
        exact wrap64_id (by show -1000000000000 ≤ T - 1; omega) (by show T - 1 ≤ _; omega)
      have e2 : (s1 T).tries = 0 := rfl
      show (lfRem N w (s1 T)).toNat + 1 < 100000
      unfold lfRem; rw [e1, e2]; cases w <;> simp <;> omega
  · -- a round
    obtain ⟨hw, ⟨ht1, ht2⟩, ⟨hr1, hr2⟩, hcalls, hn1, hn2⟩ := (hi : LfInv w N ask x)
    have hrem : 1 ≤ lfRem N ask x := by unfold lfRem; cases ask <;> simp <;> omega
    have hcb : 0 ≤ x.calls ∧ x.calls ≤ 100 := by rw [hcalls]; cases ask <;> cases w <;> simp <;> omega
    have hn := ltI_t (a := x.n) (b := 9000) (by omega)
    have h0 := ltI_t (a := 0) (b := x.t1) (by omega)
    have hsub : wrapV .i64 (Int.sub x.t1 1) = x.t1 - 1 := wrap64_id (by show -1000000000000 ≤ x.t1 - 1; omega) (by show x.t1 - 1 ≤ _; omega)
    have hadd : wrapV .i64 (Int.add x.tries 1) = x.tries + 1 := wrap64_id (by show -1000000000000 ≤ x.tries + 1; omega) (by show x.tries + 1 ≤ _; omega)
    have en : addE x.n 1 = x.n + 1 := addE_id (by omega) (by omega)
    by_cases h1 : x.t1 = 1
    · have he := eqI_t (a := wrapV .i64 (Int.sub x.t1 1)) (b := 0) (by rw [hsub]; omega)
      by_cases htr : x.tries < N
      · -- once more
        have htf := ltI_f (a := N) (b := wrapV .i64 (Int.add x.tries 1)) (by rw [hadd]; omega)
        obtain ⟨z, hz⟩ : ∃ z, withinE (wrapV .i64 (Int.mul 2 x.sm)) = z := ⟨_, rfl⟩
        have hs := withinE_in (wrapV .i64 (Int.mul 2 x.sm))
        rw [hz] at hs
        have key : LfInv w N ask (sTry x) ∧ (lfRem N ask (sTry x)).toNat + 1 < (lfRem N ask x).toNat + 1 := by
          have e1 : (sTry x).t1 = z := hz
          have e2 : (sTry x).tries = x.tries + 1 := hadd
          have e3 : (sTry x).calls = x.calls + 1 := addE_id (by omega) (by omega)
          have e4 : (sTry x).n = x.n + 1 := en
          have e5 : lfRem N ask (sTry x) ≤ lfRem N ask x - 1 := by unfold lfRem; rw [e1, e2, h1]; cases ask <;> simp <;> omega
          have e6 : 1 ≤ lfRem N ask (sTry x) := by unfold lfRem; rw [e1, e2]; cases ask <;> simp <;> omega
          exact ⟨⟨hw, by rw [e1]; omega, by rw [e2]; omega, by rw [e2, e3, hcalls]; omega, by rw [e4]; omega, by rw [e4]; omega⟩, by omega⟩
        cases ask with
        | true => exact .of2 (l := flT) (f := 4) (n := 300) (m := 200) (R := lb flT w s n1 k T N true x) (by unfold lb lfRun; rfl) (lbT_ok_true w s n1 k T N x hR hn h0 he htf) ⟨.st true (sTry x), key.1, key.2, .of _ _ _ (lbT_gc_true w s n1 k T N x)⟩
        | false => exact .of2 (l := flT) (f := 4) (n := 300) (m := 200) (R := lb flT w s n1 k T N false x) (by unfold lb lfRun; rfl) (lbT_ok_false w s n1 k T N x hR hn h0 he htf) ⟨.st false (sTry x), key.1, key.2, .of _ _ _ (lbT_gc_false w s n1 k T N x)⟩
      · -- no more
        have htt := ltI_t (a := N) (b := wrapV .i64 (Int.add x.tries 1)) (by rw [hadd]; omega)
        cases ask with
        | true =>
          refine .of2 (l := flC) (f := 4) (n := 300) (m := 200) (R := lb flC w s n1 k T N true x) (by unfold lb lfRun; rfl) (lbC_ok_true w s n1 k T N x hn h0 he htt) ⟨.st false (sCall T x), ?_, ?_, .of _ _ _ (lbC_gc_true w s n1 k T N x)⟩
          · have e1 : (sCall T x).t1 = withinE T := rfl
            have e2 : (sCall T x).tries = 0 := rfl
            have e3 : (sCall T x).calls = x.calls + 1 := addE_id (by omega) (by omega)
            have e4 : (sCall T x).n = x.n + 1 := en
            have hwt := hw rfl
            have e5 : lfRem N false (sCall T x) ≤ lfRem N true x - 1 := by unfold lfRem; rw [e1, e2, h1]; simp; omega
            refine ⟨fun h => (by cases h), by rw [e1]; omega, by rw [e2]; omega, ?_, by rw [e4]; omega, by rw [e4]; omega⟩
            rw [e2, e3, hcalls, hwt]; simp; omega
          · show (lfRem N false (sCall T x)).toNat + 1 < (lfRem N true x).toNat + 1
            have e1 : (sCall T x).t1 = withinE T := rfl
            have e2 : (sCall T x).tries = 0 := rfl
            unfold lfRem; rw [e1, e2, h1]; simp; omega
        | false =>
          refine .of2 (l := flE) (f := 4) (n := 300) (m := 200) (R := lb flE w s n1 k T N false x) (by unfold lb lfRun; rfl) (lbE_ok_false w s n1 k T N x hI hL hn h0 he htt) ⟨.done x, ?_, ?_, .same⟩
          · refine ⟨?_, hn1, by omega⟩
            rw [hcalls]
            have : x.tries = N := by omega
            rw [this]; simp
          · show 0 < _ + 1
            omega
    · -- nothing happens
      have he := eqI_f (a := wrapV .i64 (Int.sub x.t1 1)) (b := 0) (by rw [hsub]; omega)
      have key : LfInv w N ask (sWait x) ∧ (lfRem N ask (sWait x)).toNat + 1 < (lfRem N ask x).toNat + 1 := by
        have e1 : (sWait x).t1 = x.t1 - 1 := hsub
        have e2 : (sWait x).tries = x.tries := rfl
        have e3 : (sWait x).calls = x.calls := by show addE x.calls 0 = _; rw [addE_id] <;> omega
        have e4 : (sWait x).n = x.n + 1 := en
        have e5 : lfRem N ask (sWait x) = lfRem N ask x - 1 := by unfold lfRem; rw [e1, e2]; omega
        exact ⟨⟨hw, by rw [e1]; omega, by rw [e2]; omega, by rw [e2, e3, hcalls], by rw [e4]; omega, by rw [e4, e5]; omega⟩, by rw [e5]; omega⟩
      cases ask with
      | true => exact .of2 (l := flW) (f := 4) (n := 300) (m := 200) (R := lb flW w s n1 k T N true x) (by unfold lb lfRun; rfl) (lbW_ok_true w s n1 k T N x hn h0 he) ⟨.st true (sWait x), key.1, key.2, .of _ _ _ (lbW_gc_true w s n1 k T N x)⟩
      | false => exact .of2 (l := flW) (f := 4) (n := 300) (m := 200) (R := lb flW w s n1 k T N false x) (by unfold lb lfRun; rfl) (lbW_ok_false w s n1 k T N x hn h0 he) ⟨.st false (sWait x), key.1, key.2, .of _ _ _ (lbW_gc_false w s n1 k T N x)⟩
  · -- the end
    obtain ⟨hcalls, hn1, hn2⟩ := (hi : x.calls = (if w = true then N + 1 else 0) + N + 1 ∧ 0 ≤ x.n ∧ x.n ≤ 8200)
    have en : addE x.n 1 = x.n + 1 := addE_id (by omega) (by omega)
    refine .of2 (l := [(4,42,true)]) (f := 4) (n := 300) (m := 200) (R := lbX w s n1 k T N x) (by unfold lbX lfRun; rfl) (lbX_ok w s n1 k T N x (ltI_t (by rw [en]; omega))) ?_
    show RS Tryz.prog 165 ⟨.leaf, 13⟩ lfZ _ _ _
    refine .of2 (l := []) (f := 4) (n := 300) (m := 200) (R := lbZ w s n1 k T N x) (by unfold lbZ lfRun; rfl) (lbZ_ok w s n1 k T N x) ⟨.inr rfl, _, lbZ_res w s n1 k T N x, ?_⟩
    have hcb : 0 ≤ x.calls ∧ x.calls ≤ 100 := by rw [hcalls]; cases w <;> simp <;> omega
    have ec : addE x.calls 0 = x.calls := by rw [addE_id] <;> omega
    have eN : addE N 1 = N + 1 := addE_id (by omega) (by omega)
    show V.bool _ = V.bool true
    rw [eqI_t]
    rw [ec, eN, hcalls]
    cases w with
    | false => simp
    | true =>
      simp only [cond_true, if_true]
      have : wrapV .i64 (Int.mul (N + 1) 2) = (N + 1) * 2 := wrap64_id (by show -1000000000000 ≤ (N + 1) * 2; omega) (by show (N + 1) * 2 ≤ _; omega)
      rw [this]; omega

end Vm
end Go.Proofs.YtdgopiffbhlhoaaGreatDoor
