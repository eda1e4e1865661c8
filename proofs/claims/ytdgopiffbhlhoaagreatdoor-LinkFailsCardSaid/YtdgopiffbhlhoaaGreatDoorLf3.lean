/- LinkFails: a refused call; the whole. -/
import Derived.Test.YtdgopiffbhlhoaaGreatDoorLf2
namespace Go.Proofs.YtdgopiffbhlhoaaGreatDoor
open Go
namespace Vm

noncomputable def flD : List (Nat × Nat × Bool) := [(115,15,false),(115,33,true)]
noncomputable def ldW (s : Bool) (n1 k t1 n2 : Int) : Out2 := lfRun fl1 lfL (lf0 true s true n1 k t1 n2).fr (lf0 true s true n1 k t1 n2).hp
noncomputable def ldP (w s : Bool) (n1 k t1 n2 : Int) : Out2 := bif w then ldW s n1 k t1 n2 else lf0 false s true n1 k t1 n2
noncomputable def ldD (w s : Bool) (n1 k t1 n2 : Int) : Out2 := lfRun flD lfL (ldP w s n1 k t1 n2).fr (ldP w s n1 k t1 n2).hp
noncomputable def ldX (w s : Bool) (n1 k t1 n2 : Int) : Out2 := lfRun [] lfL (ldD w s n1 k t1 n2).fr (ldD w s n1 k t1 n2).hp
noncomputable def ldZ (w s : Bool) (n1 k t1 n2 : Int) : Out2 := lfRun [] lfZ (ldX w s n1 k t1 n2).fr (ldX w s n1 k t1 n2).hp
theorem ldW_ok (s : Bool) (n1 k t1 n2 : Int) (h0 : ltI 0 (withinE t1) = true) (he : eqI (wrapV .i64 (Int.sub (withinE t1) 1)) 0 = false) : Run2Ok (ldW s n1 k t1 n2) .normal := by
  unfold withinE at h0 he
  cases s
  · exact ⟨by kernel_rfl, by kernel_rfl, .of (A := ((V.bool (ltI 0 (if 255 < if 4 > t1 then 4 else t1 then 255 else if 4 > t1 then 4 else t1))) = (V.bool true)) ∧ ((V.bool (eqI (wrapV IntKind.i64 ((if 255 < if 4 > t1 then 4 else t1 then 255 else if 4 > t1 then 4 else t1).sub 1)) 0)) = (V.bool false)) ∧ True) (by kernel_rfl) (by simp only [*, Bool.not_true, Bool.not_false, and_self]), by kernel_rfl⟩
  · exact ⟨by kernel_rfl, by kernel_rfl, .of (A := ((V.bool (ltI 0 (if 255 < if 4 > t1 then 4 else t1 then 255 else if 4 > t1 then 4 else t1))) = (V.bool true)) ∧ ((V.bool (eqI (wrapV IntKind.i64 ((if 255 < if 4 > t1 then 4 else t1 then 255 else if 4 > t1 then 4 else t1).sub 1)) 0)) = (V.bool false)) ∧ True) (by kernel_rfl) (by simp only [*, Bool.not_true, Bool.not_false, and_self]), by kernel_rfl⟩
theorem ldD_ok (w s : Bool) (n1 k t1 n2 : Int) (hI : inB n1 16 256 = true) (hL : ltI n1 0 = false) : Run2Ok (ldD w s n1 k t1 n2) .normal := by
  cases w <;> cases s
  · exact ⟨by kernel_rfl, by kernel_rfl, .of (A := ((V.bool !inB n1 16 256) = (V.bool false)) ∧ ((V.bool !ltI n1 0) = (V.bool true)) ∧ ((V.bool !ltI n1 0) = (V.bool true)) ∧ ((V.bool !ltI n1 0) = (V.bool true)) ∧ True) (by kernel_rfl) (by simp only [*, Bool.not_true, Bool.not_false, and_self]), by kernel_rfl⟩
  · exact ⟨by kernel_rfl, by kernel_rfl, .of (A := ((V.bool !inB n1 16 256) = (V.bool false)) ∧ ((V.bool !ltI n1 0) = (V.bool true)) ∧ ((V.bool !ltI n1 0) = (V.bool true)) ∧ ((V.bool !ltI n1 0) = (V.bool true)) ∧ True) (by kernel_rfl) (by simp only [*, Bool.not_true, Bool.not_false, and_self]), by kernel_rfl⟩
  · exact ⟨by kernel_rfl, by kernel_rfl, .of (A := ((V.bool !inB n1 16 256) = (V.bool false)) ∧ ((V.bool !ltI n1 0) = (V.bool true)) ∧ ((V.bool !ltI n1 0) = (V.bool true)) ∧ ((V.bool !ltI n1 0) = (V.bool true)) ∧ True) (by kernel_rfl) (by simp only [*, Bool.not_true, Bool.not_false, and_self]), by kernel_rfl⟩
  · exact ⟨by kernel_rfl, by kernel_rfl, .of (A := ((V.bool !inB n1 16 256) = (V.bool false)) ∧ ((V.bool !ltI n1 0) = (V.bool true)) ∧ ((V.bool !ltI n1 0) = (V.bool true)) ∧ ((V.bool !ltI n1 0) = (V.bool true)) ∧ True) (by kernel_rfl) (by simp only [*, Bool.not_true, Bool.not_false, and_self]), by kernel_rfl⟩
theorem ldX_ok (w s : Bool) (n1 k t1 n2 : Int) : Run2Ok (ldX w s n1 k t1 n2) (.exit 0) := by
  cases w <;> cases s <;> exact ⟨by kernel_rfl, by kernel_rfl, .of (A := True) (by kernel_rfl) trivial, by kernel_rfl⟩
theorem ldZ_ok (w s : Bool) (n1 k t1 n2 : Int) : Run2Ok (ldZ w s n1 k t1 n2) .ret := by
  cases w <;> cases s <;> exact ⟨by kernel_rfl, by kernel_rfl, .of (A := True) (by kernel_rfl) trivial, by kernel_rfl⟩
theorem ldZ_res (w s : Bool) (n1 k t1 n2 : Int) : resV Tryz.prog (ldZ w s n1 k t1 n2).fr (ldZ w s n1 k t1 n2).hp (resOfF Tryz.prog 4) = some [.bool true] := by
  cases w <;> cases s <;> kernel_rfl

end Vm
end Go.Proofs.YtdgopiffbhlhoaaGreatDoor
