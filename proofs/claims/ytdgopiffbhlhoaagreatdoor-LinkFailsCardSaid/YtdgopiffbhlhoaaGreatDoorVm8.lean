/- The small machine's operations are the model's: numbers, comparisons, conversions. -/
import Derived.Test.YtdgopiffbhlhoaaGreatDoorVm7
import Derived.Laws.Strings
import Derived.Laws.Concat
namespace Go.Proofs.YtdgopiffbhlhoaaGreatDoor
open Go
namespace Vm
section
variable {P : Program} {ρ : Rho} {nt : Nat} {T : Fr} {a : Act} {h : Hp} {w : World}

/-! ### Whole numbers -/

theorem sameKind_eq {j k : IntKind} (h : sameKind j k = true) : j = k := by
  cases j <;> cases k <;> first | rfl | (exact absurd h (by decide))

theorem fits_wrap {k : IntKind} {n : Int} (h : fits k n = true) : k.wrap n = n := by
  cases n with
  | ofNat m =>
    have h' : m ≤ mostOf k := Nat.le_of_ble_eq_true h
    cases k <;> simp only [mostOf] at h' <;> simp only [IntKind.wrap, IntKind.bits, IntKind.signed] <;> simp <;> omega
  | negSucc m =>
    have h' : (bif signedOf k then Nat.ble m (mostOf k) else false) = true := h
    cases k <;> simp only [signedOf, cond_true, cond_false] at h' <;> first
      | (cases h'; done)
      | (have h2 := Nat.le_of_ble_eq_true h'
         simp only [mostOf] at h2
         simp only [IntKind.wrap, IntKind.bits, IntKind.signed]
         rw [Int.negSucc_eq]
         simp
         omega)

theorem wrapV_eq (k : IntKind) (n : Int) : wrapV k n = k.wrap n := by
  unfold wrapV
  cases h : fits k n with
  | true => rw [cond_true, fits_wrap h]
  | false => rfl

theorem ltI_eq (a b : Int) : ltI a b = decide (a < b) := by
  cases a with
  | ofNat x => cases b with
    | ofNat y =>
      show Nat.blt x y = _
      rw [Bool.eq_iff_iff, Nat.blt_eq]
      simp
    | negSucc y =>
      show false = _
      rw [Int.negSucc_eq]
      simp
      omega
  | negSucc x => cases b with
    | ofNat y =>
      show true = _
      rw [Int.negSucc_eq]
      simp
      omega
    | negSucc y =>
      show Nat.blt y x = _
      rw [Bool.eq_iff_iff, Nat.blt_eq, Int.negSucc_eq, Int.negSucc_eq]
      simp

theorem eqI_eq (a b : Int) : eqI a b = decide (a = b) := by
  cases a with
  | ofNat x => cases b with
    | ofNat y =>
      show Nat.beq x y = _
      rw [Bool.eq_iff_iff, Nat.beq_eq]
      simp
      omega
    | negSucc y => rfl
  | negSucc x => cases b with
    | ofNat y => rfl
    | negSucc y =>
      show Nat.beq x y = _
      rw [Bool.eq_iff_iff, Nat.beq_eq]
      simp

theorem not_lt_dec (a b : Int) : (!decide (a < b)) = decide (b ≤ a) := by
  rw [Bool.eq_iff_iff]; simp

theorem intBin_ok {op : BinOp} {t : TypeId} {cx cy : Operand} {k : IntKind} {m n : Int} {v : V} (h : (intBin op).use k m n = some v) :
    ∃ r, (do eqGuard op t cx cy (.int k m) (.int k n); binOp op t (.int k m) (.int k n)).run P w = .ok r w ∧ VR ρ v r := by
  cases op <;> first
    | (simp [intBin, Cm.use] at h; done)
    | (simp only [intBin, Cm.use, Option.some.injEq] at h
       subst h
       refine ⟨_, by simp [eqGuard, binOp, Op.intArith, Op.intCmp]; rfl, ?_⟩
       first
         | (rw [wrapV_eq]; exact .int _ _)
         | (rw [eqI_eq]; exact .bool _)
         | (rw [ltI_eq, not_lt_dec]; exact .bool _)
         | (rw [ltI_eq]; exact .bool _))

/-! ### Texts -/

theorem eqU8s_eq : ∀ (a b : List UInt8), eqU8s a b = (a == b)
  | [], [] => rfl
  | [], _ :: _ => rfl
  | _ :: _, [] => rfl
  | x :: a, y :: b => by
    have e : eqU8s (x :: a) (y :: b) = (bif Nat.beq x.toNat y.toNat then eqU8s a b else false) := rfl
    rw [e, eqU8s_eq a b, List.cons_beq_cons]
    cases hb : Nat.beq x.toNat y.toNat with
    | true =>
      have : x = y := UInt8.toNat_inj.1 (Nat.eq_of_beq_eq_true hb)
      subst this
      simp
    | false =>
      have : x ≠ y := by intro e; subst e; rw [Nat.beq_refl] at hb; cases hb
      simp [this]

theorem strCmp_ok {op : BinOp} {t : TypeId} {cx cy : Operand} {a b : ByteArray} {v : V} (h : (strCmp op).use a.data.toList b.data.toList = some v) :
    ∃ r, (do eqGuard op t cx cy (.string a) (.string b); binOp op t (.string a) (.string b)).run P w = .ok r w ∧ VR ρ v r := by
  cases op <;> first
    | (simp [strCmp, Cm.use] at h; done)
    | skip
  · simp only [strCmp, Cm.use] at h
    cases hb : Nat.ble (len a.data.toList + len b.data.toList) 1099511627776 with
    | false => simp [hb] at h
    | true =>
      simp only [hb, cond_true, Option.some.injEq] at h
      subst h
      have := ble_le hb
      rw [len_eq, len_eq] at this
      have h1 : a.size + b.size ≤ 1099511627776 := by simpa using this
      refine ⟨.string (a ++ b), ?_, .str _ _ (by simp)⟩
      have h3 := run_string_add_sum (P := P) (w := w) a b (by omega)
      simp [eqGuard, binOp, h3]
  · simp only [strCmp, Cm.use, Option.some.injEq] at h
    subst h
    refine ⟨_, by simp [eqGuard, binOp, Op.stringOp]; rfl, ?_⟩
    rw [eqU8s_eq, ByteArray.toList_eq, ByteArray.toList_eq]
    exact .bool _
  · simp only [strCmp, Cm.use, Option.some.injEq] at h
    subst h
    refine ⟨_, by simp [eqGuard, binOp, Op.stringOp]; rfl, ?_⟩
    rw [eqU8s_eq, ByteArray.toList_eq, ByteArray.toList_eq]
    exact .bool _

/-! ### What is held against nil; places -/

theorem eqNil_ok {t : TypeId} {u v : V} {x y : Value} {r : Bool} (hu : VR ρ u x) (hv : VR ρ v y) (h : eqNil P t u v = some r) :
    (Op.equal t x y).run P w = .ok r w ∧ (∀ op cx cy, (eqGuard op t cx cy x y).run P w = .ok () w) ∧
      (∀ t', binOp .eql t' x y = (do pure (.bool (← Op.equal t' x y)))) ∧ (∀ t', binOp .neq t' x y = (do pure (.bool (!(← Op.equal t' x y))))) := by
  obtain ⟨d, hd⟩ : ∃ d, Op.maxDepth = d + 1 := ⟨9999, rfl⟩
  simp only [eqNil] at h
  split at h <;> first
    | (rename_i hd1; cases hu <;> cases hv <;> (simp only [Option.some.injEq] at h; subst h; exact ⟨by simp only [Op.equal, hd]; simp [Op.equalIn, run_und hd1], fun op cx cy => by cases op <;> simp [eqGuard], fun _ => by simp [binOp], fun _ => by simp [binOp]⟩))
    | (cases h; done)
    | skip
  rename_i el i o j q hd1
  split at h
  · rename_i n hn
    split at h
    · rename_i e
      subst e
      simp only [Option.some.injEq] at h
      subst h
      cases hu with
      | ptr _ _ b s hb hs =>
        cases hv with
        | ptr _ _ b' s' hb' hs' =>
          rw [hb] at hb'
          simp only [Option.some.injEq, Prod.mk.injEq] at hb'
          obtain ⟨rfl, rfl⟩ := hb'
          refine ⟨?_, fun op cx cy => by cases op <;> simp [eqGuard], fun _ => by simp [binOp], fun _ => by simp [binOp]⟩
          have he : ((⟨b, o - s, none⟩ : Addr) == ⟨b, q - s, none⟩) = (o == q) := by
            rw [Bool.eq_iff_iff]
            simp
            omega
          simp only [Op.equal, hd]
          simp [Op.equalIn, run_und hd1, run_size hn, sameAddr, he]
    · cases h
  · cases h

theorem nilBin_ok {op : BinOp} {t : TypeId} {cx cy : Operand} {u v r : V} {x y : Value} (hu : VR ρ u x) (hv : VR ρ v y) (h : (nilBin P op t).use u v = some r) :
    ∃ z, (do eqGuard op t cx cy x y; binOp op t x y).run P w = .ok z w ∧ VR ρ r z := by
  cases op <;> first
    | (simp [nilBin, Cm.use] at h; done)
    | skip
  · simp only [nilBin, Cm.use, Option.map_eq_some_iff] at h
    obtain ⟨b, hb, rfl⟩ := h
    obtain ⟨h1, h2, h3, h4⟩ := eqNil_ok (w := w) hu hv hb
    exact ⟨.bool b, by simp [h2, h3, h1], .bool _⟩
  · simp only [nilBin, Cm.use, Option.map_eq_some_iff] at h
    obtain ⟨b, hb, rfl⟩ := h
    obtain ⟨h1, h2, h3, h4⟩ := eqNil_ok (w := w) hu hv hb
    exact ⟨.bool (!b), by simp [h2, h4, h1], .bool _⟩

theorem genBin_ok {op : BinOp} {t : TypeId} {cx cy : Operand} {u v r : V} {x y : Value} (hu : VR ρ u x) (hv : VR ρ v y) (h : genBin P op t cx cy u v = some r) :
    ∃ z, (do eqGuard op t cx cy x y; binOp op t x y).run P w = .ok z w ∧ VR ρ r z := by
  simp only [genBin] at h
  split at h
  · rename_i a b ha hb
    split at h
    · rename_i z hz
      rw [conc_eq hu ha, conc_eq hv hb]
      exact ⟨z, semVal_run P w hz, abs1_vr h⟩
    · cases h
  · cases h

theorem bin_ok {op : BinOp} {t : TypeId} {cx cy : Operand} {u v r : V} {x y : Value} (hu : VR ρ u x) (hv : VR ρ v y) (h : binV P op t cx cy u v = some r) :
    ∃ z, (do eqGuard op t cx cy x y; binOp op t x y).run P w = .ok z w ∧ VR ρ r z := by
  have gen : ∀ {q : Option V}, orGen P op t cx cy u v q = some r → (∀ r', q = some r' → ∃ z, (do eqGuard op t cx cy x y; binOp op t x y).run P w = .ok z w ∧ VR ρ r' z) →
      ∃ z, (do eqGuard op t cx cy x y; binOp op t x y).run P w = .ok z w ∧ VR ρ r z := by
    intro q hq hz
    cases q with
    | some r' => simp only [orGen, Option.some.injEq] at hq; subst hq; exact hz _ rfl
    | none => exact genBin_ok hu hv hq
  unfold binV at h
  split at h
  · rename_i k m
    split at h
    · rename_i k' n
      cases hk : sameKind k k' with
      | true =>
        rw [hk, cond_true] at h
        refine gen h fun r' hr' => ?_
        have e := sameKind_eq hk
        subst e
        cases hu; cases hv
        exact intBin_ok hr'
      | false => rw [hk, cond_false] at h; exact genBin_ok hu hv h
    · cases h
  · rename_i s
    split at h
    · rename_i s'
      refine gen h fun r' hr' => ?_
      cases hu with
      | str _ b hb => cases hv with
        | str _ b' hb' => subst hb; subst hb'; exact strCmp_ok hr'
    · cases h
  · exact gen h fun r' hr' => nilBin_ok hu hv hr'

theorem un_ok {op : UnOp} {u r : V} {x : Value} (hu : VR ρ u x) (h : unV P op u = some r) : ∃ z, (Op.unary op x).run P w = .ok z w ∧ VR ρ r z := by
  unfold unV at h
  split at h
  · cases hu
    simp only [Option.some.injEq] at h
    subst h
    exact ⟨_, rfl, .bool _⟩
  · split at h
    · rename_i y hy
      split at h
      · rename_i z hz
        rw [conc_eq hu hy]
        exact ⟨z, semVal_run P w hz, abs1_vr h⟩
      · cases h
    · cases h

theorem iface_ok {t : TypeId} {k : V → Option V} {u v : V} {x : Value} (hk : ifaceC P t = .mk k) (hu : VR ρ u x) (hv : k u = some v) : (Instr.makeInterface t x).run P w = .ok (.iface t x) w ∧ VR ρ v (.iface t x) := by
  simp only [ifaceC] at hk
  split at hk
  · simp only [Cm.mk.injEq] at hk; subst hk; cases hv
  · rename_i d hd hne
    simp only [Cm.mk.injEq] at hk
    subst hk
    simp only [Option.some.injEq] at hv
    subst hv
    refine ⟨?_, .iface _ _ _ hu⟩
    simp only [Instr.makeInterface, Sem.run_bind, run_und hne, Result.andThen_ok]
    cases d <;> first
      | rfl
      | (exact absurd rfl (hd _))
  · simp only [Cm.mk.injEq] at hk; subst hk; cases hv

theorem extract_ok {i : Nat} {u v : V} {x : Value} (hu : VR ρ u x) (h : extractV i u = some v) : ∃ y, (Instr.extract x i).run P w = .ok y w ∧ VR ρ v y := by
  unfold extractV at h
  split at h
  · rename_i vs
    cases hu with
    | tup _ xs hx =>
      rw [nth_eq] at h
      obtain ⟨y, hy, hvy⟩ := hx.get _ _ h
      have hy' : xs[i]? = some y := by simpa using hy
      exact ⟨y, by simp [Instr.extract, hy'], hvy⟩
  · cases h

end
end Vm
end Go.Proofs.YtdgopiffbhlhoaaGreatDoor
