/- What is of no use any more is forgotten, and new blocks get other numbers. -/
import Derived.Test.YtdgopiffbhlhoaaGreatDoorVn2
namespace Go.Proofs.YtdgopiffbhlhoaaGreatDoor
open Go
namespace Vm

/-! ### Definitions -/

/-- The new number of an old one (pairs: old, new). -/
noncomputable def lookA (m : List (Nat × Nat)) (i : Nat) : Option Nat := List.rec (motive := fun _ => Option Nat) none (fun x _ ih => bif Nat.beq x.1 i then some x.2 else ih) m
/-- The old number of a new one. -/
noncomputable def lookB (m : List (Nat × Nat)) (j : Nat) : Option Nat := List.rec (motive := fun _ => Option Nat) none (fun x _ ih => bif Nat.beq x.2 j then some x.1 else ih) m

noncomputable def sg (N : Nat) (m : List (Nat × Nat)) (i : Nat) : Option Nat := bif Nat.blt i N then some i else lookA m i
noncomputable def sgI (N : Nat) (m : List (Nat × Nat)) (j : Nat) : Option Nat := bif Nat.blt j N then some j else lookB m j

noncomputable def isS (o : Option Nat) (n : Nat) : Bool := Option.rec (motive := fun _ => Bool) false (fun a => Nat.beq a n) o

noncomputable def sgOk (N nxt : Nat) (m l : List (Nat × Nat)) : Bool :=
  List.rec (motive := fun _ => Bool) true (fun x _ ih => Nat.ble N x.1 && Nat.ble N x.2 && Nat.blt x.2 nxt && isS (lookA m x.1) x.2 && isS (lookB m x.2) x.1 && ih) l

mutual
noncomputable def renV (σ : Nat → Option Nat) : V → V
  | .ptr i o => match σ i with
    | some j => .ptr j o
    | none => .junk
  | .slc i o n c => match σ i with
    | some j => .slc j o n c
    | none => .junk
  | .map i => match σ i with
    | some j => .map j
    | none => .junk
  | .fn f a b => .fn f (renVs σ a) (renVs σ b)
  | .iface t v => .iface t (renV σ v)
  | .agg l => .agg (renVs σ l)
  | .tup l => .tup (renVs σ l)
  | .bool b => .bool b
  | .int k n => .int k n
  | .flt k n => .flt k n
  | .cpx k a b => .cpx k a b
  | .str s => .str s
  | .nilp => .nilp
  | .nils => .nils
  | .nilm => .nilm
  | .nilFn => .nilFn
  | .nilIf => .nilIf
  | .junk => .junk
noncomputable def renVs (σ : Nat → Option Nat) : List V → List V
  | [] => []
  | v :: l => renV σ v :: renVs σ l
end

noncomputable def renMEs (σ : Nat → Option Nat) : List ME → List ME
  | [] => []
  | e :: l => ⟨renV σ e.key, renV σ e.val, e.born⟩ :: renMEs σ l

noncomputable def renOb (σ : Nat → Option Nat) (o : Ob) : Option Ob :=
  match o with
  | .cells md el cs => bif allCell (renVs σ cs) then some (.cells md el (renVs σ cs)) else none
  | .map es clock => some (.map (renMEs σ es) clock)
  | .mapIter m since seen stepped => match m with
    | none => some (.mapIter none since seen stepped)
    | some i => match σ i with
      | some j => some (.mapIter (some j) since seen stepped)
      | none => none
  | .strIter s pos => some (.strIter s pos)

/-- A heap of blocks with their numbers. -/
noncomputable def mkH (l : List (Nat × Ob)) (next : Nat) : Hp := ⟨List.rec (motive := fun _ => Tree Ob) .leaf (fun x _ ih => ih.put x.1 (some x.2)) l, next⟩

noncomputable def lookV (l : List (Nat × V)) (t : Nat) : V := List.rec (motive := fun _ => V) .junk (fun x _ ih => bif Nat.beq x.1 t then x.2 else ih) l

/-- A frame of which some temporaries are known. -/
noncomputable def mkT (nt : Nat) (l : List (Nat × V)) : Fr := Nat.rec (motive := fun _ => Fr) .leaf (fun t ih => ih.put t (some (lookV l t))) nt

noncomputable def gcOb (σ : Nat → Option Nat) (h : Hp) (i : Nat) : Option (Nat × Ob) :=
  match σ i with
  | some j => match h.get i with
    | some o => match renOb σ o with
      | some o' => some (j, o')
      | none => none
    | none => none
  | none => none

noncomputable def gcObs (σ : Nat → Option Nat) (h : Hp) : List Nat → Option (List (Nat × Ob))
  | [] => some []
  | i :: l => match gcOb σ h i with
    | some x => match gcObs σ h l with
      | some xs => some (x :: xs)
      | none => none
    | none => none

noncomputable def gcT (σ : Nat → Option Nat) (T : Fr) : List Nat → List (Nat × V)
  | [] => []
  | t :: l => (t, renV σ (tmpV T t)) :: gcT σ T l

noncomputable def gcAll (N nxt : Nat) (m : List (Nat × Nat)) (live keep : List Nat) (T : Fr) (h : Hp) : Option (List (Nat × V) × List (Nat × Ob)) :=
  bif Nat.ble N nxt && sgOk N nxt m m then match gcObs (sg N m) h keep with
    | some l => some (gcT (sg N m) T live, l)
    | none => none
  else none

/-! ### What it is worth -/

theorem isS_eq {o : Option Nat} {n : Nat} (h : isS o n = true) : o = some n := by
  cases o with
  | none => cases h
  | some a => have := Nat.eq_of_beq_eq_true h; rw [this]

theorem sgOk_mem {N nxt : Nat} {m : List (Nat × Nat)} : ∀ {l : List (Nat × Nat)}, sgOk N nxt m l = true → ∀ x ∈ l, N ≤ x.1 ∧ N ≤ x.2 ∧ x.2 < nxt ∧ lookA m x.1 = some x.2 ∧ lookB m x.2 = some x.1
  | [], _, x, hx => by cases hx
  | y :: l, h, x, hx => by
    change (Nat.ble N y.1 && Nat.ble N y.2 && Nat.blt y.2 nxt && isS (lookA m y.1) y.2 && isS (lookB m y.2) y.1 && sgOk N nxt m l) = true at h
    simp only [Bool.and_eq_true] at h
    obtain ⟨⟨⟨⟨⟨h1, h2⟩, h3⟩, h4⟩, h5⟩, h6⟩ := h
    rcases List.mem_cons.1 hx with rfl | hx
    · exact ⟨ble_le h1, ble_le h2, blt_lt h3, isS_eq h4, isS_eq h5⟩
    · exact sgOk_mem h6 x hx

theorem lookA_mem : ∀ {m : List (Nat × Nat)} {i j : Nat}, lookA m i = some j → (i, j) ∈ m
  | [], i, j, h => by cases h
  | x :: m, i, j, h => by
    change (bif Nat.beq x.1 i then some x.2 else lookA m i) = some j at h
    cases hb : Nat.beq x.1 i with
    | true => rw [hb] at h; cases h; have := Nat.eq_of_beq_eq_true hb; subst this; exact List.mem_cons_self
    | false => rw [hb] at h; exact List.mem_cons_of_mem _ (lookA_mem h)
theorem lookB_mem : ∀ {m : List (Nat × Nat)} {i j : Nat}, lookB m j = some i → (i, j) ∈ m
  | [], i, j, h => by cases h
  | x :: m, i, j, h => by
    change (bif Nat.beq x.2 j then some x.1 else lookB m j) = some i at h
    cases hb : Nat.beq x.2 j with
    | true => rw [hb] at h; cases h; have := Nat.eq_of_beq_eq_true hb; subst this; exact List.mem_cons_self
    | false => rw [hb] at h; exact List.mem_cons_of_mem _ (lookB_mem h)

section
variable {N nxt : Nat} {m : List (Nat × Nat)}

theorem sg_inv (hm : sgOk N nxt m m = true) {i j : Nat} (h : sg N m i = some j) : sgI N m j = some i := by
  unfold sg at h
  unfold sgI
  cases hb : Nat.blt i N with
  | true => rw [hb] at h; cases h; rw [hb]; rfl
  | false =>
    rw [hb] at h
    have := sgOk_mem hm _ (lookA_mem h)
    have hn : Nat.blt j N = false := by
      cases hj : Nat.blt j N with
      | false => rfl
      | true => have := blt_lt hj; omega
    rw [hn]
    exact this.2.2.2.2

theorem sgI_inv (hm : sgOk N nxt m m = true) {i j : Nat} (h : sgI N m j = some i) : sg N m i = some j := by
  unfold sgI at h
  unfold sg
  cases hb : Nat.blt j N with
  | true => rw [hb] at h; cases h; rw [hb]; rfl
  | false =>
    rw [hb] at h
    have := sgOk_mem hm _ (lookB_mem h)
    have hn : Nat.blt i N = false := by
      cases hj : Nat.blt i N with
      | false => rfl
      | true => have := blt_lt hj; omega
    rw [hn]
    exact this.2.2.2.1

theorem sgI_lt {j : Nat} (h : j < N) : sgI N m j = some j := by
  unfold sgI
  have : Nat.blt j N = true := by rw [Nat.blt_eq]; exact h
  rw [this]; rfl

theorem sgI_out (hm : sgOk N nxt m m = true) (hN : N ≤ nxt) {j : Nat} (h : nxt ≤ j) : sgI N m j = none := by
  unfold sgI
  have : Nat.blt j N = false := by
    cases hj : Nat.blt j N with
    | false => rfl
    | true => have := blt_lt hj; omega
  rw [this, cond_false]
  cases hl : lookB m j with
  | none => rfl
  | some i => have := sgOk_mem hm _ (lookB_mem hl); exfalso; simp at this; omega

/-- Where the new numbers lie. -/
noncomputable def rhoOf (N : Nat) (m : List (Nat × Nat)) (ρ ρ' : Rho) : Rho :=
  ⟨fun j => match sgI N m j with
    | some i => ρ' i
    | none => none, fun j => match sgI N m j with
    | some i => ρ'.room i
    | none => ρ.room j⟩

theorem rhoOf_at {ρ ρ' : Rho} {i j : Nat} (h : sgI N m j = some i) : rhoOf N m ρ ρ' j = ρ' i ∧ (rhoOf N m ρ ρ').room j = ρ'.room i := by
  constructor
  · show (match sgI N m j with
      | some i => ρ' i
      | none => none) = _
    rw [h]
  · show (match sgI N m j with
      | some i => ρ'.room i
      | none => ρ.room j) = _
    rw [h]

mutual
theorem ren_vr (hm : sgOk N nxt m m = true) {ρ ρ' : Rho} : ∀ {v : V} {x : Value}, VR ρ' v x → VR (rhoOf N m ρ ρ') (renV (sg N m) v) x
  | _, _, .bool b => .bool b
  | _, _, .int k n => .int k n
  | _, _, .flt k b => .flt k b
  | _, _, .cpx k a b => .cpx k a b
  | _, _, .str s b h => .str s b h
  | _, _, .nilp => .nilp
  | _, _, .ptr i o b s h hs => by
    simp only [renV]
    cases hg : sg N m i with
    | none => exact .junk _
    | some j => have := rhoOf_at (ρ := ρ) (ρ' := ρ') (sg_inv hm hg); exact .ptr j o b s (this.1.trans h) hs
  | _, _, .nils => .nils
  | _, _, .slc i o b s n c cap h hs hn hc hz => by
    simp only [renV]
    cases hg : sg N m i with
    | none => exact .junk _
    | some j => have := rhoOf_at (ρ := ρ) (ρ' := ρ') (sg_inv hm hg); exact .slc j o b s n c cap (this.1.trans h) hs hn hc (fun z e => by rw [this.2]; exact hz z e)
  | _, _, .slc0 i o cap a hc => by
    simp only [renV]
    cases hg : sg N m i with
    | none => exact .junk _
    | some j => exact .slc0 j o cap a hc
  | _, _, .nilm => .nilm
  | _, _, .map i b h => by
    simp only [renV]
    cases hg : sg N m i with
    | none => exact .junk _
    | some j => have := rhoOf_at (ρ := ρ) (ρ' := ρ') (sg_inv hm hg); exact .map j b (this.1.trans h)
  | _, _, .fn f a b x y ha hb => .fn f _ _ x y (ren_vrs hm ha) (ren_vrs hm hb)
  | _, _, .nilFn => .nilFn
  | _, _, .iface t v x h => .iface t _ x (ren_vr hm h)
  | _, _, .nilIf => .nilIf
  | _, _, .agg cs xs h => .agg _ xs (ren_vrs hm h)
  | _, _, .tup cs xs h => .tup _ xs (ren_vrs hm h)
  | _, _, .junk x => .junk x
theorem ren_vrs (hm : sgOk N nxt m m = true) {ρ ρ' : Rho} : ∀ {v : List V} {x : List Value}, VRs ρ' v x → VRs (rhoOf N m ρ ρ') (renVs (sg N m) v) x
  | _, _, .nil => .nil
  | _, _, .cons v vs x xs h hs => .cons _ _ _ _ (ren_vr hm h) (ren_vrs hm hs)
end

theorem renVs_get {σ : Nat → Option Nat} : ∀ {l : List V} {i : Nat} {v : V}, (renVs σ l)[i]? = some v → ∃ u, l[i]? = some u ∧ v = renV σ u
  | [], i, v, h => by simp [renVs] at h
  | u :: l, 0, v, h => by simp only [renVs, List.getElem?_cons_zero, Option.some.injEq] at h; exact ⟨u, rfl, h.symm⟩
  | u :: l, i + 1, v, h => by simp only [renVs, List.getElem?_cons_succ] at h ⊢; exact renVs_get h
theorem renVs_length {σ : Nat → Option Nat} : ∀ (l : List V), (renVs σ l).length = l.length
  | [] => rfl
  | v :: l => by simp [renVs, renVs_length l]

theorem ren_mes (hm : sgOk N nxt m m = true) {ρ ρ' : Rho} : ∀ {es : List ME} {ms : List MapEntry}, MEs ρ' es ms → MEs (rhoOf N m ρ ρ') (renMEs (sg N m) es) ms
  | [], [], _ => trivial
  | [], _ :: _, h => h
  | _ :: _, [], h => h
  | _ :: _, _ :: _, ⟨a, b, c, d⟩ => ⟨ren_vr hm a, ren_vr hm b, c, ren_mes hm d⟩

theorem ren_ob (hm : sgOk N nxt m m = true) {ρ ρ' : Rho} {i j b s : Nat} {o o' : Ob} {w : World} (hj : sg N m i = some j) (ho : renOb (sg N m) o = some o') (h : ObR ρ' i b s o w) : ObR (rhoOf N m ρ ρ') j b s o' w ∧ o'.isFix = o.isFix := by
  have hr := (rhoOf_at (ρ := ρ) (ρ' := ρ') (sg_inv hm hj)).2
  cases o with
  | cells md el cs =>
    change (bif allCell (renVs (sg N m) cs) then some (Ob.cells md el (renVs (sg N m) cs)) else none) = _ at ho
    cases hc : allCell (renVs (sg N m) cs) with
    | false => rw [hc] at ho; cases ho
    | true =>
      rw [hc] at ho
      cases ho
      have hall := (allCell_eq _).1 hc
      obtain ⟨c, fz, h1, h0, h2, h3, h4⟩ := h
      refine ⟨⟨c, fz, h1, h0.trans hr.symm, by rw [renVs_length]; exact h2, fun k v hv hk => ?_, h4⟩, by cases md <;> rfl⟩
      obtain ⟨u, hu, rfl⟩ := renVs_get hv
      obtain ⟨x, hx, hvx, _⟩ := h3 k u hu hk
      exact ⟨x, hx, ren_vr hm hvx, hall _ (List.mem_of_getElem? hv)⟩
  | map es clock =>
    cases ho
    obtain ⟨h0, ms, h1, h2⟩ := h
    exact ⟨⟨h0, ms, h1, ren_mes hm h2⟩, rfl⟩
  | mapIter mm since seen stepped =>
    obtain ⟨h0, m', h1, h2⟩ := h
    cases mm with
    | none => cases ho; exact ⟨⟨h0, m', h1, h2⟩, rfl⟩
    | some k =>
      simp only [renOb] at ho
      split at ho
      · rename_i k' hk
        cases ho
        obtain ⟨b', hb, e⟩ := h2
        exact ⟨⟨h0, m', h1, b', (rhoOf_at (ρ := ρ) (ρ' := ρ') (sg_inv hm hk)).1.trans hb, e⟩, rfl⟩
      · cases ho
  | strIter str pos => cases ho; exact ⟨h, rfl⟩

theorem mkH_get : ∀ {l : List (Nat × Ob)} {n j : Nat} {o : Ob}, (mkH l n).get j = some o → (j, o) ∈ l
  | [], n, j, o, h => by cases h
  | x :: l, n, j, o, h => by
    change ((mkH l n).t.put x.1 (some x.2)).get j = some o at h
    rw [Tree.get_put] at h
    split at h
    · rename_i e; cases h; rw [e]; exact List.mem_cons_self
    · exact List.mem_cons_of_mem _ (mkH_get (n := n) h)

theorem gcObs_mem {σ : Nat → Option Nat} {h : Hp} : ∀ {keep : List Nat} {l : List (Nat × Ob)}, gcObs σ h keep = some l → ∀ x ∈ l, ∃ i o, σ i = some x.1 ∧ h.get i = some o ∧ renOb σ o = some x.2
  | [], l, hl, x, hx => by cases hl; cases hx
  | i :: keep, l, hl, x, hx => by
    simp only [gcObs] at hl
    split at hl
    · rename_i y hy
      split at hl
      · rename_i ys hys
        cases hl
        rcases List.mem_cons.1 hx with rfl | hx
        · unfold gcOb at hy
          split at hy
          · rename_i j hj
            split at hy
            · rename_i o ho
              split at hy
              · rename_i o' ho'
                cases hy
                exact ⟨i, o, hj, ho, ho'⟩
              · cases hy
            · cases hy
          · cases hy
        · exact gcObs_mem hys x hx
      · cases hl
    · cases hl

theorem mkT_get (l : List (Nat × V)) : ∀ (nt t : Nat), (mkT nt l).get t = if t < nt then some (lookV l t) else none
  | 0, t => by rw [if_neg (by omega)]; rfl
  | nt + 1, t => by
    show ((mkT nt l).put nt (some (lookV l nt))).get t = _
    rw [Tree.get_put, mkT_get l nt t]
    by_cases e : t = nt
    · subst e; rw [if_pos rfl, if_pos (by omega)]
    · rw [if_neg e]
      by_cases h : t < nt
      · rw [if_pos h, if_pos (by omega)]
      · rw [if_neg h, if_neg (by omega)]

theorem lookV_gcT {σ : Nat → Option Nat} {T : Fr} : ∀ (live : List Nat) (t : Nat), lookV (gcT σ T live) t = .junk ∨ lookV (gcT σ T live) t = renV σ (tmpV T t)
  | [], t => .inl rfl
  | u :: live, t => by
    show (bif Nat.beq u t then renV σ (tmpV T u) else lookV (gcT σ T live) t) = .junk ∨ (bif Nat.beq u t then renV σ (tmpV T u) else lookV (gcT σ T live) t) = _
    cases hb : Nat.beq u t with
    | true => have := Nat.eq_of_beq_eq_true hb; subst this; exact .inr rfl
    | false => exact lookV_gcT live t

/-- A state of which less is known, with other numbers. -/
theorem gc_ok {P : Program} {nt : Nat} {ρ0 ρ' : Rho} {h0 h' : Hp} {w0 w' : World} {T' : Fr} {a : Act} {live keep : List Nat} {lT : List (Nat × V)} {lH : List (Nat × Ob)} (hg : gcAll h0.next nxt m live keep T' h' = some (lT, lH))
    (hf : Free ρ0 h0.next) (hG : P.globals.size ≤ h0.next) (hs : Stp P ρ0 h0 w0 ρ' h' w') (ht : TR ρ' nt T' a) : ∃ ρ, Stp P ρ0 h0 w0 ρ (mkH lH nxt) w' ∧ TR ρ nt (mkT nt lT) a := by
  unfold gcAll at hg
  cases hb : Nat.ble h0.next nxt && sgOk h0.next nxt m m with
  | false => rw [hb] at hg; cases hg
  | true =>
    rw [hb, cond_true] at hg
    simp only [Bool.and_eq_true] at hb
    obtain ⟨hb1, hm⟩ := hb
    have hN := ble_le hb1
    split at hg
    · rename_i l hl
      simp only [Option.some.injEq, Prod.mk.injEq] at hg
      obtain ⟨rfl, rfl⟩ := hg
      have hob : ∀ j o, (mkH l nxt).get j = some o → ∃ i o', sg h0.next m i = some j ∧ h'.get i = some o' ∧ renOb (sg h0.next m) o' = some o := fun j o h => gcObs_mem hl _ (mkH_get h)
      have hat : ∀ j i, sgI h0.next m j = some i → rhoOf h0.next m ρ0 ρ' j = ρ' i := fun j i h => (rhoOf_at h).1
      have key : ∀ j o b s, (mkH l nxt).get j = some o → rhoOf h0.next m ρ0 ρ' j = some (b, s) → ∃ i o', h'.get i = some o' ∧ ρ' i = some (b, s) ∧ o'.isFix = o.isFix ∧ sgI h0.next m j = some i := by
        intro j o b s h1 h2
        obtain ⟨i, o', k1, k2, k3⟩ := hob j o h1
        have k4 := sg_inv hm k1
        rw [hat j i k4] at h2
        obtain ⟨b', s', q1, q2⟩ := hs.rel.ob i o' k2
        exact ⟨i, o', k2, h2, ((ren_ob (ρ := ρ0) hm k1 k3 q2).2).symm, k4⟩
      refine ⟨rhoOf h0.next m ρ0 ρ', ⟨⟨fun j o h => ?_, fun j1 j2 o1 o2 b s s' g1 g2 g3 g4 => ?_, fun j b s h => ?_, fun g hg => ?_⟩, fun j hj => ?_, hN, hs.size, hs.frame, fun b hb ⟨j, o, s, g1, g2, g3⟩ => ?_, fun b hb ⟨j, o, s, g1, g2⟩ => ?_, hs.os, hs.tape, hs.output⟩, ht.size, fun t htn => ?_, fun t htn => ?_⟩
      · obtain ⟨i, o', k1, k2, k3⟩ := hob j o h
        obtain ⟨b, s, q1, q2⟩ := hs.rel.ob i o' k2
        exact ⟨b, s, (hat j i (sg_inv hm k1)).trans q1, (ren_ob hm k1 k3 q2).1⟩
      · obtain ⟨i1, p1, k1, k2, _, k3⟩ := key j1 o1 b s g1 g3
        obtain ⟨i2, p2, q1, q2, _, q3⟩ := key j2 o2 b s' g2 g4
        have := hs.rel.inj i1 i2 p1 p2 b s s' k1 q1 k2 q2
        subst this
        have e1 := sgI_inv hm k3
        have e2 := sgI_inv hm q3
        rw [e1] at e2
        exact Option.some.inj e2
      · cases hi : sgI h0.next m j with
        | none =>
          change (match sgI h0.next m j with
            | some i => ρ' i
            | none => none) = _ at h
          rw [hi] at h; cases h
        | some i => rw [hat j i hi] at h; exact hs.rel.low i b s h
      · rw [hat g g (sgI_lt (by omega))]
        exact hs.rel.glob g hg
      · by_cases hlt : j < h0.next
        · have := rhoOf_at (ρ := ρ0) (ρ' := ρ') (sgI_lt (m := m) hlt)
          have hk := hs.keep j (by omega)
          exact ⟨this.1.trans hk.1, this.2.trans hk.2⟩
        · have hge : nxt ≤ j := by
            rcases Nat.lt_or_ge j nxt with h | h
            · exact absurd ⟨Nat.le_of_not_lt hlt, h⟩ hj
            · exact h
          have hi := sgI_out hm hN hge
          constructor
          · show (match sgI h0.next m j with
              | some i => ρ' i
              | none => none) = _
            rw [hi, hf j (by omega)]
          · show (match sgI h0.next m j with
              | some i => ρ'.room i
              | none => ρ0.room j) = _
            rw [hi]
      · obtain ⟨i, o', k1, k2, k3, _⟩ := key j o b s g1 g2
        exact hs.prov b hb ⟨i, o', s, k1, k2, k3.trans g3⟩
      · obtain ⟨i, o', k1, k2, _, _⟩ := key j o b s g1 g2
        exact hs.here b hb ⟨i, o', s, k1, k2⟩
      · rw [tmpV_eq, mkT_get, if_pos htn]
        simp only [Option.getD_some]
        rcases lookV_gcT (σ := sg h0.next m) (T := T') live t with e | e
        · rw [e]; exact .junk _
        · rw [e]; exact ren_vr hm (ht.val t htn)
      · rw [mkT_get, if_neg (by omega)]
    · cases hg

end
end Vm
end Go.Proofs.YtdgopiffbhlhoaaGreatDoor
