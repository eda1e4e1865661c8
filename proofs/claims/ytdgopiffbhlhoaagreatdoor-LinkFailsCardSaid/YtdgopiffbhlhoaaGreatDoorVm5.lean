/- The small machine's operations are the model's: those that touch little. -/
import Derived.Test.YtdgopiffbhlhoaaGreatDoorVm4
namespace Go.Proofs.YtdgopiffbhlhoaaGreatDoor
open Go
namespace Vm

theorem blt_lt {a b : Nat} (h : Nat.blt a b = true) : a < b := by rw [Nat.blt_eq] at h; exact h
theorem ble_le {a b : Nat} (h : Nat.ble a b = true) : a ≤ b := Nat.le_of_ble_eq_true h

/-- A frame of the machine and one of the model. -/
structure TR (ρ : Rho) (nt : Nat) (T : Fr) (a : Act) : Prop where
  size : a.tmps.size = nt
  val : ∀ t, t < nt → VR ρ (tmpV T t) (a.tmps.getD t undef)
  out : ∀ t, nt ≤ t → T.get t = none

theorem vr_undf (ρ : Rho) : VR ρ undf undef := .tup _ _ .nil

theorem TR.mono {ρ ρ' : Rho} {nt : Nat} {T : Fr} {a : Act} (h : TR ρ nt T a) (hs : Sub ρ ρ') : TR ρ' nt T a := ⟨h.size, fun t ht => (h.val t ht).mono hs, h.out⟩

theorem tmpV_eq (T : Fr) (t : Nat) : tmpV T t = (T.get t).getD undf := by
  unfold tmpV
  cases T.get t <;> rfl

theorem TR.tmp {ρ : Rho} {nt : Nat} {T : Fr} {a : Act} (h : TR ρ nt T a) (t : Nat) : VR ρ (tmpV T t) (a.tmps.getD t undef) := by
  by_cases ht : t < nt
  · exact h.val t ht
  · have h1 := h.out t (by omega)
    have h2 : a.tmps.getD t undef = undef := by simp [Array.getD, h.size, ht]
    rw [tmpV_eq, h1, h2]
    exact vr_undf ρ

theorem TR.put {ρ : Rho} {nt : Nat} {T : Fr} {a : Act} (h : TR ρ nt T a) {d : Nat} (hd : d < nt) {v : V} {x : Value} (hv : VR ρ v x) : TR ρ nt (T.put d (some v)) (a.put (some d) x) := by
  refine ⟨by simp [Act.put, h.size], fun t ht => ?_, fun t ht => ?_⟩
  · rw [tmpV_eq, Tree.get_put]
    by_cases e : t = d
    · subst e
      simp [Act.put, Array.getD, h.size, hd]
      exact hv
    · have h1 := h.val t ht
      rw [tmpV_eq] at h1
      rw [if_neg e]
      simpa [Act.put, Array.getD, Array.getElem_setIfInBounds, h.size, ht, Ne.symm e] using h1
  · rw [Tree.get_put, if_neg (by omega)]
    exact h.out t ht

/-- Where a value goes. -/
theorem dst_ok {ρ : Rho} {nt : Nat} {T : Fr} {a : Act} (h : TR ρ nt T a) {d : Option Tmp} {st : V → Fr → Fr} (hd : dstC nt d = some (.mk st)) {v : V} {x : Value} (hv : VR ρ v x) : TR ρ nt (st v T) (a.put d x) := by
  cases d with
  | none =>
    simp only [dstC, Option.some.injEq, Cm.mk.injEq] at hd
    subst hd
    exact h
  | some d =>
    simp only [dstC] at hd
    cases hb : Nat.blt d nt with
    | false => simp [hb] at hd
    | true =>
      simp only [hb, cond_true, Option.some.injEq, Cm.mk.injEq] at hd
      subst hd
      exact h.put (blt_lt hb) hv

section
variable {P : Program} {ρ : Rho} {nt : Nat} {T : Fr} {a : Act} {h : Hp} {w : World}

theorem opd_ok (ht : TR ρ nt T a) (hr : Rel P ρ h w) {x : Operand} {g : Fr → V} (hx : opd P x = some (.mk g)) : VR ρ (g T) (a.eval x) := by
  cases x with
  | tmp i => simp only [opd, Option.some.injEq, Cm.mk.injEq] at hx; subst hx; exact ht.tmp i
  | const v =>
    simp only [opd] at hx
    split at hx
    · rename_i u hu
      simp only [Option.some.injEq, Cm.mk.injEq] at hx
      subst hx
      exact abs2_vr hu
    · cases hx
  | global g =>
    simp only [opd] at hx
    cases hb : Nat.blt g P.globals.size with
    | false => simp [hb] at hx
    | true =>
      simp only [hb, cond_true, Option.some.injEq, Cm.mk.injEq] at hx
      subst hx
      have := VR.ptr (ρ := ρ) g 0 g 0 (hr.glob g (blt_lt hb)) (Nat.le_refl 0)
      simpa [Act.eval] using this
  | func f =>
    simp only [opd, Option.some.injEq, Cm.mk.injEq] at hx
    subst hx
    exact .fn _ _ _ _ _ .nil .nil

theorem opds_ok (ht : TR ρ nt T a) (hr : Rel P ρ h w) : ∀ {l : List Operand} {g : Fr → List V}, opds P l = some (.mk g) → VRs ρ (g T) (l.map a.eval)
  | [], g, hx => by
    have : g = fun _ => [] := by
      have : (some (Cm.mk fun _ => []) : Option (Cm (Fr → List V))) = some (.mk g) := hx
      simpa using this.symm
    subst this
    exact .nil
  | x :: l, g, hx => by
    have e : opds P (x :: l) = (match opd P x with
      | some (.mk f) => match opds P l with
        | some (.mk g) => some (.mk fun T => f T :: g T)
        | none => none
      | none => none) := rfl
    rw [e] at hx
    split at hx
    · rename_i f hf
      split at hx
      · rename_i g' hg'
        simp only [Option.some.injEq, Cm.mk.injEq] at hx
        subst hx
        exact .cons _ _ _ _ (opd_ok ht hr hf) (opds_ok ht hr hg')
      · cases hx
    · cases hx

theorem run_und {t : TypeId} {d : TypeDesc} (hd : P.underlying t = some d) : (underlying t).run P w = .ok d w := by simp [underlying, hd]
theorem run_info {t : TypeId} {i : TypeInfo} (hi : P.info? t = some i) : (typeInfo t).run P w = .ok i w := by simp [typeInfo, hi]
theorem run_size {t : TypeId} {n : Nat} (hn : szOf P t = some n) : (sizeOf t).run P w = .ok n w := by
  simp only [szOf, Option.map_eq_some_iff] at hn
  obtain ⟨i, hi, rfl⟩ := hn
  simp [sizeOf, run_info hi]
theorem run_zero {t : TypeId} {z : V} (hz : zeroOf P t = some z) : ∃ x, (zeroValue t).run P w = .ok x w ∧ abs2 x = some z := by
  simp only [zeroOf] at hz
  split at hz
  · rename_i i hi
    split at hz
    · rename_i x hx
      exact ⟨x, by simp [zeroValue, run_info hi, hx], hz⟩
    · cases hz
  · cases hz
theorem run_isAgg_agg {t : TypeId} (hs : shOf P t = some .agg) : (isAgg t).run P w = .ok true w := by
  simp only [shOf] at hs
  split at hs <;> first
    | (rename_i hu; simp [isAgg, run_und hu]; done)
    | (simp at hs; done)
theorem run_isAgg_one {t : TypeId} (hs : shOf P t = some .one) : (isAgg t).run P w = .ok false w := by
  simp only [shOf] at hs
  split at hs
  · simp at hs
  · simp at hs
  · rename_i d hu h1 h2
    have : (isAgg t).run P w = .ok false w := by
      simp only [isAgg, Sem.run_bind, run_und h2, Result.andThen_ok]
      cases d <;> first
        | rfl
        | (exact absurd rfl (hu _))
        | (exact absurd rfl (h1 _ _))
    exact this
  · simp at hs

/-- What an operation's value is of the model's. -/
def NxR (ρ : Rho) (v : V) (n : Next) : Prop := (∃ x, n = .value x ∧ VR ρ v x) ∨ (n = .skip ∧ v = undf)

def OpOk (P : Program) (ρ : Rho) (h : Hp) (w : World) (s : Sem Next) (r : Nx) : Prop :=
  match r with
  | .val v h' => ∃ ρ' n w', s.run P w = .ok n w' ∧ NxR ρ' v n ∧ Stp P ρ h w ρ' h' w'
  | .call f args => ∃ xs : Array Value, s.run P w = (callFunc f xs).run P w ∧ VRs ρ args xs.toList

theorem ok_pure (hr : Rel P ρ h w) {s : Sem Next} {v : V} {x : Value} (hs : s.run P w = .ok (.value x) w) (hv : VR ρ v x) : OpOk P ρ h w s (.val v h) :=
  ⟨ρ, _, w, hs, .inl ⟨x, rfl, hv⟩, .refl hr⟩

/-- The value of a computation. -/
def valSem (s : Sem Value) : Sem Next := do pure (.value (← s))
theorem run_valSem {s : Sem Value} {x : Value} {w' : World} (hs : s.run P w = .ok x w') : (valSem s).run P w = .ok (.value x) w' := by simp [valSem, hs]

/-! ### Memory -/

theorem addr_add (b o n : Nat) : (⟨b, o, none⟩ : Addr).add n = ⟨b, o + n, none⟩ := by
  cases n with
  | zero => rfl
  | succ n => simp [Addr.add]

theorem cell_of {b : Nat} {c : Array Value} {el : TypeId} {fz : Nat × Nat} (hb : w.heap[b]? = some (.cells c el fz)) (o : Nat) : w.cell? ⟨b, o, none⟩ = c[o]? := by
  simp [World.cell?, hb]

/-- A row of cells. -/
theorem row_ok (hr : Rel P ρ h w) {i o n b s : Nat} {l : List V} (hl : row h i o n = some l) (hb : ρ i = some (b, s)) (hs : s ≤ o) :
    ∃ xs : List Value, (∀ w₁ : World, w₁.heap = w.heap → (loadCells ⟨b, o - s, none⟩ n).run P w₁ = .ok xs.toArray w₁) ∧ VRs ρ l xs ∧ l.length = n ∧ ∀ v ∈ l, v.isCell = true := by
  simp only [row] at hl
  split at hl
  · rename_i md el cs hg
    cases hble : Nat.ble (o + n) (len cs) with
    | false => simp [hble] at hl
    | true =>
      simp only [hble, cond_true, Option.some.injEq] at hl
      have hle := ble_le hble
      rw [len_eq] at hle
      rw [takeL_eq, dropL_eq] at hl
      obtain ⟨b', s', hb', hob⟩ := hr.ob i _ hg
      rw [hb] at hb'
      simp only [Option.some.injEq, Prod.mk.injEq] at hb'
      obtain ⟨rfl, rfl⟩ := hb'
      obtain ⟨c, fz, h1, h0, h2, h3, h4⟩ := hob
      refine ⟨(c.toList.drop (o - s)).take n, ?_, ?_, ?_, ?_⟩
      · intro w₁ hw₁
        have hlen : ((c.toList.drop (o - s)).take n).length = n := by simp; omega
        have := run_loadCells_list (P := P) (w := w₁) ⟨b, o - s, none⟩ ((c.toList.drop (o - s)).take n) (fun j v hj => by
          rw [addr_add, cell_of (by rw [hw₁]; exact h1)]
          rw [List.getElem?_take] at hj
          split at hj
          · rw [List.getElem?_drop] at hj; simpa using hj
          · cases hj)
        rwa [hlen] at this
      · subst hl
        refine VRs.of (by simp; omega) fun j v x hv hx => ?_
        rw [List.getElem?_take] at hv hx
        split at hv
        · rename_i hjn
          rw [if_pos hjn] at hx
          rw [List.getElem?_drop] at hv hx
          obtain ⟨y, hy, hvy, _⟩ := h3 (o + j) v hv (by omega)
          rw [show o + j - s = o - s + j by omega] at hy
          have hxy : c[o - s + j]? = some x := by simpa using hx
          rw [hxy] at hy
          cases hy
          exact hvy
        · cases hv
      · subst hl; simp; omega
      · subst hl
        intro v hv
        have hv' := List.mem_of_mem_take hv
        obtain ⟨j, hj⟩ := List.mem_iff_getElem?.1 hv'
        rw [List.getElem?_drop] at hj
        obtain ⟨_, _, _, hc⟩ := h3 (o + j) v hj (by omega)
        exact hc
  · cases hl

/-- What a variable holds. -/
theorem ld_ok (hr : Rel P ρ h w) {t : TypeId} {f : V → Hp → Option V} (hf : ldC P t = .mk f) {u v : V} {x : Value} (hu : VR ρ u x) (hv : f u h = some v) :
    ∃ y, (Instr.loadAt t x).run P w = .ok y w ∧ VR ρ v y := by
  simp only [ldC] at hf
  split at hf
  · rename_i hsh
    split at hf
    · rename_i n hn
      simp only [Cm.mk.injEq] at hf
      subst hf
      dsimp only at hv
      split at hv
      · rename_i i o
        cases hu with
        | ptr _ _ b s hb hs =>
          simp only [Option.map_eq_some_iff] at hv
          obtain ⟨l, hl, rfl⟩ := hv
          obtain ⟨xs, h1, h2, _, _⟩ := row_ok hr hl hb hs
          refine ⟨.agg xs.toArray, ?_, .agg _ _ (by simpa using h2)⟩
          simp [Instr.loadAt, Instr.sureAddr, loadVar, run_isAgg_agg hsh, run_size hn, h1 w rfl]
      · cases hv
    · simp only [Cm.mk.injEq] at hf; subst hf; cases hv
  · rename_i hsh
    simp only [Cm.mk.injEq] at hf
    subst hf
    dsimp only at hv
    split at hv
    · rename_i i o
      cases hu with
      | ptr _ _ b s hb hs =>
        simp only [cellOf] at hv
        split at hv
        · rename_i md el cs hg
          rw [nth_eq] at hv
          obtain ⟨b', s', hb', hob⟩ := hr.ob i _ hg
          rw [hb] at hb'
          simp only [Option.some.injEq, Prod.mk.injEq] at hb'
          obtain ⟨rfl, rfl⟩ := hb'
          obtain ⟨c, fz, h1, h0, h2, h3, h4⟩ := hob
          obtain ⟨y, hy, hvy, _⟩ := h3 o v hv hs
          refine ⟨y, ?_, hvy⟩
          simp [Instr.loadAt, Instr.sureAddr, loadVar, run_isAgg_one hsh, cell_of h1, hy]
        · cases hv
    · cases hv
  · simp only [Cm.mk.injEq] at hf; subst hf; cases hv

/-- Cells written one behind the other. -/
def sArr : Array Value → Nat → List Value → Array Value
  | c, _, [] => c
  | c, o, v :: vs => sArr (c.setIfInBounds o v) (o + 1) vs

theorem sArr_size : ∀ (vs : List Value) (c : Array Value) (o : Nat), (sArr c o vs).size = c.size
  | [], c, o => rfl
  | v :: vs, c, o => by simp [sArr, sArr_size vs]

theorem sArr_get : ∀ (vs : List Value) (c : Array Value) (o k : Nat), o + vs.length ≤ c.size → (sArr c o vs)[k]? = if o ≤ k ∧ k < o + vs.length then vs[k - o]? else c[k]?
  | [], c, o, k, _ => by
    simp only [sArr, List.length_nil]
    rw [if_neg (by omega)]
  | v :: vs, c, o, k, hle => by
    simp only [sArr]
    simp only [List.length_cons] at hle
    rw [sArr_get vs _ _ _ (by simp; omega)]
    by_cases hk : k = o
    · subst hk
      rw [if_neg (by omega), if_pos (by simp)]
      simp [show k < c.size by omega]
    · by_cases h1 : o + 1 ≤ k ∧ k < o + 1 + vs.length
      · rw [if_pos h1, if_pos (by simp; omega)]
        rw [show k - o = (k - (o + 1)) + 1 by omega, List.getElem?_cons_succ]
      · rw [if_neg h1, if_neg (by simp; omega)]
        rw [Array.getElem?_setIfInBounds_ne (by omega)]

/-- The world behind a block's turn. -/
structure Turned (w w' : World) (b : Nat) (O : Obj) : Prop where
  here : w'.heap[b]? = some O
  there : ∀ k, k ≠ b → w'.heap[k]? = w.heap[k]?
  size : w'.heap.size = w.heap.size
  os : w'.os = w.os
  tape : w'.tape = w.tape
  output : w'.output = w.output

theorem setCell_turned {b o : Nat} {c : Array Value} {el : TypeId} {fz : Nat × Nat} (hb : w.heap[b]? = some (.cells c el fz)) (v : Value) : Turned w (w.setCell ⟨b, o, none⟩ v) b (.cells (c.setIfInBounds o v) el fz) := by
  refine ⟨?_, fun k hk => ?_, by simp [World.setCell], rfl, rfl, rfl⟩
  · simp only [World.setCell, Array.getElem?_modify]
    simp [hb]
  · simp only [World.setCell, Array.getElem?_modify]
    rw [if_neg (by omega)]

theorem Turned.trans {w₁ w₂ : World} {b : Nat} {O O' : Obj} (h1 : Turned w w₁ b O) (h2 : Turned w₁ w₂ b O') : Turned w w₂ b O' :=
  ⟨h2.here, fun k hk => (h2.there k hk).trans (h1.there k hk), h2.size.trans h1.size, h2.os.trans h1.os, h2.tape.trans h1.tape, h2.output.trans h1.output⟩

theorem run_storeCells {b o : Nat} {el : TypeId} {fz : Nat × Nat} : ∀ (vs : List Value) (i : Nat) (c : Array Value) (w : World), w.heap[b]? = some (.cells c el fz) → o + i + vs.length ≤ c.size →
    (∀ v ∈ vs, v.oneCell' = true) → (∀ j, j < c.size → ¬ (fz.1 ≤ j ∧ j < fz.2)) → vs ≠ [] → ∃ w', (storeCells ⟨b, o, none⟩ vs i).run P w = .ok () w' ∧ Turned w w' b (.cells (sArr c (o + i) vs) el fz)
  | [], _, _, _, _, _, _, _, h => absurd rfl h
  | v :: vs, i, c, w, hb, hle, hone, hfr, _ => by
    simp only [List.length_cons] at hle
    have hoi : o + i < c.size := by omega
    have hc : w.cell? ⟨b, o + i, none⟩ = some (c[o + i]'hoi) := by rw [cell_of hb]; simp
    have hfz : w.frozen? ⟨b, o + i, none⟩ = false := by
      have := hfr (o + i) (by omega)
      simp only [World.frozen?, hb]
      simp only [Bool.and_eq_false_iff, decide_eq_false_iff_not]
      omega
    have hstore : (store (⟨b, o, none⟩ : Addr) v |>.run P w) = (store (⟨b, o, none⟩ : Addr) v |>.run P w) := rfl
    have h1 : (store ((⟨b, o, none⟩ : Addr).add i) v).run P w = .ok () (w.setCell ⟨b, o + i, none⟩ v) := by
      rw [addr_add, run_store P w _ v _ (hone v (by simp)), hc]
      simp [hfz]
    have ht := setCell_turned (o := o + i) hb v
    by_cases hvs : vs = []
    · subst hvs
      exact ⟨_, by simp only [storeCells, Sem.run_bind, h1, Result.andThen_ok, Sem.run_pure], ht⟩
    · obtain ⟨w', hw', ht'⟩ := run_storeCells (b := b) (o := o) vs (i + 1) (c.setIfInBounds (o + i) v) (w.setCell ⟨b, o + i, none⟩ v) ht.here (by simp; omega) (fun u hu => hone u (by simp [hu])) (by simpa using hfr) hvs
      exact ⟨w', by simp only [storeCells, Sem.run_bind, h1, Result.andThen_ok]; exact hw', ht.trans ht'⟩

theorem run_storeCells_any {b o : Nat} {el : TypeId} {fz : Nat × Nat} (vs : List Value) (c : Array Value) (w : World) (hb : w.heap[b]? = some (.cells c el fz)) (hle : o + vs.length ≤ c.size)
    (hone : ∀ v ∈ vs, v.oneCell' = true) (hfr : ∀ j, j < c.size → ¬ (fz.1 ≤ j ∧ j < fz.2)) : ∃ w', (storeCells ⟨b, o, none⟩ vs).run P w = .ok () w' ∧ Turned w w' b (.cells (sArr c o vs) el fz) := by
  by_cases hvs : vs = []
  · subst hvs
    exact ⟨w, by simp [storeCells], ⟨hb, fun _ _ => rfl, rfl, rfl, rfl, rfl⟩⟩
  · exact run_storeCells vs 0 c w hb (by simpa using hle) hone hfr hvs

theorem vrs_cells {ρ : Rho} : ∀ {vs : List V} {xs : List Value}, VRs ρ vs xs → (∀ v ∈ vs, v.isCell = true) → ∀ x ∈ xs, x.oneCell' = true
  | _, _, .nil, _ => by simp
  | _, _, .cons v vs x xs hv hs, hc => by
    intro y hy
    rcases List.mem_cons.1 hy with rfl | hy
    · exact hv.isCell (hc v (by simp))
    · exact vrs_cells hs (fun u hu => hc u (by simp [hu])) y hy

/-- Cells, stored. -/
theorem stCells_ok (hr : Rel P ρ h w) {i o b s : Nat} {vs : List V} {xs : List Value} {h' : Hp} (hst : stCells i o vs h = some h') (hb : ρ i = some (b, s)) (hs : s ≤ o) (hv : VRs ρ vs xs) :
    ∃ w', (storeCells ⟨b, o - s, none⟩ xs).run P w = .ok () w' ∧ Stp P ρ h w ρ h' w' := by
  simp only [stCells] at hst
  split at hst
  · rename_i el cs hg
    cases hble : Nat.ble (o + len vs) (len cs) && allCell vs with
    | false => simp [hble] at hst
    | true =>
      simp only [hble, cond_true, Option.some.injEq] at hst
      subst hst
      simp only [Bool.and_eq_true] at hble
      have hle := ble_le hble.1
      have hcell := (allCell_eq vs).1 hble.2
      rw [len_eq, len_eq] at hle
      obtain ⟨b', s', hb', hob⟩ := hr.ob i _ hg
      rw [hb] at hb'
      simp only [Option.some.injEq, Prod.mk.injEq] at hb'
      obtain ⟨rfl, rfl⟩ := hb'
      obtain ⟨c, fz, h1, h0, h2, h3, h4⟩ := hob
      have hlen := hv.length
      obtain ⟨w', hw', ht⟩ := run_storeCells_any (P := P) (b := b) (o := o - s) xs c w h1 (by omega) (vrs_cells hv hcell) (h4 rfl)
      refine ⟨w', hw', Stp.set hr hg hb rfl rfl w' ht.size ht.there ht.os ht.tape ht.output ?_⟩
      refine ⟨_, fz, ht.here, by rw [sArr_size]; exact h0, ?_, fun j v hj hsj => ?_, by rw [sArr_size]; exact h4⟩
      · rw [sArr_size, splice_eq o cs vs hle]; simp; omega
      · rw [splice_eq o cs vs hle] at hj
        rw [sArr_get xs c (o - s) (j - s) (by omega)]
        by_cases hjo : j < o
        · rw [List.getElem?_append_left (by simp; omega), List.getElem?_take, if_pos hjo] at hj
          rw [if_neg (by omega)]
          exact h3 j v hj hsj
        · rw [List.getElem?_append_right (by simp; omega)] at hj
          have hto : (cs.take o).length = o := by simp; omega
          rw [hto] at hj
          by_cases hjv : j < o + vs.length
          · rw [List.getElem?_append_left (by omega)] at hj
            rw [if_pos (by omega), show j - s - (o - s) = j - o by omega]
            obtain ⟨x, hx, hvx⟩ := hv.get _ _ hj
            exact ⟨x, hx, hvx, hcell v (List.mem_of_getElem? hj)⟩
          · rw [List.getElem?_append_right (by omega), List.getElem?_drop] at hj
            rw [if_neg (by omega)]
            rw [show o + vs.length + (j - o - vs.length) = j by omega] at hj
            exact h3 j v hj hsj
  · cases hst

theorem st_ok (hr : Rel P ρ h w) {t : TypeId} {f : V → V → Hp → Option Hp} (hf : stC P t = .mk f) {u v : V} {x y : Value} {h' : Hp} (hu : VR ρ u x) (hv : VR ρ v y) (hst : f u v h = some h') :
    ∃ w', (Instr.storeAt t x y).run P w = .ok () w' ∧ Stp P ρ h w ρ h' w' := by
  simp only [stC] at hf
  split at hf
  · rename_i n hn
    simp only [Cm.mk.injEq] at hf
    subst hf
    dsimp only at hst
    split at hst
    · rename_i i o
      cases hu with
      | ptr _ _ b s hb hs =>
        cases hbeq : Nat.beq (len v.cells) n with
        | false => simp [hbeq] at hst
        | true =>
          simp only [hbeq, cond_true] at hst
          have hlen := Nat.eq_of_beq_eq_true hbeq
          have hnj : v.isJunk = false := nj_of_allCell (by
            unfold stCells at hst
            split at hst
            · rename_i cs _
              cases hc : Nat.ble (o + len v.cells) (len cs) && allCell v.cells with
              | false => rw [hc] at hst; cases hst
              | true => simp only [Bool.and_eq_true] at hc; exact hc.2
            · cases hst)
          have hv := hv.cells hnj
          rw [len_eq, hv.length] at hlen
          obtain ⟨w', hw', hstp⟩ := stCells_ok hr hst hb hs hv
          refine ⟨w', ?_, hstp⟩
          have hsz : y.cells.size = n := by simpa using hlen
          simp [Instr.storeAt, Instr.sureAddr, storeVar, run_size hn, hsz, hw']
    · cases hst
  · simp only [Cm.mk.injEq] at hf; subst hf; cases hst

end
end Vm
end Go.Proofs.YtdgopiffbhlhoaaGreatDoor
