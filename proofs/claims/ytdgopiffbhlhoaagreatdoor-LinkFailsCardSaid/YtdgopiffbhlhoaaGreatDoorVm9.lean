/- The small machine's operations are the model's: conversions, bytes and texts. -/
import Derived.Test.YtdgopiffbhlhoaaGreatDoorVm8
import Derived.Laws.BytesString
namespace Go.Proofs.YtdgopiffbhlhoaaGreatDoor
open Go
namespace Vm
section
variable {P : Program} {ρ : Rho} {nt : Nat} {T : Fr} {a : Act} {h : Hp} {w : World}

theorem u8s_ok : ∀ {cs : List V} {xs : List Value} {l : List UInt8}, VRs ρ cs xs → u8s cs = some l → ∃ ns : List Int, xs = ns.map (Value.int .u8) ∧ l = ns.map fun n => UInt8.ofNat n.toNat
  | _, _, l, .nil, h => by
    simp only [u8s, Option.some.injEq] at h
    subst h
    exact ⟨[], rfl, rfl⟩
  | _, _, l, .cons v vs x xs hv hs, h => by
    cases hv with
    | int k n =>
      cases k <;> first
        | (simp [u8s] at h; done)
        | skip
      simp only [u8s, Option.map_eq_some_iff] at h
      obtain ⟨m, hm, rfl⟩ := h
      obtain ⟨ns, rfl, rfl⟩ := u8s_ok hs hm
      exact ⟨n :: ns, rfl, rfl⟩
    | _ => simp [u8s] at h

theorem foldl_push : ∀ (ns : List Int) (s : ByteArray), (ns.foldl (fun (r : ByteArray) n => r.push (UInt8.ofNat n.toNat)) s).data.toList = s.data.toList ++ ns.map fun n => UInt8.ofNat n.toNat
  | [], s => by simp
  | n :: ns, s => by
    simp only [List.foldl_cons, List.map_cons]
    rw [foldl_push ns]
    simp [ByteArray.push]

theorem shape_of {b : Nat} {c : Array Value} {el : TypeId} {fz : Nat × Nat} (hb : w.heap[b]? = some (.cells c el fz)) : w.shape? b = some (el, c.size) := by simp [World.shape?, hb]

theorem run_seenAt {b o : Nat} {c : Array Value} {el : TypeId} {fz : Nat × Nat} (hb : w.heap[b]? = some (.cells c el fz)) : (Conv.seenAt ⟨b, o, none⟩).run P w = .ok ⟨b, o, none⟩ w := by
  simp [Conv.seenAt, viewAt, shape_of hb]

theorem cellsOf_eq {t : TypeId} {n : Nat} (hn : szOf P t = some n) : P.cellsOf t = n := by
  simp only [szOf] at hn
  simp [Program.cellsOf, hn]

theorem depth_succ (P : Program) : ∃ d, P.depth = d + 1 := ⟨_, rfl⟩

/-- A row of whole variables of one kind. -/
theorem variables_ok {b off : Nat} {c : Array Value} {el u : TypeId} {fz : Nat × Nat} {sz n : Nat} (hb : w.heap[b]? = some (.cells c el fz)) (hs : szOf P el = some sz) (h0 : sz ≠ 0) (hoff : off % sz = 0) (hn : off / sz + n ≤ c.size / sz)
    (hu : P.underlyingId el = P.underlyingId u) : (variablesAt ⟨b, off, none⟩ u n).run P w = .ok true w := by
  obtain ⟨d, hd⟩ := depth_succ P
  have hsame : sameLayout P (d + 1) el u = true := by simp [sameLayout, hu]
  have hrow : rowAt P (fun x => sameLayout P P.depth x u) P.depth el (c.size / sz) off n = true := by
    rw [hd]
    simp [rowAt, cellsOf_eq hs, h0, hoff, hn, hsame]
  have hlies : liesAt P P.depth el (c.size / sz) off u n = true := by
    rw [hd] at hrow ⊢
    simp only [liesAt]
    rw [hd]
    simp [hrow]
  simp [variablesAt, shape_of hb, cellsOf_eq hs, hlies]

theorem slice_elim {i o n : Nat} {cap : Cp} {x : Value} (hx : VR ρ (.slc i o n cap) x) : (∃ b s c, x = .slice (some ⟨b, o - s, none⟩) n c ∧ ρ i = some (b, s) ∧ s ≤ o ∧ n ≤ c ∧ (∀ k, cap = .known k → c = k) ∧ (∀ z, cap = .opn z → o - s + c * z ≤ ρ.room i)) ∨ (∃ ad, x = .slice (some ad) 0 0 ∧ n = 0 ∧ ∀ k, cap = .known k → k = 0) := by
  cases hx with
  | slc _ _ b s _ c _ hb hs hn hc hz => exact .inl ⟨b, s, c, rfl, hb, hs, hn, hc, hz⟩
  | slc0 _ _ _ ad hc => exact .inr ⟨ad, rfl, rfl, hc⟩

theorem run_loadCells_zero (a : Addr) : (loadCells a 0).run P w = .ok #[] w := by simp [loadCells, loadCellsFrom]

theorem conv_ok {s d : TypeId} {u v : V} {x : Value} {h' : Hp} (hr : Rel P ρ h w) (hu : VR ρ u x) (hv : convV P s d u h = some (v, h')) : h' = h ∧ ∃ y, (convert s d x).run P w = .ok y w ∧ VR ρ v y := by
  unfold convV at hv
  split at hv
  · rename_i k n sd k' hsd hdd
    cases hu
    simp only [Option.some.injEq, Prod.mk.injEq] at hv
    obtain ⟨rfl, rfl⟩ := hv
    refine ⟨rfl, _, by simp [convert, run_und hsd, run_und hdd, Conv.intToInt]; rfl, ?_⟩
    rw [wrapV_eq]
    exact .int _ _
  · rename_i sd hsd hdd
    simp only [Option.some.injEq, Prod.mk.injEq] at hv
    obtain ⟨rfl, rfl⟩ := hv
    cases hu with
    | str _ b hb => exact ⟨rfl, .string b, by simp [convert, run_und hsd, run_und hdd], .str _ _ hb⟩
  · rename_i el hsd hdd
    cases hu
    split at hv
    · rename_i he
      simp only [Option.some.injEq, Prod.mk.injEq] at hv
      obtain ⟨rfl, rfl⟩ := hv
      exact ⟨rfl, _, by simp [convert, run_und hsd, run_und hdd, run_und he, Conv.bytesToString]; rfl, .str _ _ rfl⟩
    · cases hv
  · rename_i i o n cap el hsd hdd
    split at hv
    · rename_i he
      split at hv
      · rename_i hn
        subst hn
        simp only [Option.some.injEq, Prod.mk.injEq] at hv
        obtain ⟨rfl, rfl⟩ := hv
        have : ∃ ad c, x = .slice (some ad) 0 c := by
          rcases slice_elim hu with ⟨b, s', c, e, _⟩ | ⟨ad, e, _⟩
          · exact ⟨_, _, e⟩
          · exact ⟨_, _, e⟩
        obtain ⟨ad, c, rfl⟩ := this
        have hrun := run_bytesToString (P := P) w ad 0 c [] (run_loadCells_zero ad)
        exact ⟨rfl, _, by rw [run_convert_bytes_string w s d el _ _ _ hsd he hdd]; exact hrun, .str _ _ (by simp)⟩
      · rename_i hn
        split at hv
        · rename_i cs hcs
          simp only [Option.map_eq_some_iff, Prod.mk.injEq] at hv
          obtain ⟨l, hl, rfl, rfl⟩ := hv
          rcases slice_elim hu with ⟨b, s', c, rfl, hb, hs, hnc, hc⟩ | ⟨ad, _, hn0, _⟩
          · obtain ⟨xs, h1, h2, _, _⟩ := row_ok hr hcs hb hs
            obtain ⟨ns, rfl, rfl⟩ := u8s_ok h2 hl
            have hrun := run_bytesToString (P := P) w ⟨b, o - s', none⟩ n c ns (h1 w rfl)
            refine ⟨rfl, _, by rw [run_convert_bytes_string w s d el _ _ _ hsd he hdd]; exact hrun, .str _ _ ?_⟩
            rw [foldl_push]
            simp
          · exact absurd hn0 hn
        · cases hv
    · cases hv
  · rename_i i o t hsd hdd
    split at hv
    · rename_i n md el cs hn hg
      split at hv
      · rename_i ho
        simp only [Option.some.injEq, Prod.mk.injEq] at hv
        obtain ⟨rfl, rfl⟩ := hv
        rw [len_eq] at ho
        cases hu with
        | ptr _ _ b s' hb hs =>
          obtain ⟨b', s'', hb', hob⟩ := hr.ob i _ hg
          rw [hb] at hb'
          simp only [Option.some.injEq, Prod.mk.injEq] at hb'
          obtain ⟨rfl, rfl⟩ := hb'
          obtain ⟨c, fz, h1, hrm, h2, h3, h4⟩ := hob
          refine ⟨rfl, _, ?_, .ptr _ _ _ _ hb hs⟩
          have hlt : ¬ c.size ≤ o - s' := by omega
          simp [convert, run_und hsd, run_und hdd, Conv.unsafePointer, run_seenAt h1, cellsIn, shape_of h1, run_size hn, hlt]
      · cases hv
    · cases hv
  · rename_i i t hsd hdd
    split at hv
    · rename_i n md el cs hn hg
      split at hv
      · rename_i hh
        obtain ⟨rfl, hlen⟩ := hh
        simp only [Option.some.injEq, Prod.mk.injEq] at hv
        obtain ⟨rfl, rfl⟩ := hv
        rw [len_eq] at hlen
        cases hu with
        | ptr _ _ b s' hb hs =>
          obtain ⟨b', s'', hb', hob⟩ := hr.ob i _ hg
          rw [hb] at hb'
          simp only [Option.some.injEq, Prod.mk.injEq] at hb'
          obtain ⟨rfl, rfl⟩ := hb'
          obtain ⟨c, fz, h1, hrm, h2, h3, h4⟩ := hob
          obtain rfl : s' = 0 := by omega
          have hva := variables_ok (P := P) (off := 0) (n := 1) h1 hn (by omega) (by simp) (by
            rw [Nat.zero_div, Nat.zero_add]
            exact (Nat.le_div_iff_mul_le (by omega)).2 (by omega)) (rfl : P.underlyingId el = P.underlyingId el)
          refine ⟨rfl, _, ?_, .ptr _ _ _ _ hb hs⟩
          simp [convert, run_und hsd, run_und hdd, Conv.unsafePointer, run_seenAt h1, run_size hn, hva]
      · cases hv
    · cases hv
  · split at hv
    · rename_i y hy
      split at hv
      · rename_i z hz
        simp only [Option.map_eq_some_iff, Prod.mk.injEq] at hv
        obtain ⟨r, hr', rfl, rfl⟩ := hv
        rw [conc_eq hu hy]
        exact ⟨rfl, z, semVal_run P w hz, abs1_vr hr'⟩
      · cases hv
    · cases hv

/-! ### unsafe.SliceData, unsafe.String -/

theorem sliceData_ok {ts : Array TypeId} {t : TypeId} {u v : V} {x : Value} (hu : VR ρ u x) (hv : sliceDataV u = some v) : ∃ y, (Builtin.unsafeSliceData_ ts t #[x]).run P w = .ok y w ∧ VR ρ v y := by
  unfold sliceDataV at hv
  split at hv
  · cases hu
    simp only [Option.some.injEq] at hv
    subst hv
    exact ⟨.pointer none, rfl, .nilp⟩
  · rename_i i o n cap
    simp only [Option.some.injEq] at hv
    subst hv
    rcases slice_elim hu with ⟨b, s, c, rfl, hb, hs, hnc, _⟩ | ⟨_, _, hn0, _⟩
    · have hc : c ≠ 0 := by omega
      refine ⟨.pointer (some ⟨b, o - s, none⟩), ?_, .ptr _ _ _ _ hb hs⟩
      show (ite (c ≠ 0) (pure _) _ : Sem Value).run P w = _
      rw [if_pos hc]
      rfl
    · cases hn0
  · cases hv

theorem run_loadBytes {b : Nat} : ∀ (ns : List Int) (o : Nat) (acc : ByteArray), (∀ j n, ns[j]? = some n → w.cell? ⟨b, o + j, none⟩ = some (.int .u8 n)) →
    (loadBytes ⟨b, o, none⟩ acc ns.length).run P w = .ok (ns.foldl (fun (r : ByteArray) n => r.push n.toNat.toUInt8) acc) w
  | [], o, acc, _ => by simp [loadBytes]
  | n :: ns, o, acc, hc => by
    have h0 : w.cell? ⟨b, o, none⟩ = some (.int .u8 n) := by simpa using hc 0 n (by simp)
    simp only [List.length_cons, loadBytes, Sem.run_bind, run_load, h0, Result.andThen_ok, addr_add, List.foldl_cons]
    exact run_loadBytes ns (o + 1) _ fun j m hj => by
      have := hc (j + 1) m (by simpa using hj)
      rwa [show o + 1 + j = o + (j + 1) by omega]

theorem freeze_turned {b off n : Nat} {c : Array Value} {el : TypeId} {fz : Nat × Nat} (hb : w.heap[b]? = some (.cells c el fz)) : ∃ fz', Turned w (w.freeze ⟨b, off, none⟩ n) b (.cells c el fz') := by
  by_cases hn : n = 0
  · subst hn
    exact ⟨fz, by simpa [World.freeze] using hb, fun _ _ => by simp [World.freeze], by simp [World.freeze], by simp [World.freeze], by simp [World.freeze], by simp [World.freeze]⟩
  · obtain ⟨lo, hi⟩ := fz
    refine ⟨if lo == hi then (off, off + n) else (min lo off, max hi (off + n)), ?_, fun k hk => ?_, by simp [World.freeze, hn], by simp [World.freeze, hn], by simp [World.freeze, hn], by simp [World.freeze, hn]⟩
    · simp only [World.freeze, hn, if_false, Array.getElem?_modify]
      simp [hb]
    · simp only [World.freeze, hn, if_false, Array.getElem?_modify]
      rw [if_neg (by omega)]

theorem unsafeStr_ok {ts : Array TypeId} {t : TypeId} {u n v : V} {x y : Value} {h' : Hp} (hr : Rel P ρ h w) (hu : VR ρ u x) (hn : VR ρ n y) (hv : unsafeStrV P ts u n h = some (v, h')) :
    ∃ z w', (Builtin.unsafeString_ ts t #[x, y]).run P w = .ok z w' ∧ VR ρ v z ∧ Stp P ρ h w ρ h' w' := by
  unfold unsafeStrV at hv
  split at hv
  · rename_i k pt hpt
    cases hu; cases hn
    simp only [Option.some.injEq, Prod.mk.injEq] at hv
    obtain ⟨rfl, rfl⟩ := hv
    refine ⟨_, w, ?_, .str [] .empty rfl, .refl hr⟩
    show Sem.run P (asInt (Value.int k 0) >>= _) w = _
    simp [asInt, asIntOf, hpt, IntKind.max, IntKind.signed, IntKind.bits]
  · rename_i i o k n pt hpt
    split at hv
    · rename_i ue md el cs hpu hg
      split at hv
      · rename_i hh
        obtain ⟨h0, h1, hmd, hsz, huid⟩ := hh
        split at hv
        · rename_i r hrow
          split at hv
          · rename_i l hl
            simp only [Option.some.injEq, Prod.mk.injEq] at hv
            obtain ⟨rfl, rfl⟩ := hv
            cases hn
            cases hu with
            | ptr _ _ b s hb hs =>
              obtain ⟨b', s', hb', hob⟩ := hr.ob i _ hg
              rw [hb] at hb'
              simp only [Option.some.injEq, Prod.mk.injEq] at hb'
              obtain ⟨rfl, rfl⟩ := hb'
              obtain ⟨c, fz, q1, qrm, q2, q3, q4⟩ := hob
              obtain ⟨xs, r1, r2, r3, _⟩ := row_ok hr hrow hb hs
              obtain ⟨ns, rfl, rfl⟩ := u8s_ok r2 hl
              -- the row once more, from its own definition
              have hrow' := hrow
              simp only [row, hg] at hrow'
              cases hble : Nat.ble (o + n.toNat) (len cs) with
              | false => simp [hble] at hrow'
              | true =>
                have hle := ble_le hble
                rw [len_eq] at hle
                simp only [hble, cond_true, Option.some.injEq, takeL_eq, dropL_eq] at hrow'
                have hlen : ns.length = n.toNat := by have := r2.length; simp at this; omega
                have hcell : ∀ (j : Nat) (m : Int), ns[j]? = some m → w.cell? ⟨b, o - s + j, none⟩ = some (.int .u8 m) := by
                  intro j m hj
                  rw [cell_of q1]
                  have hjn : j < n.toNat := by rw [← hlen]; exact (List.getElem?_eq_some_iff.1 hj).1
                  have hrj : ∃ v', r[j]? = some v' := by
                    have : j < r.length := by omega
                    exact ⟨r[j], List.getElem?_eq_getElem this⟩
                  obtain ⟨v', hv'⟩ := hrj
                  obtain ⟨y', hy', hvy'⟩ := r2.get j v' hv'
                  have hym : y' = .int .u8 m := by
                    rw [List.getElem?_map, hj] at hy'
                    simpa using hy'.symm
                  rw [← hrow', List.getElem?_take, if_pos hjn, List.getElem?_drop] at hv'
                  obtain ⟨z', hz', hvz', hcz'⟩ := q3 (o + j) v' hv' (by omega)
                  rw [show o + j - s = o - s + j by omega] at hz'
                  rw [hz']
                  subst hym
                  cases hvy' with
                  | int => cases hvz'; rfl
                  | junk => cases hcz'
                have hlb := run_loadBytes (P := P) (w := w) (b := b) ns (o - s) .empty hcell
                rw [hlen] at hlb
                have hvar := variables_ok (P := P) (off := o - s) (n := n.toNat) q1 hsz (by omega) (Nat.mod_one _) (by rw [Nat.div_one, Nat.div_one]; omega) huid
                obtain ⟨fz', ht⟩ := freeze_turned (off := o - s) (n := n.toNat) q1
                refine ⟨_, w.freeze ⟨b, o - s, none⟩ n.toNat, ?_, .str _ _ (foldl_push ns .empty), ?_⟩
                · have e1 : ¬ n < 0 := by omega
                  have e2 : ¬ n > IntKind.i64.max := by simp [IntKind.max, IntKind.signed, IntKind.bits]; omega
                  have e3 : ¬ n = 0 := by omega
                  have hel : (elemOf pt).run P w = .ok ue w := by simp [elemOf, run_und hpu]
                  show Sem.run P (asInt (Value.int k n) >>= _) w = _
                  simp only [Sem.run_bind, asInt, asIntOf, Sem.run_pure, Result.andThen_ok, hpt, Sem.run_ite, if_neg e1, if_neg e2, if_neg e3, hel, hvar, if_true, hlb, run_freeze]
                · refine Stp.set hr hg hb (by cases md <;> first | rfl | exact absurd rfl hmd) rfl _ ht.size ht.there ht.os ht.tape ht.output ?_
                  exact ⟨c, fz', ht.here, qrm, q2, q3, fun e => by cases e⟩
          · cases hv
        · cases hv
      · cases hv
    · cases hv
  · cases hv

end
end Vm
end Go.Proofs.YtdgopiffbhlhoaaGreatDoor
