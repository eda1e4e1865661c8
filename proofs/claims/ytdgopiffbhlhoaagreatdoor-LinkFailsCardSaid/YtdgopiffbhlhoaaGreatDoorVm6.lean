/- The small machine's operations are the model's: places, parts, slices, literals. -/
import Derived.Test.YtdgopiffbhlhoaaGreatDoorVm5
namespace Go.Proofs.YtdgopiffbhlhoaaGreatDoor
open Go
namespace Vm
section
variable {P : Program} {ρ : Rho} {nt : Nat} {T : Fr} {a : Act} {h : Hp} {w : World}

theorem nilChk_ok {u v : V} {x : Value} (hu : VR ρ u x) (hv : nilChk u = some v) (o : Oper) (y : Operand) (ho : o.op = .nilCheck y) (hy : a.eval y = x) :
    (execOp a.eval o).run P w = .ok (.value x) w ∧ v = u := by
  unfold execOp
  rw [ho]
  simp only [hy]
  cases hu <;> first
    | (simp [nilChk] at hv; done)
    | (simp only [nilChk, Option.some.injEq] at hv; exact ⟨rfl, hv.symm⟩)
    | skip
  rename_i f l m xs ys ha hb
  cases f with
  | func f => simp only [nilChk, Option.some.injEq] at hv; exact ⟨rfl, hv.symm⟩
  | _ => simp [nilChk] at hv

theorem fieldAddr_ok {s : TypeId} {f : Nat} {k : V → Option V} {u v : V} {x : Value} (hk : fieldAddrC P s f = .mk k) (hu : VR ρ u x) (hv : k u = some v) :
    ∃ y, (Instr.fieldAt s x f).run P w = .ok y w ∧ VR ρ v y := by
  simp only [fieldAddrC] at hk
  split at hk
  · rename_i fs hfs
    split at hk
    · rename_i fd hfd
      split at hk
      · rename_i n hn
        split at hk
        · simp only [Cm.mk.injEq] at hk; subst hk; cases hv
        · rename_i n
          simp only [Cm.mk.injEq] at hk
          subst hk
          dsimp only at hv
          split at hv
          · rename_i i o
            cases hu with
            | ptr _ _ b s' hb hs =>
              simp only [Option.some.injEq] at hv
              subst hv
              refine ⟨.pointer (some ⟨b, o + fd.offset - s', none⟩), ?_, .ptr _ _ _ _ hb (by omega)⟩
              simp [Instr.fieldAt, run_und hfs, hfd, Instr.sureAddr, fieldPlace, run_size hn, addr_add]
              omega
          · cases hv
      · simp only [Cm.mk.injEq] at hk; subst hk; cases hv
    · simp only [Cm.mk.injEq] at hk; subst hk; cases hv
  · simp only [Cm.mk.injEq] at hk; subst hk; cases hv

theorem part_ok {t : TypeId} {cs : List V} {xs : Array Value} {off : Nat} {v : V} (hc : VRs ρ cs xs.toList) (hv : partV P t cs off = some v) :
    ∃ y, (part t xs off).run P w = .ok y w ∧ VR ρ v y := by
  simp only [partV] at hv
  split at hv
  · rename_i hsh
    split at hv
    · rename_i n hn
      simp only [Option.some.injEq] at hv
      subst hv
      refine ⟨.agg (xs.extract off (off + n)), by simp [part, run_isAgg_agg hsh, run_size hn], .agg _ _ ?_⟩
      rw [takeL_eq, dropL_eq, Array.toList_extract]
      have := (hc.drop off).take n
      simpa [List.extract] using this
    · cases hv
  · rename_i hsh
    rw [nth_eq] at hv
    obtain ⟨y, hy, hvy⟩ := hc.get off v hv
    have hy' : xs[off]? = some y := by simpa using hy
    exact ⟨y, by simp [part, run_isAgg_one hsh, hy'], hvy⟩
  · cases hv

theorem field_ok {t : TypeId} {f : Nat} {u v : V} {x : Value} (hu : VR ρ u x) (hv : fieldV P t u f = some v) :
    ∃ y, (Instr.field t x f).run P w = .ok y w ∧ VR ρ v y := by
  simp only [fieldV] at hv
  split at hv
  · rename_i cs fs hfs
    cases hu with
    | agg _ xs hc =>
      split at hv
      · rename_i fd hfd
        obtain ⟨y, hy, hvy⟩ := part_ok (w := w) hc hv
        exact ⟨y, by simp [Instr.field, run_und hfs, hfd, asAgg, hy], hvy⟩
      · cases hv
  · cases hv

theorem indexAddr_ok {t : TypeId} {u i v : V} {x j : Value} (hu : VR ρ u x) (hi : VR ρ i j) (hv : indexAddrV P t u i = some v) :
    ∃ y, (Instr.indexAt t x j).run P w = .ok y w ∧ VR ρ v y := by
  simp only [indexAddrV] at hv
  split at hv
  · rename_i k n
    cases hi
    split at hv
    · rename_i len el i o hd
      cases hu with
      | ptr _ _ b s hb hs =>
        split at hv
        · rename_i hn
          simp only [Option.map_eq_some_iff] at hv
          obtain ⟨sz, hsz, rfl⟩ := hv
          refine ⟨.pointer (some ⟨b, o - s + n.toNat * sz, none⟩), ?_, ?_⟩
          · simp [Instr.indexAt, asIntOf, run_und hd, Instr.sureAddr, hn.1, hn.2, run_size hsz, addr_add]
          · have := VR.ptr (ρ := ρ) i (o + n.toNat * sz) b s hb (by omega)
            rwa [show o + n.toNat * sz - s = o - s + n.toNat * sz by omega] at this
        · cases hv
    · rename_i el i o len cap hd
      split at hv
      · rename_i hn
        simp only [Option.map_eq_some_iff] at hv
        obtain ⟨sz, hsz, rfl⟩ := hv
        cases hu with
        | slc _ _ b s _ c _ hb hs hlc hc hz =>
          refine ⟨.pointer (some ⟨b, o - s + n.toNat * sz, none⟩), ?_, ?_⟩
          · simp [Instr.indexAt, asIntOf, run_und hd, hn.1, hn.2, run_size hsz, addr_add]
          · have := VR.ptr (ρ := ρ) i (o + n.toNat * sz) b s hb (by omega)
            rwa [show o + n.toNat * sz - s = o - s + n.toNat * sz by omega] at this
        | slc0 => omega
      · cases hv
    · cases hv
  · cases hv

theorem index_ok {t : TypeId} {u i v : V} {x j : Value} (hu : VR ρ u x) (hi : VR ρ i j) (hv : indexV P t u i = some v) :
    ∃ y, (Instr.index t x j).run P w = .ok y w ∧ VR ρ v y := by
  simp only [indexV] at hv
  split at hv
  · rename_i k n
    cases hi
    split at hv
    · rename_i len el cs hd
      cases hu with
      | agg _ xs hc =>
        split at hv
        · rename_i hn
          split at hv
          · rename_i sz hsz
            obtain ⟨y, hy, hvy⟩ := part_ok (w := w) hc hv
            exact ⟨y, by simp [Instr.index, asIntOf, run_und hd, hn.1, hn.2, run_size hsz, hy], hvy⟩
          · cases hv
        · cases hv
    · rename_i s hd
      cases hu with
      | str _ b hb =>
        split at hv
        · rename_i hn
          simp only [Option.map_eq_some_iff] at hv
          obtain ⟨c, hc, rfl⟩ := hv
          rw [nth_eq, ← hb] at hc
          have hc' : b[n.toNat]? = some c := by
            obtain ⟨hlt, he⟩ := List.getElem?_eq_some_iff.1 hc
            have hlt' : n.toNat < b.size := by simpa using hlt
            rw [getElem?_pos b n.toNat hlt']
            exact congrArg some he
          exact ⟨_, by simp [Instr.index, asIntOf, run_und hd, hn, hc'], .int _ _⟩
        · cases hv
    · cases hv
  · cases hv

/-! ### Slices -/

def OptR (ρ : Rho) : Option V → Option Value → Prop
  | none, none => True
  | some u, some x => VR ρ u x
  | _, _ => False

theorem sliceBound_ok {u : V} {x : Value} {k : IntKind} {n : Int} (hu : VR ρ u x) (e : u = .int k n) {y : Nat} {code : BoundsCode} (h0 : 0 ≤ n) (hy : n.toNat ≤ y) : (Instr.sliceBound x y code).run P w = .ok n.toNat w := by
  subst e
  cases hu
  have : n ≤ (y : Int) := by omega
  simp [Instr.sliceBound, asIntOf, h0, this]

/-- The three bounds. -/
theorem bounds_ok {lo hi mx : Option V} {l' h' m' : Option Value} (hl : OptR ρ lo l') (hh : OptR ρ hi h') (hm : OptR ρ mx m') {isS : Bool} {len cap l u m : Nat}
    (hl' : boundV lo 0 = some l) (hu' : boundV hi len = some u) (hm' : boundV mx cap = some m) (h1 : l ≤ u) (h2 : u ≤ m) (h3 : m ≤ cap) (h4 : mx = none ∨ hi ≠ none) :
    (Instr.sliceBounds isS len cap l' h' m').run P w = .ok (l, u, m) w := by
  have e1 : ∀ {u : Option V} {x : Option Value} {d r : Nat}, OptR ρ u x → boundV u d = some r → (x = none ∧ u = none ∧ r = d) ∨ (∃ v k n, x = some v ∧ u = some (.int k n) ∧ VR ρ (.int k n) v ∧ 0 ≤ n ∧ r = n.toNat) := by
    intro u x d r hu hb
    cases u with
    | none => cases x with
      | none => exact .inl ⟨rfl, rfl, by simpa [boundV] using hb.symm⟩
      | some x => cases hu
    | some u => cases x with
      | none => cases hu
      | some x =>
        simp only [boundV] at hb
        split at hb
        · rename_i heq; cases heq
        · rename_i k n heq
          simp only [Option.some.injEq] at heq
          subst heq
          split at hb
          · rename_i hn
            simp only [Option.some.injEq] at hb
            exact .inr ⟨x, k, n, rfl, rfl, hu, hn, hb.symm⟩
          · cases hb
        · cases hb
  unfold Instr.sliceBounds
  rcases e1 hm hm' with ⟨rfl, rfl, rfl⟩ | ⟨vm, km, nm, rfl, rfl, hvm, hm0, rfl⟩
  · rcases e1 hh hu' with ⟨rfl, rfl, rfl⟩ | ⟨vh, kh, nh, rfl, rfl, hvh, hh0, rfl⟩ <;> rcases e1 hl hl' with ⟨rfl, rfl, rfl⟩ | ⟨vl, kl, nl, rfl, rfl, hvl, hl0, rfl⟩
    · simp
    · simp [sliceBound_ok hvl rfl hl0 h1]
    · simp [sliceBound_ok hvh rfl hh0 h2]
    · simp [sliceBound_ok hvh rfl hh0 h2, sliceBound_ok hvl rfl hl0 h1]
  · rcases e1 hh hu' with ⟨rfl, rfl, rfl⟩ | ⟨vh, kh, nh, rfl, rfl, hvh, hh0, rfl⟩
    · rcases h4 with h4 | h4
      · cases h4
      · exact absurd rfl h4
    · rcases e1 hl hl' with ⟨rfl, rfl, rfl⟩ | ⟨vl, kl, nl, rfl, rfl, hvl, hl0, rfl⟩
      · simp [sliceBound_ok hvm rfl hm0 h3, sliceBound_ok hvh rfl hh0 h2]
      · simp [sliceBound_ok hvm rfl hm0 h3, sliceBound_ok hvh rfl hh0 h2, sliceBound_ok hvl rfl hl0 h1]

/-- What a slice expression's row is of a slice's value. -/
theorem sliceRow_ok {i o sz b s l u m : Nat} {v : V} (hb : ρ i = some (b, s)) (hs : s ≤ o) (h1 : l ≤ u) (h2 : u ≤ m)
    (hv : (v = .slc i (o + l * sz) (u - l) (.opn sz) ∧ o - s + m * sz ≤ ρ.room i) ∨ v = .slc i (if m = l then o else o + l * sz) (u - l) (.known (m - l))) :
    VR ρ v (.slice (if m = l then some ⟨b, o - s, none⟩ else some ⟨b, o - s + l * sz, none⟩) (u - l) (m - l)) := by
  rcases hv with ⟨rfl, hz⟩ | rfl
  · by_cases e : m = l
    · have e1 : u - l = 0 := by omega
      have e2 : m - l = 0 := by omega
      rw [if_pos e, e1, e2]
      exact .slc0 _ _ _ _ (by simp)
    · rw [if_neg e]
      have hz' : o + l * sz - s + (m - l) * sz ≤ ρ.room i := by
        have : l * sz + (m - l) * sz = m * sz := by rw [← Nat.add_mul, Nat.add_sub_cancel' (Nat.le_trans h1 h2)]
        omega
      have := VR.slc (ρ := ρ) i (o + l * sz) b s (u - l) (m - l) (.opn sz) hb (by omega) (by omega) (by simp) (fun z e => by cases e; exact hz')
      rwa [show o + l * sz - s = o - s + l * sz by omega] at this
  · by_cases e : m = l
    · rw [if_pos e, if_pos e]
      exact .slc _ _ _ _ _ _ _ hb hs (by omega) (by simp) (by simp)
    · rw [if_neg e, if_neg e]
      have := VR.slc (ρ := ρ) i (o + l * sz) b s (u - l) (m - l) (.known (m - l)) hb (by omega) (by omega) (by simp) (by simp)
      rwa [show o + l * sz - s = o - s + l * sz by omega] at this

/-- The bounds of a slice of a row whose capacity is c (known, or not). -/
theorem sliceRow_some {size i o n c q R : Nat} {cap : Cp} {lo hi mx : Option V} {v : V} (hn : n ≤ c) (hc : ∀ k, cap = .known k → c = k) (hz : ∀ z, cap = .opn z → q + c * z ≤ R) (hv : sliceRow size i o n cap lo hi mx = some v) :
    ∃ l u m, boundV lo 0 = some l ∧ boundV hi n = some u ∧ boundV mx c = some m ∧ l ≤ u ∧ u ≤ m ∧ m ≤ c ∧ (mx = none ∨ hi ≠ none) ∧
      ((v = .slc i (o + l * size) (u - l) (.opn size) ∧ q + m * size ≤ R) ∨ v = .slc i (if m = l then o else o + l * size) (u - l) (.known (m - l))) := by
  simp only [sliceRow] at hv
  split at hv
  · cases hv
  rename_i l hl
  split at hv
  · cases hv
  rename_i u hu
  split at hv
  · split at hv
    · rename_i c'
      have := hc c' rfl
      subst this
      split at hv
      · rename_i hle
        simp only [Option.some.injEq] at hv
        exact ⟨l, u, c, hl, hu, rfl, hle.1, hle.2, Nat.le_refl _, .inl rfl, .inr hv.symm⟩
      · cases hv
    · rename_i sz
      split at hv
      · rename_i hle
        obtain ⟨rfl, hle⟩ := hle
        simp only [Option.some.injEq] at hv
        exact ⟨l, u, c, hl, hu, rfl, hle.1, by omega, Nat.le_refl _, .inl rfl, .inl ⟨hv.symm, hz _ rfl⟩⟩
      · cases hv
  · rename_i x
    split at hv
    · rename_i k m
      split at hv
      · rename_i hle
        simp only [Option.some.injEq] at hv
        obtain ⟨h0, h1, h2, h3, h4⟩ := hle
        have h5 : m.toNat ≤ c := by
          cases cap with
          | opn z => simp only [capOr] at h4; omega
          | known k => have := hc k rfl; simp only [capOr] at h4; omega
        exact ⟨l, u, m.toNat, hl, hu, by simp [boundV, h0], h2, h3, h5, .inr (by intro e; rw [e] at h1; cases h1), .inr hv.symm⟩
      · cases hv
    · cases hv

def isKnown : V → Prop
  | .slc _ _ _ (.opn _) => False
  | _ => True
theorem sliceRow_known {size i o n c : Nat} {lo hi mx : Option V} {v : V} (hv : sliceRow size i o n (.known c) lo hi mx = some v) : isKnown v := by
  simp only [sliceRow] at hv
  split at hv
  · cases hv
  split at hv
  · cases hv
  split at hv
  · split at hv
    · cases hv; trivial
    · cases hv
  · split at hv
    · split at hv
      · cases hv; trivial
      · cases hv
    · cases hv

theorem slice_ok {t : TypeId} {u v : V} {x : Value} {lo hi mx : Option V} {l' h' m' : Option Value} (hu : VR ρ u x) (hl : OptR ρ lo l') (hh : OptR ρ hi h') (hm : OptR ρ mx m')
    (hv : sliceV P t u lo hi mx = some v) : ∃ y, (Instr.sliceAt t x l' h' m').run P w = .ok y w ∧ VR ρ v y := by
  simp only [sliceV] at hv
  split at hv
  · -- an array's address
    rename_i n el i o hd
    split at hv
    · rename_i sz hsz
      obtain ⟨l, r, m, hlo, hhi, hmx, h1, h2, h3, h4, hvv⟩ := sliceRow_some (c := n) (q := 0) (R := 0) (Nat.le_refl n) (by simp) (by simp) hv
      cases hu with
      | ptr _ _ b s hb hs =>
        have hbd := bounds_ok (P := P) (w := w) hl hh hm (isS := false) hlo hhi hmx h1 h2 h3 h4
        have hvr := sliceRow_ok (sz := sz) hb hs h1 h2 (hvv.imp_left fun hvv => by
          exfalso
          have := sliceRow_known hv
          rw [hvv.1] at this
          exact this)
        refine ⟨_, ?_, hvr⟩
        simp only [Instr.sliceAt, Sem.run_bind, run_und hd, Result.andThen_ok, Instr.sureAddr, Sem.run_pure, hbd, run_size hsz]
        by_cases e : m = l <;> simp [e, addr_add]
    · cases hv
  · -- a text
    rename_i s hd
    split at hv
    · cases m' with
      | some _ => cases hm
      | none =>
        simp only [sliceStr] at hv
        split at hv
        · rename_i l r hlo hhi
          split at hv
          · rename_i hle
            simp only [Option.some.injEq] at hv
            subst hv
            cases hu with
            | str _ b hb =>
              have hsz : b.size = len s := by rw [len_eq, ← hb]; simp
              have hbd := bounds_ok (P := P) (w := w) (mx := none) (m' := none) hl hh trivial (isS := false) (cap := len s) hlo hhi rfl hle.1 hle.2 (Nat.le_refl _) (.inl rfl)
              refine ⟨.string (b.extract l r), ?_, .str _ _ ?_⟩
              · simp only [Instr.sliceAt, Sem.run_bind, run_und hd, Result.andThen_ok, Instr.slice, hsz]
                simp [hbd]
              · rw [takeL_eq, dropL_eq, ← hb]
                simp [ByteArray.data_extract, List.extract]
          · cases hv
        · cases hv
    · cases hv
  · -- a slice
    rename_i el i o n cap hd
    split at hv
    · rename_i sz hsz
      cases hu with
      | slc _ _ b s _ c _ hb hs hn hc hz =>
        obtain ⟨l, r, m, hlo, hhi, hmx, h1, h2, h3, h4, hvv⟩ := sliceRow_some hn hc hz hv
        have hbd := bounds_ok (P := P) (w := w) hl hh hm (isS := true) hlo hhi hmx h1 h2 h3 h4
        have hvr := sliceRow_ok (sz := sz) hb hs h1 h2 hvv
        refine ⟨_, ?_, hvr⟩
        simp only [Instr.sliceAt, Sem.run_bind, run_und hd, Result.andThen_ok, Instr.slice, hbd, run_size hsz, Sem.run_pure]
        by_cases e : m = l <;> simp [e, addr_add]
      | slc0 _ _ _ ad hc =>
        obtain ⟨l, r, m, hlo, hhi, hmx, h1, h2, h3, h4, hvv⟩ := sliceRow_some (q := 0) (R := 0) (Nat.le_refl 0) (fun k hk => (hc k hk).symm) (fun z _ => by simp) hv
        have hbd := bounds_ok (P := P) (w := w) hl hh hm (isS := true) hlo hhi hmx h1 h2 h3 h4
        obtain rfl : m = 0 := by omega
        obtain rfl : r = 0 := by omega
        obtain rfl : l = 0 := by omega
        refine ⟨.slice (some ad) 0 0, ?_, ?_⟩
        · simp [Instr.sliceAt, run_und hd, Instr.slice, hbd, run_size hsz]
        · rcases hvv with ⟨rfl, _⟩ | rfl
          · exact .slc0 _ _ _ _ (by simp)
          · exact .slc0 _ _ _ _ (by simp)
    · cases hv
  · -- a slice that is nil
    rename_i el hd
    split at hv
    · rename_i sz h1 h2 h4
      simp only [Option.some.injEq] at hv
      subst hv
      cases hu
      cases m' with
      | some _ => cases hm
      | none =>
        have hbd := bounds_ok (P := P) (w := w) (mx := none) (m' := none) hl hh trivial (isS := true) (len := 0) (cap := 0) h1 h2 rfl (Nat.le_refl _) (Nat.le_refl _) (Nat.le_refl _) (.inl rfl)
        refine ⟨.slice none 0 0, ?_, .nils⟩
        simp [Instr.sliceAt, run_und hd, Instr.slice, hbd, run_size h4]
    · cases hv
  · cases hv

end
end Vm
end Go.Proofs.YtdgopiffbhlhoaaGreatDoor
