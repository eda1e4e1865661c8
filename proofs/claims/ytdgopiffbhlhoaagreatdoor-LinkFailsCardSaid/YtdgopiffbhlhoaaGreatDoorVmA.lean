/- The small machine's operations are the model's: append, copy, lengths. -/
import Derived.Test.YtdgopiffbhlhoaaGreatDoorVm9
namespace Go.Proofs.YtdgopiffbhlhoaaGreatDoor
open Go
namespace Vm
section
variable {P : Program} {ρ : Rho} {nt : Nat} {T : Fr} {a : Act} {h : Hp} {w : World}

theorem lenOf_ok {u : V} {x : Value} {n : Nat} (hu : VR ρ u x) (hn : lenOfV u = some n) : (Builtin.lenOf x).run P w = .ok n w := by
  unfold lenOfV at hn
  split at hn
  · cases hu; simp only [Option.some.injEq] at hn; subst hn; rfl
  · simp only [Option.some.injEq] at hn
    rcases slice_elim hu with ⟨b, s, c, rfl, _⟩ | ⟨ad, rfl, h0, _⟩
    · subst hn; rfl
    · subst hn; subst h0; rfl
  · simp only [Option.some.injEq] at hn
    cases hu with
    | str _ b hb => subst hn; rw [len_eq, ← hb]; simp [Builtin.lenOf]
  · cases hn

/-- The first cells of a slice or a text. -/
theorem first_ok (hr : Rel P ρ h w) {size n : Nat} {u : V} {x : Value} {l : List V} (hu : VR ρ u x) (hl : firstV size n u h = some l) :
    ∃ xs : List Value, (∀ w₁ : World, w₁.heap = w.heap → (Builtin.firstCells size n x).run P w₁ = .ok xs.toArray w₁) ∧ VRs ρ l xs ∧ (∀ m, lenOfV u = some m → n ≤ m → l.length = n * size) := by
  unfold firstV at hl
  split at hl
  · cases hu
    split at hl
    · rename_i hn; simp only [Option.some.injEq] at hl; subst hl; exact ⟨[], fun _ _ => rfl, .nil, fun _ _ _ => by rw [hn]; simp⟩
    · cases hl
  · split at hl
    · rename_i hn
      subst hn
      simp only [Option.some.injEq] at hl
      subst hl
      refine ⟨[], fun w₁ _ => ?_, .nil, fun _ _ _ => by simp⟩
      rcases slice_elim hu with ⟨b, s, c, rfl, _⟩ | ⟨ad, rfl, _⟩
      · simp [Builtin.firstCells, run_loadCells_zero]
      · simp [Builtin.firstCells, run_loadCells_zero]
    · rename_i i o k cap hn
      split at hl
      · rename_i hnk
        rcases slice_elim hu with ⟨b, s, c, rfl, hb, hs, _⟩ | ⟨ad, rfl, h0, _⟩
        · obtain ⟨xs, h1, h2, h3, _⟩ := row_ok hr hl hb hs
          exact ⟨xs, h1, h2, fun _ _ _ => h3⟩
        · omega
      · cases hl
  · rename_i s
    cases hu with
    | str _ b hb =>
      cases h1 : Nat.beq size 1 with
      | false => rw [h1] at hl; cases hl
      | true =>
      rw [h1, cond_true] at hl
      have h1' := Nat.eq_of_beq_eq_true h1
      simp only [Option.some.injEq] at hl
      subst hl
      refine ⟨(takeL n s).map fun b => .int .u8 b.toNat, fun w₁ _ => ?_, vrs_bytes _, fun m hm hle => by
        simp only [lenOfV, Option.some.injEq] at hm
        rw [len_eq] at hm
        rw [takeL_eq, List.length_map, List.length_take, h1']
        omega⟩
      rw [takeL_eq, ← hb]
      have : ((b.extract 0 n).data.map fun b => (.int .u8 b.toNat : Value)) = ((List.take n b.data.toList).map fun b => (.int .u8 b.toNat : Value)).toArray := by
        apply Array.ext'
        simp [ByteArray.data_extract]
      simp only [Builtin.firstCells, this]
      rfl
  · cases hl

/-- A block goes over into a new one of the same place. -/
theorem Stp.move (hr : Rel P ρ h w) (hf : Free ρ h.next) (hG : P.globals.size ≤ h.next) {i b s : Nat} {o ob : Ob} (hi : h.get i = some o) (hb : ρ i = some (b, s)) (hfo : o.isFix = false) (w' : World) {O : Obj} (ht : Turned w w' b O)
    (z : Nat) (ho : ObR (upd ρ h.next (b, s) z) h.next b s ob w') : Stp P ρ h w (upd ρ h.next (b, s) z) ((h.kill i).new ob) w' := by
  have hsub := upd_sub (b, s) z (hf _ (Nat.le_refl _))
  have hcase : ∀ j q, ((h.kill i).new ob).get j = some q → (j = h.next ∧ q = ob) ∨ (j ≠ h.next ∧ j ≠ i ∧ h.get j = some q) := fun j q hj => by
    rw [Hp.get_new, Hp.next_kill, Hp.get_kill] at hj
    by_cases e : j = h.next
    · rw [if_pos e] at hj; exact .inl ⟨e, (Option.some.inj hj).symm⟩
    · rw [if_neg e] at hj
      by_cases e2 : j = i
      · rw [if_pos e2] at hj; cases hj
      · rw [if_neg e2] at hj; exact .inr ⟨e, e2, hj⟩
  refine ⟨⟨fun j q hj => ?_, fun j k q q' c s1 s2 hj hk hbj hbk => ?_, fun j c s' hj => ?_, fun g hg => ?_⟩, fun j hj => ?_, by simp [Hp.next_new, Hp.next_kill], by rw [ht.size]; exact Nat.le_refl _, fun c hc how => ?_, fun c hc how => ?_, fun c hc how => ?_, ht.os, ht.tape, ht.output⟩
  · rcases hcase j q hj with ⟨rfl, rfl⟩ | ⟨hne, hni, hj⟩
    · exact ⟨b, s, upd_self _ _ _ _, ho⟩
    · obtain ⟨c, s', hc, hob⟩ := hr.ob j q hj
      refine ⟨c, s', (hsub _ _ hc).1, hob.mono (hsub _ _ hc).2 hsub (ht.there c ?_)⟩
      intro e; subst e
      exact hni (hr.inj j i q o c s' s hj hi hc hb)
  · rcases hcase j q hj with ⟨ej, _⟩ | ⟨hnj, hji, hj⟩ <;> rcases hcase k q' hk with ⟨ek, _⟩ | ⟨hnk, hki, hk⟩
    · rw [ej, ek]
    · rw [ej, upd_self] at hbj; rw [upd_ne _ _ _ hnk] at hbk
      simp only [Option.some.injEq, Prod.mk.injEq] at hbj
      obtain ⟨rfl, _⟩ := hbj
      exact absurd (hr.inj k i q' o b s2 s hk hi hbk hb) hki
    · rw [ek, upd_self] at hbk; rw [upd_ne _ _ _ hnj] at hbj
      simp only [Option.some.injEq, Prod.mk.injEq] at hbk
      obtain ⟨rfl, _⟩ := hbk
      exact absurd (hr.inj j i q o b s1 s hj hi hbj hb) hji
    · rw [upd_ne _ _ _ hnj] at hbj; rw [upd_ne _ _ _ hnk] at hbk
      exact hr.inj j k q q' c s1 s2 hj hk hbj hbk
  · rw [ht.size]
    by_cases e : j = h.next
    · subst e; rw [upd_self] at hj; simp only [Option.some.injEq, Prod.mk.injEq] at hj; obtain ⟨rfl, _⟩ := hj; exact hr.low i b s hb
    · rw [upd_ne _ _ _ e] at hj; exact hr.low j c s' hj
  · rw [upd_ne _ _ _ (by omega)]; exact hr.glob g hg
  · simp only [Hp.next_new, Hp.next_kill] at hj
    exact ⟨upd_ne _ _ _ (by omega), upd_room_ne _ _ _ (by omega)⟩
  · refine ht.there c ?_
    intro e; subst e
    exact how ⟨i, o, s, hi, hb, hfo⟩
  · obtain ⟨j, q, s', hj, hbj, hfx⟩ := how
    rcases hcase j q hj with ⟨e, _⟩ | ⟨hnj, hji, hj⟩
    · rw [e, upd_self] at hbj
      simp only [Option.some.injEq, Prod.mk.injEq] at hbj
      obtain ⟨rfl, _⟩ := hbj
      exact ⟨i, o, s, hi, hb, hfo⟩
    · rw [upd_ne _ _ _ hnj] at hbj
      exact ⟨j, q, s', hj, hbj, hfx⟩
  · obtain ⟨j, q, s', hj, hbj⟩ := how
    rcases hcase j q hj with ⟨e, _⟩ | ⟨hnj, hji, hj⟩
    · rw [e, upd_self] at hbj
      simp only [Option.some.injEq, Prod.mk.injEq] at hbj
      obtain ⟨rfl, _⟩ := hbj
      exact ⟨i, o, s, hi, hb⟩
    · rw [upd_ne _ _ _ hnj] at hbj
      exact ⟨j, q, s', hj, hbj⟩

theorem nextcap_le {need old bytes : Nat} (h : old < need) (hby : bytes ≤ 1048576) (hb : need * bytes ≤ 1099511627776) : Builtin.nextslicecap need old * bytes ≤ 281474976710656 := by
  have h1 : Builtin.nextslicecap need old ≤ 2 * need + 1024 := by
    unfold Builtin.nextslicecap
    split
    · omega
    · split
      · omega
      · have hg : ∀ (r c : Nat), c < need → Builtin.growBy need r c ≤ 2 * need + 1024 := by
          intro r
          induction r with
          | zero => intro c hc; simp only [Builtin.growBy]; omega
          | succ r ih =>
            intro c hc
            simp only [Builtin.growBy]
            split
            · omega
            · by_cases h2 : c + (c + 768) / 4 < need
              · exact ih _ h2
              · cases r with
                | zero => simp only [Builtin.growBy]; omega
                | succ r => simp only [Builtin.growBy]; rw [if_pos (by omega)]; omega
        exact hg 4 old h
  have h2 : Builtin.nextslicecap need old * bytes ≤ (2 * need + 1024) * bytes := Nat.mul_le_mul_right _ h1
  have h3 : (2 * need + 1024) * bytes = 2 * (need * bytes) + 1024 * bytes := by rw [Nat.add_mul, Nat.mul_assoc]
  omega

/-- An append that makes a new row. -/
theorem grow_ok {ts : Array TypeId} {ty st xt el : TypeId} {xd : TypeDesc} {inf : TypeInfo} {z : Value} (hst : ts[0]? = some st) (hxt : ts[1]? = some xt) (hsu : P.underlying st = some (.slice el)) (hxu : P.underlying xt = some xd)
    (hnoint : ∀ k, xd ≠ .int k) (hinf : P.info? el = some inf) (hz : inf.zero = some z) (hzs : z.cells.size = inf.size) (hby : inf.bytes ≤ 1048576) (hby0 : inf.bytes ≠ 0) {base : Option Addr} {ln c n : Nat} {u : V} {x : Value} (hu : VR ρ u x) (hlen : lenOfV u = some n)
    (hgt : c < ln + n) (hsm : (ln + n) * inf.bytes ≤ 1099511627776) {olds news : List Value}
    (hold : ∀ w₁ : World, w₁.heap = w.heap → (Builtin.firstCells inf.size ln (.slice base ln c)).run P w₁ = .ok olds.toArray w₁)
    (hnews : ∀ w₁ : World, w₁.heap = w.heap → (Builtin.firstCells inf.size n x).run P w₁ = .ok news.toArray w₁) :
    ∃ cap w' rest, (Builtin.append_ ts ty #[.slice base ln c, x]).run P w = .ok (.slice (some ⟨w.heap.size, 0, none⟩) (ln + n) cap) w' ∧ ln + n ≤ cap ∧
      w'.heap = w.heap.push (.cells ((olds ++ (news ++ rest)).toArray) el) ∧ w'.os = w.os ∧ w'.tape = w.tape ∧ w'.output = w.output ∧ rest.length = (cap - (ln + n)) * inf.size := by
  have hlo := lenOf_ok (P := P) (w := w) hu hlen
  have hcap := nextcap_le hgt hby hsm
  have hln : ln + n ≤ 1099511627776 := by
    have : (ln + n) * 1 ≤ (ln + n) * inf.bytes := Nat.mul_le_mul_left _ (by omega)
    omega
  let q : Question := .appendCap (ln + n) c el
  let w₁ : World := { w with drawn := w.drawn + 1 }
  let cap := q.cut (w.tape w.drawn q)
  have hcapge : ln + n ≤ cap := by simp only [cap, q, Question.cut]; omega
  have e1 : ¬ ln + n ≤ c := by omega
  have e2 : ¬ (9223372036854775807 < ((ln : Int) + (n : Int))) := by omega
  have e3 : ¬ (281474976710656 < Builtin.nextslicecap (ln + n) c * inf.bytes) := by omega
  have ho := hold w.drew rfl
  have hn := hnews w.drew rfl
  let rest : List Value := (Builtin.zeroCells z.cells (cap - (ln + n))).toList
  refine ⟨cap, { w₁ with heap := w.heap.push (.cells ((olds ++ (news ++ rest)).toArray) el) }, rest, ?_, hcapge, rfl, rfl, rfl, rfl, by simp [rest, Builtin.zeroCells, hzs]⟩
  have harr : (olds ++ (news ++ rest)).toArray = olds.toArray ++ (news.toArray ++ Builtin.zeroCells z.cells (cap - (ln + n))) := by
    apply Array.ext'
    simp [rest]
  rw [harr]
  have hforce : ¬ (Question.forced (.appendCap (ln + n) c el) = true) := by simp [Question.forced]
  simp only [Builtin.append_, hst, hxt]
  simp [run_und hsu, run_und hxu, sizeOf, typeInfo, hinf, hlo, e1, e2, e3, hforce, ho, hn, zeroValue, hz, newRow]
  exact ⟨rfl, rfl⟩

/-- An append into the row itself. -/
theorem room_ok {ts : Array TypeId} {ty st xt el : TypeId} {xd : TypeDesc} {inf : TypeInfo} (hst : ts[0]? = some st) (hxt : ts[1]? = some xt) (hsu : P.underlying st = some (.slice el)) (hxu : P.underlying xt = some xd)
    (hnoint : ∀ k, xd ≠ .int k) (hinf : P.info? el = some inf) {b o s ln c n : Nat} {u : V} {x : Value} (hu : VR ρ u x) (hlen : lenOfV u = some n)
    (hle : ln + n ≤ c) {news : List Value} (hnews : (Builtin.firstCells inf.size n x).run P w = .ok news.toArray w) {w' : World} (hsto : (storeCells ⟨b, o + ln * inf.size - s, none⟩ news).run P w = .ok () w') (hs : s ≤ o) :
    (Builtin.append_ ts ty #[.slice (some ⟨b, o - s, none⟩) ln c, x]).run P w = .ok (.slice (some ⟨b, o - s, none⟩) (ln + n) c) w' := by
  have hlo := lenOf_ok (P := P) (w := w) hu hlen
  rw [show o + ln * inf.size - s = o - s + ln * inf.size by omega] at hsto
  simp only [Builtin.append_, hst, hxt]
  simp [run_und hsu, run_und hxu, sizeOf, typeInfo, hinf, hlo, hle, hnews, addr_add, hsto]

/-- The same, told by the machine. 's': of what place the new block is. -/
theorem grown_ok (hr : Rel P ρ h w) (hf : Free ρ h.next) (hG : P.globals.size ≤ h.next) {ts : Array TypeId} {ty st xt el : TypeId} {xd : TypeDesc} {inf : TypeInfo} {z : Value} (hst : ts[0]? = some st) (hxt : ts[1]? = some xt) (hsu : P.underlying st = some (.slice el)) (hxu : P.underlying xt = some xd)
    (hnoint : ∀ k, xd ≠ .int k) (hinf : P.info? el = some inf) (hz : inf.zero = some z) (hzs : z.cells.size = inf.size) (hby : inf.bytes ≤ 1048576) (hby0 : inf.bytes ≠ 0) {base : Option Addr} {ln c n : Nat} {u : V} {x : Value} (hu : VR ρ u x) (hlen : lenOfV u = some n)
    (hgt : c < ln + n) (hsm : (ln + n) * inf.bytes ≤ 1099511627776) {olds news : List Value}
    (hold : ∀ w₁ : World, w₁.heap = w.heap → (Builtin.firstCells inf.size ln (.slice base ln c)).run P w₁ = .ok olds.toArray w₁)
    (hnews : ∀ w₁ : World, w₁.heap = w.heap → (Builtin.firstCells inf.size n x).run P w₁ = .ok news.toArray w₁)
    {s : Nat} {cs : List V} (hlo : olds.length = ln * inf.size) (hln : news.length = n * inf.size) (hvs : VRs ρ (cs.drop s) (olds ++ news)) (hcell : ∀ v ∈ cs.drop s, v.isCell = true) :
    ∃ ρ' y w', (Builtin.append_ ts ty #[.slice base ln c, x]).run P w = .ok y w' ∧ VR ρ' (.slc h.next s (ln + n) (.opn inf.size)) y ∧ Stp P ρ h w ρ' (h.new (.cells .own el cs)) w' := by
  obtain ⟨cap, w', rest, a1, a2, a3, a4, a5, a6, a7⟩ := grow_ok (P := P) (w := w) (ty := ty) (base := base) (ln := ln) (c := c) (olds := olds) hst hxt hsu hxu hnoint hinf hz hzs hby hby0 hu hlen hgt hsm hold hnews
  have hsub := upd_sub (ρ := ρ) (i := h.next) (w.heap.size, s) (cap * inf.size) (hf _ (Nat.le_refl _))
  have hsz : (olds ++ (news ++ rest)).length = cap * inf.size := by
    simp only [List.length_append, hlo, hln, a7]
    rw [← Nat.add_mul, ← Nat.add_mul]
    congr 1
    omega
  have hdl := hvs.length
  have hdl' : cs.length - s = (ln + n) * inf.size := by
    rw [List.length_drop, List.length_append, hlo, hln, ← Nat.add_mul] at hdl
    exact hdl
  have hcapm : (ln + n) * inf.size ≤ cap * inf.size := Nat.mul_le_mul_right _ a2
  have hvr := VR.slc (ρ := upd ρ h.next (w.heap.size, s) (cap * inf.size)) h.next s w.heap.size s (ln + n) cap (.opn inf.size) (upd_self _ _ _ _) (Nat.le_refl s) a2 (by simp) (fun z e => by cases e; rw [upd_room]; omega)
  rw [Nat.sub_self] at hvr
  refine ⟨_, _, w', a1, hvr, Stp.new hr hf hG _ _ s (cap * inf.size) w' a3 a4 a5 a6 ?_⟩
  refine ⟨(olds ++ (news ++ rest)).toArray, (0, 0), by rw [a3]; exact push_here w _, by rw [upd_room]; simpa using hsz, ?_, fun i v hi hsi => ?_, fun _ j _ hj => by omega⟩
  · simp only [List.size_toArray]; rw [hsz]; omega
  · have hi' : (cs.drop s)[i - s]? = some v := by rw [List.getElem?_drop, Nat.add_sub_cancel' hsi]; exact hi
    obtain ⟨x, hx, hvx⟩ := hvs.get _ _ hi'
    refine ⟨x, ?_, hvx.mono hsub, hcell v (List.mem_of_getElem? hi')⟩
    have hlt := (List.getElem?_eq_some_iff.1 hx).1
    rw [List.getElem?_toArray, ← List.append_assoc, List.getElem?_append_left hlt]
    exact hx

theorem vrs_nil_left {xs : List Value} (h : VRs ρ [] xs) : xs = [] := by cases h; rfl

theorem append_ok (hr : Rel P ρ h w) (hf : Free ρ h.next) (hG : P.globals.size ≤ h.next) {ts : Array TypeId} {ty : TypeId} {s u v : V} {y x : Value} {h' : Hp} (hs : VR ρ s y) (hu : VR ρ u x) (hv : appendV P ts s u h = some (v, h')) :
    ∃ ρ' z w', (Builtin.append_ ts ty #[y, x]).run P w = .ok z w' ∧ VR ρ' v z ∧ Stp P ρ h w ρ' h' w' := by
  unfold appendV at hv
  split at hv
  · cases hv
  rename_i st hst
  split at hv
  · cases hv
  rename_i xt hxt
  split at hv
  case h_2 => cases hv
  rename_i el hsu
  split at hv
  · cases hv
  rename_i xd hxu
  cases hxi : isIntD xd with
  | true => rw [hxi] at hv; cases hv
  | false =>
  rw [hxi, cond_false] at hv
  have hnoint : ∀ k, xd ≠ .int k := by
    intro k e
    subst e
    cases hxi
  split at hv
  · cases hv
  rename_i inf hinf
  cases hok : infOk inf with
  | false => rw [hok] at hv; cases hv
  | true =>
  rw [hok, cond_true] at hv
  simp only [infOk, Bool.and_eq_true, Bool.not_eq_true'] at hok
  obtain ⟨⟨⟨k1, k2⟩, k3⟩, k4⟩ := hok
  have hsz0 : inf.size ≠ 0 := fun e => by rw [e] at k1; cases k1
  have hby0 : inf.bytes ≠ 0 := fun e => by rw [e] at k2; cases k2
  have hby := ble_le k3
  obtain ⟨z, hz, hzs⟩ : ∃ z, inf.zero = some z ∧ z.cells.size = inf.size := by
    unfold zeroFits at k4
    split at k4
    · rename_i z hz; exact ⟨z, hz, Nat.eq_of_beq_eq_true k4⟩
    · cases k4
  split at hv
  · cases hv
  rename_i n hlen
  have hlo := lenOf_ok (P := P) (w := w) hu hlen
  split at hv
  · -- nothing is appended
    rename_i hn0
    subst hn0
    cases hsl : isSl s with
    | false => rw [hsl] at hv; cases hv
    | true =>
    rw [hsl, cond_true] at hv
    simp only [Option.some.injEq, Prod.mk.injEq] at hv
    obtain ⟨rfl, rfl⟩ := hv
    have hx1 : (Builtin.firstCells inf.size 0 x).run P w = .ok #[] w := by
      unfold lenOfV at hlen
      split at hlen
      · cases hu; simp [Builtin.firstCells]
      · rcases slice_elim hu with ⟨b, s', c, rfl, _⟩ | ⟨ad, rfl, _⟩
        · simp [Builtin.firstCells, run_loadCells_zero]
        · simp [Builtin.firstCells, run_loadCells_zero]
      · cases hu with
        | str _ b hb => simp [Builtin.firstCells]
      · cases hlen
    refine ⟨ρ, y, w, ?_, hs, .refl hr⟩
    unfold isSl at hsl
    split at hsl
    · cases hs
      simp only [Builtin.append_, hst, hxt]
      simp [run_und hsu, run_und hxu, sizeOf, typeInfo, hinf, hlo, hx1]
    · rcases slice_elim hs with ⟨b, s', c, rfl, hb, hso, hlc, hcap, _⟩ | ⟨ad, rfl, h0, hcap⟩
      · simp only [Builtin.append_, hst, hxt]
        simp [run_und hsu, run_und hxu, sizeOf, typeInfo, hinf, hlo, hx1, hlc, storeCells]
      · simp only [Builtin.append_, hst, hxt]
        simp [run_und hsu, run_und hxu, sizeOf, typeInfo, hinf, hlo, hx1, storeCells]
    · cases hsl
  rename_i hn0
  split at hv
  · cases hv
  rename_i new hnew
  cases hac : allCell new with
  | false => rw [hac] at hv; cases hv
  | true =>
  rw [hac, cond_true] at hv
  have hcell := (allCell_eq new).1 hac
  obtain ⟨news, hnews, hvn, hnl⟩ := first_ok hr hu hnew
  have hnz : n ≠ 0 := hn0
  have hnlen : news.length = n * inf.size := by rw [← hvn.length]; exact hnl n hlen (Nat.le_refl n)
  have hcell0 : ∀ v ∈ new.drop 0, v.isCell = true := hcell
  have hvn0 : VRs ρ (new.drop 0) ([] ++ news) := hvn
  unfold appTo at hv
  split at hv
  · -- onto nil
    split at hv
    · rename_i hsm
      simp only [Option.some.injEq, Prod.mk.injEq] at hv
      obtain ⟨rfl, rfl⟩ := hv
      cases hs
      have := grown_ok (ty := ty) (base := none) (ln := 0) (c := 0) (olds := []) (s := 0) hr hf hG hst hxt hsu hxu hnoint hinf hz hzs hby hby0 hu hlen (by omega) (by simpa using hsm) (fun _ _ => rfl) hnews (by simp) hnlen hvn0 hcell0
      simpa using this
    · cases hv
  · rename_i i o ln cap
    split at hv
    · rename_i hsm
      split at hv
      · -- the capacity is known
        rename_i c
        unfold appKnown at hv
        split at hv
        · rename_i hle
          simp only [Option.map_eq_some_iff, Prod.mk.injEq] at hv
          obtain ⟨h2, hst2, rfl, rfl⟩ := hv
          rcases slice_elim hs with ⟨b, s', c', rfl, hb, hso, hlc, hcap, _⟩ | ⟨ad, rfl, h0, hcap⟩
          · have := hcap c rfl
            subst this
            obtain ⟨w', hw', hstp⟩ := stCells_ok hr hst2 hb (by omega) hvn
            refine ⟨ρ, _, w', room_ok (P := P) (ty := ty) hst hxt hsu hxu hnoint hinf hu hlen hle (hnews w rfl) hw' hso, ?_, hstp⟩
            exact .slc _ _ _ _ _ _ _ hb hso hle (by simp) (by simp)
          · have := hcap c rfl
            omega
        · rename_i hgt
          split at hv
          · rename_i h0
            subst h0
            simp only [Option.some.injEq, Prod.mk.injEq] at hv
            obtain ⟨rfl, rfl⟩ := hv
            have hy : ∃ base c', y = .slice (some base) 0 c' ∧ c' < 0 + n := by
              rcases slice_elim hs with ⟨b, s', c', rfl, hb, hso, hlc, hcap, _⟩ | ⟨ad, rfl, h0, hcap⟩
              · have := hcap c rfl
                exact ⟨_, _, rfl, by omega⟩
              · exact ⟨_, _, rfl, by omega⟩
            obtain ⟨base, c', rfl, hlt⟩ := hy
            exact grown_ok (ty := ty) (base := some base) (ln := 0) (c := c') (olds := []) (s := 0) hr hf hG hst hxt hsu hxu hnoint hinf hz hzs hby hby0 hu hlen hlt hsm
              (fun w₁ _ => by simp [Builtin.firstCells, run_loadCells_zero]) hnews (by simp) hnlen hvn0 hcell0
          · rename_i h0
            simp only [Option.map_eq_some_iff, Prod.mk.injEq] at hv
            obtain ⟨old, hold, rfl, rfl⟩ := hv
            rcases slice_elim hs with ⟨b, s', c', rfl, hb, hso, hlc, hcap, _⟩ | ⟨ad, rfl, h0', hcap⟩
            · have := hcap c rfl
              subst this
              obtain ⟨olds, b1, b2, b3, b4⟩ := row_ok hr hold hb hso
              exact grown_ok (ty := ty) (base := some ⟨b, o - s', none⟩) (ln := ln) (c := c') (olds := olds) (s := 0) hr hf hG hst hxt hsu hxu hnoint hinf hz hzs hby hby0 hu hlen (by omega) hsm
                (fun w₁ hw₁ => by simpa [Builtin.firstCells] using b1 w₁ hw₁) hnews (by rw [← b2.length]; exact b3) hnlen (b2.append hvn) (fun v hv => by
                  rcases List.mem_append.1 hv with hv | hv
                  · exact b4 v hv
                  · exact hcell v hv)
            · omega
      · -- it isn't
        unfold appOpen at hv
        split at hv
        · rename_i el' cs hg
          split at hv
          · rename_i hle
            simp only [Option.some.injEq, Prod.mk.injEq] at hv
            obtain ⟨rfl, rfl⟩ := hv
            obtain ⟨rfl, rfl, hle⟩ := hle
            rw [len_eq] at hle
            rw [takeL_eq]
            have hfo : (Ob.cells .own el' cs).isFix = false := rfl
            rcases slice_elim hs with ⟨b, s', c', rfl, hb, hso, hlc, hcap, hz'⟩ | ⟨ad, rfl, h0', hcap⟩
            · obtain ⟨b', s'', hb', hob⟩ := hr.ob i _ hg
              rw [hb] at hb'
              simp only [Option.some.injEq, Prod.mk.injEq] at hb'
              obtain ⟨rfl, rfl⟩ := hb'
              obtain ⟨c, fz, q1, q0, q2, q3, q4⟩ := hob
              have hroom := hz' _ rfl
              by_cases hfit : ln + n ≤ c'
              · -- into the row
                have hmul : (ln + n) * inf.size ≤ c' * inf.size := Nat.mul_le_mul_right _ hfit
                rw [Nat.add_mul] at hmul
                obtain ⟨w', hw', ht⟩ := run_storeCells_any (P := P) (b := b) (o := o + ln * inf.size - s') news c w q1 (by omega) (vrs_cells hvn hcell) (q4 rfl)
                have hsub := upd_sub (ρ := ρ) (i := h.next) (b, s') (ρ.room i) (hf _ (Nat.le_refl _))
                refine ⟨upd ρ h.next (b, s') (ρ.room i), _, w', room_ok (P := P) (ty := ty) hst hxt hsu hxu hnoint hinf hu hlen hfit (hnews w rfl) hw' hso, ?_, Stp.move hr hf hG hg hb hfo w' ht _ ?_⟩
                · exact .slc _ _ _ _ _ _ _ (upd_self _ _ _ _) hso hfit (by simp) (fun z e => by cases e; rw [upd_room]; exact hroom)
                · have htl : (cs.take (o + ln * inf.size)).length = o + ln * inf.size := by rw [List.length_take]; omega
                  refine ⟨_, fz, ht.here, by rw [sArr_size, upd_room]; exact q0, ?_, fun j v hj hsj => ?_, fun _ => by rw [sArr_size]; exact q4 rfl⟩
                  · rw [sArr_size, List.length_append, htl, hvn.length]; omega
                  · rw [sArr_get news c _ _ (by omega)]
                    by_cases hjo : j < o + ln * inf.size
                    · rw [List.getElem?_append_left (by omega), List.getElem?_take, if_pos hjo] at hj
                      rw [if_neg (by omega)]
                      obtain ⟨x', hx', hvx', hcx'⟩ := q3 j v hj hsj
                      exact ⟨x', hx', hvx'.mono hsub, hcx'⟩
                    · rw [List.getElem?_append_right (by omega), htl] at hj
                      obtain ⟨x', hx', hvx'⟩ := hvn.get _ _ hj
                      have := (List.getElem?_eq_some_iff.1 hx').1
                      rw [if_pos (by omega), show j - s' - (o + ln * inf.size - s') = j - (o + ln * inf.size) by omega]
                      exact ⟨x', hx', hvx'.mono hsub, hcell v (List.mem_of_getElem? hj)⟩
              · -- into a new one
                have hrow : row h i o (ln * inf.size) = some ((cs.drop o).take (ln * inf.size)) := by
                  have hble : Nat.ble (o + ln * inf.size) (len cs) = true := by rw [len_eq]; exact Nat.ble_eq_true_of_le hle
                  simp only [row, hg, hble, cond_true, takeL_eq, dropL_eq]
                obtain ⟨olds, b1, b2, b3, b4⟩ := row_ok hr hrow hb hso
                have hk := Stp.kill hr i
                have hdt : (cs.take (o + ln * inf.size) ++ new).drop o = (cs.drop o).take (ln * inf.size) ++ new := by
                  rw [List.drop_append_of_le_length (by rw [List.length_take]; omega), List.drop_take, Nat.add_sub_cancel_left]
                obtain ⟨ρ', z', w', g1, g2, g3⟩ := grown_ok (h := h.kill i) (ty := ty) (base := some ⟨b, o - s', none⟩) (ln := ln) (c := c') (olds := olds) (s := o) (cs := cs.take (o + ln * inf.size) ++ new) hk.rel hf hG hst hxt hsu hxu hnoint hinf hz hzs hby hby0 hu hlen (by omega) hsm
                  (fun w₁ hw₁ => by simpa [Builtin.firstCells] using b1 w₁ hw₁) hnews (by rw [← b2.length]; exact b3) hnlen (by rw [hdt]; exact b2.append hvn) (fun v hv => by
                    rw [hdt] at hv
                    rcases List.mem_append.1 hv with hv | hv
                    · exact b4 v hv
                    · exact hcell v hv)
                exact ⟨ρ', z', w', g1, g2, hk.trans g3⟩
            · subst h0'
              have hk := Stp.kill hr i
              have hdt : (cs.take (o + 0 * inf.size) ++ new).drop o = new := by
                rw [List.drop_append_of_le_length (by rw [List.length_take]; omega), List.drop_take, Nat.add_sub_cancel_left]
                simp
              obtain ⟨ρ', z', w', g1, g2, g3⟩ := grown_ok (h := h.kill i) (ty := ty) (base := some ad) (ln := 0) (c := 0) (olds := []) (s := o) (cs := cs.take (o + 0 * inf.size) ++ new) hk.rel hf hG hst hxt hsu hxu hnoint hinf hz hzs hby hby0 hu hlen (by omega) hsm
                (fun w₁ _ => by simp [Builtin.firstCells, run_loadCells_zero]) hnews (by simp) hnlen (by rw [hdt]; exact hvn) (fun v hv => by rw [hdt] at hv; exact hcell v hv)
              exact ⟨ρ', z', w', g1, g2, hk.trans g3⟩
          · cases hv
        · cases hv
    · cases hv
  · cases hv

end
end Vm
end Go.Proofs.YtdgopiffbhlhoaaGreatDoor
