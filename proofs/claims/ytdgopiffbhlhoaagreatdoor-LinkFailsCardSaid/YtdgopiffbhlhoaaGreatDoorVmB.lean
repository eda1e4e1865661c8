/- The small machine's operations are the model's: copy, lengths, maps, iteration over texts. -/
import Derived.Test.YtdgopiffbhlhoaaGreatDoorVmA
import Derived.MapKept
namespace Go.Proofs.YtdgopiffbhlhoaaGreatDoor
open Go
namespace Vm
section
variable {P : Program} {ρ : Rho} {nt : Nat} {T : Fr} {a : Act} {h : Hp} {w : World}

/-! ### copy -/

theorem copy_ok (hr : Rel P ρ h w) {ts : Array TypeId} {ty : TypeId} {d s v : V} {y x : Value} {h' : Hp} (hd : VR ρ d y) (hs : VR ρ s x) (hv : copyV P ts d s h = some (v, h')) :
    ∃ z w', (Builtin.copy_ ts ty #[y, x]).run P w = .ok z w' ∧ VR ρ v z ∧ Stp P ρ h w ρ h' w' := by
  unfold copyV at hv
  split at hv
  case h_2 => cases hv
  rename_i dt hdt
  split at hv
  case h_2 => cases hv
  rename_i el n m hdu hdl hsl
  split at hv
  case h_2 => cases hv
  rename_i size hsz
  have hlo := lenOf_ok (P := P) (w := w) hs hsl
  split at hv
  · rename_i h0
    have hx1 : (Builtin.firstCells size 0 x).run P w = .ok #[] w := by
      unfold lenOfV at hsl
      split at hsl
      · cases hs; simp [Builtin.firstCells]
      · rcases slice_elim hs with ⟨b, s', c, rfl, _⟩ | ⟨ad, rfl, _⟩
        · simp [Builtin.firstCells, run_loadCells_zero]
        · simp [Builtin.firstCells, run_loadCells_zero]
      · cases hs with
        | str _ b hb => simp [Builtin.firstCells]
      · cases hsl
    cases hsd : isSl d with
    | false => rw [hsd] at hv; cases hv
    | true =>
    rw [hsd, cond_true] at hv
    simp only [Option.some.injEq, Prod.mk.injEq] at hv
    have hfin : v = .int .i64 0 ∧ h' = h ∧ ∃ base c, y = .slice base n c := by
      refine ⟨hv.1.symm, hv.2.symm, ?_⟩
      unfold isSl at hsd
      split at hsd
      · cases hd
        simp only [lenOfV, Option.some.injEq] at hdl
        subst hdl
        exact ⟨_, _, rfl⟩
      · simp only [lenOfV, Option.some.injEq] at hdl
        subst hdl
        rcases slice_elim hd with ⟨b, s', c, rfl, _⟩ | ⟨ad, rfl, h0', _⟩
        · exact ⟨_, _, rfl⟩
        · subst h0'; exact ⟨_, _, rfl⟩
      · cases hsd
    obtain ⟨rfl, rfl, base, c, rfl⟩ := hfin
    refine ⟨goInt 0, w, ?_, .int _ _, .refl hr⟩
    simp only [Builtin.copy_, hdt]
    simp [run_und hdu, hlo, h0, run_size hsz, hx1]
    cases base with
    | none => simp
    | some ad => simp [storeCells]
  · rename_i h0
    split at hv
    case h_2 => cases hv
    rename_i new i o k cp hnew
    simp only [Option.map_eq_some_iff, Prod.mk.injEq] at hv
    obtain ⟨h2, hst, rfl, rfl⟩ := hv
    obtain ⟨xs, q1, q2, _⟩ := first_ok hr hs hnew
    unfold lenOfV at hdl
    simp only [Option.some.injEq] at hdl
    subst hdl
    rcases slice_elim hd with ⟨b, s', c, rfl, hb, hso, hlc, _, _⟩ | ⟨ad, rfl, hk, _⟩
    · obtain ⟨w', hw', hstp⟩ := stCells_ok hr hst hb hso q2
      refine ⟨goInt (Nat.min m k), w', ?_, .int _ _, hstp⟩
      simp only [Builtin.copy_, hdt]
      simp [run_und hdu, hlo, run_size hsz, q1 w rfl, hw']
    · subst hk
      exact absurd (Nat.min_zero m) h0

/-! ### len, cap -/

theorem MEs.len : ∀ {es : List ME} {ms : List MapEntry}, MEs ρ es ms → es.length = ms.length
  | [], [], _ => rfl
  | [], _ :: _, h => h.elim
  | _ :: _, [], h => h.elim
  | _ :: es, _ :: ms, ⟨_, _, _, h⟩ => by simp [h.len]

theorem map_at (hr : Rel P ρ h w) {r b : Nat} {es : List ME} {clock : Nat} (hg : h.get r = some (.map es clock)) (hb : ρ r = some (b, 0)) : ∃ ms : Array MapEntry, w.heap[b]? = some (.map ms clock) ∧ MEs ρ es ms.toList := by
  obtain ⟨b', s', hb', hob⟩ := hr.ob r _ hg
  rw [hb] at hb'
  simp only [Option.some.injEq, Prod.mk.injEq] at hb'
  obtain ⟨rfl, rfl⟩ := hb'
  exact hob.2

theorem run_getObj_at {b : Nat} {ms : Array MapEntry} {clock : Nat} (hb : w.heap[b]? = some (.map ms clock)) : (getObj b).run P w = .ok (.map ms clock) w := by
  simp [getObj, Sem.run, hb]

theorem len_ok (hr : Rel P ρ h w) {ts : Array TypeId} {t ty : TypeId} {u v : V} {x : Value} (ht : ts[0]? = some t) (hu : VR ρ u x) (hv : lenV P t u h = some v) : ∃ z, (Builtin.len_ ts ty #[x]).run P w = .ok z w ∧ VR ρ v z := by
  unfold lenV at hv
  split at hv
  · rename_i s hd
    simp only [Option.some.injEq] at hv
    subst hv
    cases hu with
    | str _ b hb => exact ⟨goInt b.size, by simp [Builtin.len_, ht, run_und hd], by rw [len_eq, ← hb]; simpa [goInt] using VR.int (ρ := ρ) .i64 b.size⟩
  · rename_i n el hd
    simp only [Option.some.injEq] at hv
    subst hv
    exact ⟨goInt n, by simp [Builtin.len_, ht, run_und hd], .int _ _⟩
  · rename_i el hd
    simp only [Option.some.injEq] at hv
    subst hv
    cases hu
    exact ⟨goInt 0, by simp [Builtin.len_, ht, run_und hd], .int _ _⟩
  · rename_i el i o n cp hd
    simp only [Option.some.injEq] at hv
    subst hv
    rcases slice_elim hu with ⟨b, s', c, rfl, _⟩ | ⟨ad, rfl, h0, _⟩
    · exact ⟨goInt n, by simp [Builtin.len_, ht, run_und hd], .int _ _⟩
    · subst h0
      exact ⟨goInt 0, by simp [Builtin.len_, ht, run_und hd], .int _ _⟩
  · rename_i k el hd
    simp only [Option.some.injEq] at hv
    subst hv
    cases hu
    exact ⟨goInt 0, by simp [Builtin.len_, ht, run_und hd], .int _ _⟩
  · rename_i k el r hd
    split at hv
    · rename_i es clock hg
      simp only [Option.some.injEq] at hv
      subst hv
      cases hu with
      | map _ b hb =>
        obtain ⟨ms, h1, h2⟩ := map_at hr hg hb
        refine ⟨goInt ms.size, by simp [Builtin.len_, ht, run_und hd, run_getObj_at h1], ?_⟩
        rw [len_eq, h2.len]
        simpa [goInt] using VR.int (ρ := ρ) .i64 ms.size
    · cases hv
  · rename_i arr hd
    split at hv
    · rename_i n el hd2
      simp only [Option.some.injEq] at hv
      subst hv
      exact ⟨goInt n, by simp [Builtin.len_, ht, run_und hd, run_und hd2], .int _ _⟩
    · cases hv
  · cases hv

theorem cap_ok {ts : Array TypeId} {t ty : TypeId} {u v : V} {x : Value} (ht : ts[0]? = some t) (hu : VR ρ u x) (hv : capV P t u = some v) : ∃ z, (Builtin.cap_ ts ty #[x]).run P w = .ok z w ∧ VR ρ v z := by
  unfold capV at hv
  split at hv
  · rename_i n el hd
    simp only [Option.some.injEq] at hv
    subst hv
    exact ⟨goInt n, by simp [Builtin.cap_, ht, run_und hd], .int _ _⟩
  · rename_i el hd
    simp only [Option.some.injEq] at hv
    subst hv
    cases hu
    exact ⟨goInt 0, by simp [Builtin.cap_, ht, run_und hd], .int _ _⟩
  · rename_i el i o n c hd
    simp only [Option.some.injEq] at hv
    subst hv
    rcases slice_elim hu with ⟨b, s', c', rfl, _, _, _, hc, _⟩ | ⟨ad, rfl, h0, hc⟩
    · have := hc c rfl
      subst this
      exact ⟨goInt c', by simp [Builtin.cap_, ht, run_und hd], .int _ _⟩
    · have := hc c rfl
      subst this
      exact ⟨goInt 0, by simp [Builtin.cap_, ht, run_und hd], .int _ _⟩
  · cases hv

/-! ### Maps -/

theorem keyOk_run {empty : Bool} {kt : TypeId} {k : V} {x : Value} (hk : VR ρ k x) (ho : keyOk P empty kt k = true) (w : World) : (Instr.checkKey empty 10000 kt x).run P w = .ok () w := by
  unfold keyOk at ho
  split at ho
  · rename_i c hc
    rw [conc_eq hk hc]
    obtain ⟨u, hu⟩ := Option.isSome_iff_exists.1 ho
    exact semVal_run P w hu
  · cases ho

theorem sameNow_ok {kd : TypeDesc} {u v : V} {x y : Value} {r : Bool} (hu : VR ρ u x) (hv : VR ρ v y) (hs : sameNowV kd u v = some r) : Instr.sameNow kd x y = some r := by
  unfold sameNowV at hs
  split at hs
  · cases hu; cases hv
    simpa [Instr.sameNow] using hs
  · cases hu with
    | str _ b hb => cases hv with
      | str _ b' hb' =>
        simp only [Option.some.injEq] at hs
        subst hs
        simp only [Instr.sameNow, Option.some.injEq]
        rw [Bool.eq_iff_iff, Go.MapKept.bytes_beq, beq_iff_eq, ← hb, ← hb']
        constructor
        · intro e; rw [e]
        · intro e
          apply ByteArray.ext
          apply Array.ext'
          exact e
  · cases hu; cases hv
    simpa [Instr.sameNow] using hs
  · cases hs

def FindR (ρ : Rho) (es : List ME) (off : Nat) : Option Nat → Option (Nat × Value) → Prop
  | none, none => True
  | some i, some (j, x) => i = j ∧ ∃ k e, i = off + k ∧ es[k]? = some e ∧ VR ρ e.val x
  | _, _ => False

theorem FindR.cons {es : List ME} {e : ME} {off : Nat} : ∀ {r : Option Nat} {q : Option (Nat × Value)}, FindR ρ es (off + 1) r q → FindR ρ (e :: es) off r q
  | none, none, _ => trivial
  | some i, some (j, x), ⟨h1, k, e', h2, h3, h4⟩ => ⟨h1, k + 1, e', by omega, by simpa using h3, h4⟩
  | none, some _, h => h.elim
  | some _, none, h => h.elim

theorem findNow_ok {kd : TypeDesc} {k : V} {x : Value} (hk : VR ρ k x) : ∀ {es : List ME} {ms : List MapEntry} {i : Nat} {r : Option Nat}, MEs ρ es ms → findNowV kd k es i = some r → ∃ q, Instr.findNow kd x ms i = some q ∧ FindR ρ es i r q
  | [], [], i, r, _, hr => by simp only [findNowV, Option.some.injEq] at hr; subst hr; exact ⟨none, rfl, trivial⟩
  | [], _ :: _, _, _, h, _ => h.elim
  | _ :: _, [], _, _, h, _ => h.elim
  | e :: es, m :: ms, i, r, ⟨h1, h2, h3, h4⟩, hr => by
    simp only [findNowV] at hr
    split at hr
    · rename_i hs
      simp only [Option.some.injEq] at hr
      subst hr
      exact ⟨some (i, m.val), by simp [Instr.findNow, sameNow_ok hk h1 hs], rfl, 0, e, rfl, rfl, h2⟩
    · rename_i hs
      obtain ⟨q, hq, hf⟩ := findNow_ok hk h4 hr
      exact ⟨q, by simp [Instr.findNow, sameNow_ok hk h1 hs, hq], hf.cons⟩
    · cases hr

theorem findAsk_ok {kt : TypeId} {k : V} {x : Value} (hk : VR ρ k x) (w : World) : ∀ {es : List ME} {ms : List MapEntry} {i : Nat} {r : Option Nat}, MEs ρ es ms → findAskV P kt k es i = some r → ∃ q, (Instr.findAsking kt x ms i).run P w = .ok q w ∧ FindR ρ es i r q
  | [], [], i, r, _, hr => by simp only [findAskV, Option.some.injEq] at hr; subst hr; exact ⟨none, rfl, trivial⟩
  | [], _ :: _, _, _, h, _ => h.elim
  | _ :: _, [], _, _, h, _ => h.elim
  | e :: es, m :: ms, i, r, ⟨h1, h2, h3, h4⟩, hr => by
    simp only [findAskV] at hr
    split at hr
    · rename_i ca cb hca hcb
      rw [conc_eq hk hca]
      have hm := conc_eq h1 hcb
      split at hr
      · rename_i hs
        simp only [Option.some.injEq] at hr
        subst hr
        have := semVal_run P w hs
        exact ⟨some (i, m.val), by simp [Instr.findAsking, hm, this], rfl, 0, e, rfl, rfl, h2⟩
      · rename_i hs
        have := semVal_run P w hs
        obtain ⟨q, hq, hf⟩ := findAsk_ok hk w h4 hr
        rw [conc_eq hk hca] at hq
        exact ⟨q, by simp [Instr.findAsking, hm, this, hq], hf.cons⟩
      · cases hr
    · cases hr

theorem find_ok {kt : TypeId} {k : V} {x : Value} (hk : VR ρ k x) (w : World) {es : List ME} {ms : List MapEntry} {r : Option Nat} (he : MEs ρ es ms) (hr : findV P kt k es = some r) : ∃ q, (Instr.findKey kt x ms).run P w = .ok q w ∧ FindR ρ es 0 r q := by
  unfold findV at hr
  split at hr
  · rename_i fs hd
    split at hr
    · simp only [Option.some.injEq] at hr
      subst hr
      cases ms with
      | nil => exact ⟨none, by simp [Instr.findKey, run_und hd, Instr.findNow], trivial⟩
      | cons m ms => exact he.elim
    · rename_i hne
      obtain ⟨q, hq, hf⟩ := findAsk_ok hk w he hr
      refine ⟨q, ?_, hf⟩
      have hn : Instr.findNow (.struct fs) x ms 0 = none := by
        cases ms with
        | nil => cases es with
          | nil => exact absurd rfl hne
          | cons e es => exact he.elim
        | cons m ms => simp [Instr.findNow, Instr.sameNow]
      simp [Instr.findKey, run_und hd, hn, hq]
  · rename_i kd hd hne
    obtain ⟨q, hq, hf⟩ := findNow_ok hk he hr
    exact ⟨q, by simp [Instr.findKey, run_und hne, hq], hf⟩
  · cases hr

theorem MEs.isEmpty : ∀ {es : List ME} {ms : List MapEntry}, MEs ρ es ms → es.isEmpty = ms.isEmpty
  | [], [], _ => rfl
  | [], _ :: _, h => h.elim
  | _ :: _, [], h => h.elim
  | _ :: _, _ :: _, _ => rfl

theorem isEmpty_toList (ms : Array MapEntry) : ms.toList.isEmpty = ms.isEmpty := by
  rcases ms with ⟨l⟩
  cases l <;> rfl

theorem lookup_ok (hr : Rel P ρ h w) {t : TypeId} {u k v : V} {x y : Value} {ok : Bool} (hu : VR ρ u x) (hk : VR ρ k y) (hv : lookupV P t u k ok h = some v) : ∃ z, (Instr.lookup t x y ok).run P w = .ok z w ∧ VR ρ v z := by
  unfold lookupV at hv
  split at hv
  case h_2 => cases hv
  rename_i kt el hd
  split at hv
  case h_2 => cases hv
  rename_i es hes
  have hms : ∃ ms : Array MapEntry, MEs ρ es ms.toList ∧ ((x = .map none ∧ ms = #[]) ∨ ∃ b clock, x = .map (some b) ∧ w.heap[b]? = some (.map ms clock)) := by
    split at hes
    · cases hu
      simp only [Option.some.injEq] at hes
      subst hes
      exact ⟨#[], trivial, .inl ⟨rfl, rfl⟩⟩
    · split at hes
      · rename_i r _ es' clock hg
        simp only [Option.some.injEq] at hes
        subst hes
        cases hu with
        | map _ b hb =>
          obtain ⟨ms, h1, h2⟩ := map_at hr hg hb
          exact ⟨ms, h2, .inr ⟨b, clock, rfl, h1⟩⟩
      · cases hes
    · cases hes
  obtain ⟨ms, hme, hrun⟩ := hms
  split at hv
  case isFalse => cases hv
  rename_i hko
  rw [hme.isEmpty, isEmpty_toList] at hko
  have hck := keyOk_run hk hko w
  split at hv
  · rename_i i hf
    obtain ⟨q, hq, hfr⟩ := find_ok hk w hme hf
    cases q with
    | none => exact hfr.elim
    | some jx =>
      obtain ⟨j, xv⟩ := jx
      obtain ⟨rfl, k', e, h1, h2, h3⟩ := hfr
      rw [Nat.zero_add] at h1
      subst h1
      split at hv
      · rename_i e' he'
        rw [nth_eq, h2] at he'
        cases he'
        simp only [Option.some.injEq] at hv
        subst hv
        refine ⟨if ok then .tuple #[xv, .bool true] else xv, ?_, ?_⟩
        · rcases hrun with ⟨rfl, rfl⟩ | ⟨b, clock, rfl, h1⟩
          · simp only [Instr.lookup, Sem.run_bind, run_und hd, Result.andThen_ok, hck, hq, Sem.run_pure]
          · simp only [Instr.lookup, Sem.run_bind, run_und hd, Result.andThen_ok, run_getObj_at h1, hck, hq, Sem.run_pure]
        · cases ok
          · exact h3
          · exact .tup _ _ (.cons _ _ _ _ h3 (.cons _ _ _ _ (.bool _) .nil))
      · cases hv
  · rename_i hf
    obtain ⟨q, hq, hfr⟩ := find_ok hk w hme hf
    cases q with
    | some jx => exact hfr.elim
    | none =>
      simp only [Option.map_eq_some_iff] at hv
      obtain ⟨z, hz, rfl⟩ := hv
      obtain ⟨xz, hxz, hzx⟩ := run_zero (w := w) hz
      refine ⟨if ok then .tuple #[xz, .bool false] else xz, ?_, ?_⟩
      · rcases hrun with ⟨rfl, rfl⟩ | ⟨b, clock, rfl, h1⟩
        · simp only [Instr.lookup, Sem.run_bind, run_und hd, Result.andThen_ok, hck, hq, Sem.run_pure, hxz]
        · simp only [Instr.lookup, Sem.run_bind, run_und hd, Result.andThen_ok, run_getObj_at h1, hck, hq, Sem.run_pure, hxz]
      · cases ok
        · exact abs2_vr hzx
        · exact .tup _ _ (.cons _ _ _ _ (abs2_vr hzx) (.cons _ _ _ _ (.bool _) .nil))
  · cases hv

theorem putObj_turned {b : Nat} {O O' : Obj} (hb : w.heap[b]? = some O) : Turned w { w with heap := w.heap.setIfInBounds b O' } b O' := by
  obtain ⟨hlt, _⟩ := Array.getElem?_eq_some_iff.1 hb
  refine ⟨?_, fun k hk => ?_, by simp, rfl, rfl, rfl⟩
  · simp [hlt]
  · simp [Array.getElem?_setIfInBounds_ne (Ne.symm hk)]

theorem run_setObj_at {b : Nat} {ms : Array MapEntry} {clock : Nat} (O : Obj) (hb : w.heap[b]? = some (.map ms clock)) : (setObj b O).run P w = .ok () { w with heap := w.heap.setIfInBounds b O } := by
  simp [setObj, Sem.run, hb]

theorem MEs.append : ∀ {es : List ME} {ms : List MapEntry} {es' : List ME} {ms' : List MapEntry}, MEs ρ es ms → MEs ρ es' ms' → MEs ρ (es ++ es') (ms ++ ms')
  | [], [], _, _, _, h => h
  | [], _ :: _, _, _, h, _ => h.elim
  | _ :: _, [], _, _, h, _ => h.elim
  | _ :: _, _ :: _, _, _, ⟨a, b, c, d⟩, h => ⟨a, b, c, d.append h⟩

theorem MEs.get : ∀ {es : List ME} {ms : List MapEntry} {i : Nat} {e : ME}, MEs ρ es ms → es[i]? = some e → ∃ m, ms[i]? = some m ∧ VR ρ e.key m.key ∧ VR ρ e.val m.val ∧ e.born = m.born
  | [], _, i, e, _, h => by simp at h
  | _ :: _, [], _, _, h, _ => h.elim
  | e' :: es, m :: ms, 0, e, ⟨a, b, c, d⟩, h => by
    simp only [List.getElem?_cons_zero, Option.some.injEq] at h
    subst h
    exact ⟨m, rfl, a, b, c⟩
  | e' :: es, m :: ms, i + 1, e, ⟨a, b, c, d⟩, h => by
    simp only [List.getElem?_cons_succ] at h ⊢
    exact d.get h

theorem MEs.set : ∀ {es : List ME} {ms : List MapEntry} {i : Nat} {e : ME} {m : MapEntry}, MEs ρ es ms → VR ρ e.key m.key → VR ρ e.val m.val → e.born = m.born → MEs ρ (es.set i e) (ms.set i m)
  | [], [], _, _, _, _, _, _, _ => trivial
  | [], _ :: _, _, _, _, h, _, _, _ => h.elim
  | _ :: _, [], _, _, _, h, _, _, _ => h.elim
  | _ :: _, _ :: _, 0, _, _, ⟨_, _, _, d⟩, a, b, c => ⟨a, b, c, d⟩
  | _ :: _, _ :: _, _ + 1, _, _, ⟨p, q, r, d⟩, a, b, c => ⟨p, q, r, d.set a b c⟩

theorem MEs.erase : ∀ {es : List ME} {ms : List MapEntry} {i : Nat}, MEs ρ es ms → MEs ρ (es.eraseIdx i) (ms.eraseIdx i)
  | [], [], _, _ => trivial
  | [], _ :: _, _, h => h.elim
  | _ :: _, [], _, h => h.elim
  | _ :: _, _ :: _, 0, ⟨_, _, _, d⟩ => d
  | _ :: _, _ :: _, _ + 1, ⟨p, q, r, d⟩ => ⟨p, q, r, d.erase⟩

theorem modify_set {α : Type} (xs : Array α) (i : Nat) (f : α → α) {x : α} (hx : xs[i]? = some x) : (xs.modify i f).toList = xs.toList.set i (f x) := by
  apply List.ext_getElem?
  intro k
  rw [Array.getElem?_toList, Array.getElem?_modify, List.getElem?_set]
  by_cases e : i = k
  · subst e
    obtain ⟨hlt, he⟩ := Array.getElem?_eq_some_iff.1 hx
    simp [hlt, he]
  · rw [if_neg e, if_neg e, Array.getElem?_toList]

theorem upd_ok (hr : Rel P ρ h w) {t : TypeId} {m k v : V} {x y z : Value} {h' : Hp} (hm : VR ρ m x) (hk : VR ρ k y) (hz : VR ρ v z) (hv : updV P t m k v h = some h') :
    ∃ w', (Instr.mapUpdate t x y z).run P w = .ok () w' ∧ Stp P ρ h w ρ h' w' := by
  unfold updV at hv
  split at hv
  case h_2 => cases hv
  rename_i kt el r hd
  split at hv
  case h_2 => cases hv
  rename_i es clock hg
  cases hm with
  | map _ b hb =>
  obtain ⟨ms, h1, hme⟩ := map_at hr hg hb
  split at hv
  case isFalse => cases hv
  rename_i hko
  have hck := keyOk_run hk hko w
  split at hv
  · rename_i i hf
    obtain ⟨q, hq, hfr⟩ := find_ok hk w hme hf
    cases q with
    | none => exact hfr.elim
    | some jx =>
      obtain ⟨j, xv⟩ := jx
      obtain ⟨rfl, k', e, e1, e2, e3⟩ := hfr
      rw [Nat.zero_add] at e1
      subst e1
      split at hv
      case h_2 => cases hv
      rename_i e' he'
      rw [nth_eq, e2] at he'
      cases he'
      split at hv
      case isFalse => cases hv
      rename_i hsk
      simp only [Option.some.injEq] at hv
      subst hv
      obtain ⟨m', hm1, hm2, hm3, hm4⟩ := hme.get e2
      have hm1' : ms[i]? = some m' := by simpa using hm1
      have hsb : Instr.sameBits 10000 m'.key y = true := by
        unfold sameKey at hsk
        split at hsk
        · rename_i ca cb hca hcb
          rw [conc_eq hm2 hca, conc_eq hk hcb]
          exact hsk
        · cases hsk
      have hst := run_setObj_at (P := P) (.map (ms.modify i fun e => { e with key := y, val := z }) clock) h1
      have ht := putObj_turned (w := w) (O' := .map (ms.modify i fun e => { e with key := y, val := z }) clock) h1
      refine ⟨_, ?_, Stp.set hr hg hb rfl rfl _ ht.size ht.there ht.os ht.tape ht.output ⟨rfl, _, ht.here, ?_⟩⟩
      · simp only [Instr.mapUpdate, Sem.run_bind, run_und hd, Result.andThen_ok, run_getObj_at h1, hck, hq, Instr.keyThatStays, hm1', Option.map_some, Option.getD_some, hsb, if_true, Sem.run_pure, hst]
      · rw [modify_set _ _ _ hm1']
        exact hme.set hk hz hm4
  · rename_i hf
    obtain ⟨q, hq, hfr⟩ := find_ok hk w hme hf
    cases q with
    | some jx => exact hfr.elim
    | none =>
      simp only [Option.some.injEq] at hv
      subst hv
      have hst := run_setObj_at (P := P) (.map (ms.push { key := y, val := z, born := clock }) (clock + 1)) h1
      have ht := putObj_turned (w := w) (O' := .map (ms.push { key := y, val := z, born := clock }) (clock + 1)) h1
      refine ⟨_, ?_, Stp.set hr hg hb rfl rfl _ ht.size ht.there ht.os ht.tape ht.output ⟨rfl, _, ht.here, ?_⟩⟩
      · simp only [Instr.mapUpdate, Sem.run_bind, run_und hd, Result.andThen_ok, run_getObj_at h1, hck, hq, hst]
      · rw [Array.toList_push]
        exact hme.append ⟨hk, hz, rfl, trivial⟩
  · cases hv

theorem del_ok (hr : Rel P ρ h w) {ts : Array TypeId} {t ty : TypeId} {m k : V} {x y : Value} {h' : Hp} (hts : ts[0]? = some t) (hm : VR ρ m x) (hk : VR ρ k y) (hv : delV P t m k h = some h') :
    ∃ w', (Builtin.delete_ ts ty #[x, y]).run P w = .ok (.tuple #[]) w' ∧ Stp P ρ h w ρ h' w' := by
  unfold delV at hv
  split at hv
  · rename_i kt el r hd
    split at hv
    case h_2 => cases hv
    rename_i es clock hg
    cases hm with
    | map _ b hb =>
    obtain ⟨ms, h1, hme⟩ := map_at hr hg hb
    split at hv
    case isFalse => cases hv
    rename_i hko
    rw [hme.isEmpty, isEmpty_toList] at hko
    have hck := keyOk_run hk hko w
    split at hv
    · rename_i i hf
      obtain ⟨q, hq, hfr⟩ := find_ok hk w hme hf
      cases q with
      | none => exact hfr.elim
      | some jx =>
        obtain ⟨j, xv⟩ := jx
        obtain ⟨rfl, _⟩ := hfr
        simp only [Option.some.injEq] at hv
        subst hv
        have hst := run_setObj_at (P := P) (.map (ms.eraseIdxIfInBounds i) clock) h1
        have ht := putObj_turned (w := w) (O' := .map (ms.eraseIdxIfInBounds i) clock) h1
        refine ⟨_, ?_, Stp.set hr hg hb rfl rfl _ ht.size ht.there ht.os ht.tape ht.output ⟨rfl, _, ht.here, ?_⟩⟩
        · simp only [Builtin.delete_, hts]
          simp [run_und hd, run_getObj_at h1, hck, hq, hst]
        · have : (ms.eraseIdxIfInBounds i).toList = ms.toList.eraseIdx i := by
            unfold Array.eraseIdxIfInBounds
            split
            · simp
            · rename_i hn
              rw [List.eraseIdx_of_length_le (by simpa using hn)]
          rw [this]
          exact hme.erase
    · rename_i hf
      obtain ⟨q, hq, hfr⟩ := find_ok hk w hme hf
      cases q with
      | some jx => exact hfr.elim
      | none =>
        simp only [Option.some.injEq] at hv
        subst hv
        have hst := run_setObj_at (P := P) (.map ms clock) h1
        have hheap : w.heap.setIfInBounds b (.map ms clock) = w.heap := by
          apply Array.ext_getElem?
          intro k
          by_cases e : b = k
          · subst e
            obtain ⟨hlt, _⟩ := Array.getElem?_eq_some_iff.1 h1
            simp [hlt]
            have h1' := h1
            rw [Array.getElem?_eq_getElem hlt] at h1'
            exact (Option.some.inj h1').symm
          · rw [Array.getElem?_setIfInBounds_ne e]
        refine ⟨_, ?_, Stp.drew (w' := { w with heap := w.heap.setIfInBounds b (.map ms clock) }) hr hheap rfl rfl rfl⟩
        simp only [Builtin.delete_, hts]
        simp [run_und hd, run_getObj_at h1, hck, hq, hst]
    · cases hv
  · rename_i kt el hd
    split at hv
    · rename_i hko
      cases hm
      simp only [Option.some.injEq] at hv
      subst hv
      have hck := keyOk_run hk hko w
      refine ⟨w, ?_, .refl hr⟩
      simp only [Builtin.delete_, hts]
      simp [run_und hd, hck]
    · cases hv
  · cases hv

/-! ### Iteration over a text -/

theorem range_ok {t : TypeId} {u v : V} {x : Value} {i : Nat} {ob : Ob} (hu : VR ρ u x) (hv : rangeV P t u i = some (v, ob)) : MkOk P ρ w (Instr.range t x) i v ob := by
  unfold rangeV at hv
  split at hv
  · rename_i s hd
    simp only [Option.some.injEq, Prod.mk.injEq] at hv
    obtain ⟨rfl, rfl⟩ := hv
    cases hu with
    | str _ b hb =>
      refine ⟨.pointer (some ⟨w.heap.size, 0, none⟩), .stringIter b 0, { w with heap := w.heap.push (.stringIter b 0) }, 0, by simp [Instr.range, run_und hd], rfl, rfl, rfl, rfl, rfl, fun ρ' hs hi hz => ⟨?_, ?_⟩⟩
      · exact .ptr _ _ _ _ hi (Nat.le_refl 0)
      · exact ⟨rfl, b, push_here w _, hb⟩
  · cases hv

theorem next_ok (hr : Rel P ρ h w) {u v : V} {x : Value} {s : Bool} {t : TypeId} {h' : Hp} (hu : VR ρ u x) (hv : nextV u s h = some (v, h')) : ∃ z w', (Instr.next x s t).run P w = .ok z w' ∧ VR ρ v z ∧ Stp P ρ h w ρ h' w' := by
  unfold nextV at hv
  split at hv
  case h_2 => cases hv
  rename_i r
  split at hv
  case h_2 => cases hv
  rename_i str pos hg
  cases hu with
  | ptr _ _ b s' hb hs =>
  obtain rfl : s' = 0 := by omega
  obtain ⟨b', s'', hb', hob⟩ := hr.ob r _ hg
  rw [hb] at hb'
  simp only [Option.some.injEq, Prod.mk.injEq] at hb'
  obtain ⟨rfl, rfl⟩ := hb'
  obtain ⟨_, tx, h1, h2⟩ := hob
  have hget : (getObj b).run P w = .ok (.stringIter tx pos) w := by simp [getObj, Sem.run, h1]
  have hlen : tx.size = len str := by rw [len_eq, ← h2]; simp
  have htx : (⟨str.toArray⟩ : ByteArray) = tx := by
    apply ByteArray.ext
    apply Array.ext'
    simp [← h2]
  split at hv
  · rename_i hp
    simp only [Option.some.injEq, Prod.mk.injEq] at hv
    obtain ⟨rfl, rfl⟩ := hv
    rw [htx]
    have hst : (setObj b (.stringIter tx (pos + (Utf8.decode tx pos).2))).run P w = .ok () { w with heap := w.heap.setIfInBounds b (.stringIter tx (pos + (Utf8.decode tx pos).2)) } := by
      simp [setObj, Sem.run, h1]
    have ht := putObj_turned (w := w) (O' := .stringIter tx (pos + (Utf8.decode tx pos).2)) h1
    refine ⟨.tuple #[.bool true, goInt pos, .int .i32 (Utf8.decode tx pos).1], _, ?_, .tup _ _ (.cons _ _ _ _ (.bool _) (.cons _ _ _ _ (.int _ _) (.cons _ _ _ _ (.int _ _) .nil))), Stp.set hr hg hb rfl rfl _ ht.size ht.there ht.os ht.tape ht.output ⟨rfl, tx, ht.here, h2⟩⟩
    have hp' : pos < tx.size := by rw [hlen]; exact hp
    simp only [Instr.next, Sem.run_bind, hget, Result.andThen_ok]
    simp [hp', hst]
  · rename_i hp
    simp only [Option.some.injEq, Prod.mk.injEq] at hv
    obtain ⟨rfl, rfl⟩ := hv
    have hp' : ¬ pos < tx.size := by rw [hlen]; exact hp
    refine ⟨.tuple #[.bool false], w, ?_, .tup _ _ (.cons _ _ _ _ (.bool _) .nil), .refl hr⟩
    simp only [Instr.next, Sem.run_bind, hget, Result.andThen_ok]
    simp [hp']

end
end Vm
end Go.Proofs.YtdgopiffbhlhoaaGreatDoor
