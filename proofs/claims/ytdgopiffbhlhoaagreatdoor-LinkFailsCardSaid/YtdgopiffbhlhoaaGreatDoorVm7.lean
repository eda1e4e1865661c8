/- The small machine's operations are the model's: what makes a block, literals. -/
import Derived.Test.YtdgopiffbhlhoaaGreatDoorVm6
import Derived.Laws.MakeOwn
namespace Go.Proofs.YtdgopiffbhlhoaaGreatDoor
open Go
namespace Vm
section
variable {P : Program} {ρ : Rho} {nt : Nat} {T : Fr} {a : Act} {h : Hp} {w : World}

/-- A block of which these cells are known. -/
theorem ob_cells {n b : Nat} {cs : List V} {xs rest : List Value} {c : Array Value} {el : TypeId} {fz : Nat × Nat} {md : Md} (hb : w.heap[b]? = some (.cells c el fz)) (hc : c.toList = xs ++ rest)
    (hv : VRs ρ cs xs) (hcell : ∀ v ∈ cs, v.isCell = true) (hfz : ∀ j, j < c.size → ¬ (fz.1 ≤ j ∧ j < fz.2)) (hn : c.size = ρ.room n) : ObR ρ n b 0 (.cells md el cs) w := by
  have hlen := hv.length
  refine ⟨c, fz, hb, hn, ?_, fun i v hi _ => ?_, fun _ => hfz⟩
  · have : c.size = xs.length + rest.length := by rw [← Array.length_toList, hc]; simp
    omega
  · obtain ⟨x, hx, hvx⟩ := hv.get i v hi
    refine ⟨x, ?_, hvx, hcell v (List.mem_of_getElem? hi)⟩
    have hi' : i < xs.length := (List.getElem?_eq_some_iff.1 hx).1
    rw [Nat.sub_zero, ← Array.getElem?_toList, hc, List.getElem?_append_left hi']
    exact hx

theorem push_here (w : World) (O : Obj) : (w.heap.push O)[w.heap.size]? = some O := by simp

theorem push_modify {α : Type} (xs : Array α) (x : α) (f : α → α) : (xs.push x).modify xs.size f = xs.push (f x) := by
  apply Array.ext_getElem?
  intro k
  rw [Array.getElem?_modify, Array.getElem?_push, Array.getElem?_push]
  by_cases hk : k = xs.size
  · subst hk; simp
  · rw [if_neg hk, if_neg hk, if_neg (by omega)]

/-! ### Repetitions -/

theorem rep_length (c : Nat) (zs : List V) : (rep c zs).length = c * zs.length := by
  induction c with
  | zero => simp [rep]
  | succ c ih => simp [rep, ih, Nat.succ_mul]; omega

theorem rep_get (zs : List V) : ∀ (c j : Nat), j < c * zs.length → (rep c zs)[j]? = zs[j % zs.length]? := by
  intro c
  induction c with
  | zero => intro j hj; omega
  | succ c ih =>
    intro j hj
    simp only [rep]
    by_cases h : j < zs.length
    · rw [List.getElem?_append_left h, Nat.mod_eq_of_lt h]
    · rw [List.getElem?_append_right (by omega), ih (j - zs.length) (by rw [Nat.succ_mul] at hj; omega), Nat.mod_eq_sub_mod (by omega : zs.length ≤ j)]

theorem rep_ok {zs : List V} {z : Array Value} (hv : VRs ρ zs z.toList) (hz : 0 < zs.length) (c : Nat) : VRs ρ (rep c zs) (madeCells z (c * zs.length)).toList := by
  have hlen : zs.length = z.size := by rw [hv.length]; simp
  refine VRs.of (by rw [rep_length]; simp [madeCells]) fun i v x hi hx => ?_
  have hi' : i < c * zs.length := by
    have := (List.getElem?_eq_some_iff.1 hi).1
    rwa [rep_length] at this
  rw [rep_get zs c i hi'] at hi
  obtain ⟨y, hy, hvy⟩ := hv.get _ _ hi
  have : x = y := by
    simp only [madeCells, Array.toList_map, Array.toList_range, List.getElem?_map, List.getElem?_range hi', Option.map_some, Option.some.injEq] at hx
    rw [← hx, ← hlen]
    have hm : i % zs.length < z.size := by rw [← hlen]; exact Nat.mod_lt _ hz
    rw [getElem!_pos z (i % zs.length) hm]
    have hy' : z[i % zs.length]? = some y := by simpa using hy
    rw [getElem?_pos z (i % zs.length) hm] at hy'
    exact Option.some.inj hy'
  rw [this]
  exact hvy

theorem rep_cell {zs : List V} (hz : ∀ v ∈ zs, v.isCell = true) : ∀ (c : Nat), ∀ v ∈ rep c zs, v.isCell = true
  | 0, v, hv => by simp [rep] at hv
  | c + 1, v, hv => by
    simp only [rep, List.mem_append] at hv
    rcases hv with hv | hv
    · exact hz v hv
    · exact rep_cell hz c v hv

/-! ### Literals -/

theorem foldl_sArr (off : Nat) : ∀ (xs : List Value) (k : Nat) (c : Array Value), (xs.zipIdx k).foldl (fun cs (p : Value × Nat) => cs.setIfInBounds (off + p.2) p.1) c = sArr c (off + k) xs
  | [], k, c => rfl
  | x :: xs, k, c => by
    simp only [List.zipIdx_cons, List.foldl_cons, sArr]
    rw [foldl_sArr off xs (k + 1)]
    rfl

theorem splice_sArr {cs vs : List V} {c : Array Value} {xs : List Value} {o : Nat} (hc : VRs ρ cs c.toList) (hv : VRs ρ vs xs) (hle : o + vs.length ≤ cs.length) : VRs ρ (splice cs o vs) (sArr c o xs).toList := by
  have h1 := hc.length
  have h2 := hv.length
  have hsz : c.size = cs.length := by rw [h1]; simp
  rw [splice_eq o cs vs hle]
  refine VRs.of (by simp [sArr_size]; omega) fun i v x hi hx => ?_
  rw [Array.getElem?_toList, sArr_get xs c o i (by omega)] at hx
  by_cases hio : i < o
  · rw [List.getElem?_append_left (by simp; omega), List.getElem?_take, if_pos hio] at hi
    rw [if_neg (by omega)] at hx
    obtain ⟨y, hy, hvy⟩ := hc.get i v hi
    rw [Array.getElem?_toList, hx] at hy
    cases hy; exact hvy
  · rw [List.getElem?_append_right (by simp; omega)] at hi
    have hto : (cs.take o).length = o := by simp; omega
    rw [hto] at hi
    by_cases hiv : i < o + vs.length
    · rw [List.getElem?_append_left (by omega)] at hi
      rw [if_pos (by omega)] at hx
      obtain ⟨y, hy, hvy⟩ := hv.get _ v hi
      rw [hx] at hy
      cases hy; exact hvy
    · rw [List.getElem?_append_right (by omega), List.getElem?_drop, show o + vs.length + (i - o - vs.length) = i by omega] at hi
      rw [if_neg (by omega)] at hx
      obtain ⟨y, hy, hvy⟩ := hc.get i v hi
      rw [Array.getElem?_toList, hx] at hy
      cases hy; exact hvy

theorem splice_length {cs vs : List V} {o : Nat} (hle : o + vs.length ≤ cs.length) : (splice cs o vs).length = cs.length := by
  rw [splice_eq o cs vs hle]; simp; omega

theorem splice_cell {cs vs : List V} {o : Nat} (hle : o + vs.length ≤ cs.length) (hc : ∀ v ∈ cs, v.isCell = true) (hv : ∀ v ∈ vs, v.isCell = true) : ∀ v ∈ splice cs o vs, v.isCell = true := by
  rw [splice_eq o cs vs hle]
  intro v hm
  simp only [List.mem_append] at hm
  rcases hm with hm | hm | hm
  · exact hc v (List.mem_of_mem_take hm)
  · exact hv v hm
  · exact hc v (List.mem_of_mem_drop hm)

inductive PartsR (ρ : Rho) : List (Nat × V) → List (Nat × Value) → Prop
  | nil : PartsR ρ [] []
  | cons (i : Nat) (v : V) (x : Value) (l : List (Nat × V)) (m : List (Nat × Value)) (h : VR ρ v x) (hs : PartsR ρ l m) : PartsR ρ ((i, v) :: l) ((i, x) :: m)

theorem fill_ok {place : Nat → Option (Nat × Nat)} : ∀ {l : List (Nat × V)} {m : List (Nat × Value)}, PartsR ρ l m → ∀ {cs : List V} {c : Array Value} {r : List V}, VRs ρ cs c.toList → fillV place cs l = some r →
    ∃ c', Instr.fill place c m = some c' ∧ VRs ρ r c'.toList ∧ r.length = cs.length
  | _, _, .nil, cs, c, r, hc, hr => by
    simp only [fillV, Option.some.injEq] at hr
    subst hr
    exact ⟨c, rfl, hc, rfl⟩
  | _, _, .cons i v x l m hv hs, cs, c, r, hc, hr => by
    simp only [fillV] at hr
    split at hr
    · cases hr
    · rename_i off size hp
      cases hb : Nat.beq (len v.cells) size && Nat.ble (off + size) (len cs) && !v.isJunk with
      | false => simp [hb] at hr
      | true =>
        simp only [hb, cond_true] at hr
        simp only [Bool.and_eq_true] at hb
        have h1 := Nat.eq_of_beq_eq_true hb.1.1
        have h2 := ble_le hb.1.2
        rw [len_eq] at h1 h2
        have hv := hv.cells (by simpa using hb.2)
        have hlen := hv.length
        have hcl := hc.length
        have hxs : x.cells.size = size := by rw [← h1, hlen]; simp
        have hcs : c.size = cs.length := by rw [hcl]; simp
        have hsp := splice_sArr (o := off) hc hv (by omega)
        obtain ⟨c', hc', hvr, hl'⟩ := fill_ok hs hsp hr
        refine ⟨c', ?_, hvr, by rw [hl', splice_length (cs := cs) (vs := v.cells) (o := off) (by omega)]⟩
        simp only [Instr.fill, hp]
        have hno : ¬ ((decide (x.cells.size ≠ size) || decide (off + x.cells.size > c.size)) = true) := by
          simp only [Bool.or_eq_true, decide_eq_true_eq]
          omega
        rw [if_neg hno]
        have := foldl_sArr off x.cells.toList 0 c
        have hz : x.cells.zipIdx.foldl (fun cs (p : Value × Nat) => cs.setIfInBounds (off + p.2) p.1) c = sArr c off x.cells.toList := by
          rw [← Array.foldl_toList, Array.toList_zipIdx]
          exact this
        rw [show (x.cells.zipIdx.foldl (fun cs (x : Value × Nat) => match x with | (c, j) => cs.setIfInBounds (off + j) c) c) = sArr c off x.cells.toList from hz]
        exact hc'

theorem fill_cell {place : Nat → Option (Nat × Nat)} : ∀ {l : List (Nat × V)} {cs r : List V}, fillV place cs l = some r → (∀ v ∈ cs, v.isCell = true) → (∀ i v, (i, v) ∈ l → ∀ u ∈ v.cells, u.isCell = true) → ∀ v ∈ r, v.isCell = true
  | [], cs, r, hr, hc, _ => by simp only [fillV, Option.some.injEq] at hr; subst hr; exact hc
  | (i, v) :: l, cs, r, hr, hc, hl => by
    simp only [fillV] at hr
    split at hr
    · cases hr
    · rename_i off size hp
      cases hb : Nat.beq (len v.cells) size && Nat.ble (off + size) (len cs) && !v.isJunk with
      | false => simp [hb] at hr
      | true =>
        simp only [hb, cond_true] at hr
        simp only [Bool.and_eq_true] at hb
        have h1 := Nat.eq_of_beq_eq_true hb.1.1
        have h2 := ble_le hb.1.2
        rw [len_eq] at h1 h2
        exact fill_cell hr (splice_cell (by omega) hc (hl i v (by simp))) fun j u hj => hl j u (by simp [hj])

theorem places_ok : ∀ {fs : List Field} {ps : List (Nat × Nat)}, placesOf P fs = some ps → (fs.mapM fun f => (do pure (f.offset, ← sizeOf f.type) : Sem (Nat × Nat))).run P w = .ok ps w
  | [], ps, h => by simp only [placesOf, Option.some.injEq] at h; subst h; rfl
  | f :: fs, ps, h => by
    simp only [placesOf] at h
    split at h
    · rename_i n l hn hl
      simp only [Option.some.injEq] at h
      subst h
      have := places_ok hl
      simp only [List.mapM_cons, Sem.run_bind, run_size hn, Result.andThen_ok, Sem.run_pure, this]
    · cases h

theorem build_ok {t : TypeId} {l : List (Nat × V)} {m : Array (Nat × Value)} {v : V} (hl : PartsR ρ l m.toList) (hv : buildV P t l = some v) : ∃ y, (Instr.build t m).run P w = .ok y w ∧ VR ρ v y := by
  simp only [buildV] at hv
  split at hv
  · rename_i z fs hz hd
    split at hv
    · rename_i ps hps
      simp only [Option.map_eq_some_iff] at hv
      obtain ⟨r, hr, rfl⟩ := hv
      obtain ⟨x, hx, hzx⟩ := run_zero (w := w) hz
      obtain ⟨c', hc', hvr, _⟩ := fill_ok hl ((abs2_vr (ρ := ρ) hzx).cells (abs2_nj hzx)) hr
      have hpl := places_ok (w := w) hps
      refine ⟨.agg c', ?_, .agg _ _ hvr⟩
      have hm : (fs.mapM fun f => (do pure (f.offset, ← sizeOf f.type) : Sem (Nat × Nat))).run P w = .ok ps.toArray w := by
        rw [Array.mapM_eq_mapM_toList, Sem.run_map, hpl]
        rfl
      simp only [Instr.build, Sem.run_bind, hx, Result.andThen_ok, run_und hd, hm]
      have hpl' : (fun i => ps.toArray[i]?) = fun i => nth ps i := by funext i; rw [nth_eq]; simp
      rw [hpl', hc']
      rfl
    · cases hv
  · rename_i z len el hz hd
    split at hv
    · rename_i n hn
      simp only [Option.map_eq_some_iff] at hv
      obtain ⟨r, hr, rfl⟩ := hv
      obtain ⟨x, hx, hzx⟩ := run_zero (w := w) hz
      obtain ⟨c', hc', hvr, _⟩ := fill_ok hl ((abs2_vr (ρ := ρ) hzx).cells (abs2_nj hzx)) hr
      refine ⟨.agg c', ?_, .agg _ _ hvr⟩
      simp only [Instr.build, Sem.run_bind, hx, Result.andThen_ok, run_und hd, run_size hn, hc']
      rfl
    · cases hv
  · cases hv

/-! ### What makes a block -/

/-- A computation that makes one block: its value, its block (of what it holds), at whatever number. -/
def MkOk (P : Program) (ρ : Rho) (w : World) (s : Sem Value) (i : Nat) (v : V) (ob : Ob) : Prop :=
  ∃ x O w' z, s.run P w = .ok x w' ∧ w'.heap = w.heap.push O ∧ w'.os = w.os ∧ w'.tape = w.tape ∧ w'.output = w.output ∧ ob.isFix = false ∧
    ∀ ρ' : Rho, Sub ρ ρ' → ρ' i = some (w.heap.size, 0) → ρ'.room i = z → VR ρ' v x ∧ ObR ρ' i w.heap.size 0 ob w'

theorem MkOk.stp {s : Sem Value} {v : V} {ob : Ob} (hm : MkOk P ρ w s h.next v ob) (hr : Rel P ρ h w) (hf : Free ρ h.next) (hG : P.globals.size ≤ h.next) :
    ∃ ρ' x w', s.run P w = .ok x w' ∧ VR ρ' v x ∧ Stp P ρ h w ρ' (h.new ob) w' := by
  obtain ⟨x, O, w', z, h1, h2, h3, h4, h5, _, h7⟩ := hm
  obtain ⟨hv, ho⟩ := h7 _ (upd_sub _ z (hf _ (Nat.le_refl _))) (upd_self ρ h.next (w.heap.size, 0) z) (upd_room ρ h.next (w.heap.size, 0) z)
  exact ⟨_, x, w', h1, hv, Stp.new hr hf hG ob O 0 z w' h2 h3 h4 h5 ho⟩

theorem newVar_ok {el : TypeId} {u : V} {x : Value} {i : Nat} (hu : VR ρ u x) (hc : allCell u.cells = true) : MkOk P ρ w (do pure (.pointer (some (← newVar el x)))) i (.ptr i 0) (.cells .own el u.cells) := by
  refine ⟨.pointer (some ⟨w.heap.size, 0, none⟩), .cells x.cells el, { w with heap := w.heap.push (.cells x.cells el) }, x.cells.size, by simp [newVar, newRow], rfl, rfl, rfl, rfl, rfl, fun ρ' hs hi hz => ⟨?_, ?_⟩⟩
  · exact .ptr _ _ _ _ hi (Nat.le_refl 0)
  · exact ob_cells (rest := []) (push_here w _) (by simp) ((hu.cells (nj_of_allCell hc)).mono hs) ((allCell_eq _).1 hc) (fun j _ h => by simp at h) (by rw [hz])

theorem buildSl_ok {t : TypeId} {n i : Nat} {l : List (Nat × V)} {m : Array (Nat × Value)} {v : V} {ob : Ob} (hl : PartsR ρ l m.toList) (hv : buildSlV P t n l i = some (v, ob)) : MkOk P ρ w (Instr.buildSlice t n m) i v ob := by
  simp only [buildSlV] at hv
  split at hv
  · rename_i el hd
    split at hv
    · rename_i sz z hsz hz
      cases hb : Nat.beq (len z.cells) sz && Nat.blt 0 sz && Nat.ble (n * sz) 16384 with
      | false => simp [hb] at hv
      | true =>
        simp only [hb, cond_true] at hv
        simp only [Bool.and_eq_true] at hb
        have h1 := Nat.eq_of_beq_eq_true hb.1.1
        have h2 := blt_lt hb.1.2
        have h3 := ble_le hb.2
        rw [len_eq] at h1
        split at hv
        · rename_i cs hfill
          cases hac : allCell cs with
          | false => simp [hac] at hv
          | true =>
            simp only [hac, cond_true, Option.some.injEq, Prod.mk.injEq] at hv
            obtain ⟨rfl, rfl⟩ := hv
            obtain ⟨x, hx, hzx⟩ := run_zero (w := w) hz
            have hzr := ((abs2_vr (ρ := ρ) hzx).cells (abs2_nj hzx))
            have hrep := rep_ok hzr (by omega) n
            rw [h1] at hrep
            obtain ⟨c', hc', hvr, hlen⟩ := fill_ok hl hrep hfill
            have hgt : ¬ n * sz > 2 ^ 24 := by omega
            have hxz : madeCells (if n * sz = 0 then #[] else x.cells) (n * sz) = madeCells x.cells (n * sz) := by
              by_cases e : n * sz = 0
              · rw [e]; simp [madeCells]
              · rw [if_neg e]
            refine ⟨.slice (some ⟨w.heap.size, 0, none⟩) n n, .cells c' el, { w with heap := w.heap.push (.cells c' el) }, c'.size, ?_, rfl, rfl, rfl, rfl, rfl, fun ρ' hs hi hz => ⟨?_, ?_⟩⟩
            · by_cases e : n * sz = 0
              · have hc2 := hc'
                rw [← hxz, if_pos e] at hc2
                simp only [madeCells] at hc2
                simp only [Instr.buildSlice, Sem.run_bind, run_und hd, Result.andThen_ok, run_size hsz, Sem.run_ite, if_neg hgt, if_pos e, Sem.run_pure, hc2]
                simp [newRow]
              · have hc2 := hc'
                simp only [madeCells] at hc2
                simp only [Instr.buildSlice, Sem.run_bind, run_und hd, Result.andThen_ok, run_size hsz, Sem.run_ite, if_neg hgt, if_neg e, Sem.run_pure, hx, hc2]
                simp [newRow]
            · have := VR.slc (ρ := ρ') i 0 w.heap.size 0 n n (.known n) hi (Nat.le_refl 0) (Nat.le_refl n) (by simp) (by simp)
              simpa using this
            · exact ob_cells (rest := []) (push_here w _) (by simp) (hvr.mono hs) ((allCell_eq _).1 hac) (fun j _ h => by simp at h) (by rw [hz])
        · cases hv
    · cases hv
  · cases hv

theorem makeSl_ok {t : TypeId} {i : Nat} {l c v : V} {x y : Value} {ob : Ob} (hl : VR ρ l x) (hc : VR ρ c y) (hv : makeSlV P t l c i = some (v, ob)) : MkOk P ρ w (Instr.makeSlice t x y) i v ob := by
  simp only [makeSlV] at hv
  split at hv
  · rename_i kl l kc c el hd
    cases hl
    cases hc
    split at hv
    · rename_i inf z hinf hz
      split at hv
      · rename_i hh
        simp only [Option.some.injEq, Prod.mk.injEq] at hv
        obtain ⟨rfl, rfl⟩ := hv
        obtain ⟨h0, h1, h2, h3, h4, h5, h6⟩ := hh
        rw [len_eq] at h3
        have hz' : ∃ zz, inf.zero = some zz ∧ abs2 zz = some z := by
          simp only [zeroOf, hinf] at hz
          split at hz
          · rename_i zz hzz; exact ⟨zz, hzz, hz⟩
          · cases hz
        obtain ⟨zz, hzz, hzx⟩ := hz'
        have hzr := ((abs2_vr (ρ := ρ) hzx).cells (abs2_nj hzx))
        have hrep := rep_ok hzr (by omega) c.toNat
        rw [h3] at hrep
        have hbytes : (inf.bytes : Int) * c ≤ 281474976710656 := by
          have h7 : (inf.bytes : Int) * c ≤ 1048576 * 1048576 := Int.mul_le_mul (by omega) (by omega) (by omega) (by omega)
          omega
        have hrun := run_make (P := P) w t el inf zz hd hinf hzz kl kc l c h0 h1 hbytes (by omega)
        refine ⟨_, _, _, (madeCells zz.cells (c.toNat * inf.size)).size, hrun, rfl, rfl, rfl, rfl, rfl, fun ρ' hs hi hz => ⟨?_, ?_⟩⟩
        · have := VR.slc (ρ := ρ') i 0 w.heap.size 0 l.toNat c.toNat (.known c.toNat) hi (Nat.le_refl 0) (by omega) (by simp) (by simp)
          simpa using this
        · exact ob_cells (rest := []) (push_here w _) (by simp) (hrep.mono hs) (rep_cell ((allCell_eq _).1 h6) _) (fun j _ h => by simp at h) (by rw [hz])
      · cases hv
    · cases hv
  · cases hv

theorem vrs_bytes : ∀ (l : List UInt8), VRs ρ (l.map fun b => .int .u8 b.toNat) (l.map fun b => .int .u8 b.toNat)
  | [] => .nil
  | _ :: l => .cons _ _ _ _ (.int _ _) (vrs_bytes l)

theorem bytesOf_ok {src dst el : TypeId} {i : Nat} {u v : V} {x : Value} {ob : Ob} (hs : P.underlying src = some .string) (hd : P.underlying dst = some (.slice el)) (he : P.underlying el = some (.int .u8))
    (hu : VR ρ u x) (hv : bytesOfStr el u i = some (v, ob)) : MkOk P ρ w (convert src dst x) i v ob := by
  simp only [bytesOfStr] at hv
  split at hv
  · rename_i s
    simp only [Option.some.injEq, Prod.mk.injEq] at hv
    obtain ⟨rfl, rfl⟩ := hv
    cases hu with
    | str _ b hb =>
      have hsz : b.size = s.length := by rw [← hb]; simp
      obtain ⟨cap, w₁, hcap, hw1, hw2, hw3, hw4⟩ : ∃ cap w₁, (choose (.appendCap b.size 0 el)).run P w = .ok cap w₁ ∧ w₁.heap = w.heap ∧ w₁.os = w.os ∧ w₁.tape = w.tape ∧ w₁.output = w.output := by
        rw [run_choose]
        split
        · exact ⟨_, _, rfl, rfl, rfl, rfl, rfl⟩
        · exact ⟨_, _, rfl, rfl, rfl, rfl, rfl⟩
      have hge : b.size ≤ cap := by
        rw [run_choose] at hcap
        simp only [Question.forced, Bool.false_eq_true, if_false, Question.cut, Result.ok.injEq] at hcap
        omega
      let c : Array Value := (b.data.map fun b => (.int .u8 b.toNat : Value)) ++ Array.replicate (cap - b.size) (.int .u8 0)
      have hcs : c.size = cap := by simp [c]; omega
      let w₂ : World := { w₁ with heap := w₁.heap.push (.cells c el) }
      have h1 : w₂.heap[w.heap.size]? = some (.cells c el) := by simp [w₂, hw1]
      have hshape : w₂.shape? w.heap.size = some (el, c.size) := by simp [World.shape?, h1]
      refine ⟨.slice (some ⟨w.heap.size, 0, none⟩) b.size cap, .cells c el (c.size, c.size + 1), w₂.freeze { block := w.heap.size, off := c.size } 1, c.size, ?_, ?_, ?_, ?_, ?_, rfl, fun ρ' hsub hi hz => ⟨?_, ?_⟩⟩
      · simp only [convert, Sem.run_bind, run_und hs, run_und hd, Result.andThen_ok, run_und he, Conv.stringToBytes, hcap]
        simp only [newRow, Sem.run_bind, run_newObj, Result.andThen_ok, Sem.run_pure, hw1, markStringish]
        have : ({ w₁ with heap := w.heap.push (.cells c el) } : World) = w₂ := by show _ = ({ w₁ with heap := w₁.heap.push (.cells c el) } : World); rw [hw1]
        simp only [c] at this ⊢
        rw [this]
        simp only [c] at hshape
        simp [hshape]
      · have hz : c.size ≠ c.size + 1 := by omega
        simp only [World.freeze, w₂, hw1, Nat.add_one_ne_zero, if_false]
        rw [push_modify]
        simp
      · simpa [World.freeze, w₂] using hw2
      · simpa [World.freeze, w₂] using hw3
      · simpa [World.freeze, w₂] using hw4
      · have := VR.slc (ρ := ρ') i 0 w.heap.size 0 (len s) cap (.opn 1) hi (Nat.le_refl 0) (by rw [len_eq]; omega) (by simp) (fun z e => by cases e; rw [hz, hcs]; omega)
        rw [len_eq] at this ⊢
        rw [hsz]
        simpa using this
      · have h3 : (w₂.freeze { block := w.heap.size, off := c.size } 1).heap[w.heap.size]? = some (.cells c el (c.size, c.size + 1)) := by
          simp only [World.freeze, Nat.add_one_ne_zero, if_false, Array.getElem?_modify]
          simp [h1]
        refine ob_cells (rest := List.replicate (cap - b.size) (.int .u8 0)) h3 ?_ (vrs_bytes s) ?_ ?_ (by rw [hz])
        · simp [c, ← hb]
        · intro v hv
          simp only [List.mem_map] at hv
          obtain ⟨_, _, rfl⟩ := hv
          rfl
        · intro j hj hjj
          simp at hjj; omega
  · cases hv

end
end Vm
end Go.Proofs.YtdgopiffbhlhoaaGreatDoor
