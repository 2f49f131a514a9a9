import Derived.Test.YtmobiphgmdigjaaAw12
/- Soundness: literals of slices and structs. -/
set_option linter.unusedVariables false
set_option linter.unusedSimpArgs false
namespace Go.AW
open Go

section
variable {P : Program} {X X' : Xs} {W : Nat → Prop} {pl : Pl} {w w' : World} {m : Mem}

theorem partsR_elim (sz : Nat) : ∀ (k : Nat) (ps : List (Nat × T)) (K : List (List T) → Prop), partsR sz k ps K → ∃ rows : List (List T), K rows ∧ rows.length = ps.length ∧
    ∀ (i j : Nat) (x : T), ps[i]? = some (j, x) → j = k + i ∧ (cellsT x).length = sz ∧ (cellsT x).all bvOk = true ∧ rows[i]? = some ((cellsT x).map untok)
  | k, [], K, h => ⟨[], h, rfl, by simp⟩
  | k, (j, x) :: r, K, h => by
    unfold partsR at h
    obtain ⟨h1, h⟩ := chk_elim h
    rw [forceT_eq] at h
    obtain ⟨h2, h⟩ := chk_elim h
    obtain ⟨h3, h⟩ := chk_elim h
    obtain ⟨rows, hK, hl, hh⟩ := partsR_elim sz (k + 1) r _ h
    refine ⟨_, hK, by simp [hl], ?_⟩
    intro i j' x' hi
    cases i with
    | zero =>
      simp at hi
      obtain ⟨rfl, rfl⟩ := hi
      exact ⟨by rw [Nat.eq_of_beq_eq_true h1]; omega, Nat.eq_of_beq_eq_true h2, h3, rfl⟩
    | succ i =>
      simp at hi
      obtain ⟨e1, e2, e3, e4⟩ := hh i j' x' hi
      exact ⟨by omega, e2, e3, by simpa using e4⟩

theorem partsO_elim (sz : Nat) : ∀ (k : Nat) (ps : List (Nat × T)) (K : List (List T) → Prop), partsO sz k ps K → ∃ rows : List (List T), K rows ∧ rows.length = ps.length ∧
    ∀ (i j : Nat) (x : T), ps[i]? = some (j, x) → j = k + i ∧ (cellsT x).length = sz ∧ (cellsT x).all cellOk = true ∧ rows[i]? = some (cellsT x)
  | k, [], K, h => ⟨[], h, rfl, by simp⟩
  | k, (j, x) :: r, K, h => by
    unfold partsO at h
    obtain ⟨h1, h⟩ := chk_elim h
    rw [forceT_eq] at h
    obtain ⟨h2, h⟩ := chk_elim h
    obtain ⟨h3, h⟩ := chk_elim h
    obtain ⟨rows, hK, hl, hh⟩ := partsO_elim sz (k + 1) r _ h
    refine ⟨_, hK, by simp [hl], ?_⟩
    intro i j' x' hi
    cases i with
    | zero =>
      simp at hi
      obtain ⟨rfl, rfl⟩ := hi
      exact ⟨by rw [Nat.eq_of_beq_eq_true h1]; omega, Nat.eq_of_beq_eq_true h2, h3, rfl⟩
    | succ i =>
      simp at hi
      obtain ⟨e1, e2, e3, e4⟩ := hh i j' x' hi
      exact ⟨by omega, e2, e3, by simpa using e4⟩

/-- Parts of a literal, abstract and concrete. -/
structure PartsOk (X : Xs) (pl : Pl) (w : World) (ps : List (Nat × T)) (pv : List (Nat × Value)) : Prop where
  len : ps.length = pv.length
  rel : ∀ (i j j' : Nat) (x : T) (v : Value), ps[i]? = some (j, x) → pv[i]? = some (j', v) → j = j' ∧ VRel X pl w x v

theorem bvOk_cellOk {t : T} (h : bvOk t = true) : cellOk t = true := by cases t <;> simp_all [bvOk, cellOk]

theorem pv_dense {pv : List (Nat × Value)} (h : ∀ (i j : Nat) (v : Value), pv[i]? = some (j, v) → j = i) : pv = ((pv.map (·.2)).zipIdx 0).map fun x => (x.2, x.1) := by
  apply List.ext_getElem?
  intro i
  simp only [List.getElem?_map, List.getElem?_zipIdx]
  cases e : pv[i]? with
  | none => simp
  | some p =>
    obtain ⟨j, v⟩ := p
    have := h i j v e
    subst this
    simp

theorem PartsOk.cell {ps : List (Nat × T)} {pv : List (Nat × Value)} (hp : PartsOk X pl w ps pv) {sz : Nat} {ok : T → Bool} (hok : ∀ t, ok t = true → cellOk t = true)
    (hh : ∀ (i j : Nat) (x : T), ps[i]? = some (j, x) → j = i ∧ (cellsT x).length = sz ∧ (cellsT x).all ok = true) :
    (∀ (i j : Nat) (v : Value), pv[i]? = some (j, v) → j = i) ∧ (∀ v ∈ pv.map (·.2), v.cells.size = sz) ∧
    ∀ (i : Nat) (j : Nat) (x : T), ps[i]? = some (j, x) → ∃ v, (pv.map (·.2))[i]? = some v ∧ VRel X pl w x v := by
  have get : ∀ (i j : Nat) (v : Value), pv[i]? = some (j, v) → ∃ j' x, ps[i]? = some (j', x) := by
    intro i j v h
    have hi : i < pv.length := (List.getElem?_eq_some_iff.1 h).1
    have hi' : i < ps.length := by rw [hp.len]; exact hi
    exact ⟨ps[i].1, ps[i].2, by simp [hi']⟩
  refine ⟨?_, ?_, ?_⟩
  · intro i j v h
    obtain ⟨j', x, hx⟩ := get i j v h
    rw [← (hp.rel i j' j x v hx h).1]
    exact (hh i j' x hx).1
  · intro v hv
    obtain ⟨p, hpm, rfl⟩ := List.mem_map.1 hv
    obtain ⟨i, hi, rfl⟩ := List.getElem_of_mem hpm
    have h : pv[i]? = some (pv[i].1, pv[i].2) := by simp [hi]
    obtain ⟨j', x, hx⟩ := get i _ _ h
    obtain ⟨e1, e2, e3⟩ := hh i j' x hx
    have hall : (cellsT x).all cellOk = true := List.all_eq_true.2 fun t ht => hok t (List.all_eq_true.1 e3 t ht)
    rw [← (cells_rel (hp.rel i j' _ x _ hx h).2 hall).1]
    exact e2
  · intro i j x hx
    have hi : i < ps.length := (List.getElem?_eq_some_iff.1 hx).1
    have hi' : i < pv.length := by rw [← hp.len]; exact hi
    refine ⟨pv[i].2, by simp [hi'], (hp.rel i j pv[i].1 x pv[i].2 hx (by simp [hi'])).2⟩

theorem buildSliceA_ok (hm : MRel X W pl w m) {id : Nat} (hid : pl id = none) (hW : ∀ b, w.heap.size ≤ b → W b) (byref : Bool) {t : TypeId} {n : Nat} {ps : List (Nat × T)} {pv : List (Nat × Value)}
    (hp : PartsOk X pl w ps pv) (K : T → Mem → Prop) (h : buildSliceA P m id byref t n ps K) : OpOk P X W pl w (some id) (Instr.buildSlice t n pv.toArray) K := by
  unfold buildSliceA at h
  split at h <;> try (exact h.elim)
  rename_i e hu
  split at h <;> try (exact h.elim)
  rename_i i hi
  split at h <;> try (exact h.elim)
  rename_i z hz
  have hzs : z.cells.size = i.size := Nat.eq_of_beq_eq_true (chk_elim h).1
  replace h := (chk_elim h).2
  have hpos : 0 < i.size := by have : 1 ≤ i.size := by simpa [Nat.blt] using (chk_elim h).1
                               exact this
  replace h := (chk_elim h).2
  have hn : n = ps.length := Nat.eq_of_beq_eq_true (chk_elim h).1
  replace h := (chk_elim h).2
  have hsm : n * i.size ≤ 16777216 := Nat.le_of_ble_eq_true (chk_elim h).1
  replace h := (chk_elim h).2
  -- what the machine does
  have run : ∀ (vs : List Value), vs = pv.map (·.2) → (∀ (i j : Nat) (v : Value), pv[i]? = some (j, v) → j = i) → (∀ v ∈ vs, v.cells.size = i.size) →
      (Instr.buildSlice t n pv.toArray).run P w = .ok (.slice (some ⟨w.heap.size, 0, none⟩) n n) (w.alloc (.cells (vs.flatMap fun v => v.cells.toList).toArray e)) := by
    intro vs hvs hd hsz
    by_cases h0 : n = 0
    · have hpv : pv = [] := List.eq_nil_of_length_eq_zero (by rw [← hp.len, ← hn]; exact h0)
      subst hpv
      simp at hvs
      subst hvs h0
      simp [Instr.buildSlice, run_underlying hu, sizeOf, typeInfo, hi, newRow, Instr.fill, Array.range_zero']
    · refine run_buildSlice w t e n pv.toArray _ i z hu hi hz (by omega) ?_ ?_
      · intro h; rcases Nat.mul_eq_zero.1 h with h | h <;> omega
      · rw [pv_dense hd]
        simp only [← hvs]
        refine Great.fill_whole hpos vs _ hsz ?_
        rw [hvs, hn, hp.len]; simp
  cases byref with
  | false =>
    simp only at h
    obtain ⟨rows, hK, hrl, hh⟩ := partsR_elim _ _ _ _ h
    rw [memF_eq] at hK
    obtain ⟨hd, hsz, hrel⟩ := hp.cell (ok := bvOk) (fun _ => bvOk_cellOk) (fun i2 j x hx => by
      obtain ⟨e1, e2, e3, _⟩ := hh i2 j x hx
      exact ⟨by omega, e2, e3⟩)
    have hr := run _ rfl hd hsz
    have hrn : rows.length = n := by rw [hrl, hn]
    have hrows : RowsIn X w ((pv.map (·.2)).flatMap fun v => v.cells.toList).toArray i.size rows := by
      intro k row hrow
      have hk : k < ps.length := by rw [← hrl]; exact (List.getElem?_eq_some_iff.1 hrow).1
      obtain ⟨e1, e2, e3, e4⟩ := hh k ps[k].1 ps[k].2 (by simp [hk])
      rw [hrow] at e4
      obtain rfl := Option.some.inj e4
      obtain ⟨v, hv, hvr⟩ := hrel k ps[k].1 ps[k].2 (by simp [hk])
      have hall : (cellsT ps[k].2).all cellOk = true := List.all_eq_true.2 fun t ht => bvOk_cellOk (List.all_eq_true.1 e3 t ht)
      obtain ⟨hcl, hc1, hcr⟩ := cells_rel hvr hall
      refine ⟨by simpa using e2, fun j y hy => ?_⟩
      simp only [List.getElem?_map] at hy
      cases ey : (cellsT ps[k].2)[j]? with
      | none => simp [ey] at hy
      | some y0 =>
        simp [ey] at hy
        subst hy
        obtain ⟨u, hu2, hur⟩ := hcr j y0 ey
        have hj : j < i.size := by rw [← e2]; exact (List.getElem?_eq_some_iff.1 ey).1
        refine ⟨u, ?_, hur.bv (List.all_eq_true.1 e3 y0 (List.mem_of_getElem? ey)), hc1 u (by
          obtain ⟨h1, h2⟩ := Array.getElem?_eq_some_iff.1 hu2
          rw [← h2]; simp)⟩
        rw [List.getElem?_toArray, Great.flat_get hpos _ hsz]
        have hdiv : (k * i.size + j) / i.size = k := by rw [Nat.mul_comm, Nat.mul_add_div hpos, Nat.div_eq_of_lt hj]; omega
        have hmod : (k * i.size + j) % i.size = j := by rw [Nat.mul_comm, Nat.mul_add_mod, Nat.mod_eq_of_lt hj]
        rw [hdiv, hmod, hv]
        exact hu2
    have hflat : ((pv.map (·.2)).flatMap fun v => v.cells.toList).length = n * i.size := by
      have : ∀ (l : List Value), (∀ v ∈ l, v.cells.size = i.size) → (l.flatMap fun v => v.cells.toList).length = l.length * i.size := by
        intro l hl
        induction l with
        | nil => simp
        | cons v l ih =>
          rw [List.flatMap_cons, List.length_append, ih fun u hu => hl u (List.mem_cons_of_mem _ hu)]
          have := hl v List.mem_cons_self
          simp [Nat.add_mul] at this ⊢; omega
      rw [this _ hsz]; simp [← hp.len, hn]
    have hst := StepOk.tok (id := id) hm hW _ e (.alloc w _ e) i.size n rows (by rw [List.size_toArray]; exact hflat) (by omega) hrows (fun l hl => by rw [hid] at hl; cases hl)
    rw [hrn] at hst hK
    exact ⟨_, _, _, _, hr, hK, hst⟩
  | true =>
    simp only at h
    obtain ⟨rows, hK, hrl, hh⟩ := partsO_elim _ _ _ _ h
    rw [memF_eq] at hK
    obtain ⟨hd, hsz, hrel⟩ := hp.cell (ok := cellOk) (fun _ h => h) (fun i2 j x hx => by
      obtain ⟨e1, e2, e3, _⟩ := hh i2 j x hx
      exact ⟨by omega, e2, e3⟩)
    have hr := run _ rfl hd hsz
    have hrn : rows.length = n := by rw [hrl, hn]
    have hflat : ((pv.map (·.2)).flatMap fun v => v.cells.toList).length = n * i.size := by
      have : ∀ (l : List Value), (∀ v ∈ l, v.cells.size = i.size) → (l.flatMap fun v => v.cells.toList).length = l.length * i.size := by
        intro l hl
        induction l with
        | nil => simp
        | cons v l ih =>
          rw [List.flatMap_cons, List.length_append, ih fun u hu => hl u (List.mem_cons_of_mem _ hu)]
          have := hl v List.mem_cons_self
          simp [Nat.add_mul] at this ⊢; omega
      rw [this _ hsz]; simp [← hp.len, hn]
    refine ⟨_, _, _, _, hr, hK, StepOk.ownN hm hid hW _ e (.alloc w _ e) i.size rows (by rw [hrn, List.size_toArray, hflat]; exact Nat.le_refl _) ?_ ?_⟩
    · intro k row hrow
      have hk : k < ps.length := by rw [← hrl]; exact (List.getElem?_eq_some_iff.1 hrow).1
      obtain ⟨e1, e2, e3, e4⟩ := hh k ps[k].1 ps[k].2 (by simp [hk])
      rw [hrow] at e4
      obtain rfl := Option.some.inj e4
      obtain ⟨v, hv, hvr⟩ := hrel k ps[k].1 ps[k].2 (by simp [hk])
      obtain ⟨hcl, hc1, hcr⟩ := cells_rel hvr e3
      refine ⟨e2, fun j y hy => ?_⟩
      obtain ⟨u, hu2, hur⟩ := hcr j y hy
      have hj : j < i.size := by rw [← e2]; exact (List.getElem?_eq_some_iff.1 hy).1
      refine ⟨u, ?_, hur⟩
      rw [List.getElem?_toArray, Great.flat_get hpos _ hsz]
      have hdiv : (k * i.size + j) / i.size = k := by rw [Nat.mul_comm, Nat.mul_add_div hpos, Nat.div_eq_of_lt hj]; omega
      have hmod : (k * i.size + j) % i.size = j := by rw [Nat.mul_comm, Nat.mul_add_mod, Nat.mod_eq_of_lt hj]
      rw [hdiv, hmod, hv]
      exact hu2
    · rw [← hrn]
      have := VRel.sref (X := X) (pl := upd pl id (.own w.heap.size i.size)) (w := w.alloc (.cells ((pv.map (·.2)).flatMap fun v => v.cells.toList).toArray e)) id 0 rows.length w.heap.size i.size rows.length (.inl (upd_same _ _ _)) (by omega)
        fun _ => ⟨_, _, _, heap_alloc_new w _, by rw [List.size_toArray, hflat, hrn]; simp⟩
      rw [hrn] at this ⊢
      simpa using this

end
end Go.AW
