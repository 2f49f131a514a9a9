import Derived.Test.YtmobiphgmdigjaaAw7
/- Soundness: stores into an own block. -/
set_option linter.unusedVariables false
set_option linter.unusedSimpArgs false
namespace Go.AW
open Go

section
variable {P : Program} {X : Xs} {W : Nat → Prop} {pl : Pl} {w : World} {m : Mem}

theorem unfrozen_setRow {b n : Nat} {cs cs' : Array Value} {e : TypeId} {fr : Nat × Nat} (hh : w.heap[b]? = some (.cells cs e fr)) (hu : unfrozen w b n) : unfrozen (w.setRow b cs') b n := by
  refine ⟨?_, fun cs2 e2 lo hi h2 => ?_⟩
  · intro off ho
    have := hu.1 off ho
    simp only [World.frozen?, hh] at this
    simp only [World.frozen?, setRow_heap w b cs cs' e fr hh]
    exact this
  · rw [setRow_heap w b cs cs' e fr hh] at h2
    injection h2 with h2
    injection h2 with h3 h4 h5
    exact hu.2 cs e lo hi (by rw [hh, h5])

theorem run_storeCells_u (b o : Nat) (e : TypeId) (fr : Nat × Nat) : ∀ (vs : List Value) (i : Nat) (cur : Array Value) (w : World), w.heap[b]? = some (.cells cur e fr) → unfrozen w b cur.size →
    o + i + vs.length ≤ cur.size → (∀ v ∈ vs, v.oneCell' = true) →
    (storeCells ⟨b, o, none⟩ vs i).run P w = .ok () (w.setRow b (cur.toList.take (o + i) ++ vs ++ cur.toList.drop (o + i + vs.length)).toArray)
  | [], i, cur, w, hg, _, _, _ => by
    simp only [storeCells, List.append_nil, List.length_nil, Nat.add_zero, List.take_append_drop, Array.toArray_toList]
    rw [setRow_self w b cur e fr hg]
    rfl
  | v :: rest, i, cur, w, hg, hu, hl, h1 => by
    have hi : o + i < cur.size := by simp at hl; omega
    have hcell : w.cell? ⟨b, o + i, none⟩ = some cur[o + i] := by simp [World.cell?, hg, hi]
    have hfro : w.frozen? ⟨b, o + i, none⟩ = false := hu.1 _ hi
    have hst : (store ((⟨b, o, none⟩ : Addr).add i) v).run P w = .ok () (w.setRow b (cur.setIfInBounds (o + i) v)) := by
      rw [Addr.add_lit, run_store P w _ v _ (h1 v (by simp)), hcell]
      simp [hfro, setCell_eq_setRow w b (o + i) cur e fr v hg]
    have hu' : unfrozen (w.setRow b (cur.setIfInBounds (o + i) v)) b (cur.setIfInBounds (o + i) v).size := by
      rw [Array.size_setIfInBounds]; exact unfrozen_setRow hg hu
    have ih := run_storeCells_u b o e fr rest (i + 1) (cur.setIfInBounds (o + i) v) (w.setRow b (cur.setIfInBounds (o + i) v)) (setRow_heap w b cur _ e _ hg) hu'
      (by simp at hl ⊢; omega) (fun x hx => h1 x (by simp [hx]))
    simp only [storeCells, Sem.run_bind, hst, Result.andThen_ok, ih, setRow_setRow]
    congr 3
    have e2 := list_seg_step cur.toList (o + i) v rest (by simp at hl ⊢; omega)
    simpa [Array.toList_setIfInBounds, Nat.add_assoc] using e2

theorem MRel.xmono_setRow (hm : MRel X W pl w m) {id b sz : Nat} (hp : pl id = some (.own b sz)) (cs' : Array Value) : XMono X X w (w.setRow b cs') := by
  intro b' off hx
  have hne : b' ≠ b := (hm.xin b' off hx).2 id _ hp
  exact ⟨hx, cell_setRow_other w b cs' ⟨b', off, none⟩ hne⟩

theorem roomy_setRow {b : Nat} {cs cs' : Array Value} {e : TypeId} {fr : Nat × Nat} (hh : w.heap[b]? = some (.cells cs e fr)) (hs : cs.size ≤ cs'.size) {b' n : Nat} (hr : roomy w b' n) : roomy (w.setRow b cs') b' n := by
  obtain ⟨c, e', fr', hc, hn⟩ := hr
  by_cases e2 : b' = b
  · subst e2
    rw [hh] at hc
    injection hc with hc
    injection hc with h1 h2 h3
    subst h1
    exact ⟨cs', e, fr, setRow_heap w b' cs cs' e fr hh, by omega⟩
  · exact ⟨c, e', fr', by rw [setRow_other w b b' cs' e2]; exact hc, hn⟩

theorem pmono_setRow {b : Nat} {cs cs' : Array Value} {e : TypeId} {fr : Nat × Nat} (hh : w.heap[b]? = some (.cells cs e fr)) (hs : cs.size ≤ cs'.size) : PMono pl pl w (w.setRow b cs') := by
  intro i li hi
  refine ⟨⟨li, hi, li.le_refl⟩, ?_⟩
  rintro b' sz rfl _ n ⟨c, e', fr', hc, hn⟩
  by_cases e2 : b' = b
  · subst e2
    rw [hh] at hc
    injection hc with hc
    injection hc with h1 h2 h3
    subst h1
    exact ⟨cs', e, fr, setRow_heap w b' cs cs' e fr hh, by omega⟩
  · exact ⟨c, e', fr', by rw [setRow_other w b b' cs' e2]; exact hc, hn⟩

theorem StepOk.store (hm : MRel X W pl w m) {id b sz : Nat} {rows' : List (List T)} {cs cs' : Array Value} {e : TypeId} {fr : Nat × Nat}
    (hp : pl id = some (.own b sz)) (hh : w.heap[b]? = some (.cells cs e fr)) (hu : unfrozen w b cs.size) (hs : cs'.size = cs.size) (hl : rows'.length * sz ≤ cs'.size)
    (hr : ∀ (i : Nat) (row : List T), rows'[i]? = some row → row.length = sz ∧ ∀ (j : Nat) (t : T), row[j]? = some t → ∃ v, cs'[i * sz + j]? = some v ∧ VRel X pl w t v)
    (id' : Option Nat) {t : T} {v : Value} (hv : VRel X pl w t v) : StepOk X W pl w id' (m.put id (.own sz rows')) t v (w.setRow b cs') := by
  have hx := hm.xmono_setRow hp cs'
  have hpm : PMono pl pl w (w.setRow b cs') := pmono_setRow hh (by omega)
  refine ⟨X, pl, hx, hpm, fun _ _ h => h, ⟨by simp, rfl, rfl, rfl, fun b' hb hW => ?_⟩, ?_, hv.mono hx hpm, fun _ _ h => .inl h⟩
  · refine setRow_other w b b' cs' fun e2 => hW ?_
    subst e2
    exact (hm.placed id _ b' hp rfl).1
  · constructor
    · intro i blk hi
      by_cases e2 : i = id
      · subst e2
        rw [Mem.get_put_same] at hi
        obtain rfl := Option.some.inj hi
        refine ⟨_, hp, .inr ⟨b, rfl, cs', e, fr, setRow_heap w b cs cs' e fr hh, by rw [hs]; exact unfrozen_setRow hh hu, hl, fun i row hrow => ⟨(hr i row hrow).1, fun j t ht => ?_⟩⟩⟩
        obtain ⟨v, hv, hvr⟩ := (hr i row hrow).2 j t ht
        exact ⟨v, hv, hvr.mono hx hpm⟩
      · rw [Mem.get_put_other _ _ _ _ (Ne.symm e2)] at hi
        obtain ⟨li, hli, hbi⟩ := hm.blk i blk hi
        refine ⟨li, hli, hbi.mono hx hpm fun b' hb' => setRow_other w b b' cs' fun e3 => e2 ?_⟩
        subst e3
        exact hm.apart i id li _ b' hli hp hb' rfl
    · intro i li b' hi hb'
      obtain ⟨h1, h2⟩ := hm.placed i li b' hi hb'
      exact ⟨h1, by simpa using h2⟩
    · exact hm.apart
    · intro b' off hxb
      obtain ⟨h1, h2⟩ := hm.xin b' off hxb
      exact ⟨by simpa using h1, h2⟩
    · exact hm.glob.mono hx

theorem spl_length (r : List T) (off : Nat) (cs : List T) (h : off + cs.length ≤ r.length) : (spl r off cs).length = r.length := by
  induction r generalizing off with
  | nil => cases off <;> simp_all [spl]
  | cons x r ih =>
    cases off with
    | zero => simp [spl] at h ⊢; omega
    | succ off => simp [spl, ih off (by simp at h; omega)]

theorem spl_get (r : List T) (off : Nat) (cs : List T) (h : off + cs.length ≤ r.length) (j : Nat) :
    (spl r off cs)[j]? = if j < off then r[j]? else if j < off + cs.length then cs[j - off]? else r[j]? := by
  induction r generalizing off j with
  | nil =>
    simp at h
    obtain ⟨rfl, rfl⟩ := h
    simp [spl]
  | cons x r ih =>
    cases off with
    | zero =>
      simp only [spl, Nat.not_lt_zero, if_false, Nat.zero_add, Nat.sub_zero]
      split
      · rename_i hj
        rw [List.getElem?_append_left hj]
      · rename_i hj
        rw [List.getElem?_append_right (by omega), List.getElem?_drop]
        congr 1; omega
    | succ off =>
      cases j with
      | zero => simp [spl]
      | succ j =>
        simp only [spl, List.getElem?_cons_succ]
        rw [ih off (by simp at h; omega) j]
        clear ih
        by_cases h1 : j < off
        · rw [if_pos h1, if_pos (show j + 1 < off + 1 by omega)]
        · rw [if_neg h1, if_neg (show ¬ j + 1 < off + 1 by omega)]
          by_cases h2 : j < off + cs.length
          · rw [if_pos h2, if_pos (show j + 1 < off + 1 + cs.length by omega)]; congr 1; omega
          · rw [if_neg h2, if_neg (show ¬ j + 1 < off + 1 + cs.length by omega)]

theorem storeA_ok (hm : MRel X W pl w m) (id' : Option Nat) {t : TypeId} {a x : T} {va vx : Value} (ha : VRel X pl w a va) (hx : VRel X pl w x vx) (K : Mem → Prop) (h : storeA P m t a x K) :
    ∃ m' w', (Instr.storeAt t va vx).run P w = .ok () w' ∧ K m' ∧ StepOk X W pl w id' m' (.lit undef) undef w' := by
  unfold storeA at h
  split at h <;> try (exact h.elim)
  rename_i i hi
  split at h <;> try (exact h.elim)
  rename_i id row off
  cases ha with
  | ptr _ _ _ b sz' hp =>
    split at h <;> try (exact h.elim)
    rename_i sz rows hg
    replace hp := own_pl hm hg hp
    obtain ⟨rfl, cs, e, fr, hh, hu, hlen, hr⟩ := own_get hm hg hp
    obtain ⟨r, hrow, h⟩ := nthK_elim h
    obtain ⟨h1, h⟩ := chk_elim h
    obtain ⟨h2, h⟩ := chk_elim h
    obtain ⟨h3, h⟩ := chk_elim h
    rw [memF_eq] at h
    have h1' : off + i.size ≤ r.length := Nat.le_of_ble_eq_true h1
    have h2' : (cellsT x).length = i.size := Nat.eq_of_beq_eq_true h2
    obtain ⟨hcl, hc1, hcr⟩ := cells_rel hx h3
    have hrl : r.length = sz' := (hr row r hrow).1
    have hrowlt : row < rows.length := (List.getElem?_eq_some_iff.1 hrow).1
    have hb1 : row * sz' + sz' ≤ rows.length * sz' := by rw [← Nat.succ_mul]; exact Nat.mul_le_mul_right _ hrowlt
    have hfit : row * sz' + off + vx.cells.toList.length ≤ cs.size := by simp; omega
    have hst := run_storeCells_u (P := P) b (row * sz' + off) e fr vx.cells.toList 0 cs w hh hu (by simpa using hfit) hc1
    refine ⟨_, w.setRow b (cs.toList.take (row * sz' + off + 0) ++ vx.cells.toList ++ cs.toList.drop (row * sz' + off + 0 + vx.cells.toList.length)).toArray, ?_, h, ?_⟩
    · simp only [Instr.storeAt, Instr.sureAddr, Sem.run_bind, Sem.run_pure, Result.andThen_ok, storeVar, run_sizeOfI hi]
      rw [if_neg (by omega)]
      exact hst
    · refine StepOk.store hm hp hh hu ?_ ?_ ?_ id' (.lit _)
      · simp; omega
      · simp; omega
      · simp only [Nat.add_zero]
        intro k row2 hk
        rw [List.getElem?_set] at hk
        by_cases ek : row = k
        · subst ek
          simp [hrowlt] at hk
          subst hk
          refine ⟨by rw [spl_length _ _ _ (by omega)]; exact hrl, ?_⟩
          intro j y hy
          rw [spl_get _ _ _ (by omega)] at hy
          have hjlt : j < r.length := by
            split at hy
            · omega
            · split at hy
              · omega
              · exact (List.getElem?_eq_some_iff.1 hy).1
          split at hy
          · rename_i hj
            obtain ⟨v, hv, hvr⟩ := (hr row r hrow).2 j y hy
            refine ⟨v, ?_, hvr⟩
            rw [← hv]
            simp only [List.getElem?_toArray]
            rw [List.append_assoc, List.getElem?_append_left (by simp; omega), List.getElem?_take, if_pos (by omega)]
            simp
          · split at hy
            · rename_i hj1 hj2
              obtain ⟨v, hv, hvr⟩ := hcr (j - off) y hy
              refine ⟨v, ?_, hvr⟩
              rw [← hv]
              simp only [List.getElem?_toArray]
              rw [List.append_assoc, List.getElem?_append_right (by simp; omega), List.getElem?_append_left (by simp; omega)]
              simp
              congr 1; omega
            · rename_i hj1 hj2
              obtain ⟨v, hv, hvr⟩ := (hr row r hrow).2 j y hy
              refine ⟨v, ?_, hvr⟩
              rw [← hv]
              simp only [List.getElem?_toArray]
              rw [List.getElem?_append_right (by simp; omega), List.getElem?_drop]
              simp
              congr 1; omega
        · simp [ek] at hk
          obtain ⟨hk1, hk2⟩ := hr k row2 hk
          refine ⟨hk1, fun j y hy => ?_⟩
          obtain ⟨v, hv, hvr⟩ := hk2 j y hy
          refine ⟨v, ?_, hvr⟩
          have hj : j < sz' := by rw [← hk1]; exact (List.getElem?_eq_some_iff.1 hy).1
          rw [← hv]
          simp only [List.getElem?_toArray]
          rcases Nat.lt_or_gt_of_ne ek with hlt | hgt
          · have hb2 : row * sz' + sz' ≤ k * sz' := by rw [← Nat.succ_mul]; exact Nat.mul_le_mul_right _ hlt
            rw [List.getElem?_append_right (by simp; omega), List.getElem?_drop]
            simp
            congr 1; omega
          · have hb2 : k * sz' + sz' ≤ row * sz' := by rw [← Nat.succ_mul]; exact Nat.mul_le_mul_right _ hgt
            rw [List.append_assoc, List.getElem?_append_left (by simp; omega), List.getElem?_take, if_pos (by omega)]
            simp
end
end Go.AW
