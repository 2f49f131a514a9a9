import Derived.Test.YtmobiphgmdigjaaAw5
/- Soundness of the operations on memory. -/
set_option linter.unusedVariables false
set_option linter.unusedSimpArgs false
namespace Go.AW
open Go

section
variable {P : Program} {X : Xs} {W : Nat → Prop} {pl : Pl} {w : World} {m : Mem}

theorem own_get (hm : MRel X W pl w m) {id sz sz' b : Nat} {rows : List (List T)} (hg : m.get id = some (.own sz rows)) (hp : pl id = some (.own b sz')) :
    sz' = sz ∧ ∃ cs e fr, w.heap[b]? = some (.cells cs e fr) ∧ unfrozen w b cs.size ∧ rows.length * sz ≤ cs.size ∧
      ∀ (i : Nat) (row : List T), rows[i]? = some row → row.length = sz ∧ ∀ (j : Nat) (t : T), row[j]? = some t → ∃ v, cs[i * sz + j]? = some v ∧ VRel X pl w t v := by
  obtain ⟨l, hl, hb⟩ := hm.blk id _ hg
  rw [hp] at hl
  obtain rfl := Option.some.inj hl
  rcases hb with ⟨h, _⟩ | ⟨b2, h, rest⟩
  · cases h
  · injection h with h1 h2
    subst h1 h2
    exact ⟨rfl, rest⟩

theorem own_pl (hm : MRel X W pl w m) {id sz sz' b : Nat} {rows : List (List T)} (hg : m.get id = some (.own sz rows)) (hp : pl id = some (.own b sz') ∨ pl id = some .gone) : pl id = some (.own b sz') := by
  rcases hp with h | h
  · exact h
  · obtain ⟨l, hl, hb⟩ := hm.blk id _ hg
    rw [h] at hl
    obtain rfl := Option.some.inj hl
    rcases hb with ⟨h, _⟩ | ⟨_, h, _⟩ <;> cases h
theorem run_isAggD {t : TypeId} {d : TypeDesc} (hd : P.underlying t = some d) : (isAgg t).run P w = .ok (isAggD d) w := by
  unfold isAgg
  simp only [Sem.run_bind, run_underlying hd, Result.andThen_ok]
  cases d <;> rfl

theorem run_sizeOfI {t : TypeId} {i : TypeInfo} (hi : P.info? t = some i) : (sizeOf t).run P w = .ok i.size w := by
  simp [sizeOf, typeInfo, hi]

theorem run_loadVar_agg {t : TypeId} {d : TypeDesc} {i : TypeInfo} (hd : P.underlying t = some d) (hi : P.info? t = some i) (ha : isAggD d = true) (b o : Nat) (vs : List Value)
    (hl : vs.length = i.size) (h : ∀ (j : Nat) (v : Value), vs[j]? = some v → w.cell? ⟨b, o + j, none⟩ = some v) : (loadVar t ⟨b, o, none⟩).run P w = .ok (.agg vs.toArray) w := by
  unfold loadVar
  simp only [Sem.run_bind, run_isAggD hd, Result.andThen_ok, ha, if_true, run_sizeOfI hi]
  rw [← hl, run_loadCells_list w ⟨b, o, none⟩ vs (fun j v hj => by rw [Addr.add_lit]; exact h j v hj)]
  simp

theorem run_loadVar_one {t : TypeId} {d : TypeDesc} (hd : P.underlying t = some d) (ha : isAggD d = false) (b o : Nat) (v : Value)
    (h : w.cell? ⟨b, o, none⟩ = some v) : (loadVar t ⟨b, o, none⟩).run P w = .ok v w := by
  unfold loadVar
  simp only [Sem.run_bind, run_isAggD hd, Result.andThen_ok, ha, Bool.false_eq_true, if_false, run_load, h]

/-- Cells one by one give a list of them. -/
theorem cells_list (n b o : Nat) (R : Nat → Value → Prop) (h : ∀ j, j < n → ∃ v, w.cell? ⟨b, o + j, none⟩ = some v ∧ R j v) :
    ∃ vs : List Value, vs.length = n ∧ (∀ (j : Nat) (v : Value), vs[j]? = some v → w.cell? ⟨b, o + j, none⟩ = some v) ∧ ∀ (j : Nat) (v : Value), vs[j]? = some v → R j v := by
  refine ⟨(List.range n).map fun j => (w.cell? ⟨b, o + j, none⟩).getD undef, by simp, ?_, ?_⟩
  · intro j v hv
    simp only [List.getElem?_map] at hv
    cases hj : (List.range n)[j]? with
    | none => simp [hj] at hv
    | some k =>
      have hjn : j < n := by simpa using (List.getElem?_eq_some_iff.1 hj).1
      have hk : k = j := by simpa [hjn] using hj.symm
      subst hk
      obtain ⟨u, hu, _⟩ := h k hjn
      simp [hj, hu] at hv
      rw [hu, hv]
  · intro j v hv
    simp only [List.getElem?_map] at hv
    cases hj : (List.range n)[j]? with
    | none => simp [hj] at hv
    | some k =>
      have hjn : j < n := by simpa using (List.getElem?_eq_some_iff.1 hj).1
      have hk : k = j := by simpa [hjn] using hj.symm
      subst hk
      obtain ⟨u, hu, hR⟩ := h k hjn
      simp [hj, hu] at hv
      rw [← hv]; exact hR

theorem loadA_ok (hm : MRel X W pl w m) {t : TypeId} {a : T} {va : Value} (ha : VRel X pl w a va) (K : T → Prop) (h : loadA P m t a K) : PureOk P X pl w (Instr.loadAt t va) K := by
  unfold loadA at h
  split at h <;> try (exact h.elim)
  rename_i d i hd hi
  split at h
  · rename_i id row off
    cases ha with
    | ptr _ _ _ b sz' hp =>
      split at h <;> try (exact h.elim)
      rename_i sz rows hg
      replace hp := own_pl hm hg hp
      obtain ⟨rfl, cs, e, fr, hh, hu, hlen, hr⟩ := own_get hm hg hp
      obtain ⟨r, hrow, h⟩ := nthK_elim h
      obtain ⟨hrl, hrc⟩ := hr row r hrow
      have hcell : ∀ (j : Nat) (x : T), r[j]? = some x → ∃ v, w.cell? ⟨b, row * sz' + j, none⟩ = some v ∧ VRel X pl w x v := by
        intro j x hx
        obtain ⟨v, hv, hvr⟩ := hrc j x hx
        exact ⟨v, by rw [cell_of_row w b _ cs e fr hh]; exact hv, hvr⟩
      cases hagg : isAggD d with
      | true =>
        simp only [hagg] at h
        obtain ⟨hle, h⟩ := chk_elim h
        have hle' : off + i.size ≤ r.length := Nat.le_of_ble_eq_true hle
        obtain ⟨vs, hvl, hv1, hv2⟩ := cells_list (w := w) i.size b (row * sz' + off) (fun j v => ∀ x, ((r.drop off).take i.size)[j]? = some x → VRel X pl w x v) (by
          intro j hj
          have hjr : off + j < r.length := by omega
          obtain ⟨v, hv, hvr⟩ := hcell (off + j) r[off + j] (by simp [hjr])
          refine ⟨v, by rw [Nat.add_assoc]; exact hv, fun x hx => ?_⟩
          simp [hj, hjr] at hx
          rw [← hx]; exact hvr)
        refine .mk (.agg vs.toArray) _ ?_ h (.agg _ vs ?_ fun j x v hx hv => hv2 j v hv x hx)
        · simp only [Instr.loadAt, Instr.sureAddr, Sem.run_bind, Sem.run_pure, Result.andThen_ok]
          exact run_loadVar_agg hd hi hagg b _ vs hvl hv1
        · simp [hvl]; omega
      | false =>
        simp only [hagg] at h
        obtain ⟨x, hx, h⟩ := nthK_elim h
        rw [forceT_eq] at h
        obtain ⟨v, hv, hvr⟩ := hcell off x hx
        refine .mk v _ ?_ h hvr
        simp only [Instr.loadAt, Instr.sureAddr, Sem.run_bind, Sem.run_pure, Result.andThen_ok]
        exact run_loadVar_one hd hagg b _ v hv
  · rename_i r off
    cases ha with
    | vp _ _ b o cs hc =>
      cases hagg : isAggD d with
      | true =>
        simp only [hagg] at h
        obtain ⟨hle, h⟩ := chk_elim h
        have hle' : off + i.size ≤ r.length := Nat.le_of_ble_eq_true hle
        obtain ⟨vs, hvl, hv1, hv2⟩ := cells_list (w := w) i.size b (o + off) (fun j v => ∀ x, (((r.drop off).take i.size).map untok)[j]? = some x → VRel X pl w x v) (by
          intro j hj
          have hjr : off + j < r.length := by omega
          obtain ⟨_, hv, hvr⟩ := hc (off + j) r[off + j] (by simp [hjr])
          refine ⟨_, by rw [Nat.add_assoc]; exact hv, fun x hx => ?_⟩
          simp [hj, hjr] at hx
          rw [← hx]; exact hvr.vrel)
        refine .mk (.agg vs.toArray) _ ?_ h (.agg _ vs ?_ fun j x v hx hv => hv2 j v hv x hx)
        · simp only [Instr.loadAt, Instr.sureAddr, Sem.run_bind, Sem.run_pure, Result.andThen_ok]
          exact run_loadVar_agg hd hi hagg b _ vs hvl hv1
        · simp [hvl]; omega
      | false =>
        simp only [hagg] at h
        obtain ⟨x, hx, h⟩ := nthK_elim h
        rw [forceT_eq] at h
        obtain ⟨_, hv, hvr⟩ := hc off x hx
        refine .mk _ _ ?_ h hvr.vrel
        simp only [Instr.loadAt, Instr.sureAddr, Sem.run_bind, Sem.run_pure, Result.andThen_ok]
        exact run_loadVar_one hd hagg b _ _ hv
  · exact h.elim

theorem part_ok {t : TypeId} {cs : List T} {off : Nat} {vs : List Value} (hl : cs.length = vs.length)
    (hh : ∀ (i : Nat) (t : T) (v : Value), cs[i]? = some t → vs[i]? = some v → VRel X pl w t v) (K : T → Prop) (h : partA P t cs off K) :
    PureOk P X pl w (part t vs.toArray off) K := by
  unfold partA at h
  split at h <;> try (exact h.elim)
  rename_i d i hd hi
  cases hagg : isAggD d with
  | true =>
    simp only [hagg] at h
    obtain ⟨hle, h⟩ := chk_elim h
    have hle' : off + i.size ≤ cs.length := Nat.le_of_ble_eq_true hle
    refine .mk (.agg (vs.toArray.extract off (off + i.size))) _ ?_ h ?_
    · unfold part
      simp only [Sem.run_bind, run_isAggD hd, Result.andThen_ok, hagg, if_true, run_sizeOfI hi, Sem.run_pure]
    · have e : vs.toArray.extract off (off + i.size) = ((vs.drop off).take i.size).toArray := by
        apply Array.ext'
        simp [List.extract_eq_take_drop]
      rw [e]
      refine .agg _ _ (by simp; omega) ?_
      intro j x v hx hv
      simp only [List.getElem?_take, List.getElem?_drop] at hx hv
      split at hx <;> simp_all
      exact hh _ x v hx hv
  | false =>
    simp only [hagg] at h
    obtain ⟨x, hx, h⟩ := nthK_elim h
    rw [forceT_eq] at h
    have ho : off < vs.length := by rw [← hl]; exact (List.getElem?_eq_some_iff.1 hx).1
    refine .mk vs[off] _ ?_ h (hh off x _ hx (by simp [ho]))
    unfold part
    simp only [Sem.run_bind, run_isAggD hd, Result.andThen_ok, hagg, Bool.false_eq_true, if_false]
    simp [ho]

theorem fieldA_ok {t : TypeId} {a : T} {va : Value} {f : Nat} (ha : VRel X pl w a va) (K : T → Prop) (h : fieldA P t a f K) : PureOk P X pl w (Instr.field t va f) K := by
  unfold fieldA at h
  split at h <;> try (exact h.elim)
  rename_i fs hu
  split at h <;> try (exact h.elim)
  rename_i fd hf
  split at h <;> try (exact h.elim)
  obtain ⟨vs, rfl, hl, hh⟩ := ha.agg_inv
  obtain ⟨v, t', hr, hK, hv⟩ := part_ok hl hh K h
  refine .mk v t' ?_ hK hv
  simp only [Instr.field, Sem.run_bind, run_underlying hu, Result.andThen_ok, hf, asAgg, Sem.run_pure, hr]

theorem fieldAddrA_ok {t : TypeId} {a : T} {va : Value} {f : Nat} (ha : VRel X pl w a va) (K : T → Prop) (h : fieldAddrA P t a f K) : PureOk P X pl w (Instr.fieldAt t va f) K := by
  unfold fieldAddrA at h
  split at h <;> try (exact h.elim)
  rename_i fs hu
  split at h <;> try (exact h.elim)
  rename_i fd hf
  split at h <;> try (exact h.elim)
  rename_i i hi
  cases h0 : Nat.beq i.size 0 with
  | true => simp [h0] at h
  | false =>
    simp only [h0] at h
    have h0' : i.size ≠ 0 := fun e => by rw [e] at h0; exact absurd h0 (by decide)
    have hrun : ∀ b o, (Instr.fieldAt t (.pointer (some ⟨b, o, none⟩)) f).run P w = .ok (.pointer (some ⟨b, o + fd.offset, none⟩)) w := by
      intro b o
      simp only [Instr.fieldAt, Sem.run_bind, run_underlying hu, Result.andThen_ok, hf, Instr.sureAddr, Sem.run_pure, fieldPlace, run_sizeOfI hi, if_neg h0', Addr.add_lit]
    split at h
    · cases ha with
      | ptr id row off b sz hp => exact .mk _ _ (hrun _ _) h (by rw [Nat.add_assoc]; exact .ptr _ _ _ b sz hp)
    · cases ha with
      | vp r off b o cs hc => exact .mk _ _ (hrun _ _) h (by rw [Nat.add_assoc]; exact .vp _ _ b o cs hc)
    · exact h.elim

end
end Go.AW
