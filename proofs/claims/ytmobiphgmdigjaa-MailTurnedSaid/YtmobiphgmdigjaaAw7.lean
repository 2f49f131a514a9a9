import Derived.Test.YtmobiphgmdigjaaAw6
/- Soundness: addresses, indexes, stores, new variables. -/
set_option linter.unusedVariables false
set_option linter.unusedSimpArgs false
namespace Go.AW
open Go

section
variable {P : Program} {X : Xs} {W : Nat → Prop} {pl : Pl} {w : World} {m : Mem}

theorem sl_inv {tok : Option Nat} {sz : Nat} {rows : List (List T)} {v : Value} (h : VRel X pl w (.sl tok sz rows) v) :
    ∃ a cap, v = .slice a rows.length cap ∧ rows.length ≤ cap ∧ (∀ (i : Nat) (row : List T), rows[i]? = some row → row.length = sz ∧ ∃ b o, a = some ⟨b, o, none⟩ ∧
      ∀ (j : Nat) (t : T), row[j]? = some t → X b (o + i * sz + j) ∧ ∃ c, w.cell? ⟨b, o + i * sz + j, none⟩ = some c ∧ BRel X w t c ∧ c.oneCell' = true) ∧ ∀ id, tok = some id → TokOk pl sz rows v id := by
  cases h with
  | sl _ _ _ _ h ht =>
    cases h with
    | sl _ _ _ a cap cs h1 h2 h3 h4 =>
      refine ⟨a, cap, rfl, h1, ?_, ht⟩
      intro i row hrow
      obtain ⟨b, o, e, hj⟩ := h3 i row hrow
      refine ⟨h2 i row hrow, b, o, e, ?_⟩
      intro j t ht'
      have hjs : j < sz := by rw [← h2 i row hrow]; exact (List.getElem?_eq_some_iff.1 ht').1
      exact ⟨(hj j hjs).1, _, (hj j hjs).2.1, h4 i row j t hrow ht', (hj j hjs).2.2⟩

theorem indexAddrA_ok (hm : MRel X W pl w m) {t : TypeId} {a ix : T} {va vi : Value} (ha : VRel X pl w a va) (hi : VRel X pl w ix vi) (K : T → Prop)
    (h : indexAddrA P m t a ix K) : PureOk P X pl w (Instr.indexAt t va vi) K := by
  unfold indexAddrA at h
  split at h <;> try (exact h.elim)
  rename_i k i
  obtain rfl := hi.lit_inv
  split at h
  · rename_i len e hu
    split at h <;> try (exact h.elim)
    rename_i ei he
    obtain ⟨⟨h0, h1⟩, h⟩ := h
    have hrun : ∀ b o, (Instr.indexAt t (.pointer (some ⟨b, o, none⟩)) (.int k i)).run P w = .ok (.pointer (some ⟨b, o + i.toNat * ei.size, none⟩)) w := by
      intro b o
      simp only [Instr.indexAt, asIntOf, Sem.run_bind, Sem.run_pure, Result.andThen_ok, run_underlying hu, Instr.sureAddr]
      rw [if_pos ⟨h0, h1⟩]
      simp only [Sem.run_bind, run_sizeOfI he, Result.andThen_ok, Sem.run_pure, Addr.add_lit]
    split at h
    · cases ha with
      | ptr id row off b sz hp => exact .mk _ _ (hrun _ _) h (by rw [Nat.add_assoc]; exact .ptr _ _ _ b sz hp)
    · cases ha with
      | vp r off b o cs hc => exact .mk _ _ (hrun _ _) h (by rw [Nat.add_assoc]; exact .vp _ _ b o cs hc)
    · exact h.elim
  · rename_i e hu
    split at h <;> try (exact h.elim)
    rename_i ei he
    have hrun : ∀ b o len cap, (0 ≤ i ∧ i < (len : Nat)) → (Instr.indexAt t (.slice (some ⟨b, o, none⟩) len cap) (.int k i)).run P w = .ok (.pointer (some ⟨b, o + i.toNat * ei.size, none⟩)) w := by
      intro b o len cap hb
      simp only [Instr.indexAt, asIntOf, Sem.run_bind, Sem.run_pure, Result.andThen_ok, run_underlying hu]
      rw [if_pos hb]
      simp only [Sem.run_bind, run_sizeOfI he, Result.andThen_ok, Sem.run_pure, Addr.add_lit]
    split at h
    · rename_i tok sz rows
      obtain ⟨hs, h0, h2⟩ := chk_elim h
      obtain rfl : sz = ei.size := Nat.eq_of_beq_eq_true hs
      obtain ⟨r, hr, h3⟩ := nthK_elim h2
      obtain ⟨ad, cap, rfl, hcap, hrows, _⟩ := sl_inv ha
      obtain ⟨hrl, b, o, rfl, hc⟩ := hrows _ r hr
      have hlt : i.toNat < rows.length := (List.getElem?_eq_some_iff.1 hr).1
      refine .mk _ _ (hrun b o rows.length cap ⟨h0, by omega⟩) h3 ?_
      have := VRel.vp (X := X) (pl := pl) (w := w) r 0 b (o + i.toNat * ei.size) (fun j => (w.cell? ⟨b, o + i.toNat * ei.size + j, none⟩).getD undef) (by
        intro j t ht
        obtain ⟨h1, c, h2, h3, _⟩ := hc j t ht
        exact ⟨h1, by rw [h2]; rfl, by rw [h2]; exact h3⟩)
      simpa using this
    · rename_i id lo len
      split at h <;> try (exact h.elim)
      rename_i sz rows hg
      obtain ⟨hs, hb, h2⟩ := chk_elim h
      obtain rfl : sz = ei.size := Nat.eq_of_beq_eq_true hs
      cases ha with
      | srefn _ hp => omega
      | srefz => omega
      | sref _ _ _ b sz' cap hp hl hr =>
        replace hp := own_pl hm hg hp
        obtain ⟨rfl, _⟩ := own_get hm hg hp
        refine .mk _ _ (hrun b (lo * ei.size) len cap hb) h2 ?_
        have := VRel.ptr (X := X) (pl := pl) (w := w) id (lo + i.toNat) 0 b ei.size (.inl hp)
        rw [Nat.add_mul] at this
        simpa using this
    · exact h.elim
  · exact h.elim

theorem indexA_ok {t : TypeId} {a ix : T} {va vi : Value} (ha : VRel X pl w a va) (hi : VRel X pl w ix vi) (K : T → Prop)
    (h : indexA P t a ix K) : PureOk P X pl w (Instr.index t va vi) K := by
  unfold indexA at h
  split at h <;> try (exact h.elim)
  rename_i k i
  obtain rfl := hi.lit_inv
  split at h
  · rename_i len e cs hu
    split at h <;> try (exact h.elim)
    rename_i ei he
    obtain ⟨hb, h⟩ := h
    obtain ⟨vs, rfl, hl, hh⟩ := ha.agg_inv
    obtain ⟨v, t', hr, hK, hv⟩ := part_ok hl hh K h
    refine .mk v t' ?_ hK hv
    simp only [Instr.index, asIntOf, Sem.run_bind, Sem.run_pure, Result.andThen_ok, run_underlying hu]
    rw [if_pos hb]
    simp only [Sem.run_bind, run_sizeOfI he, Result.andThen_ok, hr]
  · rename_i s hu
    obtain ⟨h0, b, hb, h⟩ := h
    obtain rfl := ha.lit_inv
    refine .mk _ _ ?_ h (.lit _)
    have hsb : s[i.toNat]? = some b := by
      have hlt : i.toNat < s.data.size := by simpa using (List.getElem?_eq_some_iff.1 hb).1
      have hlt' : i.toNat < s.size := hlt
      rw [getElem?_pos s i.toNat hlt']
      have := (List.getElem?_eq_some_iff.1 hb).2
      simp at this
      rw [← this]; rfl
    simp only [Instr.index, asIntOf, Sem.run_bind, Sem.run_pure, Result.andThen_ok, run_underlying hu, if_pos h0, hsb]
  · exact h.elim

theorem extractA_ok {a : T} {va : Value} {i : Nat} (ha : VRel X pl w a va) (K : T → Prop) (h : extractA a i K) : PureOk P X pl w (Instr.extract va i) K := by
  unfold extractA at h
  split at h <;> try (exact h.elim)
  rename_i ts
  obtain ⟨x, hx, h⟩ := nthK_elim h
  rw [forceT_eq] at h
  cases ha with
  | tup _ vs hl hh =>
    have ho : i < vs.length := by rw [← hl]; exact (List.getElem?_eq_some_iff.1 hx).1
    refine .mk vs[i] _ ?_ h (hh i x _ hx (by simp [ho]))
    simp [Instr.extract, ho]

theorem isNilSl_eq {v : Value} (h : isNilSl v = true) : v = .slice none 0 0 := by
  unfold isNilSl at h; split at h <;> simp_all

theorem lenA_ok {t : TypeId} {a : T} {va : Value} (ts : Array TypeId) (ty : TypeId) (hts : ts[0]? = some t) (ha : VRel X pl w a va) (K : T → Prop) (h : lenA P t a K) :
    PureOk P X pl w (Builtin.len_ ts ty #[va]) K := by
  unfold lenA at h
  split at h
  · rename_i hu
    split at h <;> try (exact h.elim)
    obtain rfl := ha.lit_inv
    exact .mk _ _ (by simp [Builtin.len_, hts, run_underlying hu, goInt]) h (.lit _)
  · rename_i hu
    split at h
    · obtain ⟨ad, cap, rfl, _⟩ := sl_inv ha
      exact .mk _ _ (by simp [Builtin.len_, hts, run_underlying hu, goInt]) h (.lit _)
    · cases ha with
      | srefn => exact .mk _ _ (by simp [Builtin.len_, hts, run_underlying hu, goInt]) h (.lit _)
      | sref => exact .mk _ _ (by simp [Builtin.len_, hts, run_underlying hu, goInt]) h (.lit _)
      | srefz => exact .mk _ _ (by simp [Builtin.len_, hts, run_underlying hu, goInt]) h (.lit _)
    · split at h <;> try (exact h.elim)
      rename_i hn
      obtain rfl := isNilSl_eq hn
      obtain rfl := ha.lit_inv
      exact .mk _ _ (by simp [Builtin.len_, hts, run_underlying hu, goInt]) h (.lit _)
    · exact h.elim
  · rename_i hu
    exact .mk _ _ (by simp [Builtin.len_, hts, run_underlying hu, goInt]) h (.lit _)
  · exact h.elim

theorem mmA_ok (mx : Bool) (tA : Array TypeId) (ty : TypeId) (l : List T) (vs : List Value) (hl : l.length = vs.length) (hh : ∀ (i : Nat) (t : T) (v : Value), l[i]? = some t → vs[i]? = some v → VRel X pl w t v)
    (K : T → Prop) (h : mmA mx l K) : PureOk P X pl w (match mx with | true => Builtin.max_ tA ty vs.toArray | false => Builtin.min_ tA ty vs.toArray) K := by
  unfold mmA at h
  split at h
  · match vs, hl with
    | [v1, v2], _ =>
      obtain rfl := (hh 0 _ _ rfl rfl).lit_inv
      obtain rfl := (hh 1 _ _ rfl rfl).lit_inv
      cases mx <;> simp only at h <;> exact .mk _ _ (by simp [Builtin.max_, Builtin.min_, Builtin.max2, Builtin.min2, mxI, mnI] <;> (first | rfl | congr)) h (.lit _)
  · match vs, hl with
    | [v1, v2, v3], _ =>
      obtain rfl := (hh 0 _ _ rfl rfl).lit_inv
      obtain rfl := (hh 1 _ _ rfl rfl).lit_inv
      obtain rfl := (hh 2 _ _ rfl rfl).lit_inv
      cases mx <;> simp only at h <;> exact .mk _ _ (by simp [Builtin.max_, Builtin.min_, Builtin.max2, Builtin.min2, mxI, mnI] <;> (first | rfl | congr)) h (.lit _)
  · match vs, hl with
    | [v1, v2, v3, v4], _ =>
      obtain rfl := (hh 0 _ _ rfl rfl).lit_inv
      obtain rfl := (hh 1 _ _ rfl rfl).lit_inv
      obtain rfl := (hh 2 _ _ rfl rfl).lit_inv
      obtain rfl := (hh 3 _ _ rfl rfl).lit_inv
      cases mx
      · exact .mk _ _ (by simp [Builtin.max_, Builtin.min_, Builtin.max2, Builtin.min2, mxI, mnI] <;> (first | rfl | congr)) h (.lit _)
      · exact h.elim
  · exact h.elim

/-- An operation with effect. -/
def OpOk (P : Program) (X : Xs) (W : Nat → Prop) (pl : Pl) (w : World) (id : Option Nat) (f : Sem Value) (K : T → Mem → Prop) : Prop :=
  ∃ v t m' w', f.run P w = .ok v w' ∧ K t m' ∧ StepOk X W pl w id m' t v w'

theorem PureOk.op (hm : MRel X W pl w m) (id : Option Nat) {f : Sem Value} {K : T → Mem → Prop} (h : PureOk P X pl w f fun t => K t m) : OpOk P X W pl w id f K := by
  obtain ⟨v, t, hr, hK, hv⟩ := h
  exact ⟨v, t, m, w, hr, hK, .same hm id hv⟩

theorem getElem?_lit_cells (z : Value) (j : Nat) (t : T) (h : (z.cells.toList.map T.lit)[j]? = some t) : ∃ u, z.cells[j]? = some u ∧ t = .lit u := by
  simp only [List.getElem?_map] at h
  cases e : z.cells.toList[j]? with
  | none => simp [e] at h
  | some u => simp [e] at h; exact ⟨u, by simpa using e, h.symm⟩

theorem allocA_ok (hm : MRel X W pl w m) {id : Nat} (hid : pl id = none) (hW : ∀ b, w.heap.size ≤ b → W b) {t : TypeId} (K : T → Mem → Prop) (h : allocA P m id t K) :
    OpOk P X W pl w (some id) (Instr.alloc t true (.tuple #[])) K := by
  unfold allocA at h
  split at h <;> try (exact h.elim)
  rename_i i hi
  split at h <;> try (exact h.elim)
  rename_i z hz
  obtain ⟨hs, h⟩ := chk_elim h
  rw [memF_eq] at h
  have hs' : z.cells.size = i.size := Nat.eq_of_beq_eq_true hs
  refine ⟨.pointer (some ⟨w.heap.size, 0, none⟩), _, _, w.alloc (.cells z.cells t), ?_, h, ?_⟩
  · simp [Instr.alloc, zeroValue, typeInfo, hi, hz, newVar, newRow]
  · refine StepOk.own hm hid hW z.cells t i.size _ (by simp [hs']) ?_ ?_
    · intro k row hrow
      cases k with
      | zero =>
        simp at hrow; subst hrow
        refine ⟨by simp [hs'], fun j x hx => ?_⟩
        obtain ⟨u, hu, rfl⟩ := getElem?_lit_cells z j x hx
        exact ⟨u, by simpa using hu, .lit u⟩
      | succ k => simp at hrow
    · have := VRel.ptr (X := X) (pl := upd pl id (.own w.heap.size i.size)) (w := w.alloc (.cells z.cells t)) id 0 0 w.heap.size i.size (.inl (upd_same _ _ _))
      simpa using this

theorem boxA_ok (hm : MRel X W pl w m) {id : Nat} (hid : pl id = none) (hW : ∀ b, w.heap.size ≤ b → W b) {t : TypeId} {x : T} {vx : Value} (hx : VRel X pl w x vx) (K : T → Mem → Prop)
    (h : boxA P m id t x K) : OpOk P X W pl w (some id) (Instr.box t vx) K := by
  unfold boxA at h
  split at h <;> try (exact h.elim)
  rename_i i hi
  obtain ⟨hs, h⟩ := chk_elim h
  obtain ⟨hc, h⟩ := chk_elim h
  rw [memF_eq] at h
  have hs' : (cellsT x).length = i.size := Nat.eq_of_beq_eq_true hs
  obtain ⟨hl, h1, hh⟩ := cells_rel hx hc
  refine ⟨.pointer (some ⟨w.heap.size, 0, none⟩), _, _, w.alloc (.cells vx.cells t), ?_, h, ?_⟩
  · simp [Instr.box, newVar, newRow]
  · refine StepOk.own hm hid hW vx.cells t i.size _ (by simp; omega) ?_ ?_
    · intro k row hrow
      cases k with
      | zero =>
        simp at hrow; subst hrow
        refine ⟨hs', fun j y hy => ?_⟩
        obtain ⟨u, hu, hv⟩ := hh j y hy
        exact ⟨u, by simpa using hu, hv⟩
      | succ k => simp at hrow
    · have := VRel.ptr (X := X) (pl := upd pl id (.own w.heap.size i.size)) (w := w.alloc (.cells vx.cells t)) id 0 0 w.heap.size i.size (.inl (upd_same _ _ _))
      simpa using this

end
end Go.AW
