import Derived.Test.YtmobiphgmdigjaaAw14
/- Soundness: cuts, conversions. -/
set_option linter.unusedVariables false
set_option linter.unusedSimpArgs false
namespace Go.AW
open Go

section
variable {P : Program} {X X' : Xs} {W : Nat → Prop} {pl : Pl} {w w' : World} {m : Mem}

theorem bound_none {v : Option Value} (h : BoundOk X pl w none v) : v = none := by
  rcases h with ⟨_, e⟩ | ⟨_, _, e, _⟩
  · exact e
  · cases e
theorem bound_some {v : Option Value} {k : IntKind} {n : Int} (h : BoundOk X pl w (some (.lit (.int k n))) v) : v = some (.int k n) := by
  rcases h with ⟨e, _⟩ | ⟨t, u, e, e5, hv⟩
  · cases e
  · injection e with e; subst e; rw [e5, hv.lit_inv]

theorem run_sliceBounds3 {lo hi mx : Option T} {vlo vhi vmx : Option Value} (len cap : Nat) (hlo : BoundOk X pl w lo vlo) (hhi : BoundOk X pl w hi vhi) (hmx : BoundOk X pl w mx vmx) (hcap : len ≤ cap) (hs : mx.isSome = true) {K : Nat → Nat → Nat → Prop}
    (h : optI mx 0 fun mm => optI hi 0 fun hh => optI lo 0 fun l => (hi.isSome = true ∧ l ≤ hh ∧ hh ≤ mm ∧ mm ≤ len) ∧ K l hh mm) :
    ∃ l hh mm, (Instr.sliceBounds true len cap vlo vhi vmx).run P w = .ok (l, hh, mm) w ∧ l ≤ hh ∧ hh ≤ mm ∧ mm ≤ len ∧ K l hh mm := by
  cases optI_elim h with
  | inl e => rw [e.1] at hs; cases hs
  | inr e =>
    obtain ⟨k, n, e, hn, h1⟩ := e
    subst e
    obtain rfl := bound_some hmx
    cases optI_elim h1 with
    | inl e =>
      exfalso
      obtain ⟨e, h2⟩ := e
      subst e
      cases optI_elim h2 with
      | inl e => simp at e
      | inr e => obtain ⟨_, _, _, _, h3⟩ := e; simp at h3
    | inr e =>
      obtain ⟨k2, n2, e, hn2, h2⟩ := e
      subst e
      obtain rfl := bound_some hhi
      cases optI_elim h2 with
      | inl e =>
        obtain ⟨e, h3⟩ := e
        subst e
        obtain rfl := bound_none hlo
        obtain ⟨⟨_, a1, a2, a3⟩, hK⟩ := h3
        refine ⟨0, n2.toNat, n.toNat, ?_, a1, a2, a3, hK⟩
        have b1 := fun code => run_sliceBound (P := P) (w := w) (k := k) (n := n) cap code hn (by omega)
        have b2 := fun code => run_sliceBound (P := P) (w := w) (k := k2) (n := n2) n.toNat code hn2 a2
        simp [Instr.sliceBounds, b1, b2]
      | inr e =>
        obtain ⟨k3, n3, e, hn3, h3⟩ := e
        subst e
        obtain rfl := bound_some hlo
        obtain ⟨⟨_, a1, a2, a3⟩, hK⟩ := h3
        refine ⟨n3.toNat, n2.toNat, n.toNat, ?_, a1, a2, a3, hK⟩
        have b1 := fun code => run_sliceBound (P := P) (w := w) (k := k) (n := n) cap code hn (by omega)
        have b2 := fun code => run_sliceBound (P := P) (w := w) (k := k2) (n := n2) n.toNat code hn2 a2
        have b3 := fun code => run_sliceBound (P := P) (w := w) (k := k3) (n := n3) n2.toNat code hn3 a1
        simp [Instr.sliceBounds, b1, b2, b3]

/-- A cut of what is read. -/
theorem cut_rel {sz : Nat} {rows : List (List T)} {a : Option Addr} {cap l hh mm : Nat} (hcap : rows.length ≤ cap)
    (hrows : ∀ (i : Nat) (row : List T), rows[i]? = some row → row.length = sz ∧ ∃ b o, a = some ⟨b, o, none⟩ ∧
      ∀ (j : Nat) (t : T), row[j]? = some t → X b (o + i * sz + j) ∧ ∃ c, w.cell? ⟨b, o + i * sz + j, none⟩ = some c ∧ BRel X w t c ∧ c.oneCell' = true)
    (h1 : l ≤ hh) (h2 : hh ≤ rows.length) (h3 : hh ≤ mm) :
    VRel X pl w (.sl none sz ((rows.drop l).take (hh - l))) (.slice (if mm = l then a else a.map (·.add (l * sz))) (hh - l) (mm - l)) := by
  have hlen : ((rows.drop l).take (hh - l)).length = hh - l := by simp; omega
  have hb := BRel.sl (X := X) (w := w) none sz ((rows.drop l).take (hh - l)) (if mm = l then a else a.map (·.add (l * sz))) (mm - l)
    (fun i j => match a with | some ad => (w.cell? ⟨ad.block, ad.off + (l + i) * sz + j, none⟩).getD undef | none => undef) (by rw [hlen]; omega) ?_ ?_ ?_
  · rw [hlen] at hb
    exact .sl _ _ _ _ hb (by simp)
  · intro i row h
    rw [List.getElem?_take] at h
    split at h
    · rw [List.getElem?_drop] at h; exact (hrows _ row h).1
    · cases h
  · intro i row h
    rw [List.getElem?_take] at h
    split at h
    · rename_i hi
      rw [List.getElem?_drop] at h
      obtain ⟨hrl, b, o, rfl, hc⟩ := hrows _ row h
      refine ⟨b, o + l * sz, ?_, fun j hj => ?_⟩
      · rw [if_neg (by omega)]; simp [Addr.add_lit]
      · obtain ⟨hx, c, hc2, _, ho⟩ := hc j row[j] (by simp [hrl, hj])
        have e : o + l * sz + i * sz + j = o + (l + i) * sz + j := by rw [Nat.add_mul]; omega
        rw [e]
        refine ⟨hx, ?_, ?_⟩
        · simp [hc2]
        · simp [hc2, ho]
    · cases h
  · intro i row j t h ht
    rw [List.getElem?_take] at h
    split at h
    · rw [List.getElem?_drop] at h
      obtain ⟨hrl, b, o, rfl, hc⟩ := hrows _ row h
      obtain ⟨hx, c, hc2, hb, ho⟩ := hc j t ht
      simp [hc2]; exact hb
    · cases h

theorem sliceA_ok (hm : MRel X W pl w m) {t : TypeId} {x : T} {vx : Value} {lo hi mx : Option T} {vlo vhi vmx : Option Value} (hx : VRel X pl w x vx)
    (hlo : BoundOk X pl w lo vlo) (hhi : BoundOk X pl w hi vhi) (hmx : BoundOk X pl w mx vmx) (K : T → Prop) (h : sliceA P m t x lo hi mx K) : PureOk P X pl w (Instr.sliceAt t vx vlo vhi vmx) K := by
  unfold sliceA at h
  split at h
  · rename_i hu
    split at h <;> try (exact h.elim)
    obtain rfl := hx.lit_inv
    obtain rfl := bound_none hmx
    obtain ⟨l, hh, hr, h1, h2, hK⟩ := run_sliceBounds (P := P) false _ _ hlo hhi (Nat.le_refl _) h
    exact .mk _ _ (by simp [Instr.sliceAt, Instr.slice, run_underlying hu, hr]) hK (.lit _)
  · rename_i e hu
    split at h <;> try (exact h.elim)
    rename_i i hi2
    split at h
    · rename_i tok sz rows
      obtain ⟨ad, cap, rfl, hcap, hrows, _⟩ := sl_inv hx
      split at h
      · obtain rfl := bound_none hmx
        have hsz : sz = i.size := Nat.eq_of_beq_eq_true (chk_elim h).1
        have h2 := (chk_elim h).2
        obtain ⟨l, hh, hr, h3, h4, hK⟩ := run_sliceBounds (P := P) true _ cap hlo hhi hcap h2
        refine .mk _ _ ?_ hK (cut_rel (mm := cap) hcap hrows h3 h4 (by omega))
        simp only [Instr.sliceAt, Instr.slice, Sem.run_bind, run_underlying hu, Result.andThen_ok, hr, run_sizeOfI hi2, hsz, Sem.run_pure]
      · rename_i t1
        have hsz : sz = i.size := Nat.eq_of_beq_eq_true (chk_elim h).1
        have h2 := (chk_elim h).2
        obtain ⟨l, hh, mm, hr, h3, h4, h5, hK⟩ := run_sliceBounds3 (P := P) _ cap hlo hhi hmx hcap rfl h2
        refine .mk _ _ ?_ hK (cut_rel (mm := mm) hcap hrows h3 (by omega) h4)
        simp only [Instr.sliceAt, Instr.slice, Sem.run_bind, run_underlying hu, Result.andThen_ok, hr, run_sizeOfI hi2, hsz, Sem.run_pure]
    · rename_i id b len
      split at h <;> try (exact h.elim)
      rename_i sz rows hg
      obtain rfl := bound_none hmx
      have hsz : sz = i.size := Nat.eq_of_beq_eq_true (chk_elim h).1
      have h2 := (chk_elim h).2
      cases hx with
      | srefn _ hp =>
        obtain ⟨l, hh, hr, h3, h4, hK⟩ := run_sliceBounds (P := P) true 0 0 hlo hhi (Nat.le_refl _) h2
        have hl : l = 0 := by omega
        have hhh : hh = 0 := by omega
        subst hl hhh
        refine .mk (.slice none 0 0) _ ?_ hK (.srefn _ hp)
        simp only [Instr.sliceAt, Instr.slice, Sem.run_bind, run_underlying hu, Result.andThen_ok, hr, run_sizeOfI hi2, Sem.run_pure]
        rfl
      | srefz _ _ bb sz' a hp =>
        obtain ⟨l, hh, hr, h3, h4, hK⟩ := run_sliceBounds (P := P) true 0 0 hlo hhi (Nat.le_refl _) h2
        have hl : l = 0 := by omega
        have hhh : hh = 0 := by omega
        subst hl hhh
        refine .mk (.slice a 0 0) _ ?_ hK (.srefz _ _ bb sz' a hp)
        simp only [Instr.sliceAt, Instr.slice, Sem.run_bind, run_underlying hu, Result.andThen_ok, hr, run_sizeOfI hi2, Sem.run_pure]
        rfl
      | sref _ _ _ bb sz' cap hp hl2 hroom =>
        have hp0 := own_pl hm hg hp
        obtain ⟨rfl, _⟩ := own_get hm hg hp0
        obtain ⟨l, hh, hr, h3, h4, hK⟩ := run_sliceBounds (P := P) true len cap hlo hhi hl2 h2
        by_cases he : cap = l
        · have e1 : hh = l := by omega
          subst e1
          refine .mk (.slice (some ⟨bb, b * sz', none⟩) (hh - hh) (cap - hh)) _ ?_ hK ?_
          · simp only [Instr.sliceAt, Instr.slice, Sem.run_bind, run_underlying hu, Result.andThen_ok, hr, run_sizeOfI hi2, Sem.run_pure, if_pos he]
          · have e2 : hh - hh = 0 := by omega
            have e3 : cap - hh = 0 := by omega
            rw [e2, e3]
            exact .srefz _ _ bb sz' _ hp
        · refine .mk (.slice (some ⟨bb, (b + l) * sz', none⟩) (hh - l) (cap - l)) _ ?_ hK (.sref _ _ _ bb sz' (cap - l) hp (by omega) ?_)
          · simp only [Instr.sliceAt, Instr.slice, Sem.run_bind, run_underlying hu, Result.andThen_ok, hr, run_sizeOfI hi2, Sem.run_pure, if_neg he, hsz]
            simp [Addr.add_lit, Nat.add_mul]
          · have : b + l + (cap - l) = b + cap := by omega
            rw [this]; exact hroom
    · exact h.elim
  · exact h.elim

end
end Go.AW
