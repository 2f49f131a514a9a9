import Derived.Test.YtmobiphgmdigjaaAw13
import Derived.ChangeMaps3
/- Soundness: struct literals, cuts, conversions. -/
set_option linter.unusedVariables false
set_option linter.unusedSimpArgs false
namespace Go.AW
open Go

section
variable {P : Program} {X X' : Xs} {W : Nat → Prop} {pl : Pl} {w w' : World} {m : Mem}

/-- Cells, abstract and concrete. -/
def CellsOk (X : Xs) (pl : Pl) (w : World) (cs : List T) (vs : Array Value) : Prop :=
  cs.length = vs.size ∧ ∀ (j : Nat) (t : T), cs[j]? = some t → ∃ v, vs[j]? = some v ∧ VRel X pl w t v

theorem fillA_ok (place : Nat → Option (Nat × Nat)) : ∀ (ps : List (Nat × T)) (pv : List (Nat × Value)) (cs : List T) (vs : Array Value) (K : List T → Prop), PartsOk X pl w ps pv → CellsOk X pl w cs vs →
    fillA place cs ps K → ∃ vs' cs', Instr.fill place vs pv = some vs' ∧ K cs' ∧ CellsOk X pl w cs' vs'
  | [], pv, cs, vs, K, hp, hc, h => by
    have : pv = [] := List.eq_nil_of_length_eq_zero (by rw [← hp.len]; rfl)
    subst this
    exact ⟨vs, cs, rfl, h, hc⟩
  | (j, x) :: ps, pv, cs, vs, K, hp, hc, h => by
    cases pv with
    | nil => have := hp.len; simp at this
    | cons p pv =>
      obtain ⟨j', v⟩ := p
      obtain ⟨rfl, hv⟩ := hp.rel 0 j j' x v rfl rfl
      unfold fillA at h
      unfold Instr.fill
      cases hpl : place j with
      | none => simp [hpl] at h
      | some q =>
        obtain ⟨off, sz⟩ := q
        simp only [hpl, forceT_eq] at h ⊢
        have h1 : (cellsT x).length = sz := Nat.eq_of_beq_eq_true (chk_elim h).1
        replace h := (chk_elim h).2
        have h2 : off + sz ≤ cs.length := Nat.le_of_ble_eq_true (chk_elim h).1
        replace h := (chk_elim h).2
        have h3 := (chk_elim h).1
        replace h := (chk_elim h).2
        obtain ⟨hl, ho, hr⟩ := cells_rel hv h3
        rw [if_neg (by simp; rw [← hc.1]; omega)]
        obtain ⟨g1, g2⟩ := Great.foldl_set off v.cells.toList 0 vs
        refine fillA_ok place ps pv (spl cs off (cellsT x)) _ K ⟨by have := hp.len; simp at this; exact this, fun i a b c d e f => hp.rel (i + 1) a b c d (by simpa using e) (by simpa using f)⟩ ?_ h
        have e1 : (Array.foldl (fun cs (x : Value × Nat) => cs.setIfInBounds (off + x.2) x.1) vs v.cells.zipIdx) = (v.cells.toList.zipIdx 0).foldl (fun cs (x : Value × Nat) => cs.setIfInBounds (off + x.2) x.1) vs := by
          rw [← Array.foldl_toList]
          congr 1
          simp
        rw [show (Array.foldl (fun cs (x : Value × Nat) => match x with | (c, j) => cs.setIfInBounds (off + j) c) vs v.cells.zipIdx) = (v.cells.toList.zipIdx 0).foldl (fun cs (x : Value × Nat) => cs.setIfInBounds (off + x.2) x.1) vs from e1]
        refine ⟨by rw [spl_length _ _ _ (by omega), g1]; exact hc.1, ?_⟩
        intro k t ht
        rw [g2 k]
        rw [spl_get _ _ _ (by omega)] at ht
        have hk : k < cs.length := by
          by_cases hk1 : k < off
          · omega
          · by_cases hk2 : k < off + (cellsT x).length
            · omega
            · rw [if_neg hk1, if_neg hk2] at ht
              exact (List.getElem?_eq_some_iff.1 ht).1
        by_cases hk1 : k < off
        · rw [if_pos hk1] at ht
          rw [if_neg (by omega)]
          exact hc.2 k t ht
        · rw [if_neg hk1] at ht
          by_cases hk2 : k < off + (cellsT x).length
          · rw [if_pos hk2] at ht
            rw [if_pos ⟨by omega, by simp; omega, by rw [← hc.1]; exact hk⟩]
            obtain ⟨u, hu, hur⟩ := hr _ t ht
            refine ⟨u, ?_, hur⟩
            simpa using hu
          · rw [if_neg hk2] at ht
            rw [if_neg (by simp; omega)]
            exact hc.2 k t ht

theorem zero_cells_ok (z : Value) : CellsOk X pl w (z.cells.toList.map .lit) z.cells := by
  refine ⟨by simp, fun j t ht => ?_⟩
  obtain ⟨u, hu, rfl⟩ := getElem?_lit_cells z j t ht
  exact ⟨u, hu, .lit u⟩

theorem agg_of_cells {cs : List T} {vs : Array Value} (h : CellsOk X pl w cs vs) : VRel X pl w (.agg cs) (.agg vs) := by
  have := VRel.agg (X := X) (pl := pl) (w := w) cs vs.toList (by simpa using h.1) (by
    intro i t v ht hv
    obtain ⟨u, hu, hr⟩ := h.2 i t ht
    have : u = v := by
      rw [Array.getElem?_toList] at hv
      rw [hv] at hu
      exact (Option.some.inj hu).symm
    rw [← this]; exact hr)
  simpa using this

theorem buildA_ok {t : TypeId} {ps : List (Nat × T)} {pv : List (Nat × Value)} (hp : PartsOk X pl w ps pv) (K : T → Prop) (h : buildA P t ps K) : PureOk P X pl w (Instr.build t pv.toArray) K := by
  unfold buildA at h
  split at h <;> try (exact h.elim)
  rename_i i hi
  split at h <;> try (exact h.elim)
  rename_i z hz
  split at h
  · rename_i fs hu
    have hall := (chk_elim h).1
    replace h := (chk_elim h).2
    obtain ⟨vs', cs', hf, hK, hc⟩ := fillA_ok (fieldAt P fs) ps pv _ z.cells _ hp (zero_cells_ok z) h
    refine .mk _ _ (run_build w t pv.toArray vs' ?_) hK (agg_of_cells hc)
    unfold Program.built
    simp only [hi, hu, hz]
    rw [ChangeMaps.mapM_total (0, 0) (f := fun f : Field => (P.info? f.type).map fun i => (f.offset, i.size)) (l := fs.toList) (by
      intro f hf
      have := List.all_eq_true.1 hall f hf
      obtain ⟨y, hy⟩ := Option.isSome_iff_exists.1 this
      exact ⟨_, by rw [hy]; rfl⟩)]
    simp only
    have e : (fun j : Nat => ((fs.toList.map fun x => ((P.info? x.type).map fun i => (x.offset, i.size)).getD (0, 0)).toArray)[j]?) = fieldAt P fs := by
      funext j
      simp only [List.getElem?_toArray, List.getElem?_map, Array.getElem?_toList, fieldAt]
      cases hf : fs[j]? with
      | none => simp
      | some f =>
        have hm : f ∈ fs := Array.mem_of_getElem? hf
        have := List.all_eq_true.1 hall f (by simpa using hm)
        obtain ⟨y, hy⟩ := Option.isSome_iff_exists.1 this
        simp [hy]
    rw [e]
    exact hf
  · rename_i n e hu
    split at h <;> try (exact h.elim)
    rename_i ei he
    obtain ⟨vs', cs', hf, hK, hc⟩ := fillA_ok (fun j => some (j * ei.size, ei.size)) ps pv _ z.cells _ hp (zero_cells_ok z) h
    refine .mk _ _ (run_build w t pv.toArray vs' ?_) hK (agg_of_cells hc)
    unfold Program.built
    simp only [hi, hu, hz, he]
    exact hf
  · exact h.elim

theorem optI_elim {o : Option T} {d : Nat} {K : Nat → Prop} (h : optI o d K) : (o = none ∧ K d) ∨ ∃ k n, o = some (.lit (.int k n)) ∧ 0 ≤ n ∧ K n.toNat := by
  unfold optI at h
  split at h
  · exact .inl ⟨rfl, h⟩
  · exact .inr ⟨_, _, rfl, h.1, h.2⟩
  · exact h.elim

/-- What a bound comes to. -/
def BoundOk (X : Xs) (pl : Pl) (w : World) (o : Option T) (v : Option Value) : Prop := (o = none ∧ v = none) ∨ ∃ t u, o = some t ∧ v = some u ∧ VRel X pl w t u

theorem run_sliceBound {k : IntKind} {n : Int} (y : Nat) (code : BoundsCode) (h0 : 0 ≤ n) (h1 : n.toNat ≤ y) : (Instr.sliceBound (.int k n) y code).run P w = .ok n.toNat w := by
  unfold Instr.sliceBound
  have h2 : n ≤ (y : Int) := by omega
  simp [asIntOf, h0, h2]

theorem run_sliceBounds {lo hi : Option T} {vlo vhi : Option Value} (isSl : Bool) (len cap : Nat) (hlo : BoundOk X pl w lo vlo) (hhi : BoundOk X pl w hi vhi) (hcap : len ≤ cap) {K : Nat → Nat → Prop}
    (h : optI hi len fun hh => optI lo 0 fun l => (l ≤ hh ∧ hh ≤ len) ∧ K l hh) :
    ∃ l hh, (Instr.sliceBounds isSl len cap vlo vhi none).run P w = .ok (l, hh, cap) w ∧ l ≤ hh ∧ hh ≤ len ∧ K l hh := by
  have e1 := optI_elim h
  clear h
  cases e1 with
  | inl e1 =>
    obtain ⟨e1, h1⟩ := e1
    subst e1
    have e3 : vhi = none := by
      rcases hhi with ⟨_, e⟩ | ⟨_, _, e, _⟩
      · exact e
      · cases e
    subst e3
    cases optI_elim h1 with
    | inl e2 =>
      obtain ⟨e2, h2⟩ := e2
      subst e2
      have e4 : vlo = none := by
        rcases hlo with ⟨_, e⟩ | ⟨_, _, e, _⟩
        · exact e
        · cases e
      subst e4
      exact ⟨0, len, by simp [Instr.sliceBounds], by omega, by omega, h2.2⟩
    | inr e2 =>
      obtain ⟨k2, n2, e2, hn2, h2⟩ := e2
      subst e2
      have e4 : vlo = some (.int k2 n2) := by
        rcases hlo with ⟨e, _⟩ | ⟨t, u, e, e5, hv⟩
        · cases e
        · injection e with e; subst e; rw [e5, hv.lit_inv]
      subst e4
      refine ⟨n2.toNat, len, ?_, h2.1.1, h2.1.2, h2.2⟩
      have := run_sliceBound (P := P) (w := w) (k := k2) (n := n2) len .sliceB hn2 h2.1.1
      simp [Instr.sliceBounds, this]
  | inr e1 =>
    obtain ⟨k, n, e1, hn0, h1⟩ := e1
    subst e1
    have e3 : vhi = some (.int k n) := by
      rcases hhi with ⟨e, _⟩ | ⟨t, u, e, e5, hv⟩
      · cases e
      · injection e with e; subst e; rw [e5, hv.lit_inv]
    subst e3
    cases optI_elim h1 with
    | inl e2 =>
      obtain ⟨e2, h2⟩ := e2
      subst e2
      have e4 : vlo = none := by
        rcases hlo with ⟨_, e⟩ | ⟨_, _, e, _⟩
        · exact e
        · cases e
      subst e4
      refine ⟨0, n.toNat, ?_, h2.1.1, h2.1.2, h2.2⟩
      have := fun code => run_sliceBound (P := P) (w := w) (k := k) (n := n) cap code hn0 (by omega)
      simp [Instr.sliceBounds, this]
    | inr e2 =>
      obtain ⟨k2, n2, e2, hn2, h2⟩ := e2
      subst e2
      have e4 : vlo = some (.int k2 n2) := by
        rcases hlo with ⟨e, _⟩ | ⟨t, u, e, e5, hv⟩
        · cases e
        · injection e with e; subst e; rw [e5, hv.lit_inv]
      subst e4
      refine ⟨n2.toNat, n.toNat, ?_, h2.1.1, h2.1.2, h2.2⟩
      have h3 := fun code => run_sliceBound (P := P) (w := w) (k := k) (n := n) cap code hn0 (by omega)
      have h4 := run_sliceBound (P := P) (w := w) (k := k2) (n := n2) n.toNat .sliceB hn2 h2.1.1
      simp [Instr.sliceBounds, h3, h4]

end
end Go.AW
