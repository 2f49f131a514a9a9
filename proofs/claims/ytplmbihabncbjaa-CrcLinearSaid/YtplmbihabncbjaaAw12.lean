/- Soundness: making slices and structs, cutting. -/
import Derived.Test.YtplmbihabncbjaaAw11
import Derived.Great.FillDense
import Derived.Great.BuildSlice
import Derived.Laws.MakeOwn
import Derived.Lib.ConvBytes
set_option linter.unusedVariables false
set_option linter.unusedSimpArgs false
namespace Go.AW
open Go

section
variable {P : Program} {X X' : Xs} {W : Nat → Prop} {pl : Pl} {w w' : World} {m : Mem}

theorem StepOk.ownN (hm : MRel X W pl w m) {id : Nat} (hid : pl id = none) (hW : ∀ b, w.heap.size ≤ b → W b) (cs : Array Value) (e : TypeId) (hnb : NewBlock w w' cs e) (sz : Nat) (rows : List (List T))
    (hl : rows.length * sz ≤ cs.size) (hr : ∀ (i : Nat) (row : List T), rows[i]? = some row → row.length = sz ∧ ∀ (j : Nat) (t : T), row[j]? = some t → ∃ v, cs[i * sz + j]? = some v ∧ VRel X pl w t v)
    {t : T} {v : Value} (hv : VRel X (upd pl id (.own w.heap.size sz)) w' t v) :
    StepOk X W pl w (some id) (m.put id (.own sz rows)) t v w' := by
  obtain ⟨fr, hnew⟩ := hnb.new
  have hx : XMono X X w w' := fun b off h => ⟨h, World.cell?_of_block (hnb.old b (hm.xin b off h).1)⟩
  have hp : PMono pl (upd pl id (.own w.heap.size sz)) w w' := by
    intro i li hi
    have hne : i ≠ id := fun e => by rw [e, hid] at hi; cases hi
    refine ⟨⟨li, by rw [upd_other pl _ hne]; exact hi, li.le_refl⟩, ?_⟩
    rintro b sz2 rfl n hn
    exact roomy_of_heap (hnb.old b (hm.placed i _ b hi rfl).2) hn
  have hother : ∀ i li, i ≠ id → pl i = some li → ∀ b', li.blk = some b' → b' < w.heap.size := fun i li _ hi b' hb' => (hm.placed i li b' hi hb').2
  refine ⟨X, upd pl id (.own w.heap.size sz), hx, hp, fun i hi hn => by rw [upd_other _ _ (fun e => hi (by rw [e]))]; exact hn, hnb.ext W, ?_, hv, fun _ _ h => .inl h⟩
  refine hm.update hx hp (fun i li b hi hl hb => hnb.old b (hm.placed i li b hl hb).2) (by rw [hnb.size]; omega) ?_ ?_ ?_
  · refine .inr ⟨w.heap.size, rfl, cs, e, fr, hnew, hnb.unf, hl, fun i row hrow => ⟨(hr i row hrow).1, fun j t ht => ?_⟩⟩
    obtain ⟨v, hv, hvr⟩ := (hr i row hrow).2 j t ht
    exact ⟨v, hv, hvr.mono hx hp⟩
  · intro b hb
    simp only [Loc.blk, Option.some.injEq] at hb
    subst hb
    refine ⟨hW _ (Nat.le_refl _), by rw [hnb.size]; omega, fun i li hi hli hb => ?_⟩
    have := hother i li hi hli _ hb
    omega
  · intro b off h
    obtain ⟨h1, h2⟩ := hm.xin b off h
    refine ⟨by rw [hnb.size]; omega, ?_, fun i li _ hi => h2 i li hi⟩
    simp only [Loc.free]; omega

theorem rowsIn_vrel {cs : Array Value} {sz : Nat} {rows : List (List T)} (h : RowsIn X w cs sz rows) (hu : ∀ (i : Nat) (row : List T) (j : Nat) (t : T), rows[i]? = some row → row[j]? = some t → untok t = t) :
    ∀ (i : Nat) (row : List T), rows[i]? = some row → row.length = sz ∧ ∀ (j : Nat) (t : T), row[j]? = some t → ∃ v, cs[i * sz + j]? = some v ∧ VRel X pl w t v :=
  fun i row hr => ⟨(h i row hr).1, fun j t ht => by
    obtain ⟨v, hv, hb, _⟩ := (h i row hr).2 j t ht
    refine ⟨v, hv, ?_⟩
    have := hb.vrel (pl := pl)
    rwa [hu i row j t hr ht] at this⟩

theorem madeCells_rows {z : Value} {sz n c : Nat} (hz : z.cells.size = sz) (hpos : 0 < sz) (hall : z.cells.toList.all Value.oneCell' = true) (hn : n ≤ c) :
    RowsIn X w (madeCells z.cells (c * sz)) sz (List.replicate n (z.cells.toList.map .lit)) := by
  intro i row h
  have hi : i < n := by simpa using (List.getElem?_eq_some_iff.1 h).1
  simp [hi] at h
  subst h
  refine ⟨by simp [hz], fun j t ht => ?_⟩
  obtain ⟨u, hu, rfl⟩ := getElem?_lit_cells z j t (by simpa using ht)
  have hj : j < sz := by rw [← hz]; exact (Array.getElem?_eq_some_iff.1 hu).1
  refine ⟨u, ?_, .lit u, ?_⟩
  · have hlt : i * sz + j < c * sz := by
      have : i * sz + sz ≤ c * sz := by rw [← Nat.succ_mul]; exact Nat.mul_le_mul_right _ (by omega)
      omega
    have hmod : (i * sz + j) % z.cells.size = j := by rw [hz, Nat.mul_comm, Nat.mul_add_mod, Nat.mod_eq_of_lt hj]
    simp only [madeCells, Array.getElem?_map, Array.getElem?_range, hlt, if_true, Option.map_some, hmod]
    rw [getElem!_def, hu]
  · have hm : u ∈ z.cells.toList := by
      obtain ⟨h1, h2⟩ := Array.getElem?_eq_some_iff.1 hu
      rw [← h2]; simp
    exact List.all_eq_true.1 hall u hm

theorem untok_lit_rows (z : Value) (n : Nat) : ∀ (i : Nat) (row : List T) (j : Nat) (t : T), (List.replicate n (z.cells.toList.map T.lit))[i]? = some row → row[j]? = some t → untok t = t := by
  intro i row j t h ht
  have hi : i < n := by simpa using (List.getElem?_eq_some_iff.1 h).1
  simp [hi] at h
  subst h
  obtain ⟨u, hu, rfl⟩ := getElem?_lit_cells z j t (by simpa using ht)
  rfl

theorem makeSliceA_ok (hm : MRel X W pl w m) {id : Nat} (hid : pl id = none) (hW : ∀ b, w.heap.size ≤ b → W b) (byref : Bool) {t : TypeId} {l c : T} {vl vc : Value}
    (hl : VRel X pl w l vl) (hc : VRel X pl w c vc) (K : T → Mem → Prop) (h : makeSliceA P m id byref t l c K) : OpOk P X W pl w (some id) (Instr.makeSlice t vl vc) K := by
  unfold makeSliceA at h
  split at h <;> try (exact h.elim)
  rename_i e hu
  split at h <;> try (exact h.elim)
  rename_i i hi
  split at h <;> try (exact h.elim)
  rename_i z hz
  have hzs : z.cells.size = i.size := Nat.eq_of_beq_eq_true (chk_elim h).1
  replace h := (chk_elim h).2
  have hpos : 0 < i.size := by have : 1 ≤ i.size := by simpa [Nat.blt] using (chk_elim h).1
                               exact this
  replace h := (chk_elim h).2
  have hall := (chk_elim h).1
  replace h := (chk_elim h).2
  split at h <;> try (exact h.elim)
  rename_i l c
  obtain rfl := hl.lit_inv
  obtain rfl := hc.lit_inv
  obtain ⟨⟨h0, hlc, h63, hby⟩, h⟩ := h
  have hr := run_make (P := P) w t e i z hu hi hz .i64 .i64 l c h0 hlc (by rw [Int.mul_comm]; exact hby) h63
  have hrows : RowsIn X w (madeCells z.cells (c.toNat * i.size)) i.size (List.replicate l.toNat (z.cells.toList.map .lit)) := madeCells_rows hzs hpos hall (by omega)
  cases byref with
  | false =>
    simp only [memF_eq] at h
    have hst := StepOk.tok (id := id) hm hW _ e (.alloc w (madeCells z.cells (c.toNat * i.size)) e) i.size c.toNat (List.replicate l.toNat (z.cells.toList.map .lit)) (by simp [size_madeCells]) (by simp; omega) hrows
      (fun l hl => by rw [hid] at hl; cases hl)
    simp only [List.length_replicate] at hst
    exact ⟨_, _, _, _, hr, h, hst⟩
  | true =>
    simp only [memF_eq] at h
    refine ⟨_, _, _, _, hr, h, StepOk.ownN hm hid hW _ e (.alloc w _ e) i.size _ (by simp [size_madeCells]; exact Nat.mul_le_mul_right _ (by omega)) (rowsIn_vrel hrows (untok_lit_rows z _)) ?_⟩
    have := VRel.sref (X := X) (pl := upd pl id (.own w.heap.size i.size)) (w := w.alloc (.cells (madeCells z.cells (c.toNat * i.size)) e)) id 0 l.toNat w.heap.size i.size c.toNat (upd_same _ _ _) (by omega)
      ⟨_, _, _, heap_alloc_new w _, by simp [size_madeCells]⟩
    simpa using this

end
end Go.AW
