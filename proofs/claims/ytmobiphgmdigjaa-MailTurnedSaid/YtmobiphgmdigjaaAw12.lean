import Derived.Test.YtmobiphgmdigjaaAw11
import Derived.Great.FillDense
import Derived.Great.BuildSlice
import Derived.Laws.MakeOwn
import Derived.Lib.ConvBytes
/- Soundness: making slices and structs, cutting. -/
set_option linter.unusedVariables false
set_option linter.unusedSimpArgs false
namespace Go.AW
open Go

section
variable {P : Program} {X X' : Xs} {W : Nat → Prop} {pl : Pl} {w w' : World} {m : Mem}

theorem untok_lit_rows (z : Value) (n : Nat) : ∀ (i : Nat) (row : List T) (j : Nat) (t : T), (List.replicate n (z.cells.toList.map T.lit))[i]? = some row → row[j]? = some t → untok t = t := by
  intro i row j t h ht
  have hi : i < n := by simpa using (List.getElem?_eq_some_iff.1 h).1
  simp [hi] at h
  subst h
  obtain ⟨u, hu, rfl⟩ := getElem?_lit_cells z j t (by simpa using ht)
  rfl

theorem makeSliceA_ok (hm : MRel X W pl w m) {id : Nat} (hid : pl id = none) (hW : ∀ b, w.heap.size ≤ b → W b) (byref : Bool) {t : TypeId} {l c : T} {vl vc : Value}
    (hl : VRel X pl w l vl) (hc : VRel X pl w c vc) (K : T → Mem → Prop) (h : makeSliceA P m id byref t l c K) : OpOk P X W pl w (some id) (Instr.makeSlice t vl vc) K := by
  unfold makeSliceA at h
  split at h <;> try (exact h.elim)
  rename_i e hu
  split at h <;> try (exact h.elim)
  rename_i i hi
  split at h <;> try (exact h.elim)
  rename_i z hz
  have hzs : z.cells.size = i.size := Nat.eq_of_beq_eq_true (chk_elim h).1
  replace h := (chk_elim h).2
  have hpos : 0 < i.size := by have : 1 ≤ i.size := by simpa [Nat.blt] using (chk_elim h).1
                               exact this
  replace h := (chk_elim h).2
  have hall := (chk_elim h).1
  replace h := (chk_elim h).2
  split at h <;> try (exact h.elim)
  rename_i l c
  obtain rfl := hl.lit_inv
  obtain rfl := hc.lit_inv
  obtain ⟨⟨h0, hlc, h63, hby⟩, h⟩ := h
  have hr := run_make (P := P) w t e i z hu hi hz .i64 .i64 l c h0 hlc (by rw [Int.mul_comm]; exact hby) h63
  have hrows : RowsIn X w (madeCells z.cells (c.toNat * i.size)) i.size (List.replicate l.toNat (z.cells.toList.map .lit)) := madeCells_rows hzs hpos hall (by omega)
  cases byref with
  | false =>
    simp only [memF_eq] at h
    have hst := StepOk.tok (id := id) hm hW _ e (.alloc w (madeCells z.cells (c.toNat * i.size)) e) i.size c.toNat (List.replicate l.toNat (z.cells.toList.map .lit)) (by simp [size_madeCells]) (by simp; omega) hrows
      (fun l hl => by rw [hid] at hl; cases hl)
    simp only [List.length_replicate] at hst
    exact ⟨_, _, _, _, hr, h, hst⟩
  | true =>
    simp only [memF_eq] at h
    refine ⟨_, _, _, _, hr, h, StepOk.ownN hm hid hW _ e (.alloc w _ e) i.size _ (by simp [size_madeCells]; exact Nat.mul_le_mul_right _ (by omega)) (rowsIn_vrel hrows (untok_lit_rows z _)) ?_⟩
    have := VRel.sref (X := X) (pl := upd pl id (.own w.heap.size i.size)) (w := w.alloc (.cells (madeCells z.cells (c.toNat * i.size)) e)) id 0 l.toNat w.heap.size i.size c.toNat (.inl (upd_same _ _ _)) (by omega)
      fun _ => ⟨_, _, _, heap_alloc_new w _, by simp [size_madeCells]⟩
    simpa using this

end
end Go.AW
