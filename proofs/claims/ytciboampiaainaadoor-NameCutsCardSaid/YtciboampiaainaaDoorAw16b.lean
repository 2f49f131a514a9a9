/- Soundness: ranges over strings. -/
import Derived.Test.YtciboampiaainaaDoorAw16
import Derived.ChangeMaps4
set_option linter.unusedVariables false
set_option linter.unusedSimpArgs false
namespace Go.AW
open Go
open Go.ChangeMaps (setBlock)

section
variable {P : Program} {X X' : Xs} {W : Nat → Prop} {pl : Pl} {w w' : World} {m : Mem}

theorem upd_self {id : Nat} {l : Loc} (h : pl id = some l) : upd pl id l = pl := by
  funext i
  by_cases e : i = id
  · subst e; rw [upd_same, h]
  · rw [upd_other _ _ e]

theorem rangeA_ok (hm : MRel X W pl w m) {id : Nat} (hid : pl id = none) (hW : ∀ b, w.heap.size ≤ b → W b) {t : TypeId} {x : T} {vx : Value} (hx : VRel X pl w x vx)
    (K : T → Mem → Prop) (h : rangeA P m id t x K) : OpOk P X W pl w (some id) (Instr.range t vx) K := by
  unfold rangeA at h
  split at h <;> try (exact h.elim)
  rename_i hu
  split at h <;> try (exact h.elim)
  rename_i s
  obtain rfl := hx.lit_inv
  rw [memF_eq] at h
  have hxm := hm.xmono_alloc (.stringIter s 0)
  have hp := hm.pmono_alloc (.stringIter s 0) (.obj w.heap.size) hid
  have hrun : (Instr.range t (.string s)).run P w = .ok (.pointer (some ⟨w.heap.size, 0, none⟩)) (w.alloc (.stringIter s 0)) := by
    simp [Instr.range, run_underlying hu, newObj, Sem.run]
  refine ⟨_, _, _, _, hrun, h, X, upd pl id (.obj w.heap.size), hxm, hp, fun i hi hn => by rw [upd_other _ _ (fun e => hi (by rw [e]))]; exact hn, .alloc W w _, ?_, ?_, fun _ _ h => .inl h⟩
  · exact hm.alloc hid hW _ _ _ rfl ⟨_, rfl, heap_alloc_new w _⟩
  · exact .itr id _ (upd_same _ _ _)

theorem setBlock_other (w : World) (b b' : Nat) (o : Obj) (h : b' ≠ b) : (setBlock w b o).heap[b']? = w.heap[b']? := by
  simp only [setBlock]
  rw [Array.getElem?_setIfInBounds_ne (Ne.symm h)]

theorem nextA_ok (hm : MRel X W pl w m) (id' : Option Nat) (ty : TypeId) {isStr : Bool} {x : T} {vx : Value} (hx : VRel X pl w x vx)
    (K : T → Mem → Prop) (h : nextA m isStr x K) : OpOk P X W pl w id' (Instr.next vx isStr ty) K := by
  unfold nextA at h
  split at h <;> try (exact h.elim)
  split at h <;> try (exact h.elim)
  rename_i id
  split at h <;> try (exact h.elim)
  rename_i s pos hg
  cases hx with
  | itr _ b hp =>
    obtain ⟨l, hl, b', e, hh⟩ := hm.blk id _ hg
    rw [hp] at hl
    cases hl
    cases e
    have hlt : b < w.heap.size := (Array.getElem?_eq_some_iff.1 hh).1
    cases hd : decide (pos < s.size) with
    | false =>
      rw [hd] at h
      have hn := of_decide_eq_false hd
      have h : K (.tup [.lit (.bool false)]) m := h
      refine ⟨.tuple #[.bool false], _, _, _, ?_, h, .same hm id' ?_⟩
      · simp [Instr.next, getObj, Sem.run, hh, hn, Result.andThen]
      · exact .tup [.lit (.bool false)] [.bool false] rfl (by
          intro i t v ht hv
          cases i with
          | zero => cases ht; cases hv; exact .lit _
          | succ i => simp at ht)
    | true =>
      rw [hd] at h
      have hn := of_decide_eq_true hd
      simp only [memF_eq] at h
      let o' : Obj := .stringIter s (pos + (Utf8.decode s pos).2)
      have hnew : (setBlock w b o').heap[b]? = some o' := by
        simp only [setBlock]
        rw [Array.getElem?_setIfInBounds_self]
        simp [hlt]
      have hne : ∀ b2, b2 ≠ b → (setBlock w b o').heap[b2]? = w.heap[b2]? := fun b2 h2 => setBlock_other w b b2 o' h2
      have hxm : XMono X X w (setBlock w b o') := by
        intro b2 off hb
        have h2 : b2 ≠ b := (hm.xin b2 off hb).2 id _ hp
        exact ⟨hb, World.cell?_of_block (hne b2 h2)⟩
      have hpm : PMono pl pl w (setBlock w b o') := by
        intro i li hi
        refine ⟨⟨li, hi, li.le_refl⟩, ?_⟩
        rintro b2 sz rfl _ n hn2
        refine roomy_of_heap (hne b2 fun e => ?_) hn2
        subst e
        have := hm.apart i id _ _ b2 hi hp rfl rfl
        subst this
        rw [hi] at hp; cases hp
      have hsz : (setBlock w b o').heap.size = w.heap.size := by simp [setBlock]
      have hup := upd_self hp
      have hm' : MRel X W pl (setBlock w b o') (m.put id (.iter s (pos + (Utf8.decode s pos).2))) := by
        have := hm.update (X' := X) (id := id) (l := .obj b) (blk := .iter s (pos + (Utf8.decode s pos).2)) (w' := setBlock w b o') hxm (by rw [hup]; exact hpm)
          (fun i li b2 hi hli hb2 => hne b2 fun e => hi (by subst e; exact hm.apart i id li _ b2 hli hp hb2 rfl)) (by rw [hsz]; exact Nat.le_refl _)
          ⟨b, rfl, hnew⟩ (fun b2 hb2 => by
            cases hb2
            exact ⟨(hm.placed id _ b hp rfl).1, by rw [hsz]; exact hlt, fun i li hi hli hb2 => hi (hm.apart i id li _ b hli hp hb2 rfl)⟩)
          (fun b2 off hb => by
            obtain ⟨h1, h2⟩ := hm.xin b2 off hb
            exact ⟨by rw [hsz]; exact h1, h2 id _ hp, fun i li _ hli => h2 i li hli⟩)
        rw [hup] at this
        exact this
      refine ⟨.tuple #[.bool true, .int .i64 pos, .int .i32 (Utf8.decode s pos).1], _, _, setBlock w b o', ?_, h, X, pl, hxm, hpm, fun _ _ h => h, ⟨by rw [hsz]; exact Nat.le_refl _, rfl, rfl, rfl, ?_⟩, hm', ?_, fun _ _ h => .inl h⟩
      · simp [Instr.next, getObj, setObj, Sem.run, hh, hn, Result.andThen, goInt, setBlock, o']
      · intro b2 hb2 hW
        refine hne b2 fun e => hW ?_
        subst e
        exact (hm.placed id _ b2 hp rfl).1
      · exact .tup [.lit (.bool true), .lit (.int .i64 pos), .lit (.int .i32 (Utf8.decode s pos).1)] [.bool true, .int .i64 pos, .int .i32 (Utf8.decode s pos).1] rfl (by
          intro i t v ht hv
          match i with
          | 0 => cases ht; cases hv; exact .lit _
          | 1 => cases ht; cases hv; exact .lit _
          | 2 => cases ht; cases hv; exact .lit _
          | n + 3 => simp at ht)
end
end Go.AW
