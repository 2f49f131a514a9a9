/- Soundness: copying. -/
import Derived.Test.YtciboampiaainaaDoorAw11
set_option linter.unusedVariables false
set_option linter.unusedSimpArgs false
namespace Go.AW
open Go

section
variable {P : Program} {X X' : Xs} {W : Nat → Prop} {pl : Pl} {w w' : World} {m : Mem}

theorem MRel.same_get {X : Xs} {m m' : Mem} (h : MRel X W pl w m) (he : ∀ k, m'.get k = m.get k) : MRel X W pl w m' :=
  ⟨fun id b hb => h.blk id b (by rw [← he id]; exact hb), h.placed, h.apart, h.xin, h.glob⟩

theorem put_same_get {m : Mem} {id : Nat} {b : Blk} (h : m.get id = some b) : ∀ k, (m.put id b).get k = m.get k := by
  intro k
  by_cases e : id = k
  · subst e; rw [Mem.get_put_same, h]
  · exact Mem.get_put_other _ _ _ _ e

theorem splR_nil (rows : List (List T)) (lo : Nat) : splR rows lo [] = rows := by simp [splR]

theorem copyA_ok (hm : MRel X W pl w m) {ts tx : TypeId} {s x : T} {vs vx : Value} (ty : TypeId) (hs : VRel X pl w s vs) (hx : VRel X pl w x vx) (K : T → Mem → Prop) (h : copyA P m ts tx s x K) :
    OpOk P X W pl w none (Builtin.copy_ #[ts, tx] ty #[vs, vx]) K := by
  unfold copyA at h
  split at h <;> try (exact h.elim)
  rename_i e hu
  split at h <;> try (exact h.elim)
  rename_i i hi
  obtain ⟨hpos, h⟩ := chk_elim h
  obtain ⟨more, news, hM, h5⟩ := moreA_ok hx h
  clear h
  split at h5 <;> try (exact h5.elim)
  rename_i id lo len
  split at h5 <;> try (exact h5.elim)
  rename_i sz rows hg
  obtain ⟨hsz, ⟨hbv, hle, hin⟩, hK⟩ := chk_elim h5
  clear h5
  obtain rfl : sz = i.size := Nat.eq_of_beq_eq_true hsz
  rw [memF_eq] at hK
  have hf : ∀ w1 : World, w1.heap = w.heap → (Builtin.firstCells i.size more.length vx).run P w1 = .ok news.toArray w1 := hM.first
  have zero : ∀ (a : Option Addr) (cap : Nat), len = 0 → OpOk P X W pl w none (Builtin.copy_ #[ts, tx] ty #[.slice a 0 cap, vx]) K := by
    intro a cap h0
    have hm0 : more = [] := List.length_eq_zero_iff.1 (by omega)
    subst hm0
    have hn : news = [] := by have := hM.len; simpa using this
    subst hn
    have hmany := hM.many w
    have hfw := hf w rfl
    simp only [List.length_nil] at hmany hfw
    refine ⟨.int .i64 ((([] : List (List T)).length : Nat) : Int), _, _, w, ?_, hK, ?_⟩
    · simp only [Builtin.copy_]
      simp [run_underlying hu, hmany, run_sizeOfI hi, hfw]
      cases a <;> simp [storeCells, goInt]
    · rw [splR_nil]
      refine ⟨X, pl, .refl _ _, .refl _ _, fun _ _ h => h, .refl _ _, hm.same_get (put_same_get hg), ?_, fun _ _ h => .inl h⟩
      exact .lit _
  cases hs with
  | srefn _ hp => exact zero none 0 rfl
  | srefz _ _ b sz' a hp => exact zero a 0 rfl
  | sref _ _ _ b sz' cap hp hcap hroom =>
    replace hp := own_pl hm hg hp
    obtain ⟨rfl, cs, ee, fr, hh, huf, hlen, hr⟩ := own_get hm hg hp
    have h1 : (lo + len) * i.size ≤ rows.length * i.size := Nat.mul_le_mul_right _ hin
    have h2 : lo * i.size + more.length * i.size ≤ (lo + len) * i.size := by rw [← Nat.add_mul]; exact Nat.mul_le_mul_right _ (by omega)
    have hnl := hM.len
    have hst := run_storeCells_u (P := P) b (lo * i.size) ee fr news 0 cs w hh huf (by omega) (rows_one hM.len hM.rows)
    simp only [Nat.add_zero] at hst
    have hmin : Nat.min more.length len = more.length := Nat.min_eq_left hle
    refine ⟨.int .i64 (more.length : Nat), _, _, w.setRow b (cs.toList.take (lo * i.size) ++ news ++ cs.toList.drop (lo * i.size + news.length)).toArray, ?_, hK, ?_⟩
    · simp only [Builtin.copy_]
      simp [run_underlying hu, hM.many w, hmin, run_sizeOfI hi, hf w rfl, hst, goInt]
    · refine StepOk.store hm hp hh huf (by simp; omega) ?_ ?_ none (.lit _)
      · have : (splR rows lo more).length = rows.length := by simp [splR]; omega
        rw [this]; simp; omega
      · have htl : (rows.take lo).length = lo := by simp; omega
        have hc1 : (cs.toList.take (lo * i.size)).length = (rows.take lo).length * i.size := by rw [htl]; simp; omega
        have ha := cells_append (X := X) (pl := pl) (w := w) (c3 := []) hc1 (r1 := rows.take lo) (r2 := more) (c2 := news) (by
          intro k row hk
          rw [List.getElem?_take] at hk
          split at hk
          · rename_i hkl
            obtain ⟨g1, g2⟩ := hr k row hk
            refine ⟨g1, fun j t ht => ?_⟩
            obtain ⟨v, hv, hvr⟩ := g2 j t ht
            refine ⟨v, ?_, hvr⟩
            have hj : j < i.size := by rw [← g1]; exact (List.getElem?_eq_some_iff.1 ht).1
            have : k * i.size + i.size ≤ lo * i.size := by rw [← Nat.succ_mul]; exact Nat.mul_le_mul_right _ hkl
            rw [List.getElem?_toArray, List.getElem?_take, if_pos (by omega), Array.getElem?_toList]
            exact hv
          · cases hk) hM.len (rowsIn_vrel hM.rows (rows_untok hbv))
        rw [List.append_nil] at ha
        have hdl : (rows.drop (lo + more.length)).length * i.size = rows.length * i.size - (lo + more.length) * i.size := by rw [List.length_drop, Nat.sub_mul]
        have hb := cells_append (X := X) (pl := pl) (w := w) (r1 := rows.take lo ++ more) (c1 := cs.toList.take (lo * i.size) ++ news)
          (r2 := rows.drop (lo + more.length)) (c2 := (cs.toList.drop (lo * i.size + news.length)).take ((rows.drop (lo + more.length)).length * i.size)) (c3 := (cs.toList.drop (lo * i.size + news.length)).drop ((rows.drop (lo + more.length)).length * i.size))
          (by rw [List.length_append, List.length_append, hc1, hnl, htl, Nat.add_mul]) ha (by
            rw [hdl, Nat.add_mul]; simp; omega) (by
            intro k row hk
            rw [List.getElem?_drop] at hk
            obtain ⟨g1, g2⟩ := hr _ row hk
            refine ⟨g1, fun j t ht => ?_⟩
            obtain ⟨v, hv, hvr⟩ := g2 j t ht
            refine ⟨v, ?_, hvr⟩
            have hj : j < i.size := by rw [← g1]; exact (List.getElem?_eq_some_iff.1 ht).1
            have hkl : k < (rows.drop (lo + more.length)).length := by
              have := (List.getElem?_eq_some_iff.1 hk).1
              simp; omega
            have hkm : k * i.size + i.size ≤ (rows.drop (lo + more.length)).length * i.size := by rw [← Nat.succ_mul]; exact Nat.mul_le_mul_right _ hkl
            rw [List.getElem?_toArray, List.getElem?_take, if_pos (by omega), List.getElem?_drop, Array.getElem?_toList, ← hv]
            congr 1
            rw [hnl, Nat.add_mul, Nat.add_mul]; omega)
        have e1 : cs.toList.take (lo * i.size) ++ news ++ cs.toList.drop (lo * i.size + news.length) = cs.toList.take (lo * i.size) ++ news ++ (cs.toList.drop (lo * i.size + news.length)).take ((rows.drop (lo + more.length)).length * i.size) ++ (cs.toList.drop (lo * i.size + news.length)).drop ((rows.drop (lo + more.length)).length * i.size) := by
          rw [List.append_assoc (cs.toList.take (lo * i.size) ++ news), List.take_append_drop]
        rw [e1]
        exact hb
end
end Go.AW
