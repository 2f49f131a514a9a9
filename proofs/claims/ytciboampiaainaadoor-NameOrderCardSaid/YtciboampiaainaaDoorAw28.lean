/- Arguments that are rows of numbers. -/
import Derived.Test.YtciboampiaainaaDoorAw27
set_option linter.unusedVariables false
set_option linter.unusedSimpArgs false
namespace Go.AW
open Go

section
variable {H : Type} {enc : TypeId × Value → H} {P : Program} {w : World}

/-- An array of things that take a cell each. -/
theorem Rd.array {t e : TypeId} {n : Nat} {α : Type} {F : α → T} {Pr : α → Prop} (hu : P.underlying t = some (.array n e)) (hsz : P.cellsOf e = 1) (hct : P.cellsOf t = n) (he : Rd enc P w e (fun x => [F x]) Pr) :
    Rd enc P w t (fun l : List α => l.map F) (fun l => l.length = n ∧ ∀ x ∈ l, Pr x) := by
  intro fuel cs d ps h hw
  cases fuel with
  | zero => simp [DataW.trod] at h
  | succ fuel =>
    rw [DataW.trod_step] at h
    unfold DataW.trodStep at h
    simp only [hu, hsz, hct, Nat.mul_one] at h
    split at h
    · rename_i hl
      simp only [Option.map_eq_some_iff] at h
      obtain ⟨elems, hel, h⟩ := h
      simp only [Prod.mk.injEq] at h
      obtain ⟨rfl, rfl⟩ := h
      obtain ⟨h1, h2⟩ := mapM_get hel
      have hlen : elems.length = n := by simpa using h1
      have hone : ∀ i (hi : i < n), ∃ x : α, Pr x ∧ OkCells w [F x] ((cs.drop i).take 1) := by
        intro i hi
        have hg := h2 i i elems[i] (by simp [hi]) (by simp [hlen, hi])
        refine he fuel _ elems[i].1 elems[i].2 hg ?_
        intro k hk
        refine hw k ?_
        simp only [DataW.weights, hu]
        exact weightsAll_mem (List.mem_map.2 ⟨elems[i], by simp, rfl⟩) hk
      have hex : ∀ k, k ≤ n → ∃ xs : List α, xs.length = k ∧ ∀ (i : Nat) (x : α), xs[i]? = some x → Pr x ∧ OkCells w [F x] ((cs.drop i).take 1) := by
        intro k
        induction k with
        | zero => intro _; exact ⟨[], rfl, by simp⟩
        | succ k ih =>
          intro hk
          obtain ⟨xs, hxl, hxs⟩ := ih (by omega)
          obtain ⟨x, hx⟩ := hone k (by omega)
          refine ⟨xs ++ [x], by simp [hxl], fun i y hy => ?_⟩
          by_cases hi : i < xs.length
          · rw [List.getElem?_append_left hi] at hy; exact hxs i y hy
          · have hin : i = k := by
              have := (List.getElem?_eq_some_iff.1 hy).1
              simp at this; omega
            subst hin
            rw [List.getElem?_append_right (by omega), hxl] at hy
            simp at hy
            subst hy; exact hx
      obtain ⟨xs, hxl, hxs⟩ := hex n (Nat.le_refl _)
      refine ⟨xs, ⟨hxl, fun y hy => ?_⟩, by simp [hxl, hl], ?_⟩
      · obtain ⟨i, hi, rfl⟩ := List.getElem_of_mem hy
        exact (hxs i xs[i] (by simp [hi])).1
      · intro i t' v ht hv
        simp only [List.getElem?_map] at ht
        cases e2 : xs[i]? with
        | none => simp [e2] at ht
        | some x =>
          simp [e2] at ht
          subst ht
          have hok := (hxs i x e2).2
          refine hok.2 0 (F x) v rfl ?_
          rw [List.getElem?_take, if_pos (by decide), List.getElem?_drop]
          simpa using hv
    · cases h

/-- A vector. -/
theorem Rd.vec {t e : TypeId} (hu : P.underlying t = some (.array 3 e)) (hsz : P.cellsOf e = 1) (hct : P.cellsOf t = 3) (he : P.underlying e = some (.int .i64)) :
    Rd enc P w t (fun v : V => vR v) (fun v => (-9223372036854775808 ≤ v.1 ∧ v.1 ≤ 9223372036854775807) ∧ (-9223372036854775808 ≤ v.2.1 ∧ v.2.1 ≤ 9223372036854775807) ∧ (-9223372036854775808 ≤ v.2.2 ∧ v.2.2 ≤ 9223372036854775807)) := by
  refine (Rd.array (F := Go.AW.i64) hu hsz hct (Rd.i64 he)).conv ?_
  rintro l ⟨hl, hx⟩
  match l, hl with
  | [a, b, c], _ => exact ⟨(a, b, c), ⟨hx a (by simp), hx b (by simp), hx c (by simp)⟩, rfl⟩

theorem okWide_array {P : Program} {w : World} {r : Reach} {base : Nat} {t e : TypeId} {n : Nat} {v : Value} (ht : P.underlying t = some (.array n e)) (h : Value.okWide P w r base t v) : ∃ cs, v = .agg cs := by
  simp only [Value.okWide, ht] at h
  obtain ⟨cs, h1, h2, _⟩ := h
  exact ⟨cs, h1⟩

end
end Go.AW
