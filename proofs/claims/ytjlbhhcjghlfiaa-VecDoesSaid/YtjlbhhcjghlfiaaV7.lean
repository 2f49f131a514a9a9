/- Vectors: the laws without the document's answer. -/
import Derived.Test.YtjlbhhcjghlfiaaV6
set_option linter.unusedVariables false
set_option linter.unusedSimpArgs false
namespace Go.AW.Vec
open Go Go.AW Go.Proofs
set_option maxRecDepth 10000
set_option pp.maxSteps 600

theorem V_ext {a b : V} (h : ∀ r, r < 3 → cmp a r = cmp b r) : a = b := by
  obtain ⟨a1, a2, a3⟩ := a
  obtain ⟨b1, b2, b3⟩ := b
  have h0 := h 0 (by decide)
  have h1 := h 1 (by decide)
  have h2 := h 2 (by decide)
  simp only [cmp] at h0 h1 h2
  rw [h0, h1, h2]
theorem tot_is {sg : List Int} {l : List V} {v : V} (hv : okV v) (h : ∀ r, tot sg l r = cmp v r) : totV sg l = v ∧ totE sg l = 0 := by
  have hy : totOk sg l = true := totOk_yes fun r _ => by rw [h r]; exact okB_iff.2 (cmp_ok hv r)
  refine ⟨?_, by unfold totE; rw [hy]; rfl⟩
  unfold totV
  rw [hy, h 0, h 1, h 2]
  rfl
/-- What is a total: the sums, or none. -/
theorem tot_cases (sg : List Int) (l : List V) : (totE sg l = 0 ∧ ∀ r, r < 3 → cmp (totV sg l) r = tot sg l r ∧ okI (tot sg l r)) ∨ (totE sg l = 6 ∧ totV sg l = (0, 0, 0)) := by
  cases hy : totOk sg l with
  | false => right; unfold totE totV; rw [hy]; exact ⟨rfl, rfl⟩
  | true =>
    left
    refine ⟨by unfold totE; rw [hy]; rfl, fun r hr => ?_⟩
    have e : totV sg l = (tot sg l 0, tot sg l 1, tot sg l 2) := by unfold totV; rw [hy]; rfl
    have ho : okB (tot sg l r) = true := by
      cases h : okB (tot sg l r) with
      | true => rfl
      | false => rw [totOk_no hr h] at hy; cases hy
    refine ⟨?_, okB_iff.1 ho⟩
    rw [e]
    match r, hr with
    | 0, _ => rfl
    | 1, _ => rfl
    | 2, _ => rfl
theorem zero_ok : okV (0, 0, 0) := by exact ⟨⟨by decide, by decide⟩, ⟨by decide, by decide⟩, ⟨by decide, by decide⟩⟩
theorem totV_okV (sg : List Int) (l : List V) : okV (totV sg l) := by
  rcases tot_cases sg l with ⟨_, h⟩ | ⟨_, h⟩
  · have h0 := h 0 (by decide)
    have h1 := h 1 (by decide)
    have h2 := h 2 (by decide)
    exact ⟨by have := h0.2; rw [← h0.1] at this; exact this, by have := h1.2; rw [← h1.1] at this; exact this, by have := h2.2; rw [← h2.1] at this; exact this⟩
  · rw [h]; exact zero_ok
theorem zero_cmp (r : Nat) : cmp (0, 0, 0) r = 0 := by match r with | 0 => rfl | 1 => rfl | _ + 2 => rfl
theorem sum_none : totV [1] [] = (0, 0, 0) ∧ totE [1] [] = 0 := tot_is zero_ok fun r => by rw [zero_cmp]; rfl
theorem sum_one {a : V} (ha : okV a) : totV [1] [a] = a ∧ totE [1] [a] = 0 := tot_is ha fun r => by show 0 + 1 * cmp a r = _; omega
theorem sum_zero {a : V} (ha : okV a) : totV [1] [a, (0, 0, 0)] = a ∧ totE [1] [a, (0, 0, 0)] = 0 := tot_is ha fun r => by
  show 0 + 1 * cmp a r + 1 * cmp (0, 0, 0) r = _
  rw [zero_cmp]; omega
theorem dif_self (a : V) : difV a a = (0, 0, 0) ∧ difE a a = 0 := by unfold difV difE; rw [eqV_self]; exact ⟨rfl, rfl⟩

theorem VecNone_law (a b : V) (ha : okV a) (hb : okV b) : FCv Try.prog 9 [vT a, vT b] (tb true) := by
  refine FCv_of_awp (fn := Try.f9) (c := bodyC Try.f9) Try.func9 rfl (of_decide_eq_true rfl) [] ?_
  conv => whnf
  refine ⟨_, awake_law, ?_⟩
  conv => whnf
  have s0 := (sum_law [] (by simp) (by simp)).weak (ts := [.lit (.slice none 0 0)]) ⟨.nil 3, trivial⟩
  rw [sum_none.1, sum_none.2] at s0
  have s1 := sum_law [a] (by simpa using ha) (by simp)
  rw [(sum_one ha).1, (sum_one ha).2] at s1
  have s2 := sum_law [a, b] (by intro v hv; simp at hv; rcases hv with rfl | rfl <;> assumption) (by simp)
  have s3 := add_law a b ha hb
  have s4 := add_law a (0, 0, 0) ha zero_ok
  rw [(sum_zero ha).1, (sum_zero ha).2] at s4
  have s5 := sub_law a a ha ha
  rw [(dif_self a).1, (dif_self a).2] at s5
  refine ⟨_, s0, ?_⟩
  conv => whnf
  refine ⟨_, s1, ?_⟩
  conv => whnf
  refine ⟨_, s2, ?_⟩
  conv => whnf
  refine ⟨_, s3, ?_⟩
  conv => whnf
  refine ⟨_, s4, ?_⟩
  conv => whnf
  refine ⟨_, s5, ?_⟩
  conv => whnf
  refine ⟨vV (0, 0, 0), vV (0, 0, 0), rfl, rfl, eqPure _ _ _ _ ?_⟩
  rw [eqV_self]
  conv => whnf
  refine ⟨vV a, vV a, rfl, rfl, eqPure _ _ _ _ ?_⟩
  rw [eqV_self]
  conv => whnf
  refine ⟨vV (totV [1] [a, b]), vV (totV [1] [a, b]), rfl, rfl, eqPure _ _ _ _ ?_⟩
  rw [eqV_self]
  conv => whnf
  rw [beq_self_eq_true]
  conv => whnf
  refine ⟨vV a, vV a, rfl, rfl, eqPure _ _ _ _ ?_⟩
  rw [eqV_self]
  conv => whnf
  refine ⟨vV (0, 0, 0), vV (0, 0, 0), rfl, rfl, eqPure _ _ _ _ ?_⟩
  rw [eqV_self]
  conv => whnf
  exact .inl rfl
end Go.AW.Vec
