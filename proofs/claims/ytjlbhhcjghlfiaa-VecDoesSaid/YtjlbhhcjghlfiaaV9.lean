/- Vectors: the law of what is taken back. -/
import Derived.Test.YtjlbhhcjghlfiaaV8
set_option linter.unusedVariables false
set_option linter.unusedSimpArgs false
namespace Go.AW.Vec
open Go Go.AW Go.Proofs
set_option maxRecDepth 10000
set_option pp.maxSteps 600
theorem tot2m (a b : V) (r : Nat) : tot [1, -1] [a, b] r = cmp a r - cmp b r := by
  have e : tot [1, -1] [a, b] r = (0 + (1 : Int) * cmp a r) + (-1 : Int) * cmp b r := by
    simp [tot, psum]
  rw [e]; omega
theorem tot_is3 {sg : List Int} {l : List V} {v : V} (hv : okV v) (h : ∀ r, r < 3 → tot sg l r = cmp v r) : totV sg l = v ∧ totE sg l = 0 := by
  have hy : totOk sg l = true := totOk_yes fun r hr => by rw [h r hr]; exact okB_iff.2 (cmp_ok hv r)
  refine ⟨?_, by unfold totE; rw [hy]; rfl⟩
  unfold totV
  rw [hy, h 0 (by decide), h 1 (by decide), h 2 (by decide)]
  rfl
theorem dif_is {x y v : V} (hv : okV v) (h : ∀ r, r < 3 → cmp v r = cmp x r - cmp y r) : difV x y = v ∧ difE x y = 0 := by
  unfold difV difE
  cases e : eqV x y with
  | true =>
    have e2 := eqV_iff.1 e
    subst e2
    refine ⟨?_, rfl⟩
    show (0, 0, 0) = v
    exact V_ext fun r hr => by rw [h r hr, zero_cmp]; omega
  | false =>
    have := tot_is3 (sg := [1, -1]) (l := [x, y]) hv (fun r hr => by rw [tot2m, h r hr])
    exact ⟨this.1, this.2⟩
theorem back {a b : V} (ha : okV a) (he : totE [1] [a, b] = 0) : difV (totV [1] [a, b]) b = a ∧ difE (totV [1] [a, b]) b = 0 := by
  rcases tot_cases [1] [a, b] with ⟨_, h⟩ | ⟨h, _⟩
  · exact dif_is ha fun r hr => by rw [(h r hr).1, tot2]; omega
  · rw [h] at he; cases he
theorem back2 {a b : V} (hb : okV b) (he : totE [1] [a, b] = 0) : difV (totV [1] [a, b]) a = b ∧ difE (totV [1] [a, b]) a = 0 := by
  rcases tot_cases [1] [a, b] with ⟨_, h⟩ | ⟨h, _⟩
  · exact dif_is hb fun r hr => by rw [(h r hr).1, tot2]; omega
  · rw [h] at he; cases he
theorem may_iff {a : V} : mayV a = true ↔ ∀ r, r < 3 → 0 ≤ cmp a r := by
  unfold mayV
  rw [fits_iff]
  refine ⟨fun h r hr => ?_, fun h r hr => ?_⟩
  · have := h r hr; rwa [zero_cmp] at this
  · rw [zero_cmp]; exact h r hr
theorem left {a b : V} (ha : okV a) (hb : okV b) (hma : mayV a = true) (hmb : mayV b = true) : difE b a = 0 ∧ mayV (difV b a) = fitsV a b := by
  have h0 := fun r => mayV_cmp hma r
  have h1 := fun r => mayV_cmp hmb r
  have h2 := fun r => cmp_ok ha r
  have h3 := fun r => cmp_ok hb r
  have key := dif_is (x := b) (y := a) (v := (cmp b 0 - cmp a 0, cmp b 1 - cmp a 1, cmp b 2 - cmp a 2))
    ⟨⟨by have := h0 0; have := h1 0; have := h2 0; have := h3 0; unfold okI at *; simp only; omega, by have := h0 0; have := h1 0; have := h2 0; have := h3 0; unfold okI at *; simp only; omega⟩,
      ⟨by have := h0 1; have := h1 1; have := h2 1; have := h3 1; unfold okI at *; simp only; omega, by have := h0 1; have := h1 1; have := h2 1; have := h3 1; unfold okI at *; simp only; omega⟩,
      ⟨by have := h0 2; have := h1 2; have := h2 2; have := h3 2; unfold okI at *; simp only; omega, by have := h0 2; have := h1 2; have := h2 2; have := h3 2; unfold okI at *; simp only; omega⟩⟩
    (fun r hr => by match r, hr with | 0, _ => rfl | 1, _ => rfl | 2, _ => rfl)
  refine ⟨key.2, ?_⟩
  rw [key.1]
  cases hf : fitsV a b with
  | true =>
    rw [may_iff]
    intro r hr
    have := fits_iff.1 hf r hr
    match r, hr with
    | 0, _ => simp only [cmp] at this ⊢; omega
    | 1, _ => simp only [cmp] at this ⊢; omega
    | 2, _ => simp only [cmp] at this ⊢; omega
  | false =>
    cases hm : mayV (cmp b 0 - cmp a 0, cmp b 1 - cmp a 1, cmp b 2 - cmp a 2) with
    | false => rfl
    | true =>
      have : fitsV a b = true := fits_iff.2 fun r hr => by
        have := may_iff.1 hm r hr
        match r, hr with
        | 0, _ => simp only [cmp] at this ⊢; omega
        | 1, _ => simp only [cmp] at this ⊢; omega
        | 2, _ => simp only [cmp] at this ⊢; omega
      rw [hf] at this; cases this

theorem VecBack_law (a b : V) (ha : okV a) (hb : okV b) : FCv Try.prog 6 [vT a, vT b] (tb true) := by
  refine FCv_of_awp (fn := Try.f6) (c := bodyC Try.f6) Try.func6 rfl (of_decide_eq_true rfl) [] ?_
  conv => whnf
  refine ⟨_, awake_law, ?_⟩
  conv => whnf
  refine ⟨_, add_law a b ha hb, ?_⟩
  conv => whnf
  have hs := totV_okV [1] [a, b]
  have sb := sub_law _ b hs hb
  have sa := sub_law _ a hs ha
  rcases tot_cases [1] [a, b] with ⟨hE, _⟩ | ⟨hE, _⟩
  · have e1 : (totE [1] [a, b] == 0) = true := by rw [hE]; rfl
    rw [e1]
    rw [(back ha hE).1, (back ha hE).2] at sb
    rw [(back2 hb hE).1, (back2 hb hE).2] at sa
    conv => whnf
    refine ⟨_, sb, ?_⟩
    conv => whnf
    refine ⟨_, sa, ?_⟩
    conv => whnf
    refine ⟨vV a, vV a, rfl, rfl, nePure _ _ _ _ ?_⟩
    rw [eqV_self]
    conv => whnf
    refine ⟨vV b, vV b, rfl, rfl, nePure _ _ _ _ ?_⟩
    rw [eqV_self]
    conv => whnf
    refine ⟨_, may_law a, ?_⟩
    conv => whnf
    cases hma : mayV a with
    | false =>
      conv => whnf
      exact .inl rfl
    | true =>
    conv => whnf
    refine ⟨_, may_law b, ?_⟩
    conv => whnf
    cases hmb : mayV b with
    | false =>
      conv => whnf
      exact .inl rfl
    | true =>
    conv => whnf
    have sd := sub_law b a hb ha
    rw [(left ha hb hma hmb).1] at sd
    refine ⟨_, sd, ?_⟩
    conv => whnf
    refine ⟨_, may_law (difV b a), ?_⟩
    rw [(left ha hb hma hmb).2]
    conv => whnf
    refine ⟨_, fits_law a b, ?_⟩
    conv => whnf
    refine .inl (congrArg tb ?_)
    exact beq_self_eq_true _
  · have e1 : (totE [1] [a, b] == 0) = false := by rw [hE]; rfl
    rw [e1]
    conv => whnf
    refine ⟨_, may_law a, ?_⟩
    conv => whnf
    cases hma : mayV a with
    | false =>
      conv => whnf
      exact .inl rfl
    | true =>
    conv => whnf
    refine ⟨_, may_law b, ?_⟩
    conv => whnf
    cases hmb : mayV b with
    | false =>
      conv => whnf
      exact .inl rfl
    | true =>
    conv => whnf
    have sd := sub_law b a hb ha
    rw [(left ha hb hma hmb).1] at sd
    refine ⟨_, sd, ?_⟩
    conv => whnf
    refine ⟨_, may_law (difV b a), ?_⟩
    rw [(left ha hb hma hmb).2]
    conv => whnf
    refine ⟨_, fits_law a b, ?_⟩
    conv => whnf
    refine .inl (congrArg tb ?_)
    exact beq_self_eq_true _
end Go.AW.Vec
