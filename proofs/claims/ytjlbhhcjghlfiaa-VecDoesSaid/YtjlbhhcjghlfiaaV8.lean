/- Vectors: the law of what fits. -/
import Derived.Test.YtjlbhhcjghlfiaaV7
set_option linter.unusedVariables false
set_option linter.unusedSimpArgs false
namespace Go.AW.Vec
open Go Go.AW Go.Proofs
set_option maxRecDepth 10000
set_option pp.maxSteps 600
theorem fits_iff {a b : V} : fitsV a b = true ↔ ∀ r, r < 3 → cmp a r ≤ cmp b r := by
  refine ⟨fun h r hr => ?_, fitsV_all⟩
  rcases Int.lt_or_le (cmp b r) (cmp a r) with h2 | h2
  · rw [fitsV_no hr h2] at h; cases h
  · exact h2
theorem fits_refl (a : V) : fitsV a a = true := fits_iff.2 fun r _ => Int.le_refl _
theorem fits_anti {a b : V} (h : fitsV a b = true) (h2 : fitsV b a = true) : a = b :=
  V_ext fun r hr => Int.le_antisymm (fits_iff.1 h r hr) (fits_iff.1 h2 r hr)
theorem fits_trans {a b c : V} (h : fitsV a b = true) (h2 : fitsV b c = true) : fitsV a c = true :=
  fits_iff.2 fun r hr => Int.le_trans (fits_iff.1 h r hr) (fits_iff.1 h2 r hr)
theorem tot2 (a b : V) (r : Nat) : tot [1] [a, b] r = cmp a r + cmp b r := by
  have e : tot [1] [a, b] r = (0 + (1 : Int) * cmp a r) + (1 : Int) * cmp b r := by
    simp [tot, psum]
  rw [e]; omega
theorem add_grows {a b : V} (he : totE [1] [a, b] = 0) (hm : mayV b = true) : fitsV a (totV [1] [a, b]) = true := by
  rcases tot_cases [1] [a, b] with ⟨_, h⟩ | ⟨h, _⟩
  · refine fits_iff.2 fun r hr => ?_
    rw [(h r hr).1, tot2]
    have := mayV_cmp hm r
    omega
  · rw [h] at he; cases he

theorem VecFits_law (a b c : V) (ha : okV a) (hb : okV b) (hc : okV c) : FCv Try.prog 8 [vT a, vT b, vT c] (tb true) := by
  refine FCv_of_awp (fn := Try.f8) (c := bodyC Try.f8) Try.func8 rfl (of_decide_eq_true rfl) [] ?_
  conv => whnf
  refine ⟨_, awake_law, ?_⟩
  conv => whnf
  refine ⟨_, fits_law a a, ?_⟩
  rw [fits_refl]
  conv => whnf
  refine ⟨_, fits_law a b, ?_⟩
  conv => whnf
  have s1 := add_law a b ha hb
  rcases tot_cases [1] [a, b] with ⟨hE, _⟩ | ⟨hE, _⟩
  · have e1 : (totE [1] [a, b] != 0) = false := by rw [hE]; rfl
    cases hab : fitsV a b with
    | false =>
      conv => whnf
      refine ⟨_, fits_law a b, ?_⟩
      rw [hab]
      conv => whnf
      refine ⟨_, s1, ?_⟩
      conv => whnf
      rw [e1]
      conv => whnf
      refine ⟨_, may_law b, ?_⟩
      conv => whnf
      cases hmb : mayV b with
      | false =>
        conv => whnf
        exact .inl rfl
      | true =>
        conv => whnf
        refine ⟨_, fits_law a (totV [1] [a, b]), ?_⟩
        rw [add_grows hE hmb]
        conv => whnf
        exact .inl rfl
    | true =>
      conv => whnf
      refine ⟨_, fits_law b a, ?_⟩
      conv => whnf
      cases hba : fitsV b a with
      | false =>
        conv => whnf
        refine ⟨_, fits_law a b, ?_⟩
        rw [hab]
        conv => whnf
        refine ⟨_, fits_law b c, ?_⟩
        conv => whnf
        cases hbc : fitsV b c with
        | false =>
          conv => whnf
          refine ⟨_, s1, ?_⟩
          conv => whnf
          rw [e1]
          conv => whnf
          refine ⟨_, may_law b, ?_⟩
          conv => whnf
          cases hmb : mayV b with
          | false =>
            conv => whnf
            exact .inl rfl
          | true =>
            conv => whnf
            refine ⟨_, fits_law a (totV [1] [a, b]), ?_⟩
            rw [add_grows hE hmb]
            conv => whnf
            exact .inl rfl
        | true =>
          conv => whnf
          refine ⟨_, fits_law a c, ?_⟩
          rw [fits_trans hab hbc]
          conv => whnf
          refine ⟨_, s1, ?_⟩
          conv => whnf
          rw [e1]
          conv => whnf
          refine ⟨_, may_law b, ?_⟩
          conv => whnf
          cases hmb : mayV b with
          | false =>
            conv => whnf
            exact .inl rfl
          | true =>
            conv => whnf
            refine ⟨_, fits_law a (totV [1] [a, b]), ?_⟩
            rw [add_grows hE hmb]
            conv => whnf
            exact .inl rfl
      | true =>
        conv => whnf
        refine ⟨vV a, vV b, rfl, rfl, nePure _ _ a b ?_⟩
        rw [show eqV a b = true from eqV_iff.2 (fits_anti hab hba)]
        conv => whnf
        refine ⟨_, fits_law a b, ?_⟩
        rw [hab]
        conv => whnf
        refine ⟨_, fits_law b c, ?_⟩
        conv => whnf
        cases hbc : fitsV b c with
        | false =>
          conv => whnf
          refine ⟨_, s1, ?_⟩
          conv => whnf
          rw [e1]
          conv => whnf
          refine ⟨_, may_law b, ?_⟩
          conv => whnf
          cases hmb : mayV b with
          | false =>
            conv => whnf
            exact .inl rfl
          | true =>
            conv => whnf
            refine ⟨_, fits_law a (totV [1] [a, b]), ?_⟩
            rw [add_grows hE hmb]
            conv => whnf
            exact .inl rfl
        | true =>
          conv => whnf
          refine ⟨_, fits_law a c, ?_⟩
          rw [fits_trans hab hbc]
          conv => whnf
          refine ⟨_, s1, ?_⟩
          conv => whnf
          rw [e1]
          conv => whnf
          refine ⟨_, may_law b, ?_⟩
          conv => whnf
          cases hmb : mayV b with
          | false =>
            conv => whnf
            exact .inl rfl
          | true =>
            conv => whnf
            refine ⟨_, fits_law a (totV [1] [a, b]), ?_⟩
            rw [add_grows hE hmb]
            conv => whnf
            exact .inl rfl
  · have e1 : (totE [1] [a, b] != 0) = true := by rw [hE]; rfl
    cases hab : fitsV a b with
    | false =>
      conv => whnf
      refine ⟨_, fits_law a b, ?_⟩
      rw [hab]
      conv => whnf
      refine ⟨_, s1, ?_⟩
      conv => whnf
      rw [e1]
      conv => whnf
      exact .inl rfl
    | true =>
      conv => whnf
      refine ⟨_, fits_law b a, ?_⟩
      conv => whnf
      cases hba : fitsV b a with
      | false =>
        conv => whnf
        refine ⟨_, fits_law a b, ?_⟩
        rw [hab]
        conv => whnf
        refine ⟨_, fits_law b c, ?_⟩
        conv => whnf
        cases hbc : fitsV b c with
        | false =>
          conv => whnf
          refine ⟨_, s1, ?_⟩
          conv => whnf
          rw [e1]
          conv => whnf
          exact .inl rfl
        | true =>
          conv => whnf
          refine ⟨_, fits_law a c, ?_⟩
          rw [fits_trans hab hbc]
          conv => whnf
          refine ⟨_, s1, ?_⟩
          conv => whnf
          rw [e1]
          conv => whnf
          exact .inl rfl
      | true =>
        conv => whnf
        refine ⟨vV a, vV b, rfl, rfl, nePure _ _ a b ?_⟩
        rw [show eqV a b = true from eqV_iff.2 (fits_anti hab hba)]
        conv => whnf
        refine ⟨_, fits_law a b, ?_⟩
        rw [hab]
        conv => whnf
        refine ⟨_, fits_law b c, ?_⟩
        conv => whnf
        cases hbc : fitsV b c with
        | false =>
          conv => whnf
          refine ⟨_, s1, ?_⟩
          conv => whnf
          rw [e1]
          conv => whnf
          exact .inl rfl
        | true =>
          conv => whnf
          refine ⟨_, fits_law a c, ?_⟩
          rw [fits_trans hab hbc]
          conv => whnf
          refine ⟨_, s1, ?_⟩
          conv => whnf
          rw [e1]
          conv => whnf
          exact .inl rfl
end Go.AW.Vec
