/- Vectors: what a program that refuses all would fail at. -/
import Derived.Test.YtjlbhhcjghlfiaaV5
set_option linter.unusedVariables false
set_option linter.unusedSimpArgs false
namespace Go.AW.Vec
open Go Go.AW Go.Proofs
set_option maxRecDepth 10000
set_option pp.maxSteps 600
theorem okV_of {v : V} (h : (okB v.1 && (okB v.2.1 && okB v.2.2)) = true) : okV v := by
  simp only [Bool.and_eq_true] at h
  exact ⟨okB_iff.1 h.1, okB_iff.1 h.2.1, okB_iff.1 h.2.2⟩
theorem okVs_of {l : List V} (h : l.all (fun v => okB v.1 && (okB v.2.1 && okB v.2.2)) = true) : ∀ v ∈ l, okV v := fun v hv => okV_of (List.all_eq_true.1 h v hv)

theorem awake_law : FCv Try.prog 10 [] (tb true) := by
  have s1 := sum_law [(9223372036854775807, 0, 0), (1, 0, 0), (-1, 0, 0)] (okVs_of rfl) (by decide)
  rw [show totV [1] [(9223372036854775807, 0, 0), (1, 0, 0), (-1, 0, 0)] = (9223372036854775807, 0, 0) from by decide, show totE [1] [(9223372036854775807, 0, 0), (1, 0, 0), (-1, 0, 0)] = 0 from by decide] at s1
  have s2 := add_law (9223372036854775807, 0, 0) (1, 0, 0) (okV_of rfl) (okV_of rfl)
  rw [show totV [1] [(9223372036854775807, 0, 0), (1, 0, 0)] = (0, 0, 0) from by decide, show totE [1] [(9223372036854775807, 0, 0), (1, 0, 0)] = 6 from by decide] at s2
  have s3 := sub_law (5, 4, 3) (1, 1, 1) (okV_of rfl) (okV_of rfl)
  rw [show difV (5, 4, 3) (1, 1, 1) = (4, 3, 2) from by decide, show difE (5, 4, 3) (1, 1, 1) = 0 from by decide] at s3
  refine FCv_of_awp (fn := Try.f10) (c := bodyC Try.f10) Try.func10 rfl (of_decide_eq_true rfl) [] ?_
  conv => whnf
  refine ⟨_, s1, ?_⟩
  conv => whnf
  refine ⟨_, s2, ?_⟩
  conv => whnf
  refine ⟨_, s3, ?_⟩
  conv => whnf
  refine ⟨vV (9223372036854775807, 0, 0), vV (9223372036854775807, 0, 0), rfl, rfl, eqPure _ _ _ _ ?_⟩
  rw [eqV_self]
  conv => whnf
  refine ⟨vV (4, 3, 2), vV (4, 3, 2), rfl, rfl, eqPure _ _ _ _ ?_⟩
  rw [eqV_self]
  conv => whnf
  refine ⟨_, may_law (9223372036854775807, 0, 0), ?_⟩
  rw [show mayV (9223372036854775807, 0, 0) = true from by decide]
  conv => whnf
  refine ⟨_, may_law (0, -1, 0), ?_⟩
  rw [show mayV (0, -1, 0) = false from by decide]
  conv => whnf
  refine ⟨_, fits_law (4, 3, 2) (4, 3, 2), ?_⟩
  rw [show fitsV (4, 3, 2) (4, 3, 2) = true from by decide]
  conv => whnf
  refine ⟨_, fits_law (9223372036854775807, 0, 0) (4, 3, 2), ?_⟩
  rw [show fitsV (9223372036854775807, 0, 0) (4, 3, 2) = false from by decide]
  conv => whnf
  refine ⟨_, Share_law (1, 0, 5) (3, 0, 5) (okV_of rfl) (okV_of rfl), ?_⟩
  rw [show sharesV (1, 0, 5) (3, 0, 5) = 1000 from by decide]
  conv => whnf
  exact .inl rfl
end Go.AW.Vec
