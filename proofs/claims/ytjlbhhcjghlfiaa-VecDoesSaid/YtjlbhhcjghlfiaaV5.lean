/- Vectors: sums, differences, shares. -/
import Derived.Test.YtjlbhhcjghlfiaaV4
set_option linter.unusedVariables false
set_option linter.unusedSimpArgs false
namespace Go.AW.Vec
open Go Go.AW Go.Proofs
set_option maxRecDepth 10000
set_option pp.maxSteps 900

theorem signs1 : Signs [1] := ⟨by decide, by decide, by decide⟩
theorem signs2 : Signs [1, -1] := ⟨by decide, by decide, by decide⟩

theorem sum_law (l : List V) (hl : ∀ v ∈ l, okV v) (hlen : l.length ≤ 1000000000) :
    FCv Try.prog 21 [.sl none 3 (vRows l)] (.tup [vT (totV [1] l), i64 (totE [1] l)]) := by
  refine FCv_of_awp (fn := Try.f21) (c := bodyC Try.f21) Try.func21 rfl (of_decide_eq_true rfl) [] ?_
  conv => whnf
  refine ⟨_, total_law [1] l signs1 hl hlen, ?_⟩
  conv => whnf
  exact ⟨Or.inl rfl, Or.inl rfl, trivial⟩

theorem add_law (a b : V) (ha : okV a) (hb : okV b) : FCv Try.prog 11 [vT a, vT b] (.tup [vT (totV [1] [a, b]), i64 (totE [1] [a, b])]) := by
  refine FCv_of_awp (fn := Try.f11) (c := bodyC Try.f11) Try.func11 rfl (of_decide_eq_true rfl) [] ?_
  conv => whnf
  refine ⟨_, sum_law [a, b] (by intro v hv; simp at hv; rcases hv with rfl | rfl <;> assumption) (by simp), ?_⟩
  conv => whnf
  exact ⟨Or.inl rfl, Or.inl rfl, trivial⟩

theorem h23 : Try.prog.underlying 23 = some (.array 3 2) := Try.underlying23
theorem eqPure (ox oy : Operand) (a b : V) {K : T → Prop} (h : K (tb (eqV a b))) : pureA Try.prog (do eqGuard .eql 23 ox oy (.agg (vV a).toArray) (.agg (vV b).toArray); binOp .eql 23 (.agg (vV a).toArray) (.agg (vV b).toArray)) K :=
  pure_eq3 Try.underlying23 (by rfl) (by kernel_rfl) Try.underlying2 (by kernel_rfl) ox oy a b h
theorem nePure (ox oy : Operand) (a b : V) {K : T → Prop} (h : K (tb (!eqV a b))) : pureA Try.prog (do eqGuard .neq 23 ox oy (.agg (vV a).toArray) (.agg (vV b).toArray); binOp .neq 23 (.agg (vV a).toArray) (.agg (vV b).toArray)) K :=
  pure_ne3 Try.underlying23 (by rfl) (by kernel_rfl) Try.underlying2 (by kernel_rfl) ox oy a b h

def difV (a b : V) : V := if eqV a b = true then (0, 0, 0) else totV [1, -1] [a, b]
def difE (a b : V) : Int := if eqV a b = true then 0 else totE [1, -1] [a, b]
theorem sub_law (a b : V) (ha : okV a) (hb : okV b) : FCv Try.prog 13 [vT a, vT b] (.tup [vT (difV a b), i64 (difE a b)]) := by
  refine FCv_of_awp (fn := Try.f13) (c := bodyC Try.f13) Try.func13 rfl (of_decide_eq_true rfl) [] ?_
  conv => whnf
  refine ⟨vV a, vV b, rfl, rfl, eqPure _ _ a b ?_⟩
  conv => whnf
  unfold difV difE
  cases eqV a b with
  | true =>
    conv => whnf
    exact ⟨Or.inl rfl, Or.inl rfl, trivial⟩
  | false =>
    conv => whnf
    refine ⟨_, total_law [1, -1] [a, b] signs2 (by intro v hv; simp at hv; rcases hv with rfl | rfl <;> assumption) (by simp), ?_⟩
    conv => whnf
    exact ⟨Or.inl rfl, Or.inl rfl, trivial⟩

def shareW (a b : V) : Int := mxI (mxI (mxI 0 (shareV a.1 b.1)) (shareV a.2.1 b.2.1)) (shareV a.2.2 b.2.2)
def sharesV (a b : V) : Int := if mayV a && mayV b then shareW a b else 0
def upTo (a b : V) : Nat → Int
  | 0 => 0
  | r + 1 => mxI (upTo a b r) (shareV (cmp a r) (cmp b r))
theorem mayV_cmp {a : V} (h : mayV a = true) (r : Nat) : 0 ≤ cmp a r := by
  unfold mayV fitsV at h
  simp only [Bool.and_eq_true, decide_eq_true_eq] at h
  match r with
  | 0 => exact h.1.1
  | 1 => exact h.1.2
  | _ + 2 => exact h.2

theorem Share_law (a b : V) (ha : okV a) (hb : okV b) : FCv Try.prog 19 [vT a, vT b] (i64 (sharesV a b)) := by
  refine FCv_of_awp (fn := Try.f19) (c := bodyC Try.f19) Try.func19 rfl (of_decide_eq_true rfl) [] ?_
  conv => whnf
  refine ⟨_, may_law a, ?_⟩
  conv => whnf
  unfold sharesV
  cases hma : mayV a with
  | false =>
    conv => whnf
    exact .inl rfl
  | true =>
  conv => whnf
  refine ⟨_, may_law b, ?_⟩
  conv => whnf
  cases hmb : mayV b with
  | false =>
    conv => whnf
    exact .inl rfl
  | true =>
  conv => whnf
  refine loop_intro (fun q : Fin 4 => ⟨[(2, .ptr 0 0 0), (3, .ptr 1 0 0), (5, i64 (upTo a b q.val)), (15, i64 q.val)], [(0, .own 3 [vR a]), (1, .own 3 [vR b])], 29, 2, []⟩) (fun q => 3 - q.val) 0 ?_ ?_
  · refine Wk.intro [] rfl (fun p hp => by cases hp) ⟨.same rfl (by exact rfl), .same rfl (by exact rfl), .same rfl trivial, .same rfl trivial, trivial⟩
      ⟨⟨rfl, .inl ⟨rfl, vR_lt _ _⟩⟩, ⟨rfl, .inl ⟨rfl, vR_lt _ _⟩⟩, trivial⟩
  intro i
  conv => whnf
  refine br_intro (fun h => ?_) (fun h => ?_)
  · rw [h]
    have h3 : i.val < 3 := by have := of_decide_eq_true h; omega
    conv => whnf
    refine ⟨⟨by omega, by omega⟩, ?_⟩
    conv => whnf
    refine nthK_intro (vR_get a i.val h3) ?_
    conv => whnf
    refine ⟨⟨by omega, by omega⟩, ?_⟩
    conv => whnf
    refine nthK_intro (vR_get b i.val h3) ?_
    conv => whnf
    refine ⟨_, share_law (cmp a i.val) (cmp b i.val) (mayV_cmp hma _) (mayV_cmp hmb _) (cmp_ok ha _).2 (cmp_ok hb _).2, ?_⟩
    conv => whnf
    refine Nx.intro ⟨i.val + 1, by omega⟩ (by simp only; omega) ?_
    refine Wk.intro [] rfl (fun p hp => by cases hp) ⟨.same rfl (by exact rfl), .same rfl (by exact rfl), .same rfl trivial, .same ?_ trivial, trivial⟩
      ⟨⟨rfl, .inl ⟨rfl, vR_lt _ _⟩⟩, ⟨rfl, .inl ⟨rfl, vR_lt _ _⟩⟩, trivial⟩
    exact i64_cong (i64w (by simp only; omega) (by simp only; omega) (by simp only; omega))
  · rw [h]
    have h3 : i.val = 3 := by have := of_decide_eq_false h; omega
    conv => whnf
    refine .inl (i64_cong ?_)
    rw [h3]; rfl
end Go.AW.Vec
