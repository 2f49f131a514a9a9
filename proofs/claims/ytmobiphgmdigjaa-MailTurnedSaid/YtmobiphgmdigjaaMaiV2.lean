import Derived.Test.YtmobiphgmdigjaaAw27
import Derived.Test.YtmobiphgmdigjaaProg
/- Vectors: the functions of the program, walked, on. -/
set_option linter.unusedVariables false
set_option linter.unusedSimpArgs false
namespace Go.AW.Vec
open Go Go.AW Go.Proofs
set_option maxRecDepth 10000
set_option pp.maxSteps 900

theorem i64w {a b : Int} (h : a = b) (h1 : -9223372036854775808 ≤ b) (h2 : b ≤ 9223372036854775807) : IntKind.i64.wrap a = b := by rw [h]; exact wrap_i64 b h1 h2
theorem i64_cong {a b : Int} (h : a = b) : T.lit (.int .i64 a) = i64 b := by rw [h]; rfl
def cmp (v : V) : Nat → Int
  | 0 => v.1
  | 1 => v.2.1
  | _ => v.2.2
def okI (n : Int) : Prop := -9223372036854775808 ≤ n ∧ n ≤ 9223372036854775807
def okV (v : V) : Prop := okI v.1 ∧ okI v.2.1 ∧ okI v.2.2
theorem vR_get (v : V) (i : Nat) (h : i < 3) : (vR v)[0 + ((i : Int)).toNat * 1]? = some (i64 (cmp v i)) := by
  match i, h with
  | 0, _ => rfl
  | 1, _ => rfl
  | 2, _ => rfl
theorem cmp_ok {v : V} (h : okV v) (i : Nat) : okI (cmp v i) := by
  match i with
  | 0 => exact h.1
  | 1 => exact h.2.1
  | _ + 2 => exact h.2.2
theorem vR_lt (x : Nat) (v : V) : blkLt x (.own 3 [vR v]) := by
  intro row hr c hc
  obtain rfl := List.mem_singleton.1 hr
  simp only [vR, List.mem_cons, List.not_mem_nil, or_false] at hc
  rcases hc with rfl | rfl | rfl <;> trivial

def fitsV (a b : V) : Bool := decide (a.1 ≤ b.1) && decide (a.2.1 ≤ b.2.1) && decide (a.2.2 ≤ b.2.2)
theorem fitsV_all {a b : V} (h : ∀ r, r < 3 → cmp a r ≤ cmp b r) : fitsV a b = true := by
  have h0 := h 0 (by decide)
  have h1 := h 1 (by decide)
  have h2 := h 2 (by decide)
  simp only [cmp] at h0 h1 h2
  unfold fitsV
  rw [decide_eq_true h0, decide_eq_true h1, decide_eq_true h2]; rfl
theorem fitsV_no {a b : V} {r : Nat} (hr : r < 3) (h : cmp b r < cmp a r) : fitsV a b = false := by
  unfold fitsV
  match r, hr with
  | 0, _ => simp only [cmp] at h; rw [decide_eq_false (p := a.1 ≤ b.1) (by omega)]; rfl
  | 1, _ => simp only [cmp] at h; rw [decide_eq_false (p := a.2.1 ≤ b.2.1) (by omega)]; cases decide (a.1 ≤ b.1) <;> rfl
  | 2, _ => simp only [cmp] at h; rw [decide_eq_false (p := a.2.2 ≤ b.2.2) (by omega)]; cases decide (a.1 ≤ b.1) <;> cases decide (a.2.1 ≤ b.2.1) <;> rfl

theorem fits_law (a b : V) : FCv Try.prog 63 [vT a, vT b] (tb (fitsV a b)) := by
  refine FCv_of_awp (fn := Try.f63) (c := bodyC Try.f63) Try.func63 rfl (of_decide_eq_true rfl) [] ?_
  conv => whnf
  refine loop_intro (fun q : {q : Fin 4 // ∀ r, r < q.val → cmp a r ≤ cmp b r} => ⟨[(2, .ptr 0 0 0), (3, .ptr 1 0 0), (6, i64 q.1.val)], [(0, .own 3 [vR a]), (1, .own 3 [vR b])], 17, 2, []⟩) (fun q => 3 - q.1) ⟨0, fun r h => absurd h (Nat.not_lt_zero r)⟩ ?_ ?_
  · refine Wk.intro [] rfl (fun p hp => by cases hp) ⟨.same rfl (by exact rfl), .same rfl (by exact rfl), .same rfl trivial, trivial⟩
      ⟨⟨rfl, .inl ⟨rfl, vR_lt _ _⟩⟩, ⟨rfl, .inl ⟨rfl, vR_lt _ _⟩⟩, trivial⟩
  rintro ⟨i, hi⟩
  dsimp only
  conv => whnf
  refine br_intro (fun h => ?_) (fun h => ?_)
  · rw [h]
    have h3 : i.val < 3 := by have := of_decide_eq_true h; omega
    conv => whnf
    refine ⟨⟨by omega, by omega⟩, ?_⟩
    conv => whnf
    refine nthK_intro (vR_get a i.val h3) ?_
    conv => whnf
    refine ⟨⟨by omega, by omega⟩, ?_⟩
    conv => whnf
    refine nthK_intro (vR_get b i.val h3) ?_
    conv => whnf
    refine br_intro (fun h => ?_) (fun h => ?_)
    · rw [h]
      conv => whnf
      exact .inl (congrArg tb (fitsV_no h3 (of_decide_eq_true h)).symm)
    · rw [h]
      have h4 := of_decide_eq_false h
      conv => whnf
      refine Nx.intro ⟨⟨i.val + 1, by omega⟩, fun r hr => ?_⟩ (by simp only; omega) ?_
      · simp only at hr
        by_cases e : r = i.val
        · subst e; omega
        · exact hi r (by omega)
      refine Wk.intro [] rfl (fun p hp => by cases hp) ⟨.same rfl (by exact rfl), .same rfl (by exact rfl), .same ?_ trivial, trivial⟩
        ⟨⟨rfl, .inl ⟨rfl, vR_lt _ _⟩⟩, ⟨rfl, .inl ⟨rfl, vR_lt _ _⟩⟩, trivial⟩
      exact i64_cong (i64w (by simp only; omega) (by simp only; omega) (by simp only; omega))
  · rw [h]
    have h3 : i.val = 3 := by have := of_decide_eq_false h; omega
    conv => whnf
    exact .inl (congrArg tb (fitsV_all (fun r hr => hi r (by omega))).symm)

def mayV (a : V) : Bool := fitsV (0, 0, 0) a
theorem may_law (a : V) : FCv Try.prog 53 [vT a] (tb (mayV a)) := by
  refine FCv_of_awp (fn := Try.f53) (c := bodyC Try.f53) Try.func53 rfl (of_decide_eq_true rfl) [] ?_
  conv => whnf
  refine ⟨_, fits_law (0, 0, 0) a, ?_⟩
  conv => whnf
  exact .inl rfl
end Go.AW.Vec
