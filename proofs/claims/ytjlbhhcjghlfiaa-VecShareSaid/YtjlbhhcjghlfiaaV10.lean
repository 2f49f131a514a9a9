/- Vectors: the law of shares. -/
import Derived.Test.YtjlbhhcjghlfiaaV9
set_option linter.unusedVariables false
set_option linter.unusedSimpArgs false
namespace Go.AW.Vec
open Go Go.AW Go.Proofs
set_option maxRecDepth 10000
set_option pp.maxSteps 600
theorem mxI_ge (a b : Int) : a ≤ mxI a b ∧ b ≤ mxI a b := by unfold mxI; split <;> omega
theorem mxI_le {a b c : Int} (h : a ≤ c) (h2 : b ≤ c) : mxI a b ≤ c := by unfold mxI; split <;> omega
theorem shareV_range {a b : Int} (ha : 0 ≤ a) (hb : 0 ≤ b) : 0 ≤ shareV a b ∧ shareV a b ≤ 1000 := by
  unfold shareV
  by_cases h1 : b < a
  · rw [if_pos h1]; omega
  · rw [if_neg h1]
    by_cases h2 : b = 0
    · rw [if_pos h2]; omega
    · rw [if_neg h2]
      refine ⟨Int.ediv_nonneg (by omega) hb, ?_⟩
      have : 1000 * a / b ≤ 1000 * b / b := Int.ediv_le_ediv (by omega) (by omega)
      rwa [Int.mul_ediv_cancel _ h2] at this
theorem shareV_whole {a b : Int} (ha : 0 ≤ a) (hb : 0 ≤ b) : shareV a b = 1000 ↔ b ≤ a ∧ 0 < a := by
  unfold shareV
  by_cases h1 : b < a
  · rw [if_pos h1]; constructor
    · intro _; omega
    · intro _; rfl
  · rw [if_neg h1]
    by_cases h2 : b = 0
    · rw [if_pos h2]; constructor
      · intro h; omega
      · intro h; omega
    · rw [if_neg h2]
      constructor
      · intro h
        have h3 : 1000 * b ≤ 1000 * a := by
          have := Int.mul_ediv_self_le (x := 1000 * a) (k := b) h2
          rw [h] at this
          omega
        omega
      · intro ⟨h3, h4⟩
        have : a = b := by omega
        rw [this, Int.mul_ediv_cancel _ h2]
/-- More is asked for: no less. -/
theorem shareV_up {a c b : Int} (ha : 0 ≤ a) (hb : 0 ≤ b) (h : a ≤ c) : shareV a b ≤ shareV c b := by
  have hr := shareV_range ha hb
  have hc := shareV_range (a := c) (b := b) (by omega) hb
  by_cases h1 : b < c
  · have : shareV c b = 1000 := (shareV_whole (by omega) hb).2 ⟨by omega, by omega⟩
    omega
  · unfold shareV
    rw [if_neg h1, if_neg (by omega)]
    by_cases h2 : b = 0
    · rw [if_pos h2, if_pos h2]; omega
    · rw [if_neg h2, if_neg h2]
      exact Int.ediv_le_ediv (by omega) (by omega)
/-- Less is there, but something: no less. -/
theorem shareV_down {a b c : Int} (ha : 0 ≤ a) (hc : 0 < c) (h : c ≤ b) : shareV a b ≤ shareV a c := by
  have hr := shareV_range (a := a) (b := b) ha (by omega)
  by_cases h1 : c < a
  · have : shareV a c = 1000 := (shareV_whole ha (by omega)).2 ⟨by omega, by omega⟩
    omega
  · unfold shareV
    rw [if_neg h1, if_neg (by omega), if_neg (by omega), if_neg (by omega)]
    have hq : 0 ≤ 1000 * a / b := Int.ediv_nonneg (by omega) (by omega)
    refine Int.le_ediv_of_mul_le hc ?_
    have h3 : b * (1000 * a / b) ≤ 1000 * a := Int.mul_ediv_self_le (by omega)
    have h4 : (1000 * a / b) * c ≤ (1000 * a / b) * b := Int.mul_le_mul_of_nonneg_left h hq
    rw [Int.mul_comm (1000 * a / b) b] at h4
    omega

theorem shareW_le {a b c d : V} (h : ∀ r, r < 3 → shareV (cmp a r) (cmp b r) ≤ shareV (cmp c r) (cmp d r)) : shareW a b ≤ shareW c d := by
  have h0 := h 0 (by decide)
  have h1 := h 1 (by decide)
  have h2 := h 2 (by decide)
  simp only [cmp] at h0 h1 h2
  unfold shareW
  generalize shareV a.1 b.1 = x0 at *
  generalize shareV c.1 d.1 = y0 at *
  generalize shareV a.2.1 b.2.1 = x1 at *
  generalize shareV c.2.1 d.2.1 = y1 at *
  generalize shareV a.2.2 b.2.2 = x2 at *
  generalize shareV c.2.2 d.2.2 = y2 at *
  unfold mxI
  repeat' split
  all_goals omega
theorem shareW_range {a b : V} (ha : mayV a = true) (hb : mayV b = true) : 0 ≤ shareW a b ∧ shareW a b ≤ 1000 := by
  have h := fun r => shareV_range (mayV_cmp ha r) (mayV_cmp hb r)
  have h0 := h 0
  have h1 := h 1
  have h2 := h 2
  simp only [cmp] at h0 h1 h2
  unfold shareW
  refine ⟨?_, mxI_le (mxI_le (mxI_le (by omega) h0.2) h1.2) h2.2⟩
  have := mxI_ge (mxI (mxI 0 (shareV a.1 b.1)) (shareV a.2.1 b.2.1)) (shareV a.2.2 b.2.2)
  omega
def whole (a b : V) : Nat → Bool
  | 0 => false
  | i + 1 => whole a b i || (decide (cmp a i ≥ cmp b i) && decide (cmp a i > 0))
def someZero (c : V) : Nat → Bool
  | 0 => false
  | i + 1 => someZero c i || (cmp c i == 0)
theorem shareW_whole {a b : V} (ha : mayV a = true) (hb : mayV b = true) : (shareW a b == 1000) = whole a b 3 := by
  have h := fun r => shareV_range (mayV_cmp ha r) (mayV_cmp hb r)
  have w := fun r => shareV_whole (mayV_cmp ha r) (mayV_cmp hb r)
  have h0 := h 0
  have h1 := h 1
  have h2 := h 2
  have w0 := w 0
  have w1 := w 1
  have w2 := w 2
  simp only [cmp] at h0 h1 h2 w0 w1 w2
  have key : shareW a b = 1000 ↔ (shareV a.1 b.1 = 1000 ∨ shareV a.2.1 b.2.1 = 1000 ∨ shareV a.2.2 b.2.2 = 1000) := by
    unfold shareW mxI
    repeat' split
    all_goals omega
  rw [w0, w1, w2] at key
  rw [Bool.eq_iff_iff, beq_iff_eq, key]
  simp only [whole, cmp, Bool.or_eq_true, Bool.and_eq_true, decide_eq_true_eq, Bool.false_eq_true, false_or]
  omega
theorem shareW_up {a b c : V} (ha : mayV a = true) (hb : mayV b = true) (h : fitsV a c = true) : shareW a b ≤ shareW c b :=
  shareW_le fun r hr => shareV_up (mayV_cmp ha r) (mayV_cmp hb r) (fits_iff.1 h r hr)
theorem someZero_no {c : V} (h : someZero c 3 = false) : ∀ r, r < 3 → cmp c r ≠ 0 := by
  simp only [someZero, Bool.or_eq_false_iff, beq_eq_false_iff_ne] at h
  intro r hr
  match r, hr with
  | 0, _ => exact h.1.1.2
  | 1, _ => exact h.1.2
  | 2, _ => exact h.2
theorem shareW_down {a b c : V} (ha : mayV a = true) (hc : mayV c = true) (h : fitsV c b = true) (hz : someZero c 3 = false) : shareW a b ≤ shareW a c :=
  shareW_le fun r hr => shareV_down (mayV_cmp ha r) (by have := mayV_cmp hc r; have := someZero_no hz r hr; omega) (fits_iff.1 h r hr)
theorem sharesV_yes {a b : V} (ha : mayV a = true) (hb : mayV b = true) : sharesV a b = shareW a b := by unfold sharesV; rw [ha, hb]; rfl
theorem sharesV_no {a b : V} (ha : mayV a = false) : sharesV a b = 0 := by unfold sharesV; rw [ha]; rfl

theorem VecShare_law (a b c : V) (ha : okV a) (hb : okV b) (hc : okV c) : FCv Try.prog 7 [vT a, vT b, vT c] (tb true) := by
  refine FCv_of_awp (fn := Try.f7) (c := bodyC Try.f7) Try.func7 rfl (of_decide_eq_true rfl) [] ?_
  conv => whnf
  refine ⟨_, awake_law, ?_⟩
  conv => whnf
  have m1 := may_law a
  have m2 := may_law b
  have m3 := may_law c
  cases hma : mayV a with
  | false =>
    rw [hma] at m1
    have sh := Share_law a b ha hb
    rw [sharesV_no hma] at sh
    refine ⟨_, m1, ?_⟩
    conv => whnf
    refine ⟨_, m1, ?_⟩
    conv => whnf
    refine ⟨_, sh, ?_⟩
    conv => whnf
    exact .inl rfl
  | true =>
  rw [hma] at m1
  refine ⟨_, m1, ?_⟩
  conv => whnf
  refine ⟨_, m2, ?_⟩
  conv => whnf
  cases hmb : mayV b with
  | false =>
    conv => whnf
    refine ⟨_, m1, ?_⟩
    conv => whnf
    exact .inl rfl
  | true =>
  conv => whnf
  refine ⟨_, m3, ?_⟩
  conv => whnf
  cases hmc : mayV c with
  | false =>
    conv => whnf
    refine ⟨_, m1, ?_⟩
    conv => whnf
    exact .inl rfl
  | true =>
  conv => whnf
  have s1 := Share_law a b ha hb
  rw [sharesV_yes hma hmb] at s1
  have s2 := Share_law c b hc hb
  rw [sharesV_yes hmc hmb] at s2
  have s3 := Share_law a c ha hc
  rw [sharesV_yes hma hmc] at s3
  have hr := shareW_range hma hmb
  refine ⟨_, s1, ?_⟩
  conv => whnf
  refine loop_intro (fun q : Fin 4 => ⟨[(3, .ptr 0 0 0), (4, .ptr 1 0 0), (5, .ptr 2 0 0), (7, i64 (shareW a b)), (8, tb (whole a b q.val)), (38, i64 q.val)], [(0, .own 3 [vR a]), (1, .own 3 [vR b]), (2, .own 3 [vR c])], 105, 3, []⟩) (fun q => 3 - q.val) 0 ?_ ?_
  · refine Wk.intro [] rfl (fun p hp => by cases hp) ⟨.same rfl (by exact rfl), .same rfl (by exact rfl), .same rfl (by exact rfl), .same rfl trivial, .same rfl trivial, .same rfl trivial, trivial⟩
      ⟨⟨rfl, .inl ⟨rfl, vR_lt _ _⟩⟩, ⟨rfl, .inl ⟨rfl, vR_lt _ _⟩⟩, ⟨rfl, .inl ⟨rfl, vR_lt _ _⟩⟩, trivial⟩
  intro i
  conv => whnf
  refine br_intro (fun h => ?_) (fun h => ?_)
  · rw [h]
    have h3 : i.val < 3 := by have := of_decide_eq_true h; omega
    have next : ∀ (bb : Bool) (sl : List (Nat × T)), whole a b (i.val + 1) = bb → look sl 3 = .ptr 0 0 0 → look sl 4 = .ptr 1 0 0 → look sl 5 = .ptr 2 0 0 → look sl 7 = i64 (shareW a b) → look sl 8 = tb bb →
        look sl 38 = .lit (.int .i64 (IntKind.i64.wrap (i.val + 1))) → ∀ x, Nx (fun q : Fin 4 => ⟨[(3, .ptr 0 0 0), (4, .ptr 1 0 0), (5, .ptr 2 0 0), (7, i64 (shareW a b)), (8, tb (whole a b q.val)), (38, i64 q.val)], [(0, .own 3 [vR a]), (1, .own 3 [vR b]), (2, .own 3 [vR c])], 105, 3, []⟩) (fun q => 3 - q.val) i
          ⟨sl, [(0, .own 3 [vR a]), (1, .own 3 [vR b]), (2, .own 3 [vR c])], 105, x, []⟩ := by
      intro bb sl e1 e2 e3 e4 e5 e6 e7 x
      refine Nx.intro ⟨i.val + 1, by omega⟩ (by simp only; omega) ?_
      refine Wk.intro [] rfl (fun p hp => by cases hp) ⟨.same e2 (by exact rfl), .same e3 (by exact rfl), .same e4 (by exact rfl), .same e5 trivial, .same (e6.trans (congrArg tb e1.symm)) trivial, .same (e7.trans ?_) trivial, trivial⟩
        ⟨⟨rfl, .inl ⟨rfl, vR_lt _ _⟩⟩, ⟨rfl, .inl ⟨rfl, vR_lt _ _⟩⟩, ⟨rfl, .inl ⟨rfl, vR_lt _ _⟩⟩, trivial⟩ rfl (Nat.zero_le _) (Nat.zero_le _)
      exact i64_cong (i64w (by simp only; omega) (by simp only; omega) (by simp only; omega))
    cases hw : whole a b i.val with
    | true =>
      conv => whnf
      exact next true _ (by simp only [whole, hw, Bool.true_or]) rfl rfl rfl rfl rfl rfl _
    | false =>
      conv => whnf
      refine ⟨⟨by omega, by omega⟩, ?_⟩
      conv => whnf
      refine nthK_intro (vR_get a i.val h3) ?_
      conv => whnf
      refine ⟨⟨by omega, by omega⟩, ?_⟩
      conv => whnf
      refine nthK_intro (vR_get b i.val h3) ?_
      conv => whnf
      refine br_intro (fun h => ?_) (fun h => ?_)
      · rw [h]
        conv => whnf
        refine ⟨⟨by omega, by omega⟩, ?_⟩
        conv => whnf
        refine nthK_intro (vR_get a i.val h3) ?_
        conv => whnf
        exact next (decide (cmp a i.val > 0)) _ (by simp only [whole, hw, Bool.false_or]; rw [h, Bool.true_and]) rfl rfl rfl rfl rfl rfl _
      · rw [h]
        conv => whnf
        exact next false _ (by simp only [whole, hw, Bool.false_or]; rw [h, Bool.false_and]) rfl rfl rfl rfl rfl rfl _
  · rw [h]
    have h3 : i.val = 3 := by have := of_decide_eq_false h; omega
    rw [h3]
    conv => whnf
    rw [decide_eq_false (by omega)]
    conv => whnf
    rw [show decide (shareW a b > 1000) = false from decide_eq_false (by omega)]
    conv => whnf
    rw [shareW_whole hma hmb]
    conv => whnf
    have e : (!(whole a b 3 == whole a b 3)) = false := by rw [beq_self_eq_true]; rfl
    rw [e]
    conv => whnf
    refine ⟨_, fits_law a c, ?_⟩
    conv => whnf
    cases hac : fitsV a c with
    | false =>
      conv => whnf
      refine loop_intro (fun q : Fin 4 => ⟨[(3, .ptr 0 0 0), (4, .ptr 1 0 0), (5, .ptr 2 0 0), (7, i64 (shareW a b)), (10, tb (someZero c q.val)), (80, i64 q.val)], [(0, .own 3 [vR a]), (1, .own 3 [vR b]), (2, .own 3 [vR c])], 105, 3, []⟩) (fun q => 3 - q.val) 0 ?_ ?_
      · refine Wk.intro [] rfl (fun p hp => by cases hp) ⟨.same rfl (by exact rfl), .same rfl (by exact rfl), .same rfl (by exact rfl), .same rfl trivial, .same rfl trivial, .same rfl trivial, trivial⟩
          ⟨⟨rfl, .inl ⟨rfl, vR_lt _ _⟩⟩, ⟨rfl, .inl ⟨rfl, vR_lt _ _⟩⟩, ⟨rfl, .inl ⟨rfl, vR_lt _ _⟩⟩, trivial⟩
      intro i
      conv => whnf
      refine br_intro (fun h => ?_) (fun h => ?_)
      · rw [h]
        have h3 : i.val < 3 := by have := of_decide_eq_true h; omega
        have next : ∀ (bb : Bool) (sl : List (Nat × T)), someZero c (i.val + 1) = bb → look sl 3 = .ptr 0 0 0 → look sl 4 = .ptr 1 0 0 → look sl 5 = .ptr 2 0 0 → look sl 7 = i64 (shareW a b) → look sl 10 = tb bb →
            look sl 80 = .lit (.int .i64 (IntKind.i64.wrap (i.val + 1))) → ∀ x, Nx (fun q : Fin 4 => ⟨[(3, .ptr 0 0 0), (4, .ptr 1 0 0), (5, .ptr 2 0 0), (7, i64 (shareW a b)), (10, tb (someZero c q.val)), (80, i64 q.val)], [(0, .own 3 [vR a]), (1, .own 3 [vR b]), (2, .own 3 [vR c])], 105, 3, []⟩) (fun q => 3 - q.val) i
              ⟨sl, [(0, .own 3 [vR a]), (1, .own 3 [vR b]), (2, .own 3 [vR c])], 105, x, []⟩ := by
          intro bb sl e1 e2 e3 e4 e5 e6 e7 x
          refine Nx.intro ⟨i.val + 1, by omega⟩ (by simp only; omega) ?_
          refine Wk.intro [] rfl (fun p hp => by cases hp) ⟨.same e2 (by exact rfl), .same e3 (by exact rfl), .same e4 (by exact rfl), .same e5 trivial, .same (e6.trans (congrArg tb e1.symm)) trivial, .same (e7.trans ?_) trivial, trivial⟩
            ⟨⟨rfl, .inl ⟨rfl, vR_lt _ _⟩⟩, ⟨rfl, .inl ⟨rfl, vR_lt _ _⟩⟩, ⟨rfl, .inl ⟨rfl, vR_lt _ _⟩⟩, trivial⟩ rfl (Nat.zero_le _) (Nat.zero_le _)
          exact i64_cong (i64w (by simp only; omega) (by simp only; omega) (by simp only; omega))
        cases hw : someZero c i.val with
        | true =>
          conv => whnf
          exact next true _ (by simp only [someZero, hw, Bool.true_or]) rfl rfl rfl rfl rfl rfl _
        | false =>
          conv => whnf
          refine ⟨⟨by omega, by omega⟩, ?_⟩
          conv => whnf
          refine nthK_intro (vR_get c i.val h3) ?_
          conv => whnf
          exact next (cmp c i.val == 0) _ (by simp only [someZero, hw, Bool.false_or]) rfl rfl rfl rfl rfl rfl _
      · rw [h]
        have h3 : i.val = 3 := by have := of_decide_eq_false h; omega
        rw [h3]
        conv => whnf
        refine ⟨_, fits_law c b, ?_⟩
        conv => whnf
        cases hcb : fitsV c b with
        | false =>
          conv => whnf
          exact .inl rfl
        | true =>
        conv => whnf
        cases hz : someZero c 3 with
        | true =>
          conv => whnf
          exact .inl rfl
        | false =>
        conv => whnf
        refine ⟨_, s3, ?_⟩
        conv => whnf
        refine .inl (congrArg tb (decide_eq_true ?_))
        exact shareW_down hma hmc hcb hz
    | true =>
      conv => whnf
      refine ⟨_, s2, ?_⟩
      conv => whnf
      rw [show decide (shareW c b < shareW a b) = false from decide_eq_false (by have := shareW_up hma hmb hac; omega)]
      conv => whnf
      refine loop_intro (fun q : Fin 4 => ⟨[(3, .ptr 0 0 0), (4, .ptr 1 0 0), (5, .ptr 2 0 0), (7, i64 (shareW a b)), (10, tb (someZero c q.val)), (80, i64 q.val)], [(0, .own 3 [vR a]), (1, .own 3 [vR b]), (2, .own 3 [vR c])], 105, 3, []⟩) (fun q => 3 - q.val) 0 ?_ ?_
      · refine Wk.intro [] rfl (fun p hp => by cases hp) ⟨.same rfl (by exact rfl), .same rfl (by exact rfl), .same rfl (by exact rfl), .same rfl trivial, .same rfl trivial, .same rfl trivial, trivial⟩
          ⟨⟨rfl, .inl ⟨rfl, vR_lt _ _⟩⟩, ⟨rfl, .inl ⟨rfl, vR_lt _ _⟩⟩, ⟨rfl, .inl ⟨rfl, vR_lt _ _⟩⟩, trivial⟩
      intro i
      conv => whnf
      refine br_intro (fun h => ?_) (fun h => ?_)
      · rw [h]
        have h3 : i.val < 3 := by have := of_decide_eq_true h; omega
        have next : ∀ (bb : Bool) (sl : List (Nat × T)), someZero c (i.val + 1) = bb → look sl 3 = .ptr 0 0 0 → look sl 4 = .ptr 1 0 0 → look sl 5 = .ptr 2 0 0 → look sl 7 = i64 (shareW a b) → look sl 10 = tb bb →
            look sl 80 = .lit (.int .i64 (IntKind.i64.wrap (i.val + 1))) → ∀ x, Nx (fun q : Fin 4 => ⟨[(3, .ptr 0 0 0), (4, .ptr 1 0 0), (5, .ptr 2 0 0), (7, i64 (shareW a b)), (10, tb (someZero c q.val)), (80, i64 q.val)], [(0, .own 3 [vR a]), (1, .own 3 [vR b]), (2, .own 3 [vR c])], 105, 3, []⟩) (fun q => 3 - q.val) i
              ⟨sl, [(0, .own 3 [vR a]), (1, .own 3 [vR b]), (2, .own 3 [vR c])], 105, x, []⟩ := by
          intro bb sl e1 e2 e3 e4 e5 e6 e7 x
          refine Nx.intro ⟨i.val + 1, by omega⟩ (by simp only; omega) ?_
          refine Wk.intro [] rfl (fun p hp => by cases hp) ⟨.same e2 (by exact rfl), .same e3 (by exact rfl), .same e4 (by exact rfl), .same e5 trivial, .same (e6.trans (congrArg tb e1.symm)) trivial, .same (e7.trans ?_) trivial, trivial⟩
            ⟨⟨rfl, .inl ⟨rfl, vR_lt _ _⟩⟩, ⟨rfl, .inl ⟨rfl, vR_lt _ _⟩⟩, ⟨rfl, .inl ⟨rfl, vR_lt _ _⟩⟩, trivial⟩ rfl (Nat.zero_le _) (Nat.zero_le _)
          exact i64_cong (i64w (by simp only; omega) (by simp only; omega) (by simp only; omega))
        cases hw : someZero c i.val with
        | true =>
          conv => whnf
          exact next true _ (by simp only [someZero, hw, Bool.true_or]) rfl rfl rfl rfl rfl rfl _
        | false =>
          conv => whnf
          refine ⟨⟨by omega, by omega⟩, ?_⟩
          conv => whnf
          refine nthK_intro (vR_get c i.val h3) ?_
          conv => whnf
          exact next (cmp c i.val == 0) _ (by simp only [someZero, hw, Bool.false_or]) rfl rfl rfl rfl rfl rfl _
      · rw [h]
        have h3 : i.val = 3 := by have := of_decide_eq_false h; omega
        rw [h3]
        conv => whnf
        refine ⟨_, fits_law c b, ?_⟩
        conv => whnf
        cases hcb : fitsV c b with
        | false =>
          conv => whnf
          exact .inl rfl
        | true =>
        conv => whnf
        cases hz : someZero c 3 with
        | true =>
          conv => whnf
          exact .inl rfl
        | false =>
        conv => whnf
        refine ⟨_, s3, ?_⟩
        conv => whnf
        refine .inl (congrArg tb (decide_eq_true ?_))
        exact shareW_down hma hmc hcb hz
end Go.AW.Vec
