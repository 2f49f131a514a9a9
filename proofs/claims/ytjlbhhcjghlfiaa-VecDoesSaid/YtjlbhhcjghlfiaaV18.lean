/- Vectors: the document's differences, and what fits. -/
import Derived.Test.YtjlbhhcjghlfiaaV17
import Derived.Test.YtjlbhhcjghlfiaaV9
set_option linter.unusedVariables false
set_option linter.unusedSimpArgs false
namespace Go.AW.Vec
open Go Go.AW Go.Proofs
set_option maxRecDepth 10000
set_option pp.maxSteps 600
theorem fits3 (a b : V) : fitsV a b = (decide (a.1 ≤ b.1) && decide (a.2.1 ≤ b.2.1) && decide (a.2.2 ≤ b.2.2)) := rfl
theorem rfits_law (a b : V) : FCv Try.prog 18 [vT a, vT b] (tb (fitsV a b)) := by
  refine FCv_of_awp (fn := Try.f18) (c := bodyC Try.f18) Try.func18 rfl (of_decide_eq_true rfl) [] ?_
  conv => whnf
  refine ⟨⟨by decide, by decide⟩, ?_⟩
  conv => whnf
  refine ⟨⟨by decide, by decide⟩, ?_⟩
  conv => whnf
  rw [fits3]
  cases h0 : decide (a.1 ≤ b.1) with
  | false =>
    conv => whnf
    exact .inl rfl
  | true =>
  conv => whnf
  refine ⟨⟨by decide, by decide⟩, ?_⟩
  conv => whnf
  refine ⟨⟨by decide, by decide⟩, ?_⟩
  conv => whnf
  cases h1 : decide (a.2.1 ≤ b.2.1) with
  | false =>
    conv => whnf
    exact .inl rfl
  | true =>
  conv => whnf
  refine ⟨⟨by decide, by decide⟩, ?_⟩
  conv => whnf
  refine ⟨⟨by decide, by decide⟩, ?_⟩
  conv => whnf
  exact .inl rfl
theorem rmay_law (a : V) : FCv Try.prog 16 [vT a] (tb (mayV a)) := by
  refine FCv_of_awp (fn := Try.f16) (c := bodyC Try.f16) Try.func16 rfl (of_decide_eq_true rfl) [] ?_
  conv => whnf
  refine ⟨⟨by decide, by decide⟩, ?_⟩
  conv => whnf
  unfold mayV
  rw [fits3]
  dsimp only
  cases h0 : decide (0 ≤ a.1) with
  | false =>
    conv => whnf
    exact .inl rfl
  | true =>
  conv => whnf
  refine ⟨⟨by decide, by decide⟩, ?_⟩
  conv => whnf
  cases h1 : decide (0 ≤ a.2.1) with
  | false =>
    conv => whnf
    exact .inl rfl
  | true =>
  conv => whnf
  refine ⟨⟨by decide, by decide⟩, ?_⟩
  conv => whnf
  exact .inl rfl

theorem dif_tot (a b : V) : difV a b = totV [1, -1] [a, b] ∧ difE a b = totE [1, -1] [a, b] := by
  unfold difV difE
  cases e : eqV a b with
  | false => exact ⟨rfl, rfl⟩
  | true =>
    have e2 := eqV_iff.1 e
    subst e2
    have := tot_is3 (sg := [1, -1]) (l := [a, a]) zero_ok (fun r _ => by rw [tot2m, zero_cmp]; omega)
    exact ⟨this.1.symm, this.2.symm⟩

theorem rsub_law (a b : V) (ha : okV a) (hb : okV b) : FCv Try.prog 14 [vT a, vT b] (.tup [vT (difV a b), i64 (difE a b)]) := by
  rw [(dif_tot a b).1, (dif_tot a b).2]
  refine FCv_of_awp (fn := Try.f14) (c := bodyC Try.f14) Try.func14 rfl (of_decide_eq_true rfl) [] ?_
  conv => whnf
  refine loop_intro (fun q : {q : Fin 4 // ∀ r, r < q.val → okB (tot [1, -1] [a, b] r) = true} => ⟨[(2, .ptr 0 0 0), (3, .ptr 1 0 0), (4, .ptr 2 0 0), (6, .ptr 3 0 0), (7, i64 q.1.val)],
    [(0, .own 3 [vR a]), (1, .own 3 [vR b]), (2, .own 3 [vR (0, 0, 0)]), (3, .own 3 [vR (acc [1, -1] [a, b] q.1.val)])], 36, 4, []⟩) (fun q => 3 - q.1) ⟨0, fun r h => absurd h (Nat.not_lt_zero r)⟩ ?_ ?_
  · refine Wk.intro [] rfl (fun p hp => by cases hp) ⟨.same rfl (by exact rfl), .same rfl (by exact rfl), .same rfl (by exact rfl), .same rfl (by exact rfl), .same rfl trivial, trivial⟩
      ⟨⟨rfl, .inl ⟨rfl, vR_lt _ _⟩⟩, ⟨rfl, .inl ⟨rfl, vR_lt _ _⟩⟩, ⟨rfl, .inl ⟨rfl, vR_lt _ _⟩⟩, ⟨rfl, .inl ⟨rfl, vR_lt _ _⟩⟩, trivial⟩
  rintro ⟨r, hr⟩
  dsimp only
  conv => whnf
  refine br_intro (fun h => ?_) (fun h => ?_)
  · rw [h]
    have h3 : r.val < 3 := by have := of_decide_eq_true h; omega
    conv => whnf
    refine ⟨⟨by omega, by omega⟩, ?_⟩
    conv => whnf
    refine nthK_intro (vR_get a r.val h3) ?_
    conv => whnf
    have oa := cmp_ok ha r.val
    have ob := cmp_ok hb r.val
    refine ⟨_, of_law (cmp a r.val) oa, ?_⟩
    conv => whnf
    refine ⟨⟨by omega, by omega⟩, ?_⟩
    conv => whnf
    refine nthK_intro (vR_get b r.val h3) ?_
    conv => whnf
    refine ⟨_, of_law (cmp b r.val) ob, ?_⟩
    conv => whnf
    refine ⟨_, turned_law _ _, ?_⟩
    conv => whnf
    obtain ⟨oa1, oa2⟩ := oa
    obtain ⟨ob1, ob2⟩ := ob
    refine ⟨_, big_add _ _ _ _ (small200 (n := (cmp a r.val).natAbs) (by omega)) (small200 (n := (cmp b r.val).natAbs) (by omega)), ?_⟩
    conv => whnf
    have hle := addS_le (decide (cmp a r.val < 0)) (cmp a r.val).natAbs (!decide (cmp b r.val < 0)) (cmp b r.val).natAbs
    have nl := number_law (addS (decide (cmp a r.val < 0)) (cmp a r.val).natAbs (!decide (cmp b r.val < 0)) (cmp b r.val).natAbs).1 (addS (decide (cmp a r.val < 0)) (cmp a r.val).natAbs (!decide (cmp b r.val < 0)) (cmp b r.val).natAbs).2 (small200 (by omega))
    have ev : sv (addS (decide (cmp a r.val < 0)) (cmp a r.val).natAbs (!decide (cmp b r.val < 0)) (cmp b r.val).natAbs) = tot [1, -1] [a, b] r.val := by
      rw [sv_add, sv_of, tot2m]
      have : sv (!decide (cmp b r.val < 0), (cmp b r.val).natAbs) = -(cmp b r.val) := by
        unfold sv
        by_cases h : cmp b r.val < 0
        · rw [decide_eq_true h]; simp only [Bool.not_true, Bool.false_eq_true, if_false]; omega
        · rw [decide_eq_false h]; simp only [Bool.not_false, if_true]; omega
      rw [this]; omega
    rw [show sv ((addS (decide (cmp a r.val < 0)) (cmp a r.val).natAbs (!decide (cmp b r.val < 0)) (cmp b r.val).natAbs).1, (addS (decide (cmp a r.val < 0)) (cmp a r.val).natAbs (!decide (cmp b r.val < 0)) (cmp b r.val).natAbs).2) = tot [1, -1] [a, b] r.val from ev] at nl
    refine ⟨_, nl, ?_⟩
    conv => whnf
    cases hok : okB (tot [1, -1] [a, b] r.val) with
    | false =>
      conv => whnf
      have hno := totOk_no h3 hok
      have e1 : totV [1, -1] [a, b] = (0, 0, 0) := by unfold totV; rw [hno]; rfl
      have e2 : totE [1, -1] [a, b] = 6 := by unfold totE; rw [hno]; rfl
      rw [e1, e2]
      exact ⟨Or.inl rfl, Or.inl rfl, trivial⟩
    | true =>
      conv => whnf
      refine ⟨⟨by omega, by omega⟩, ?_⟩
      conv => whnf
      refine chk_intro (ble_of (by show 0 + ((r.val : Nat) : Int).toNat * 1 + 1 ≤ 3; omega)) ?_
      conv => whnf
      refine Nx.intro ⟨⟨r.val + 1, by omega⟩, fun k hk => ?_⟩ (by simp only; omega) ?_
      · simp only at hk
        by_cases e : k = r.val
        · subst e; exact hok
        · exact hr k (by omega)
      refine Wk.intro [] rfl (fun p hp => by cases hp) ⟨.same rfl (by exact rfl), .same rfl (by exact rfl), .same rfl (by exact rfl), .same rfl (by exact rfl), .same ?_ trivial, trivial⟩
        ⟨⟨rfl, .inl ⟨rfl, vR_lt _ _⟩⟩, ⟨rfl, .inl ⟨rfl, vR_lt _ _⟩⟩, ⟨rfl, .inl ⟨rfl, vR_lt _ _⟩⟩, ⟨rfl, .inl ⟨?_, vR_lt _ _⟩⟩, trivial⟩
      · exact i64_cong (i64w (by simp only; omega) (by simp only; omega) (by simp only; omega))
      · exact congrArg (fun z => some (Blk.own 3 [z])) (acc_step [1, -1] [a, b] r.val h3 hok)
  · rw [h]
    have h3 : r.val = 3 := by have := of_decide_eq_false h; omega
    conv => whnf
    have hy := totOk_yes fun k hk => hr k (by omega)
    have e1 : totV [1, -1] [a, b] = (tot [1, -1] [a, b] 0, tot [1, -1] [a, b] 1, tot [1, -1] [a, b] 2) := by unfold totV; rw [hy]; rfl
    have e2 : totE [1, -1] [a, b] = 0 := by unfold totE; rw [hy]; rfl
    have e3 : acc [1, -1] [a, b] r.val = (tot [1, -1] [a, b] 0, tot [1, -1] [a, b] 1, tot [1, -1] [a, b] 2) := by rw [h3]; rfl
    rw [e1, e2, e3]
    exact ⟨Or.inl rfl, Or.inl rfl, trivial⟩
theorem radd_law (a b : V) (ha : okV a) (hb : okV b) : FCv Try.prog 12 [vT a, vT b] (.tup [vT (totV [1] [a, b]), i64 (totE [1] [a, b])]) := by
  refine FCv_of_awp (fn := Try.f12) (c := bodyC Try.f12) Try.func12 rfl (of_decide_eq_true rfl) [] ?_
  conv => whnf
  refine ⟨_, rsum_law [a, b] (by intro v hv; simp at hv; rcases hv with rfl | rfl <;> assumption) (by simp), ?_⟩
  conv => whnf
  exact ⟨Or.inl rfl, Or.inl rfl, trivial⟩
end Go.AW.Vec
