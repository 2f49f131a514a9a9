import Derived.Test.YthkhmgifikknhaaCmdI19
import Derived.Test.YthkhmgifikknhaaCmdI16
import Derived.Test.YthkhmgifikknhaaCmdM1
import Derived.Test.YthkhmgifikknhaaCmdP1
import Derived.Test.YthkhmgifikknhaaCmdV2
/- Commands: their form, walked. -/
set_option linter.unusedVariables false
set_option linter.unusedSimpArgs false
namespace Go.AW.Cm
open Go Go.AW Go.AW.Wir Go.Proofs
set_option maxRecDepth 10000
set_option pp.maxSteps 60

theorem vmay_law (v : V) : FCv Try.prog 30 [vT v] (tb (mayV v)) := Vec.may_law v
abbrev ts (l : List UInt8) : T := .lit (.string ⟨l.toArray⟩)
theorem rvmay_law (v : V) : FCv Try.prog 33 [vT v] (tb (mayV v)) := by
  obtain ⟨x, y, z⟩ := v
  obtain ⟨R, hR⟩ : ∃ R, mayV (x, y, z) = R := ⟨_, rfl⟩
  rw [hR]
  have hm : mayV (x, y, z) = (decide (0 ≤ x) && decide (0 ≤ y) && decide (0 ≤ z)) := rfl
  rw [hR] at hm
  change FCv _ _ [.agg [i64 x, i64 y, i64 z]] (tb R)
  refine FCv_of_awp (fn := Try.f33) (c := bodyC Try.f33) Try.func33 rfl (of_decide_eq_true rfl) [] ?_
  conv => whnf
  refine ⟨by decide, ?_⟩
  conv => whnf
  refine br_intro (fun h1 => ?_) (fun h1 => ?_) <;> (rw [h1]; conv => whnf) <;> rw [show decide (0 ≤ x) = _ from h1] at hm
  · refine ⟨by decide, ?_⟩
    conv => whnf
    refine br_intro (fun h2 => ?_) (fun h2 => ?_) <;> (rw [h2]; conv => whnf) <;> rw [show decide (0 ≤ y) = _ from h2] at hm
    · refine ⟨by decide, ?_⟩
      conv => whnf
      exact .inl (congrArg tb hm.symm)
    · exact .inl (congrArg tb hm.symm)
  · exact .inl (congrArg tb hm.symm)

/-- A command's cells; a reply's. -/
def cR (c : Cmd) : List T := [i64 c.op, ts c.name, ts c.of, i64 c.v.1, i64 c.v.2.1, i64 c.v.2.2, i64 c.n]
def cT (c : Cmd) : T := .agg [i64 c.op, ts c.name, ts c.of, i64 c.v.1, i64 c.v.2.1, i64 c.v.2.2, i64 c.n]
def rR (r : Rep) : List T := [i64 r.e, ts r.s, i64 r.v.1, i64 r.v.2.1, i64 r.v.2.2, i64 r.n]
def rT (r : Rep) : T := .agg [i64 r.e, ts r.s, i64 r.v.1, i64 r.v.2.1, i64 r.v.2.2, i64 r.n]
theorem nmay (l : List UInt8) (hl : l.length ≤ 9223372036854775806) : FCv Try.prog 31 [ts l] (tb (Nam.may l)) := Nam.may_law l hl
theorem nrmay (l : List UInt8) (hl : l.length ≤ 9223372036854775806) : FCv Try.prog 32 [ts l] (tb (Nam.may l)) := Nam.rmay_law l hl
theorem eqPure (ox oy : Operand) (a b : V) {K : T → Prop} (h : K (tb (eqV a b))) : pureA Try.prog (do eqGuard .eql 23 ox oy (.agg (vV a).toArray) (.agg (vV b).toArray); binOp .eql 23 (.agg (vV a).toArray) (.agg (vV b).toArray)) K :=
  pure_eq3 Try.underlying23 (by rfl) (by kernel_rfl) Try.underlying2 (by kernel_rfl) ox oy a b h
theorem nePure (ox oy : Operand) (a b : V) {K : T → Prop} (h : K (tb (!eqV a b))) : pureA Try.prog (do eqGuard .neq 23 ox oy (.agg (vV a).toArray) (.agg (vV b).toArray); binOp .neq 23 (.agg (vV a).toArray) (.agg (vV b).toArray)) K :=
  pure_ne3 Try.underlying23 (by rfl) (by kernel_rfl) Try.underlying2 (by kernel_rfl) ox oy a b h

theorem decB (n k : Int) : (n == k) = decide (n = k) := by rw [Bool.eq_iff_iff, beq_iff_eq, decide_eq_true_eq]
theorem may_c1 (nm o : List UInt8) (v : V) (n : Int) : mayC ⟨1, nm, o, v, n⟩ = (Nam.may nm && (decide (o = []) && (mayV v && (n == 0)))) := by
  unfold mayC ofB vB nB two much
  simp only [decB]
  simp
theorem may_c4 (nm o : List UInt8) (v : V) (n : Int) : mayC ⟨4, nm, o, v, n⟩ = (Nam.may nm && (decide (o = []) && (mayV v && (n == 0)))) := by
  unfold mayC ofB vB nB two much
  simp only [decB]
  simp
theorem may_c2 (nm o : List UInt8) (v : V) (n : Int) : mayC ⟨2, nm, o, v, n⟩ = (Nam.may nm && (decide (o = []) && (eqV v (0, 0, 0) && ((n == 0 || n == 1))))) := by
  unfold mayC ofB vB nB two much
  simp only [decB]
  simp
theorem may_c5 (nm o : List UInt8) (v : V) (n : Int) : mayC ⟨5, nm, o, v, n⟩ = (Nam.may nm && (Nam.may o && (mayV v && (n == 0)))) := by
  unfold mayC ofB vB nB two much
  simp only [decB]
  simp
theorem may_c7 (nm o : List UInt8) (v : V) (n : Int) : mayC ⟨7, nm, o, v, n⟩ = (Nam.may nm && (Nam.may o && (eqV v (0, 0, 0) && ((n == 1 || n == 2))))) := by
  unfold mayC ofB vB nB two much
  simp only [decB]
  simp
theorem may_c3 (nm o : List UInt8) (v : V) (n : Int) : mayC ⟨3, nm, o, v, n⟩ = (Nam.may nm && (decide (o = []) && (eqV v (0, 0, 0) && (n == 0)))) := by
  unfold mayC ofB vB nB two much
  simp only [decB]
  simp
theorem may_c6 (nm o : List UInt8) (v : V) (n : Int) : mayC ⟨6, nm, o, v, n⟩ = (Nam.may nm && (decide (o = []) && (eqV v (0, 0, 0) && (n == 0)))) := by
  unfold mayC ofB vB nB two much
  simp only [decB]
  simp
theorem may_c8 (nm o : List UInt8) (v : V) (n : Int) : mayC ⟨8, nm, o, v, n⟩ = (Nam.may nm && (decide (o = []) && (eqV v (0, 0, 0) && (n == 0)))) := by
  unfold mayC ofB vB nB two much
  simp only [decB]
  simp
theorem may_c9 (nm o : List UInt8) (v : V) (n : Int) : mayC ⟨9, nm, o, v, n⟩ = (Nam.may nm && (decide (o = []) && (eqV v (0, 0, 0) && (n == 0)))) := by
  unfold mayC ofB vB nB two much
  simp only [decB]
  simp
theorem may_c10 (nm o : List UInt8) (v : V) (n : Int) : mayC ⟨10, nm, o, v, n⟩ = (Nam.may nm && (decide (o = []) && (eqV v (0, 0, 0) && (n == 0)))) := by
  unfold mayC ofB vB nB two much
  simp only [decB]
  simp
theorem may_no {c : Cmd} (h : ¬ (1 ≤ c.op ∧ c.op ≤ 10)) : mayC c = false := by unfold mayC; rw [decide_eq_false h]; rfl
theorem may_law (c : Cmd) (h : inCmd c) : FCv Try.prog 13 [cT c] (tb (mayC c)) := by
  obtain ⟨op, nm, o, v, n⟩ := c
  have m1 := nmay nm h.2.1
  have m2 := nmay o h.2.2.1
  have m3 := vmay_law v
  obtain ⟨x, y, z⟩ := v
  obtain ⟨R, hR⟩ : ∃ R, mayC ⟨op, nm, o, (x, y, z), n⟩ = R := ⟨_, rfl⟩
  rw [hR]
  unfold cT
  change FCv _ _ [.agg [i64 x, i64 y, i64 z]] _ at m3
  dsimp only
  refine FCv_of_awp (fn := Try.f13) (c := bodyC Try.f13) Try.func13 rfl (of_decide_eq_true rfl) [] ?_
  conv => whnf
  refine ⟨vV (x, y, z), vV (0, 0, 0), rfl, rfl, eqPure _ _ (x, y, z) (0, 0, 0) ?_⟩
  conv => whnf
  by_cases k1 : op = 1
  · rw [bq k1]
    conv => whnf
    have hc : mayC ⟨op, nm, o, (x, y, z), n⟩ = (Nam.may nm && ((ByteArray.toList ⟨o.toArray⟩ == ByteArray.toList ⟨#[]⟩) && (mayV (x, y, z) && (n == 0)))) := by
      subst k1
      rw [emptyD]
      exact may_c1 ..
    refine ⟨_, m3, ?_⟩
    conv => whnf
    refine ⟨_, m1, ?_⟩
    conv => whnf
    repeat' (refine br_intro (fun h => ?_) (fun h => ?_) <;> (rw [h]; conv => whnf))
    all_goals (refine .inl (congrArg tb ?_); rw [← hR, hc]; simp only [*, Bool.true_and, Bool.and_true, Bool.false_and, Bool.and_false, Bool.true_or, Bool.or_true, Bool.false_or, Bool.or_false])
  rw [bn k1]
  conv => whnf
  by_cases k4 : op = 4
  · rw [bq k4]
    conv => whnf
    have hc : mayC ⟨op, nm, o, (x, y, z), n⟩ = (Nam.may nm && ((ByteArray.toList ⟨o.toArray⟩ == ByteArray.toList ⟨#[]⟩) && (mayV (x, y, z) && (n == 0)))) := by
      subst k4
      rw [emptyD]
      exact may_c4 ..
    refine ⟨_, m3, ?_⟩
    conv => whnf
    refine ⟨_, m1, ?_⟩
    conv => whnf
    repeat' (refine br_intro (fun h => ?_) (fun h => ?_) <;> (rw [h]; conv => whnf))
    all_goals (refine .inl (congrArg tb ?_); rw [← hR, hc]; simp only [*, Bool.true_and, Bool.and_true, Bool.false_and, Bool.and_false, Bool.true_or, Bool.or_true, Bool.false_or, Bool.or_false])
  rw [bn k4]
  conv => whnf
  by_cases k2 : op = 2
  · rw [bq k2]
    conv => whnf
    have hc : mayC ⟨op, nm, o, (x, y, z), n⟩ = (Nam.may nm && ((ByteArray.toList ⟨o.toArray⟩ == ByteArray.toList ⟨#[]⟩) && (eqV (x, y, z) (0, 0, 0) && ((n == 0 || n == 1))))) := by
      subst k2
      rw [emptyD]
      exact may_c2 ..
    refine br_intro (fun hd => ?_) (fun hd => ?_) <;> (rw [hd]; conv => whnf)
    all_goals
      refine ⟨_, m1, ?_⟩
      conv => whnf
      repeat' (refine br_intro (fun h => ?_) (fun h => ?_) <;> (rw [h]; conv => whnf))
      all_goals (refine .inl (congrArg tb ?_); rw [← hR, hc]; simp only [*, Bool.true_and, Bool.and_true, Bool.false_and, Bool.and_false, Bool.true_or, Bool.or_true, Bool.false_or, Bool.or_false])
  rw [bn k2]
  conv => whnf
  by_cases k5 : op = 5
  · rw [bq k5]
    conv => whnf
    have hc : mayC ⟨op, nm, o, (x, y, z), n⟩ = (Nam.may nm && (Nam.may o && (mayV (x, y, z) && (n == 0)))) := by
      subst k5
      exact may_c5 ..
    refine ⟨_, m2, ?_⟩
    conv => whnf
    refine ⟨_, m3, ?_⟩
    conv => whnf
    refine ⟨_, m1, ?_⟩
    conv => whnf
    repeat' (refine br_intro (fun h => ?_) (fun h => ?_) <;> (rw [h]; conv => whnf))
    all_goals (refine .inl (congrArg tb ?_); rw [← hR, hc]; simp only [*, Bool.true_and, Bool.and_true, Bool.false_and, Bool.and_false, Bool.true_or, Bool.or_true, Bool.false_or, Bool.or_false])
  rw [bn k5]
  conv => whnf
  by_cases k7 : op = 7
  · rw [bq k7]
    conv => whnf
    have hc : mayC ⟨op, nm, o, (x, y, z), n⟩ = (Nam.may nm && (Nam.may o && (eqV (x, y, z) (0, 0, 0) && ((n == 1 || n == 2))))) := by
      subst k7
      exact may_c7 ..
    refine ⟨_, m2, ?_⟩
    conv => whnf
    refine br_intro (fun hd => ?_) (fun hd => ?_) <;> (rw [hd]; conv => whnf)
    all_goals
      refine ⟨_, m1, ?_⟩
      conv => whnf
      repeat' (refine br_intro (fun h => ?_) (fun h => ?_) <;> (rw [h]; conv => whnf))
      all_goals (refine .inl (congrArg tb ?_); rw [← hR, hc]; simp only [*, Bool.true_and, Bool.and_true, Bool.false_and, Bool.and_false, Bool.true_or, Bool.or_true, Bool.false_or, Bool.or_false])
  rw [bn k7]
  conv => whnf
  by_cases k3 : op = 3
  · rw [bq k3]
    conv => whnf
    have hc : mayC ⟨op, nm, o, (x, y, z), n⟩ = (Nam.may nm && ((ByteArray.toList ⟨o.toArray⟩ == ByteArray.toList ⟨#[]⟩) && (eqV (x, y, z) (0, 0, 0) && (n == 0)))) := by
      subst k3
      rw [emptyD]
      exact may_c3 ..
    refine ⟨_, m1, ?_⟩
    conv => whnf
    repeat' (refine br_intro (fun h => ?_) (fun h => ?_) <;> (rw [h]; conv => whnf))
    all_goals (refine .inl (congrArg tb ?_); rw [← hR, hc]; simp only [*, Bool.true_and, Bool.and_true, Bool.false_and, Bool.and_false, Bool.true_or, Bool.or_true, Bool.false_or, Bool.or_false])
  rw [bn k3]
  conv => whnf
  by_cases k6 : op = 6
  · rw [bq k6]
    conv => whnf
    have hc : mayC ⟨op, nm, o, (x, y, z), n⟩ = (Nam.may nm && ((ByteArray.toList ⟨o.toArray⟩ == ByteArray.toList ⟨#[]⟩) && (eqV (x, y, z) (0, 0, 0) && (n == 0)))) := by
      subst k6
      rw [emptyD]
      exact may_c6 ..
    refine ⟨_, m1, ?_⟩
    conv => whnf
    repeat' (refine br_intro (fun h => ?_) (fun h => ?_) <;> (rw [h]; conv => whnf))
    all_goals (refine .inl (congrArg tb ?_); rw [← hR, hc]; simp only [*, Bool.true_and, Bool.and_true, Bool.false_and, Bool.and_false, Bool.true_or, Bool.or_true, Bool.false_or, Bool.or_false])
  rw [bn k6]
  conv => whnf
  by_cases k8 : op = 8
  · rw [bq k8]
    conv => whnf
    have hc : mayC ⟨op, nm, o, (x, y, z), n⟩ = (Nam.may nm && ((ByteArray.toList ⟨o.toArray⟩ == ByteArray.toList ⟨#[]⟩) && (eqV (x, y, z) (0, 0, 0) && (n == 0)))) := by
      subst k8
      rw [emptyD]
      exact may_c8 ..
    refine ⟨_, m1, ?_⟩
    conv => whnf
    repeat' (refine br_intro (fun h => ?_) (fun h => ?_) <;> (rw [h]; conv => whnf))
    all_goals (refine .inl (congrArg tb ?_); rw [← hR, hc]; simp only [*, Bool.true_and, Bool.and_true, Bool.false_and, Bool.and_false, Bool.true_or, Bool.or_true, Bool.false_or, Bool.or_false])
  rw [bn k8]
  conv => whnf
  by_cases k9 : op = 9
  · rw [bq k9]
    conv => whnf
    have hc : mayC ⟨op, nm, o, (x, y, z), n⟩ = (Nam.may nm && ((ByteArray.toList ⟨o.toArray⟩ == ByteArray.toList ⟨#[]⟩) && (eqV (x, y, z) (0, 0, 0) && (n == 0)))) := by
      subst k9
      rw [emptyD]
      exact may_c9 ..
    refine ⟨_, m1, ?_⟩
    conv => whnf
    repeat' (refine br_intro (fun h => ?_) (fun h => ?_) <;> (rw [h]; conv => whnf))
    all_goals (refine .inl (congrArg tb ?_); rw [← hR, hc]; simp only [*, Bool.true_and, Bool.and_true, Bool.false_and, Bool.and_false, Bool.true_or, Bool.or_true, Bool.false_or, Bool.or_false])
  rw [bn k9]
  conv => whnf
  by_cases k10 : op = 10
  · rw [bq k10]
    conv => whnf
    have hc : mayC ⟨op, nm, o, (x, y, z), n⟩ = (Nam.may nm && ((ByteArray.toList ⟨o.toArray⟩ == ByteArray.toList ⟨#[]⟩) && (eqV (x, y, z) (0, 0, 0) && (n == 0)))) := by
      subst k10
      rw [emptyD]
      exact may_c10 ..
    refine ⟨_, m1, ?_⟩
    conv => whnf
    repeat' (refine br_intro (fun h => ?_) (fun h => ?_) <;> (rw [h]; conv => whnf))
    all_goals (refine .inl (congrArg tb ?_); rw [← hR, hc]; simp only [*, Bool.true_and, Bool.and_true, Bool.false_and, Bool.and_false, Bool.true_or, Bool.or_true, Bool.false_or, Bool.or_false])
  rw [bn k10]
  conv => whnf
  refine .inl (congrArg tb ?_)
  rw [← hR]
  exact (may_no (c := ⟨op, nm, o, (x, y, z), n⟩) (by dsimp only; omega)).symm


theorem rmay_1 (nm o : List UInt8) (v : V) (n : Int) (h2 : nm.length ≤ 9223372036854775806) (h3 : o.length ≤ 9223372036854775806) : FCv Try.prog 14 [cT ⟨1, nm, o, v, n⟩] (tb (mayC ⟨1, nm, o, v, n⟩)) := by
  have m1 := nrmay nm h2
  have m2 := nrmay o h3
  have m3 := rvmay_law v
  obtain ⟨x, y, z⟩ := v
  obtain ⟨R, hR⟩ : ∃ R, mayC ⟨1, nm, o, (x, y, z), n⟩ = R := ⟨_, rfl⟩
  rw [hR]
  have hc := may_c1 nm o (x, y, z) n
  rw [hR] at hc
  unfold cT
  change FCv _ _ [.agg [i64 x, i64 y, i64 z]] _ at m3
  dsimp only
  refine FCv_of_awp (fn := Try.f14) (c := bodyC Try.f14) Try.func14 rfl (of_decide_eq_true rfl) [] ?_
  conv => whnf
  repeat' (first
    | (refine br_intro (fun h => ?_) (fun h => ?_) <;> (rw [h]; conv => whnf))
    | (refine ⟨_, m1, ?_⟩; conv => whnf)
    | (refine ⟨_, m2, ?_⟩; conv => whnf)
    | (refine ⟨_, m3, ?_⟩; conv => whnf)
    | (refine ⟨vV (x, y, z), vV (0, 0, 0), rfl, rfl, nePure _ _ (x, y, z) (0, 0, 0) ?_⟩; conv => whnf))
  all_goals (refine .inl (congrArg tb ?_); try simp only [Bool.not_eq_true', Bool.not_eq_false'] at *)
  all_goals (rw [hc]; try simp only [emptyD] at *)
  all_goals simp only [*, Bool.true_and, Bool.and_true, Bool.false_and, Bool.and_false, Bool.true_or, Bool.or_true, Bool.false_or, Bool.or_false]

theorem rmay_2 (nm o : List UInt8) (v : V) (n : Int) (h2 : nm.length ≤ 9223372036854775806) (h3 : o.length ≤ 9223372036854775806) : FCv Try.prog 14 [cT ⟨2, nm, o, v, n⟩] (tb (mayC ⟨2, nm, o, v, n⟩)) := by
  have m1 := nrmay nm h2
  have m2 := nrmay o h3
  have m3 := rvmay_law v
  obtain ⟨x, y, z⟩ := v
  obtain ⟨R, hR⟩ : ∃ R, mayC ⟨2, nm, o, (x, y, z), n⟩ = R := ⟨_, rfl⟩
  rw [hR]
  have hc := may_c2 nm o (x, y, z) n
  rw [hR] at hc
  unfold cT
  change FCv _ _ [.agg [i64 x, i64 y, i64 z]] _ at m3
  dsimp only
  refine FCv_of_awp (fn := Try.f14) (c := bodyC Try.f14) Try.func14 rfl (of_decide_eq_true rfl) [] ?_
  conv => whnf
  repeat' (first
    | (refine br_intro (fun h => ?_) (fun h => ?_) <;> (rw [h]; conv => whnf))
    | (refine ⟨_, m1, ?_⟩; conv => whnf)
    | (refine ⟨_, m2, ?_⟩; conv => whnf)
    | (refine ⟨_, m3, ?_⟩; conv => whnf)
    | (refine ⟨vV (x, y, z), vV (0, 0, 0), rfl, rfl, nePure _ _ (x, y, z) (0, 0, 0) ?_⟩; conv => whnf))
  all_goals (refine .inl (congrArg tb ?_); try simp only [Bool.not_eq_true', Bool.not_eq_false'] at *)
  all_goals (rw [hc]; try simp only [emptyD] at *)
  all_goals simp only [*, Bool.true_and, Bool.and_true, Bool.false_and, Bool.and_false, Bool.true_or, Bool.or_true, Bool.false_or, Bool.or_false]

theorem rmay_3 (nm o : List UInt8) (v : V) (n : Int) (h2 : nm.length ≤ 9223372036854775806) (h3 : o.length ≤ 9223372036854775806) : FCv Try.prog 14 [cT ⟨3, nm, o, v, n⟩] (tb (mayC ⟨3, nm, o, v, n⟩)) := by
  have m1 := nrmay nm h2
  have m2 := nrmay o h3
  have m3 := rvmay_law v
  obtain ⟨x, y, z⟩ := v
  obtain ⟨R, hR⟩ : ∃ R, mayC ⟨3, nm, o, (x, y, z), n⟩ = R := ⟨_, rfl⟩
  rw [hR]
  have hc := may_c3 nm o (x, y, z) n
  rw [hR] at hc
  unfold cT
  change FCv _ _ [.agg [i64 x, i64 y, i64 z]] _ at m3
  dsimp only
  refine FCv_of_awp (fn := Try.f14) (c := bodyC Try.f14) Try.func14 rfl (of_decide_eq_true rfl) [] ?_
  conv => whnf
  repeat' (first
    | (refine br_intro (fun h => ?_) (fun h => ?_) <;> (rw [h]; conv => whnf))
    | (refine ⟨_, m1, ?_⟩; conv => whnf)
    | (refine ⟨_, m2, ?_⟩; conv => whnf)
    | (refine ⟨_, m3, ?_⟩; conv => whnf)
    | (refine ⟨vV (x, y, z), vV (0, 0, 0), rfl, rfl, nePure _ _ (x, y, z) (0, 0, 0) ?_⟩; conv => whnf))
  all_goals (refine .inl (congrArg tb ?_); try simp only [Bool.not_eq_true', Bool.not_eq_false'] at *)
  all_goals (rw [hc]; try simp only [emptyD] at *)
  all_goals simp only [*, Bool.true_and, Bool.and_true, Bool.false_and, Bool.and_false, Bool.true_or, Bool.or_true, Bool.false_or, Bool.or_false]

theorem rmay_4 (nm o : List UInt8) (v : V) (n : Int) (h2 : nm.length ≤ 9223372036854775806) (h3 : o.length ≤ 9223372036854775806) : FCv Try.prog 14 [cT ⟨4, nm, o, v, n⟩] (tb (mayC ⟨4, nm, o, v, n⟩)) := by
  have m1 := nrmay nm h2
  have m2 := nrmay o h3
  have m3 := rvmay_law v
  obtain ⟨x, y, z⟩ := v
  obtain ⟨R, hR⟩ : ∃ R, mayC ⟨4, nm, o, (x, y, z), n⟩ = R := ⟨_, rfl⟩
  rw [hR]
  have hc := may_c4 nm o (x, y, z) n
  rw [hR] at hc
  unfold cT
  change FCv _ _ [.agg [i64 x, i64 y, i64 z]] _ at m3
  dsimp only
  refine FCv_of_awp (fn := Try.f14) (c := bodyC Try.f14) Try.func14 rfl (of_decide_eq_true rfl) [] ?_
  conv => whnf
  repeat' (first
    | (refine br_intro (fun h => ?_) (fun h => ?_) <;> (rw [h]; conv => whnf))
    | (refine ⟨_, m1, ?_⟩; conv => whnf)
    | (refine ⟨_, m2, ?_⟩; conv => whnf)
    | (refine ⟨_, m3, ?_⟩; conv => whnf)
    | (refine ⟨vV (x, y, z), vV (0, 0, 0), rfl, rfl, nePure _ _ (x, y, z) (0, 0, 0) ?_⟩; conv => whnf))
  all_goals (refine .inl (congrArg tb ?_); try simp only [Bool.not_eq_true', Bool.not_eq_false'] at *)
  all_goals (rw [hc]; try simp only [emptyD] at *)
  all_goals simp only [*, Bool.true_and, Bool.and_true, Bool.false_and, Bool.and_false, Bool.true_or, Bool.or_true, Bool.false_or, Bool.or_false]

theorem rmay_5 (nm o : List UInt8) (v : V) (n : Int) (h2 : nm.length ≤ 9223372036854775806) (h3 : o.length ≤ 9223372036854775806) : FCv Try.prog 14 [cT ⟨5, nm, o, v, n⟩] (tb (mayC ⟨5, nm, o, v, n⟩)) := by
  have m1 := nrmay nm h2
  have m2 := nrmay o h3
  have m3 := rvmay_law v
  obtain ⟨x, y, z⟩ := v
  obtain ⟨R, hR⟩ : ∃ R, mayC ⟨5, nm, o, (x, y, z), n⟩ = R := ⟨_, rfl⟩
  rw [hR]
  have hc := may_c5 nm o (x, y, z) n
  rw [hR] at hc
  unfold cT
  change FCv _ _ [.agg [i64 x, i64 y, i64 z]] _ at m3
  dsimp only
  refine FCv_of_awp (fn := Try.f14) (c := bodyC Try.f14) Try.func14 rfl (of_decide_eq_true rfl) [] ?_
  conv => whnf
  repeat' (first
    | (refine br_intro (fun h => ?_) (fun h => ?_) <;> (rw [h]; conv => whnf))
    | (refine ⟨_, m1, ?_⟩; conv => whnf)
    | (refine ⟨_, m2, ?_⟩; conv => whnf)
    | (refine ⟨_, m3, ?_⟩; conv => whnf)
    | (refine ⟨vV (x, y, z), vV (0, 0, 0), rfl, rfl, nePure _ _ (x, y, z) (0, 0, 0) ?_⟩; conv => whnf))
  all_goals (refine .inl (congrArg tb ?_); try simp only [Bool.not_eq_true', Bool.not_eq_false'] at *)
  all_goals (rw [hc]; try simp only [emptyD] at *)
  all_goals simp only [*, Bool.true_and, Bool.and_true, Bool.false_and, Bool.and_false, Bool.true_or, Bool.or_true, Bool.false_or, Bool.or_false]

theorem rmay_6 (nm o : List UInt8) (v : V) (n : Int) (h2 : nm.length ≤ 9223372036854775806) (h3 : o.length ≤ 9223372036854775806) : FCv Try.prog 14 [cT ⟨6, nm, o, v, n⟩] (tb (mayC ⟨6, nm, o, v, n⟩)) := by
  have m1 := nrmay nm h2
  have m2 := nrmay o h3
  have m3 := rvmay_law v
  obtain ⟨x, y, z⟩ := v
  obtain ⟨R, hR⟩ : ∃ R, mayC ⟨6, nm, o, (x, y, z), n⟩ = R := ⟨_, rfl⟩
  rw [hR]
  have hc := may_c6 nm o (x, y, z) n
  rw [hR] at hc
  unfold cT
  change FCv _ _ [.agg [i64 x, i64 y, i64 z]] _ at m3
  dsimp only
  refine FCv_of_awp (fn := Try.f14) (c := bodyC Try.f14) Try.func14 rfl (of_decide_eq_true rfl) [] ?_
  conv => whnf
  repeat' (first
    | (refine br_intro (fun h => ?_) (fun h => ?_) <;> (rw [h]; conv => whnf))
    | (refine ⟨_, m1, ?_⟩; conv => whnf)
    | (refine ⟨_, m2, ?_⟩; conv => whnf)
    | (refine ⟨_, m3, ?_⟩; conv => whnf)
    | (refine ⟨vV (x, y, z), vV (0, 0, 0), rfl, rfl, nePure _ _ (x, y, z) (0, 0, 0) ?_⟩; conv => whnf))
  all_goals (refine .inl (congrArg tb ?_); try simp only [Bool.not_eq_true', Bool.not_eq_false'] at *)
  all_goals (rw [hc]; try simp only [emptyD] at *)
  all_goals simp only [*, Bool.true_and, Bool.and_true, Bool.false_and, Bool.and_false, Bool.true_or, Bool.or_true, Bool.false_or, Bool.or_false]

theorem rmay_7 (nm o : List UInt8) (v : V) (n : Int) (h2 : nm.length ≤ 9223372036854775806) (h3 : o.length ≤ 9223372036854775806) : FCv Try.prog 14 [cT ⟨7, nm, o, v, n⟩] (tb (mayC ⟨7, nm, o, v, n⟩)) := by
  have m1 := nrmay nm h2
  have m2 := nrmay o h3
  have m3 := rvmay_law v
  obtain ⟨x, y, z⟩ := v
  obtain ⟨R, hR⟩ : ∃ R, mayC ⟨7, nm, o, (x, y, z), n⟩ = R := ⟨_, rfl⟩
  rw [hR]
  have hc := may_c7 nm o (x, y, z) n
  rw [hR] at hc
  unfold cT
  change FCv _ _ [.agg [i64 x, i64 y, i64 z]] _ at m3
  dsimp only
  refine FCv_of_awp (fn := Try.f14) (c := bodyC Try.f14) Try.func14 rfl (of_decide_eq_true rfl) [] ?_
  conv => whnf
  repeat' (first
    | (refine br_intro (fun h => ?_) (fun h => ?_) <;> (rw [h]; conv => whnf))
    | (refine ⟨_, m1, ?_⟩; conv => whnf)
    | (refine ⟨_, m2, ?_⟩; conv => whnf)
    | (refine ⟨_, m3, ?_⟩; conv => whnf)
    | (refine ⟨vV (x, y, z), vV (0, 0, 0), rfl, rfl, nePure _ _ (x, y, z) (0, 0, 0) ?_⟩; conv => whnf))
  all_goals (refine .inl (congrArg tb ?_); try simp only [Bool.not_eq_true', Bool.not_eq_false'] at *)
  all_goals (rw [hc]; try simp only [emptyD] at *)
  all_goals simp only [*, Bool.true_and, Bool.and_true, Bool.false_and, Bool.and_false, Bool.true_or, Bool.or_true, Bool.false_or, Bool.or_false]

theorem rmay_8 (nm o : List UInt8) (v : V) (n : Int) (h2 : nm.length ≤ 9223372036854775806) (h3 : o.length ≤ 9223372036854775806) : FCv Try.prog 14 [cT ⟨8, nm, o, v, n⟩] (tb (mayC ⟨8, nm, o, v, n⟩)) := by
  have m1 := nrmay nm h2
  have m2 := nrmay o h3
  have m3 := rvmay_law v
  obtain ⟨x, y, z⟩ := v
  obtain ⟨R, hR⟩ : ∃ R, mayC ⟨8, nm, o, (x, y, z), n⟩ = R := ⟨_, rfl⟩
  rw [hR]
  have hc := may_c8 nm o (x, y, z) n
  rw [hR] at hc
  unfold cT
  change FCv _ _ [.agg [i64 x, i64 y, i64 z]] _ at m3
  dsimp only
  refine FCv_of_awp (fn := Try.f14) (c := bodyC Try.f14) Try.func14 rfl (of_decide_eq_true rfl) [] ?_
  conv => whnf
  repeat' (first
    | (refine br_intro (fun h => ?_) (fun h => ?_) <;> (rw [h]; conv => whnf))
    | (refine ⟨_, m1, ?_⟩; conv => whnf)
    | (refine ⟨_, m2, ?_⟩; conv => whnf)
    | (refine ⟨_, m3, ?_⟩; conv => whnf)
    | (refine ⟨vV (x, y, z), vV (0, 0, 0), rfl, rfl, nePure _ _ (x, y, z) (0, 0, 0) ?_⟩; conv => whnf))
  all_goals (refine .inl (congrArg tb ?_); try simp only [Bool.not_eq_true', Bool.not_eq_false'] at *)
  all_goals (rw [hc]; try simp only [emptyD] at *)
  all_goals simp only [*, Bool.true_and, Bool.and_true, Bool.false_and, Bool.and_false, Bool.true_or, Bool.or_true, Bool.false_or, Bool.or_false]

theorem rmay_9 (nm o : List UInt8) (v : V) (n : Int) (h2 : nm.length ≤ 9223372036854775806) (h3 : o.length ≤ 9223372036854775806) : FCv Try.prog 14 [cT ⟨9, nm, o, v, n⟩] (tb (mayC ⟨9, nm, o, v, n⟩)) := by
  have m1 := nrmay nm h2
  have m2 := nrmay o h3
  have m3 := rvmay_law v
  obtain ⟨x, y, z⟩ := v
  obtain ⟨R, hR⟩ : ∃ R, mayC ⟨9, nm, o, (x, y, z), n⟩ = R := ⟨_, rfl⟩
  rw [hR]
  have hc := may_c9 nm o (x, y, z) n
  rw [hR] at hc
  unfold cT
  change FCv _ _ [.agg [i64 x, i64 y, i64 z]] _ at m3
  dsimp only
  refine FCv_of_awp (fn := Try.f14) (c := bodyC Try.f14) Try.func14 rfl (of_decide_eq_true rfl) [] ?_
  conv => whnf
  repeat' (first
    | (refine br_intro (fun h => ?_) (fun h => ?_) <;> (rw [h]; conv => whnf))
    | (refine ⟨_, m1, ?_⟩; conv => whnf)
    | (refine ⟨_, m2, ?_⟩; conv => whnf)
    | (refine ⟨_, m3, ?_⟩; conv => whnf)
    | (refine ⟨vV (x, y, z), vV (0, 0, 0), rfl, rfl, nePure _ _ (x, y, z) (0, 0, 0) ?_⟩; conv => whnf))
  all_goals (refine .inl (congrArg tb ?_); try simp only [Bool.not_eq_true', Bool.not_eq_false'] at *)
  all_goals (rw [hc]; try simp only [emptyD] at *)
  all_goals simp only [*, Bool.true_and, Bool.and_true, Bool.false_and, Bool.and_false, Bool.true_or, Bool.or_true, Bool.false_or, Bool.or_false]

theorem rmay_10 (nm o : List UInt8) (v : V) (n : Int) (h2 : nm.length ≤ 9223372036854775806) (h3 : o.length ≤ 9223372036854775806) : FCv Try.prog 14 [cT ⟨10, nm, o, v, n⟩] (tb (mayC ⟨10, nm, o, v, n⟩)) := by
  have m1 := nrmay nm h2
  have m2 := nrmay o h3
  have m3 := rvmay_law v
  obtain ⟨x, y, z⟩ := v
  obtain ⟨R, hR⟩ : ∃ R, mayC ⟨10, nm, o, (x, y, z), n⟩ = R := ⟨_, rfl⟩
  rw [hR]
  have hc := may_c10 nm o (x, y, z) n
  rw [hR] at hc
  unfold cT
  change FCv _ _ [.agg [i64 x, i64 y, i64 z]] _ at m3
  dsimp only
  refine FCv_of_awp (fn := Try.f14) (c := bodyC Try.f14) Try.func14 rfl (of_decide_eq_true rfl) [] ?_
  conv => whnf
  repeat' (first
    | (refine br_intro (fun h => ?_) (fun h => ?_) <;> (rw [h]; conv => whnf))
    | (refine ⟨_, m1, ?_⟩; conv => whnf)
    | (refine ⟨_, m2, ?_⟩; conv => whnf)
    | (refine ⟨_, m3, ?_⟩; conv => whnf)
    | (refine ⟨vV (x, y, z), vV (0, 0, 0), rfl, rfl, nePure _ _ (x, y, z) (0, 0, 0) ?_⟩; conv => whnf))
  all_goals (refine .inl (congrArg tb ?_); try simp only [Bool.not_eq_true', Bool.not_eq_false'] at *)
  all_goals (rw [hc]; try simp only [emptyD] at *)
  all_goals simp only [*, Bool.true_and, Bool.and_true, Bool.false_and, Bool.and_false, Bool.true_or, Bool.or_true, Bool.false_or, Bool.or_false]

theorem rmay_no (op : Int) (hno : ¬ (1 ≤ op ∧ op ≤ 10)) (nm o : List UInt8) (v : V) (n : Int) (h2 : nm.length ≤ 9223372036854775806) (h3 : o.length ≤ 9223372036854775806) : FCv Try.prog 14 [cT ⟨op, nm, o, v, n⟩] (tb (false)) := by
  have m1 := nrmay nm h2
  have m2 := nrmay o h3
  have m3 := rvmay_law v
  obtain ⟨x, y, z⟩ := v
  unfold cT
  change FCv _ _ [.agg [i64 x, i64 y, i64 z]] _ at m3
  dsimp only
  refine FCv_of_awp (fn := Try.f14) (c := bodyC Try.f14) Try.func14 rfl (of_decide_eq_true rfl) [] ?_
  conv => whnf
  repeat' (first
    | (refine br_intro (fun h => ?_) (fun h => ?_) <;> (rw [h]; conv => whnf))
    | (refine ⟨_, m1, ?_⟩; conv => whnf)
    | (refine ⟨_, m2, ?_⟩; conv => whnf)
    | (refine ⟨_, m3, ?_⟩; conv => whnf)
    | (refine ⟨vV (x, y, z), vV (0, 0, 0), rfl, rfl, nePure _ _ (x, y, z) (0, 0, 0) ?_⟩; conv => whnf))
  all_goals first | exact .inl rfl | (exfalso; simp only [decide_eq_true_eq, decide_eq_false_iff_not] at *; omega)
theorem rmay_law (c : Cmd) (h : inCmd c) : FCv Try.prog 14 [cT c] (tb (mayC c)) := by
  obtain ⟨op, nm, o, v, n⟩ := c
  by_cases k1 : op = 1
  · subst k1; exact rmay_1 nm o v n h.2.1 h.2.2.1
  by_cases k2 : op = 2
  · subst k2; exact rmay_2 nm o v n h.2.1 h.2.2.1
  by_cases k3 : op = 3
  · subst k3; exact rmay_3 nm o v n h.2.1 h.2.2.1
  by_cases k4 : op = 4
  · subst k4; exact rmay_4 nm o v n h.2.1 h.2.2.1
  by_cases k5 : op = 5
  · subst k5; exact rmay_5 nm o v n h.2.1 h.2.2.1
  by_cases k6 : op = 6
  · subst k6; exact rmay_6 nm o v n h.2.1 h.2.2.1
  by_cases k7 : op = 7
  · subst k7; exact rmay_7 nm o v n h.2.1 h.2.2.1
  by_cases k8 : op = 8
  · subst k8; exact rmay_8 nm o v n h.2.1 h.2.2.1
  by_cases k9 : op = 9
  · subst k9; exact rmay_9 nm o v n h.2.1 h.2.2.1
  by_cases k10 : op = 10
  · subst k10; exact rmay_10 nm o v n h.2.1 h.2.2.1
  rw [may_no (c := ⟨op, nm, o, v, n⟩) (by dsimp only; omega)]
  exact rmay_no op (by omega) nm o v n h.2.1 h.2.2.1
end Go.AW.Cm
