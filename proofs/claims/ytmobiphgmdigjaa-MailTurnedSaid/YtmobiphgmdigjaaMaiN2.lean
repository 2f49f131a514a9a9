import Derived.Test.YtmobiphgmdigjaaMaiN1
import Derived.Test.YtmobiphgmdigjaaCmdP1
/- Mails: their form, walked, on. -/
set_option linter.unusedVariables false
set_option linter.unusedSimpArgs false
namespace Go.AW.Ml
open Go Go.AW Go.AW.Wir Go.AW.Cm Go.Proofs
set_option maxRecDepth 40000
set_option pp.maxSteps 60

theorem eqf_snap (w : World) (si st si' st' : Int) (sd sd' : List UInt8) : (Op.eqFields 9999 [iv si, iv st, sv sd].toArray [iv si', iv st', sv sd'].toArray [{ name := "Index", type := 2, offset := 0, embedded := false, tag := "", pkgPath := "", byteOffset := 0 },
        { name := "Term", type := 2, offset := 1, embedded := false, tag := "", pkgPath := "", byteOffset := 8 },
        { name := "Data", type := 9, offset := 2, embedded := false, tag := "", pkgPath := "", byteOffset := 16 }]).run Try.prog w = .ok (si == si' && (st == st' && (decide (sd = sd') && true))) w := by
  refine eqf w (by decide) (run_part_one w Try.underlying2 rfl rfl) (run_part_one w Try.underlying2 rfl rfl) (h_i64 w 9998 si si') ?_
  refine eqf w (by decide) (run_part_one w Try.underlying2 rfl rfl) (run_part_one w Try.underlying2 rfl rfl) (h_i64 w 9998 st st') ?_
  refine eqf w (by decide) (run_part_one w Try.underlying9 rfl rfl) (run_part_one w Try.underlying9 rfl rfl) (h_str w 9998 sd sd') ?_
  exact eqf_nil w
theorem snapEq (ox oy : Operand) (si st si' st' : Int) (sd sd' : List UInt8) {K : T → Prop} (h : K (tb (si == si' && (st == st' && (decide (sd = sd') && true))))) : pureA Try.prog (do eqGuard .eql 24 ox oy (.agg [iv si, iv st, sv sd].toArray) (.agg [iv si', iv st', sv sd'].toArray); binOp .eql 24 (.agg [iv si, iv st, sv sd].toArray) (.agg [iv si', iv st', sv sd'].toArray)) K :=
  pure_eqS Try.underlying24 (by kernel_rfl) (by kernel_rfl) ox oy [iv si, iv st, sv sd] [iv si', iv st', sv sd'] (fun w => eqf_snap w si st si' st' sd sd') h
theorem snapNe (ox oy : Operand) (si st si' st' : Int) (sd sd' : List UInt8) {K : T → Prop} (h : K (tb (!(si == si' && (st == st' && (decide (sd = sd') && true)))))) : pureA Try.prog (do eqGuard .neq 24 ox oy (.agg [iv si, iv st, sv sd].toArray) (.agg [iv si', iv st', sv sd'].toArray); binOp .neq 24 (.agg [iv si, iv st, sv sd].toArray) (.agg [iv si', iv st', sv sd'].toArray)) K :=
  pure_neS Try.underlying24 (by kernel_rfl) (by kernel_rfl) ox oy [iv si, iv st, sv sd] [iv si', iv st', sv sd'] (fun w => eqf_snap w si st si' st' sd sd') h
theorem lenD {α : Type} (l : List α) : (((l.length : Nat) : Int) == 0) = decide (l = []) := by
  rw [Bool.eq_iff_iff, beq_iff_eq, decide_eq_true_eq, ← List.length_eq_zero_iff]; omega
theorem leA (n : Nat) : decide ((n : Int) ≤ 65536) = decide (n ≤ 65536) := decide_eq_decide.2 (by omega)
theorem leB (n : Nat) : decide ((n : Int) ≤ 4000) = decide (n ≤ 4000) := decide_eq_decide.2 (by omega)
theorem leC (n : Nat) : decide ((n : Int) ≤ 16) = decide (n ≤ 16) := decide_eq_decide.2 (by omega)
theorem leE (n : Nat) : decide ((n : Int) ≤ 128) = decide (n ≤ 128) := decide_eq_decide.2 (by omega)
theorem maylaw_1 (t a b c d : Int) (l : List Entry) (si st : Int) (sd : List UInt8) (j : List Job) (hl : l.length ≤ 9223372036854775806) (hjl : j.length ≤ 9223372036854775806) (hj : ∀ x ∈ j, inJ x) :
    FCv Try.prog 12 [.agg [i64 1, i64 t, i64 a, i64 b, i64 c, i64 d, .sl none 2 (l.map fun x => eC x), i64 si, i64 st, ts sd, .sl none 7 (j.map fun x => jC x)]] (tb (mayM ⟨1, t, a, b, c, d, l, si, st, sd, j⟩)) := by
  have hc := may_k1 t a b c d l si st sd j
  obtain ⟨R, hR⟩ : ∃ R, mayM ⟨1, t, a, b, c, d, l, si, st, sd, j⟩ = R := ⟨_, rfl⟩
  rw [hR] at hc ⊢
  have n1 := cf_ent l hl
  have n2 := cf_job j hj hjl
  have l1 : (l.map fun x => eC x).length = l.length := List.length_map _
  have l2 : (j.map fun x => jC x).length = j.length := List.length_map _
  obtain ⟨RL, hRL⟩ : ∃ RL, (l.map fun x => eC x) = RL := ⟨_, rfl⟩
  obtain ⟨RJ, hRJ⟩ : ∃ RJ, (j.map fun x => jC x) = RJ := ⟨_, rfl⟩
  rw [hRL] at n1 l1 ⊢
  rw [hRJ] at n2 l2 ⊢
  refine FCv_of_awp (fn := Try.f12) (c := bodyC Try.f12) Try.func12 rfl (of_decide_eq_true rfl) [] ?_
  conv => whnf
  repeat' (first
    | (refine br_intro (fun h => ?_) (fun h => ?_) <;> (rw [h]; conv => whnf))
    | (refine ⟨_, index1 _, ?_⟩; conv => whnf)
    | (refine ⟨_, index2 _ _, ?_⟩; conv => whnf)
    | (refine ⟨_, bit_law _, ?_⟩; conv => whnf)
    | (refine ⟨_, within_law _ _ _, ?_⟩; conv => whnf)
    | (refine ⟨_, n1, ?_⟩; conv => whnf)
    | (refine ⟨_, n2, ?_⟩; conv => whnf)
    | (refine ⟨[iv si, iv st, sv sd], [iv 0, iv 0, sv []], rfl, rfl, snapEq _ _ si st 0 0 sd [] ?_⟩; conv => whnf)
    | (refine ⟨[iv 0, iv 0, sv []], [iv 0, iv 0, sv []], rfl, rfl, snapEq _ _ 0 0 0 0 [] [] ?_⟩; conv => whnf)
    | (refine ⟨[iv si, iv st, sv []], [iv 0, iv 0, sv []], rfl, rfl, snapEq _ _ si st 0 0 [] [] ?_⟩; conv => whnf))
  all_goals (refine .inl (congrArg tb ?_))
  all_goals (try simp only [l1, l2, lenD, sizeD, leA, leB, leC, leE, Bool.and_true, Bool.not_not, Bool.not_eq_true', Bool.not_eq_false'] at *)
  all_goals (rw [hc]; clear hR hc n1 n2 hRL hRJ hj)
  all_goals (try unfold snB)
  all_goals (try simp only [decide_true, Bool.and_true] at *)
  all_goals (try simp only [*, Bool.true_and, Bool.and_true, Bool.false_and, Bool.and_false])
  all_goals (try rfl)
theorem maylaw_2 (t a b c d : Int) (l : List Entry) (si st : Int) (sd : List UInt8) (j : List Job) (hl : l.length ≤ 9223372036854775806) (hjl : j.length ≤ 9223372036854775806) (hj : ∀ x ∈ j, inJ x) :
    FCv Try.prog 12 [.agg [i64 2, i64 t, i64 a, i64 b, i64 c, i64 d, .sl none 2 (l.map fun x => eC x), i64 si, i64 st, ts sd, .sl none 7 (j.map fun x => jC x)]] (tb (mayM ⟨2, t, a, b, c, d, l, si, st, sd, j⟩)) := by
  have hc := may_k2 t a b c d l si st sd j
  obtain ⟨R, hR⟩ : ∃ R, mayM ⟨2, t, a, b, c, d, l, si, st, sd, j⟩ = R := ⟨_, rfl⟩
  rw [hR] at hc ⊢
  have n1 := cf_ent l hl
  have n2 := cf_job j hj hjl
  have l1 : (l.map fun x => eC x).length = l.length := List.length_map _
  have l2 : (j.map fun x => jC x).length = j.length := List.length_map _
  obtain ⟨RL, hRL⟩ : ∃ RL, (l.map fun x => eC x) = RL := ⟨_, rfl⟩
  obtain ⟨RJ, hRJ⟩ : ∃ RJ, (j.map fun x => jC x) = RJ := ⟨_, rfl⟩
  rw [hRL] at n1 l1 ⊢
  rw [hRJ] at n2 l2 ⊢
  refine FCv_of_awp (fn := Try.f12) (c := bodyC Try.f12) Try.func12 rfl (of_decide_eq_true rfl) [] ?_
  conv => whnf
  repeat' (first
    | (refine br_intro (fun h => ?_) (fun h => ?_) <;> (rw [h]; conv => whnf))
    | (refine ⟨_, index1 _, ?_⟩; conv => whnf)
    | (refine ⟨_, index2 _ _, ?_⟩; conv => whnf)
    | (refine ⟨_, bit_law _, ?_⟩; conv => whnf)
    | (refine ⟨_, within_law _ _ _, ?_⟩; conv => whnf)
    | (refine ⟨_, n1, ?_⟩; conv => whnf)
    | (refine ⟨_, n2, ?_⟩; conv => whnf)
    | (refine ⟨[iv si, iv st, sv sd], [iv 0, iv 0, sv []], rfl, rfl, snapEq _ _ si st 0 0 sd [] ?_⟩; conv => whnf)
    | (refine ⟨[iv 0, iv 0, sv []], [iv 0, iv 0, sv []], rfl, rfl, snapEq _ _ 0 0 0 0 [] [] ?_⟩; conv => whnf)
    | (refine ⟨[iv si, iv st, sv []], [iv 0, iv 0, sv []], rfl, rfl, snapEq _ _ si st 0 0 [] [] ?_⟩; conv => whnf))
  all_goals (refine .inl (congrArg tb ?_))
  all_goals (try simp only [l1, l2, lenD, sizeD, leA, leB, leC, leE, Bool.and_true, Bool.not_not, Bool.not_eq_true', Bool.not_eq_false'] at *)
  all_goals (rw [hc]; clear hR hc n1 n2 hRL hRJ hj)
  all_goals (try unfold snB)
  all_goals (try simp only [decide_true, Bool.and_true] at *)
  all_goals (try simp only [*, Bool.true_and, Bool.and_true, Bool.false_and, Bool.and_false])
  all_goals (try rfl)
theorem maylaw_3 (t a b c d : Int) (l : List Entry) (si st : Int) (sd : List UInt8) (j : List Job) (hl : l.length ≤ 9223372036854775806) (hjl : j.length ≤ 9223372036854775806) (hj : ∀ x ∈ j, inJ x) :
    FCv Try.prog 12 [.agg [i64 3, i64 t, i64 a, i64 b, i64 c, i64 d, .sl none 2 (l.map fun x => eC x), i64 si, i64 st, ts sd, .sl none 7 (j.map fun x => jC x)]] (tb (mayM ⟨3, t, a, b, c, d, l, si, st, sd, j⟩)) := by
  have hc := may_k3 t a b c d l si st sd j
  obtain ⟨R, hR⟩ : ∃ R, mayM ⟨3, t, a, b, c, d, l, si, st, sd, j⟩ = R := ⟨_, rfl⟩
  rw [hR] at hc ⊢
  have n1 := cf_ent l hl
  have n2 := cf_job j hj hjl
  have l1 : (l.map fun x => eC x).length = l.length := List.length_map _
  have l2 : (j.map fun x => jC x).length = j.length := List.length_map _
  obtain ⟨RL, hRL⟩ : ∃ RL, (l.map fun x => eC x) = RL := ⟨_, rfl⟩
  obtain ⟨RJ, hRJ⟩ : ∃ RJ, (j.map fun x => jC x) = RJ := ⟨_, rfl⟩
  rw [hRL] at n1 l1 ⊢
  rw [hRJ] at n2 l2 ⊢
  refine FCv_of_awp (fn := Try.f12) (c := bodyC Try.f12) Try.func12 rfl (of_decide_eq_true rfl) [] ?_
  conv => whnf
  repeat' (first
    | (refine br_intro (fun h => ?_) (fun h => ?_) <;> (rw [h]; conv => whnf))
    | (refine ⟨_, index1 _, ?_⟩; conv => whnf)
    | (refine ⟨_, index2 _ _, ?_⟩; conv => whnf)
    | (refine ⟨_, bit_law _, ?_⟩; conv => whnf)
    | (refine ⟨_, within_law _ _ _, ?_⟩; conv => whnf)
    | (refine ⟨_, n1, ?_⟩; conv => whnf)
    | (refine ⟨_, n2, ?_⟩; conv => whnf)
    | (refine ⟨[iv si, iv st, sv sd], [iv 0, iv 0, sv []], rfl, rfl, snapEq _ _ si st 0 0 sd [] ?_⟩; conv => whnf)
    | (refine ⟨[iv 0, iv 0, sv []], [iv 0, iv 0, sv []], rfl, rfl, snapEq _ _ 0 0 0 0 [] [] ?_⟩; conv => whnf)
    | (refine ⟨[iv si, iv st, sv []], [iv 0, iv 0, sv []], rfl, rfl, snapEq _ _ si st 0 0 [] [] ?_⟩; conv => whnf))
  all_goals (refine .inl (congrArg tb ?_))
  all_goals (try simp only [l1, l2, lenD, sizeD, leA, leB, leC, leE, Bool.and_true, Bool.not_not, Bool.not_eq_true', Bool.not_eq_false'] at *)
  all_goals (rw [hc]; clear hR hc n1 n2 hRL hRJ hj)
  all_goals (try unfold snB)
  all_goals (try simp only [decide_true, Bool.and_true] at *)
  all_goals (try simp only [*, Bool.true_and, Bool.and_true, Bool.false_and, Bool.and_false])
  all_goals (try rfl)
theorem maylaw_4 (t a b c d : Int) (l : List Entry) (si st : Int) (sd : List UInt8) (j : List Job) (hl : l.length ≤ 9223372036854775806) (hjl : j.length ≤ 9223372036854775806) (hj : ∀ x ∈ j, inJ x) :
    FCv Try.prog 12 [.agg [i64 4, i64 t, i64 a, i64 b, i64 c, i64 d, .sl none 2 (l.map fun x => eC x), i64 si, i64 st, ts sd, .sl none 7 (j.map fun x => jC x)]] (tb (mayM ⟨4, t, a, b, c, d, l, si, st, sd, j⟩)) := by
  have hc := may_k4 t a b c d l si st sd j
  obtain ⟨R, hR⟩ : ∃ R, mayM ⟨4, t, a, b, c, d, l, si, st, sd, j⟩ = R := ⟨_, rfl⟩
  rw [hR] at hc ⊢
  have n1 := cf_ent l hl
  have n2 := cf_job j hj hjl
  have l1 : (l.map fun x => eC x).length = l.length := List.length_map _
  have l2 : (j.map fun x => jC x).length = j.length := List.length_map _
  obtain ⟨RL, hRL⟩ : ∃ RL, (l.map fun x => eC x) = RL := ⟨_, rfl⟩
  obtain ⟨RJ, hRJ⟩ : ∃ RJ, (j.map fun x => jC x) = RJ := ⟨_, rfl⟩
  rw [hRL] at n1 l1 ⊢
  rw [hRJ] at n2 l2 ⊢
  refine FCv_of_awp (fn := Try.f12) (c := bodyC Try.f12) Try.func12 rfl (of_decide_eq_true rfl) [] ?_
  conv => whnf
  repeat' (first
    | (refine br_intro (fun h => ?_) (fun h => ?_) <;> (rw [h]; conv => whnf))
    | (refine ⟨_, index1 _, ?_⟩; conv => whnf)
    | (refine ⟨_, index2 _ _, ?_⟩; conv => whnf)
    | (refine ⟨_, bit_law _, ?_⟩; conv => whnf)
    | (refine ⟨_, within_law _ _ _, ?_⟩; conv => whnf)
    | (refine ⟨_, n1, ?_⟩; conv => whnf)
    | (refine ⟨_, n2, ?_⟩; conv => whnf)
    | (refine ⟨[iv si, iv st, sv sd], [iv 0, iv 0, sv []], rfl, rfl, snapEq _ _ si st 0 0 sd [] ?_⟩; conv => whnf)
    | (refine ⟨[iv 0, iv 0, sv []], [iv 0, iv 0, sv []], rfl, rfl, snapEq _ _ 0 0 0 0 [] [] ?_⟩; conv => whnf)
    | (refine ⟨[iv si, iv st, sv []], [iv 0, iv 0, sv []], rfl, rfl, snapEq _ _ si st 0 0 [] [] ?_⟩; conv => whnf))
  all_goals (refine .inl (congrArg tb ?_))
  all_goals (try simp only [l1, l2, lenD, sizeD, leA, leB, leC, leE, Bool.and_true, Bool.not_not, Bool.not_eq_true', Bool.not_eq_false'] at *)
  all_goals (rw [hc]; clear hR hc n1 n2 hRL hRJ hj)
  all_goals (try unfold snB)
  all_goals (try simp only [decide_true, Bool.and_true] at *)
  all_goals (try simp only [*, Bool.true_and, Bool.and_true, Bool.false_and, Bool.and_false])
  all_goals (try rfl)
theorem maylaw_5 (t a b c d : Int) (l : List Entry) (si st : Int) (sd : List UInt8) (j : List Job) (hl : l.length ≤ 9223372036854775806) (hjl : j.length ≤ 9223372036854775806) (hj : ∀ x ∈ j, inJ x) :
    FCv Try.prog 12 [.agg [i64 5, i64 t, i64 a, i64 b, i64 c, i64 d, .sl none 2 (l.map fun x => eC x), i64 si, i64 st, ts sd, .sl none 7 (j.map fun x => jC x)]] (tb (mayM ⟨5, t, a, b, c, d, l, si, st, sd, j⟩)) := by
  have hc := may_k5 t a b c d l si st sd j
  obtain ⟨R, hR⟩ : ∃ R, mayM ⟨5, t, a, b, c, d, l, si, st, sd, j⟩ = R := ⟨_, rfl⟩
  rw [hR] at hc ⊢
  have n1 := cf_ent l hl
  have n2 := cf_job j hj hjl
  have l1 : (l.map fun x => eC x).length = l.length := List.length_map _
  have l2 : (j.map fun x => jC x).length = j.length := List.length_map _
  obtain ⟨RL, hRL⟩ : ∃ RL, (l.map fun x => eC x) = RL := ⟨_, rfl⟩
  obtain ⟨RJ, hRJ⟩ : ∃ RJ, (j.map fun x => jC x) = RJ := ⟨_, rfl⟩
  rw [hRL] at n1 l1 ⊢
  rw [hRJ] at n2 l2 ⊢
  refine FCv_of_awp (fn := Try.f12) (c := bodyC Try.f12) Try.func12 rfl (of_decide_eq_true rfl) [] ?_
  conv => whnf
  repeat' (first
    | (refine br_intro (fun h => ?_) (fun h => ?_) <;> (rw [h]; conv => whnf))
    | (refine ⟨_, index1 _, ?_⟩; conv => whnf)
    | (refine ⟨_, index2 _ _, ?_⟩; conv => whnf)
    | (refine ⟨_, bit_law _, ?_⟩; conv => whnf)
    | (refine ⟨_, within_law _ _ _, ?_⟩; conv => whnf)
    | (refine ⟨_, n1, ?_⟩; conv => whnf)
    | (refine ⟨_, n2, ?_⟩; conv => whnf)
    | (refine ⟨[iv si, iv st, sv sd], [iv 0, iv 0, sv []], rfl, rfl, snapEq _ _ si st 0 0 sd [] ?_⟩; conv => whnf)
    | (refine ⟨[iv 0, iv 0, sv []], [iv 0, iv 0, sv []], rfl, rfl, snapEq _ _ 0 0 0 0 [] [] ?_⟩; conv => whnf)
    | (refine ⟨[iv si, iv st, sv []], [iv 0, iv 0, sv []], rfl, rfl, snapEq _ _ si st 0 0 [] [] ?_⟩; conv => whnf))
  all_goals (refine .inl (congrArg tb ?_))
  all_goals (try simp only [l1, l2, lenD, sizeD, leA, leB, leC, leE, Bool.and_true, Bool.not_not, Bool.not_eq_true', Bool.not_eq_false'] at *)
  all_goals (rw [hc]; clear hR hc n1 n2 hRL hRJ hj)
  all_goals (try unfold snB)
  all_goals (try simp only [decide_true, Bool.and_true] at *)
  all_goals (try simp only [*, Bool.true_and, Bool.and_true, Bool.false_and, Bool.and_false])
  all_goals (try rfl)
theorem maylaw_6 (t a b c d : Int) (l : List Entry) (si st : Int) (sd : List UInt8) (j : List Job) (hl : l.length ≤ 9223372036854775806) (hjl : j.length ≤ 9223372036854775806) (hj : ∀ x ∈ j, inJ x) :
    FCv Try.prog 12 [.agg [i64 6, i64 t, i64 a, i64 b, i64 c, i64 d, .sl none 2 (l.map fun x => eC x), i64 si, i64 st, ts sd, .sl none 7 (j.map fun x => jC x)]] (tb (mayM ⟨6, t, a, b, c, d, l, si, st, sd, j⟩)) := by
  have hc := may_k6 t a b c d l si st sd j
  obtain ⟨R, hR⟩ : ∃ R, mayM ⟨6, t, a, b, c, d, l, si, st, sd, j⟩ = R := ⟨_, rfl⟩
  rw [hR] at hc ⊢
  have n1 := cf_ent l hl
  have n2 := cf_job j hj hjl
  have l1 : (l.map fun x => eC x).length = l.length := List.length_map _
  have l2 : (j.map fun x => jC x).length = j.length := List.length_map _
  obtain ⟨RL, hRL⟩ : ∃ RL, (l.map fun x => eC x) = RL := ⟨_, rfl⟩
  obtain ⟨RJ, hRJ⟩ : ∃ RJ, (j.map fun x => jC x) = RJ := ⟨_, rfl⟩
  rw [hRL] at n1 l1 ⊢
  rw [hRJ] at n2 l2 ⊢
  refine FCv_of_awp (fn := Try.f12) (c := bodyC Try.f12) Try.func12 rfl (of_decide_eq_true rfl) [] ?_
  conv => whnf
  repeat' (first
    | (refine br_intro (fun h => ?_) (fun h => ?_) <;> (rw [h]; conv => whnf))
    | (refine ⟨_, index1 _, ?_⟩; conv => whnf)
    | (refine ⟨_, index2 _ _, ?_⟩; conv => whnf)
    | (refine ⟨_, bit_law _, ?_⟩; conv => whnf)
    | (refine ⟨_, within_law _ _ _, ?_⟩; conv => whnf)
    | (refine ⟨_, n1, ?_⟩; conv => whnf)
    | (refine ⟨_, n2, ?_⟩; conv => whnf)
    | (refine ⟨[iv si, iv st, sv sd], [iv 0, iv 0, sv []], rfl, rfl, snapEq _ _ si st 0 0 sd [] ?_⟩; conv => whnf)
    | (refine ⟨[iv 0, iv 0, sv []], [iv 0, iv 0, sv []], rfl, rfl, snapEq _ _ 0 0 0 0 [] [] ?_⟩; conv => whnf)
    | (refine ⟨[iv si, iv st, sv []], [iv 0, iv 0, sv []], rfl, rfl, snapEq _ _ si st 0 0 [] [] ?_⟩; conv => whnf))
  all_goals (refine .inl (congrArg tb ?_))
  all_goals (try simp only [l1, l2, lenD, sizeD, leA, leB, leC, leE, Bool.and_true, Bool.not_not, Bool.not_eq_true', Bool.not_eq_false'] at *)
  all_goals (rw [hc]; clear hR hc n1 n2 hRL hRJ hj)
  all_goals (try unfold snB)
  all_goals (try simp only [decide_true, Bool.and_true] at *)
  all_goals (try simp only [*, Bool.true_and, Bool.and_true, Bool.false_and, Bool.and_false])
  all_goals (try rfl)
theorem maylaw_7 (t a b c d : Int) (l : List Entry) (si st : Int) (sd : List UInt8) (j : List Job) (hl : l.length ≤ 9223372036854775806) (hjl : j.length ≤ 9223372036854775806) (hj : ∀ x ∈ j, inJ x) :
    FCv Try.prog 12 [.agg [i64 7, i64 t, i64 a, i64 b, i64 c, i64 d, .sl none 2 (l.map fun x => eC x), i64 si, i64 st, ts sd, .sl none 7 (j.map fun x => jC x)]] (tb (mayM ⟨7, t, a, b, c, d, l, si, st, sd, j⟩)) := by
  have hc := may_k7 t a b c d l si st sd j
  obtain ⟨R, hR⟩ : ∃ R, mayM ⟨7, t, a, b, c, d, l, si, st, sd, j⟩ = R := ⟨_, rfl⟩
  rw [hR] at hc ⊢
  have n1 := cf_ent l hl
  have n2 := cf_job j hj hjl
  have l1 : (l.map fun x => eC x).length = l.length := List.length_map _
  have l2 : (j.map fun x => jC x).length = j.length := List.length_map _
  obtain ⟨RL, hRL⟩ : ∃ RL, (l.map fun x => eC x) = RL := ⟨_, rfl⟩
  obtain ⟨RJ, hRJ⟩ : ∃ RJ, (j.map fun x => jC x) = RJ := ⟨_, rfl⟩
  rw [hRL] at n1 l1 ⊢
  rw [hRJ] at n2 l2 ⊢
  refine FCv_of_awp (fn := Try.f12) (c := bodyC Try.f12) Try.func12 rfl (of_decide_eq_true rfl) [] ?_
  conv => whnf
  repeat' (first
    | (refine br_intro (fun h => ?_) (fun h => ?_) <;> (rw [h]; conv => whnf))
    | (refine ⟨_, index1 _, ?_⟩; conv => whnf)
    | (refine ⟨_, index2 _ _, ?_⟩; conv => whnf)
    | (refine ⟨_, bit_law _, ?_⟩; conv => whnf)
    | (refine ⟨_, within_law _ _ _, ?_⟩; conv => whnf)
    | (refine ⟨_, n1, ?_⟩; conv => whnf)
    | (refine ⟨_, n2, ?_⟩; conv => whnf)
    | (refine ⟨[iv si, iv st, sv sd], [iv 0, iv 0, sv []], rfl, rfl, snapEq _ _ si st 0 0 sd [] ?_⟩; conv => whnf)
    | (refine ⟨[iv 0, iv 0, sv []], [iv 0, iv 0, sv []], rfl, rfl, snapEq _ _ 0 0 0 0 [] [] ?_⟩; conv => whnf)
    | (refine ⟨[iv si, iv st, sv []], [iv 0, iv 0, sv []], rfl, rfl, snapEq _ _ si st 0 0 [] [] ?_⟩; conv => whnf))
  all_goals (refine .inl (congrArg tb ?_))
  all_goals (try simp only [l1, l2, lenD, sizeD, leA, leB, leC, leE, Bool.and_true, Bool.not_not, Bool.not_eq_true', Bool.not_eq_false'] at *)
  all_goals (rw [hc]; clear hR hc n1 n2 hRL hRJ hj)
  all_goals (try unfold snB)
  all_goals (try simp only [decide_true, Bool.and_true] at *)
  all_goals (try simp only [*, Bool.true_and, Bool.and_true, Bool.false_and, Bool.and_false])
  all_goals (try rfl)
theorem maylaw_8 (t a b c d : Int) (l : List Entry) (si st : Int) (sd : List UInt8) (j : List Job) (hl : l.length ≤ 9223372036854775806) (hjl : j.length ≤ 9223372036854775806) (hj : ∀ x ∈ j, inJ x) :
    FCv Try.prog 12 [.agg [i64 8, i64 t, i64 a, i64 b, i64 c, i64 d, .sl none 2 (l.map fun x => eC x), i64 si, i64 st, ts sd, .sl none 7 (j.map fun x => jC x)]] (tb (mayM ⟨8, t, a, b, c, d, l, si, st, sd, j⟩)) := by
  have hc := may_k8 t a b c d l si st sd j
  obtain ⟨R, hR⟩ : ∃ R, mayM ⟨8, t, a, b, c, d, l, si, st, sd, j⟩ = R := ⟨_, rfl⟩
  rw [hR] at hc ⊢
  have n1 := cf_ent l hl
  have n2 := cf_job j hj hjl
  have l1 : (l.map fun x => eC x).length = l.length := List.length_map _
  have l2 : (j.map fun x => jC x).length = j.length := List.length_map _
  obtain ⟨RL, hRL⟩ : ∃ RL, (l.map fun x => eC x) = RL := ⟨_, rfl⟩
  obtain ⟨RJ, hRJ⟩ : ∃ RJ, (j.map fun x => jC x) = RJ := ⟨_, rfl⟩
  rw [hRL] at n1 l1 ⊢
  rw [hRJ] at n2 l2 ⊢
  refine FCv_of_awp (fn := Try.f12) (c := bodyC Try.f12) Try.func12 rfl (of_decide_eq_true rfl) [] ?_
  conv => whnf
  repeat' (first
    | (refine br_intro (fun h => ?_) (fun h => ?_) <;> (rw [h]; conv => whnf))
    | (refine ⟨_, index1 _, ?_⟩; conv => whnf)
    | (refine ⟨_, index2 _ _, ?_⟩; conv => whnf)
    | (refine ⟨_, bit_law _, ?_⟩; conv => whnf)
    | (refine ⟨_, within_law _ _ _, ?_⟩; conv => whnf)
    | (refine ⟨_, n1, ?_⟩; conv => whnf)
    | (refine ⟨_, n2, ?_⟩; conv => whnf)
    | (refine ⟨[iv si, iv st, sv sd], [iv 0, iv 0, sv []], rfl, rfl, snapEq _ _ si st 0 0 sd [] ?_⟩; conv => whnf)
    | (refine ⟨[iv 0, iv 0, sv []], [iv 0, iv 0, sv []], rfl, rfl, snapEq _ _ 0 0 0 0 [] [] ?_⟩; conv => whnf)
    | (refine ⟨[iv si, iv st, sv []], [iv 0, iv 0, sv []], rfl, rfl, snapEq _ _ si st 0 0 [] [] ?_⟩; conv => whnf))
  all_goals (refine .inl (congrArg tb ?_))
  all_goals (try simp only [l1, l2, lenD, sizeD, leA, leB, leC, leE, Bool.and_true, Bool.not_not, Bool.not_eq_true', Bool.not_eq_false'] at *)
  all_goals (rw [hc]; clear hR hc n1 n2 hRL hRJ hj)
  all_goals (try unfold snB)
  all_goals (try simp only [decide_true, Bool.and_true] at *)
  all_goals (try simp only [*, Bool.true_and, Bool.and_true, Bool.false_and, Bool.and_false])
  all_goals (try rfl)
theorem maylaw_9 (t a b c d : Int) (l : List Entry) (si st : Int) (sd : List UInt8) (j : List Job) (hl : l.length ≤ 9223372036854775806) (hjl : j.length ≤ 9223372036854775806) (hj : ∀ x ∈ j, inJ x) :
    FCv Try.prog 12 [.agg [i64 9, i64 t, i64 a, i64 b, i64 c, i64 d, .sl none 2 (l.map fun x => eC x), i64 si, i64 st, ts sd, .sl none 7 (j.map fun x => jC x)]] (tb (mayM ⟨9, t, a, b, c, d, l, si, st, sd, j⟩)) := by
  have hc := may_k9 t a b c d l si st sd j
  obtain ⟨R, hR⟩ : ∃ R, mayM ⟨9, t, a, b, c, d, l, si, st, sd, j⟩ = R := ⟨_, rfl⟩
  rw [hR] at hc ⊢
  have n1 := cf_ent l hl
  have n2 := cf_job j hj hjl
  have l1 : (l.map fun x => eC x).length = l.length := List.length_map _
  have l2 : (j.map fun x => jC x).length = j.length := List.length_map _
  obtain ⟨RL, hRL⟩ : ∃ RL, (l.map fun x => eC x) = RL := ⟨_, rfl⟩
  obtain ⟨RJ, hRJ⟩ : ∃ RJ, (j.map fun x => jC x) = RJ := ⟨_, rfl⟩
  rw [hRL] at n1 l1 ⊢
  rw [hRJ] at n2 l2 ⊢
  refine FCv_of_awp (fn := Try.f12) (c := bodyC Try.f12) Try.func12 rfl (of_decide_eq_true rfl) [] ?_
  conv => whnf
  repeat' (first
    | (refine br_intro (fun h => ?_) (fun h => ?_) <;> (rw [h]; conv => whnf))
    | (refine ⟨_, index1 _, ?_⟩; conv => whnf)
    | (refine ⟨_, index2 _ _, ?_⟩; conv => whnf)
    | (refine ⟨_, bit_law _, ?_⟩; conv => whnf)
    | (refine ⟨_, within_law _ _ _, ?_⟩; conv => whnf)
    | (refine ⟨_, n1, ?_⟩; conv => whnf)
    | (refine ⟨_, n2, ?_⟩; conv => whnf)
    | (refine ⟨[iv si, iv st, sv sd], [iv 0, iv 0, sv []], rfl, rfl, snapEq _ _ si st 0 0 sd [] ?_⟩; conv => whnf)
    | (refine ⟨[iv 0, iv 0, sv []], [iv 0, iv 0, sv []], rfl, rfl, snapEq _ _ 0 0 0 0 [] [] ?_⟩; conv => whnf)
    | (refine ⟨[iv si, iv st, sv []], [iv 0, iv 0, sv []], rfl, rfl, snapEq _ _ si st 0 0 [] [] ?_⟩; conv => whnf))
  all_goals (refine .inl (congrArg tb ?_))
  all_goals (try simp only [l1, l2, lenD, sizeD, leA, leB, leC, leE, Bool.and_true, Bool.not_not, Bool.not_eq_true', Bool.not_eq_false'] at *)
  all_goals (rw [hc]; clear hR hc n1 n2 hRL hRJ hj)
  all_goals (try unfold snB)
  all_goals (try simp only [decide_true, Bool.and_true] at *)
  all_goals (try simp only [*, Bool.true_and, Bool.and_true, Bool.false_and, Bool.and_false])
  all_goals (try rfl)
end Go.AW.Ml
